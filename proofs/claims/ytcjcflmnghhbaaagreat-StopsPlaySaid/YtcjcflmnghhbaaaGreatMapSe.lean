/-
  A map of string keys, as a function: what an insert of a new key makes, what a lookup gives.
  Conditions: as each theorem states them.
-/
import Derived.Test.YtcjcflmnghhbaaaGreatBase
import Derived.WideMake
import Derived.Maps.OwnOps
import Derived.Test.YtcjcflmnghhbaaaGreatUnqP
namespace Go.Proofs.YtcjcflmnghhbaaaGreat
open Go.RowKit
set_option linter.unusedVariables false
set_option linter.unusedSimpArgs false
def isKeyS (s : ByteArray) (x : MapEntry) : Bool := match x.key with | .string t => s == t | _ => false
def findS (es : List MapEntry) (s : ByteArray) : Option Value := (es.find? (isKeyS s)).map (·.val)
/-- the block g of W is a map of string keys: what it gives is f -/
def StrMap (W : World) (g : Nat) (f : ByteArray → Option Value) : Prop := ∃ es clock, W.heap[g]? = some (.map es clock) ∧ (∀ x ∈ es.toList, ∃ s, x.key = .string s) ∧ ∀ s, findS es.toList s = f s
theorem findNow_s (s : ByteArray) : ∀ (l : List MapEntry) (j : Nat), (∀ x ∈ l, ∃ s, x.key = .string s) → ∃ q, Instr.findNow .string (.string s) l j = some q ∧ q.map (·.2) = findS l s
  | [], _, _ => ⟨none, rfl, rfl⟩
  | e :: l, j, h => by
    obtain ⟨t, ht⟩ := h e (.head _)
    obtain ⟨q, h1, h2⟩ := findNow_s s l (j + 1) (fun x hx => h x (.tail _ hx))
    cases hb : (s == t) with
    | true => exact ⟨some (j, e.val), by simp [Instr.findNow, Instr.sameNow, ht, hb], by simp [findS, List.find?, isKeyS, ht, hb]⟩
    | false => exact ⟨q, by simp [Instr.findNow, Instr.sameNow, ht, hb, h1], by rw [h2]; simp [findS, List.find?, isKeyS, ht, hb]⟩
theorem StrMap.lt {W : World} {g : Nat} {f : ByteArray → Option Value} (h : StrMap W g f) : g < W.heap.size := by
  obtain ⟨es, cl, hb, _⟩ := h
  rcases Nat.lt_or_ge g W.heap.size with h | h
  · exact h
  · rw [Array.getElem?_eq_none h] at hb; cases hb
theorem StrMap.made (W : World) : StrMap (W.alloc (.map #[] 0)) W.heap.size (fun _ => none) := ⟨#[], 0, heap_alloc_new W _, by simp, fun s => rfl⟩
theorem StrMap.below {W W' : World} {g : Nat} {f : ByteArray → Option Value} (h : StrMap W g f) (hb : Below W.heap.size W W') : StrMap W' g f := by
  have hl := h.lt
  obtain ⟨es, cl, h1, h2, h3⟩ := h
  exact ⟨es, cl, by rw [hb.block g hl]; exact h1, h2, h3⟩
theorem StrMap.insert {P : Program} {W : World} {g : Nat} {f : ByteArray → Option Value} (h : StrMap W g f) {mty kt et : TypeId} (hm : P.underlying mty = some (.map kt et)) (hk : P.underlying kt = some .string) (s : ByteArray) (val : Value) (hf : f s = none) :
    ∃ o, (Instr.mapUpdate mty (.map (some g)) (.string s) val).run P W = .ok () { W with heap := W.heap.setIfInBounds g o } ∧ StrMap { W with heap := W.heap.setIfInBounds g o } g (fun t => if t == s then some val else f t) := by
  have hl := h.lt
  obtain ⟨es, clock, hb, hkeys, hg⟩ := h
  obtain ⟨q, h1, h2⟩ := findNow_s s es.toList 0 hkeys
  rw [hg s, hf] at h2
  have hq : q = none := by cases q with | none => rfl | some x => cases h2
  subst hq
  have hc : (Instr.checkKey false 10000 kt (.string s)).run P W = .ok () W := MapKept.run_checkKey (k := .string s) hk (by simp [MapKept.IsKey]) false 9999
  refine ⟨.map (es.push { key := .string s, val := val, born := clock }) (clock + 1), by simp [Instr.mapUpdate, run_underlying hm, MapKept.run_getObj_map hb, hc, MapKept.run_findKey hk h1, MapKept.run_setObj_map _ hb, Result.andThen], es.push { key := .string s, val := val, born := clock }, clock + 1, by simp [hl], ?_, ?_⟩
  · intro x hx
    simp only [Array.toList_push, List.mem_append, List.mem_singleton] at hx
    rcases hx with hx | rfl
    · exact hkeys x hx
    · exact ⟨s, rfl⟩
  · intro t
    have hs := hg t
    unfold findS at hs ⊢
    rw [Array.toList_push, List.find?_append]
    cases ht : (t == s) with
    | true =>
      have : t = s := ByteArray.ext (eq_of_beq (show (t.data == s.data) = true from ht))
      subst this
      rw [hf] at hs
      cases hh : es.toList.find? (isKeyS t) with
      | some x => rw [hh] at hs; cases hs
      | none => simp [isKeyS, ht]
    | false =>
      simp only [Bool.false_eq_true, if_false]
      rw [← hs]
      simp [isKeyS, List.find?, ht]
theorem StrMap.look {P : Program} {W : World} {g : Nat} {f : ByteArray → Option Value} (h : StrMap W g f) {mty kt et : TypeId} (hm : P.underlying mty = some (.map kt et)) (hk : P.underlying kt = some .string) {z : Value} (hz : (zeroValue et).run P W = .ok z W) (s : ByteArray) :
    (Instr.lookup mty (.map (some g)) (.string s) true).run P W = .ok (match f s with | some v => .tuple #[v, .bool true] | none => .tuple #[z, .bool false]) W := by
  obtain ⟨es, clock, hb, hkeys, hg⟩ := h
  obtain ⟨q, h1, h2⟩ := findNow_s s es.toList 0 hkeys
  rw [hg s] at h2
  have hc : (Instr.checkKey es.isEmpty 10000 kt (.string s)).run P W = .ok () W := MapKept.run_checkKey (k := .string s) hk (by simp [MapKept.IsKey]) _ 9999
  have hf := MapKept.run_findKey (P := P) (w := W) hk h1
  cases q with
  | none =>
    have e : f s = none := h2.symm
    rw [e]
    simp [Instr.lookup, run_underlying hm, MapKept.run_getObj_map hb, hc, hf, hz, Result.andThen]
  | some jv =>
    obtain ⟨j, v⟩ := jv
    have e : f s = some v := h2.symm
    rw [e]
    simp [Instr.lookup, run_underlying hm, MapKept.run_getObj_map hb, hc, hf, Result.andThen]
end Go.Proofs.YtcjcflmnghhbaaaGreat
/-
  An insert into a map of string keys in a plain list of operations; bytes that lie in memory; of chapter 27.
  Conditions: as each theorem states them.
-/
namespace Go.Proofs.YtcjcflmnghhbaaaGreat
open Go.RowKit
set_option linter.unusedVariables false
set_option linter.unusedSimpArgs false
def fnV (f : FuncId) : Value := .func (.func f) #[] #[]
theorem below_set {n : Nat} {w : World} {g : Nat} (hg : n ≤ g) (o : Obj) : Below n w { w with heap := w.heap.setIfInBounds g o } :=
  ⟨rfl, rfl, rfl, by simp, fun b hb => by simp [Array.getElem?_setIfInBounds_ne (show g ≠ b by omega)]⟩
/-- one entry more -/
theorem wpList_entry {P : Program} {w : World} {ops : Array Oper} {rest : List Oper} {o : Oper} {a : Act} {Q : Exit → Act → World → Prop}
    (hg : o.guard = none) (m x v : Operand) (t : TypeId) (hop : o.op = Op.insert t m x v) (k e : TypeId) (ht : P.underlying t = some (.map k e)) (hk : P.underlying k = some .string) (g : Nat) (f : ByteArray → Option Value) (hM : StrMap w g f) (hm : a.eval m = .map (some g))
    (s : ByteArray) (hx : a.eval x = .string s) (val : Value) (hv : a.eval v = val) (hf : f s = none)
    (hK : ∀ w', StrMap w' g (fun t => if t == s then some val else f t) → (∀ base w0, base ≤ g → Below base w0 w → Below base w0 w') → w'.heap.size = w.heap.size → wpList P ops Q rest (a.put o.dst undef) w') : wpList P ops Q (o :: rest) a w := by
  refine wpList_plain hg fun K' hK' => ?_
  obtain ⟨ob, r1, r2⟩ := hM.insert (P := P) ht hk s val hf
  unfold Oper.wp
  simp [execOp, hop, hm, hx, hv, r1, Result.andThen]
  exact hK' _ _ (hK _ r2 (fun base w0 hb h => h.trans ((below_set hb ob).mono (Nat.le_refl _))) (by simp))
def BytesAt (w : World) (ba : Option Addr) (xs : List UInt8) : Prop := 0 < xs.length → ∃ p o, ba = some ⟨p, o, none⟩ ∧ p < w.heap.size ∧ ByteRow w p o xs
theorem BytesAt.below {w w' : World} {ba : Option Addr} {xs : List UInt8} (h : BytesAt w ba xs) (hb : Below w.heap.size w w') : BytesAt w' ba xs := fun h0 => by
  obtain ⟨p, o, e, hp, hr⟩ := h h0
  exact ⟨p, o, e, Nat.lt_of_lt_of_le hp hb.size, fun i hi => (hb.cell (p := ⟨p, o + i, none⟩) hp).trans (hr i hi)⟩
theorem op_beq (x k : List UInt8) : ((⟨x.toArray⟩ : ByteArray) == ⟨k.toArray⟩) = (x == k) := by
  show (x.toArray == k.toArray) = (x == k)
  simp
/-- what a function that makes a map answers -/
def MapIs (f : ByteArray → Option Value) (w : World) (e : Ending) (w' : World) : Prop := ∃ g, e = .returned (.map (some g)) ∧ StrMap w' g f ∧ w.heap.size ≤ g ∧ g < w'.heap.size ∧ Below w.heap.size w w'
/-- a map's function, by a table -/
def tabF : List (List UInt8 × Value) → ByteArray → Option Value
  | [], _ => none
  | (k, v) :: l, t => if t == ⟨k.toArray⟩ then some v else tabF l t
theorem tabF_at (l : List (List UInt8 × Value)) (w : List UInt8) : tabF l ⟨w.toArray⟩ = (l.find? (fun p => w == p.1)).map (·.2) := by
  induction l with
  | nil => rfl
  | cons p l ih =>
    obtain ⟨k, v⟩ := p
    unfold tabF
    rw [op_beq, ih]
    cases h : (w == k) with
    | true => simp [List.find?, h]
    | false => simp [List.find?, h]
end Go.Proofs.YtcjcflmnghhbaaaGreat
