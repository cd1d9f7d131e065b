/-
  A map of string keys, as a function: what an insert of a new key makes, what a lookup gives.
  Conditions: as each theorem states them.
-/
import Derived.Test.YtlaafamodaogmaaBase
import Derived.WideMake
import Derived.Maps.OwnOps
namespace Go.Proofs.Ytlaafamodaogmaa
open Go.RowKit
set_option linter.unusedVariables false
set_option linter.unusedSimpArgs false
def isKeyS (s : ByteArray) (x : MapEntry) : Bool := match x.key with | .string t => s == t | _ => false
def findS (es : List MapEntry) (s : ByteArray) : Option Value := (es.find? (isKeyS s)).map (·.val)
/-- the block g of W is a map of string keys: what it gives is f -/
def StrMap (W : World) (g : Nat) (f : ByteArray → Option Value) : Prop := ∃ es clock, W.heap[g]? = some (.map es clock) ∧ (∀ x ∈ es.toList, ∃ s, x.key = .string s) ∧ ∀ s, findS es.toList s = f s
theorem findNow_s (s : ByteArray) : ∀ (l : List MapEntry) (j : Nat), (∀ x ∈ l, ∃ s, x.key = .string s) → ∃ q, Instr.findNow .string (.string s) l j = some q ∧ q.map (·.2) = findS l s
  | [], _, _ => ⟨none, rfl, rfl⟩
  | e :: l, j, h => by
    obtain ⟨t, ht⟩ := h e (.head _)
    obtain ⟨q, h1, h2⟩ := findNow_s s l (j + 1) (fun x hx => h x (.tail _ hx))
    cases hb : (s == t) with
    | true => exact ⟨some (j, e.val), by simp [Instr.findNow, Instr.sameNow, ht, hb], by simp [findS, List.find?, isKeyS, ht, hb]⟩
    | false => exact ⟨q, by simp [Instr.findNow, Instr.sameNow, ht, hb, h1], by rw [h2]; simp [findS, List.find?, isKeyS, ht, hb]⟩
theorem StrMap.lt {W : World} {g : Nat} {f : ByteArray → Option Value} (h : StrMap W g f) : g < W.heap.size := by
  obtain ⟨es, cl, hb, _⟩ := h
  rcases Nat.lt_or_ge g W.heap.size with h | h
  · exact h
  · rw [Array.getElem?_eq_none h] at hb; cases hb
theorem StrMap.made (W : World) : StrMap (W.alloc (.map #[] 0)) W.heap.size (fun _ => none) := ⟨#[], 0, heap_alloc_new W _, by simp, fun s => rfl⟩
theorem StrMap.below {W W' : World} {g : Nat} {f : ByteArray → Option Value} (h : StrMap W g f) (hb : Below W.heap.size W W') : StrMap W' g f := by
  have hl := h.lt
  obtain ⟨es, cl, h1, h2, h3⟩ := h
  exact ⟨es, cl, by rw [hb.block g hl]; exact h1, h2, h3⟩
theorem StrMap.insert {P : Program} {W : World} {g : Nat} {f : ByteArray → Option Value} (h : StrMap W g f) {mty kt et : TypeId} (hm : P.underlying mty = some (.map kt et)) (hk : P.underlying kt = some .string) (s : ByteArray) (val : Value) (hf : f s = none) :
    ∃ o, (Instr.mapUpdate mty (.map (some g)) (.string s) val).run P W = .ok () { W with heap := W.heap.setIfInBounds g o } ∧ StrMap { W with heap := W.heap.setIfInBounds g o } g (fun t => if t == s then some val else f t) := by
  have hl := h.lt
  obtain ⟨es, clock, hb, hkeys, hg⟩ := h
  obtain ⟨q, h1, h2⟩ := findNow_s s es.toList 0 hkeys
  rw [hg s, hf] at h2
  have hq : q = none := by cases q with | none => rfl | some x => cases h2
  subst hq
  have hc : (Instr.checkKey false 10000 kt (.string s)).run P W = .ok () W := MapKept.run_checkKey (k := .string s) hk (by simp [MapKept.IsKey]) false 9999
  refine ⟨.map (es.push { key := .string s, val := val, born := clock }) (clock + 1), by simp [Instr.mapUpdate, run_underlying hm, MapKept.run_getObj_map hb, hc, MapKept.run_findKey hk h1, MapKept.run_setObj_map _ hb, Result.andThen], es.push { key := .string s, val := val, born := clock }, clock + 1, by simp [hl], ?_, ?_⟩
  · intro x hx
    simp only [Array.toList_push, List.mem_append, List.mem_singleton] at hx
    rcases hx with hx | rfl
    · exact hkeys x hx
    · exact ⟨s, rfl⟩
  · intro t
    have hs := hg t
    unfold findS at hs ⊢
    rw [Array.toList_push, List.find?_append]
    cases ht : (t == s) with
    | true =>
      have : t = s := ByteArray.ext (eq_of_beq (show (t.data == s.data) = true from ht))
      subst this
      rw [hf] at hs
      cases hh : es.toList.find? (isKeyS t) with
      | some x => rw [hh] at hs; cases hs
      | none => simp [isKeyS, ht]
    | false =>
      simp only [Bool.false_eq_true, if_false]
      rw [← hs]
      simp [isKeyS, List.find?, ht]
theorem StrMap.look {P : Program} {W : World} {g : Nat} {f : ByteArray → Option Value} (h : StrMap W g f) {mty kt et : TypeId} (hm : P.underlying mty = some (.map kt et)) (hk : P.underlying kt = some .string) {z : Value} (hz : (zeroValue et).run P W = .ok z W) (s : ByteArray) :
    (Instr.lookup mty (.map (some g)) (.string s) true).run P W = .ok (match f s with | some v => .tuple #[v, .bool true] | none => .tuple #[z, .bool false]) W := by
  obtain ⟨es, clock, hb, hkeys, hg⟩ := h
  obtain ⟨q, h1, h2⟩ := findNow_s s es.toList 0 hkeys
  rw [hg s] at h2
  have hc : (Instr.checkKey es.isEmpty 10000 kt (.string s)).run P W = .ok () W := MapKept.run_checkKey (k := .string s) hk (by simp [MapKept.IsKey]) _ 9999
  have hf := MapKept.run_findKey (P := P) (w := W) hk h1
  cases q with
  | none =>
    have e : f s = none := h2.symm
    rw [e]
    simp [Instr.lookup, run_underlying hm, MapKept.run_getObj_map hb, hc, hf, hz, Result.andThen]
  | some jv =>
    obtain ⟨j, v⟩ := jv
    have e : f s = some v := h2.symm
    rw [e]
    simp [Instr.lookup, run_underlying hm, MapKept.run_getObj_map hb, hc, hf, Result.andThen]
end Go.Proofs.Ytlaafamodaogmaa
