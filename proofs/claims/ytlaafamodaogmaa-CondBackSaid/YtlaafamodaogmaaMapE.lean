/-
  An insert into a map of string keys in a plain list of operations; bytes that lie in memory; of chapter 27.
  Conditions: as each theorem states them.
-/
import Derived.Test.YtlaafamodaogmaaMapS
import Derived.Test.YtlaafamodaogmaaUnqP
namespace Go.Proofs.Ytlaafamodaogmaa
open Go.RowKit
set_option linter.unusedVariables false
set_option linter.unusedSimpArgs false
def fnV (f : FuncId) : Value := .func (.func f) #[] #[]
theorem below_set {n : Nat} {w : World} {g : Nat} (hg : n ≤ g) (o : Obj) : Below n w { w with heap := w.heap.setIfInBounds g o } :=
  ⟨rfl, rfl, rfl, by simp, fun b hb => by simp [Array.getElem?_setIfInBounds_ne (show g ≠ b by omega)]⟩
/-- one entry more -/
theorem wpList_entry {P : Program} {w : World} {ops : Array Oper} {rest : List Oper} {o : Oper} {a : Act} {Q : Exit → Act → World → Prop}
    (hg : o.guard = none) (m x v : Operand) (t : TypeId) (hop : o.op = Op.insert t m x v) (k e : TypeId) (ht : P.underlying t = some (.map k e)) (hk : P.underlying k = some .string) (g : Nat) (f : ByteArray → Option Value) (hM : StrMap w g f) (hm : a.eval m = .map (some g))
    (s : ByteArray) (hx : a.eval x = .string s) (val : Value) (hv : a.eval v = val) (hf : f s = none)
    (hK : ∀ w', StrMap w' g (fun t => if t == s then some val else f t) → (∀ base w0, base ≤ g → Below base w0 w → Below base w0 w') → w'.heap.size = w.heap.size → wpList P ops Q rest (a.put o.dst undef) w') : wpList P ops Q (o :: rest) a w := by
  refine wpList_plain hg fun K' hK' => ?_
  obtain ⟨ob, r1, r2⟩ := hM.insert (P := P) ht hk s val hf
  unfold Oper.wp
  simp [execOp, hop, hm, hx, hv, r1, Result.andThen]
  exact hK' _ _ (hK _ r2 (fun base w0 hb h => h.trans ((below_set hb ob).mono (Nat.le_refl _))) (by simp))
def BytesAt (w : World) (ba : Option Addr) (xs : List UInt8) : Prop := 0 < xs.length → ∃ p o, ba = some ⟨p, o, none⟩ ∧ p < w.heap.size ∧ ByteRow w p o xs
theorem BytesAt.below {w w' : World} {ba : Option Addr} {xs : List UInt8} (h : BytesAt w ba xs) (hb : Below w.heap.size w w') : BytesAt w' ba xs := fun h0 => by
  obtain ⟨p, o, e, hp, hr⟩ := h h0
  exact ⟨p, o, e, Nat.lt_of_lt_of_le hp hb.size, fun i hi => (hb.cell (p := ⟨p, o + i, none⟩) hp).trans (hr i hi)⟩
theorem op_beq (x k : List UInt8) : ((⟨x.toArray⟩ : ByteArray) == ⟨k.toArray⟩) = (x == k) := by
  show (x.toArray == k.toArray) = (x == k)
  simp
/-- what a function that makes a map answers -/
def MapIs (f : ByteArray → Option Value) (w : World) (e : Ending) (w' : World) : Prop := ∃ g, e = .returned (.map (some g)) ∧ StrMap w' g f ∧ w.heap.size ≤ g ∧ g < w'.heap.size ∧ Below w.heap.size w w'
/-- a map's function, by a table -/
def tabF : List (List UInt8 × Value) → ByteArray → Option Value
  | [], _ => none
  | (k, v) :: l, t => if t == ⟨k.toArray⟩ then some v else tabF l t
theorem tabF_at (l : List (List UInt8 × Value)) (w : List UInt8) : tabF l ⟨w.toArray⟩ = (l.find? (fun p => w == p.1)).map (·.2) := by
  induction l with
  | nil => rfl
  | cons p l ih =>
    obtain ⟨k, v⟩ := p
    unfold tabF
    rw [op_beq, ih]
    cases h : (w == k) with
    | true => simp [List.find?, h]
    | false => simp [List.find?, h]
end Go.Proofs.Ytlaafamodaogmaa
