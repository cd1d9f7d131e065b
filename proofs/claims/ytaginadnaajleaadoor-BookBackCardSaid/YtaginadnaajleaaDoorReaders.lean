/-
  book.readers: the map of the lines' readers; of chapter 32.
  Conditions: as each theorem states them.
-/
import Derived.Test.YtaginadnaajleaaDoorMapS
import Derived.Test.YtaginadnaajleaaDoorCut
import Derived.WideMake
namespace Go.Proofs.YtaginadnaajleaaDoor
open Go.RowKit
set_option linter.unusedVariables false
set_option linter.unusedSimpArgs false
def fnV (f : FuncId) : Value := .func (.func f) #[] #[]
/-- the closure that reads a number -/
def rclo (p : Nat) : Value := .func (.func 40) #[] #[.pointer (some ⟨p, 0, none⟩)]
theorem below_set {n : Nat} {w : World} {g : Nat} (hg : n ≤ g) (o : Obj) : Below n w { w with heap := w.heap.setIfInBounds g o } :=
  ⟨rfl, rfl, rfl, by simp, fun b hb => by simp [Array.getElem?_setIfInBounds_ne (show g ≠ b by omega)]⟩
theorem cell_set {w : World} {g : Nat} {o : Obj} {p : Addr} (h : p.block ≠ g) : ({ w with heap := w.heap.setIfInBounds g o } : World).cell? p = w.cell? p :=
  World.cell?_of_block (by simp [Array.getElem?_setIfInBounds_ne (show g ≠ p.block from fun e => h e.symm)])
/-- one entry more -/
theorem wpList_entry {P : Program} {w : World} {ops : Array Oper} {rest : List Oper} {o : Oper} {a : Act} {Q : Exit → Act → World → Prop}
    (hg : o.guard = none) (m x v : Operand) (t : TypeId) (hop : o.op = Op.insert t m x v) (k e : TypeId) (ht : P.underlying t = some (.map k e)) (hk : P.underlying k = some .string) (g : Nat) (f : ByteArray → Option Value) (hM : StrMap w g f) (hm : a.eval m = .map (some g))
    (s : ByteArray) (hx : a.eval x = .string s) (val : Value) (hv : a.eval v = val) (hf : f s = none)
    (hK : ∀ w', StrMap w' g (fun t => if t == s then some val else f t) → (∀ base w0, base ≤ g → Below base w0 w → Below base w0 w') → (∀ p : Addr, p.block ≠ g → w'.cell? p = w.cell? p) → w'.heap.size = w.heap.size → wpList P ops Q rest (a.put o.dst undef) w') : wpList P ops Q (o :: rest) a w := by
  refine wpList_plain hg fun K' hK' => ?_
  obtain ⟨ob, r1, r2⟩ := hM.insert (P := P) ht hk s val hf
  unfold Oper.wp
  simp [execOp, hop, hm, hx, hv, r1, Result.andThen]
  exact hK' _ _ (hK _ r2 (fun base w0 hb h => h.trans ((below_set hb ob).mono (Nat.le_refl _))) (fun p hp => cell_set hp) (by simp))
set_option maxHeartbeats 1000000 in
theorem rclo_any (k : FuncId) (w : World) : Calls Tryd.prog 39 #[fnV k] w fun e w' => ∃ p, e = .returned (rclo p) ∧ w.heap.size ≤ p ∧ p < w'.heap.size ∧ w'.cell? ⟨p, 0, none⟩ = some (fnV k) ∧ Below w.heap.size w w' := by
  have hz := (Blk.new w 84 [fnV k]).cell 0
  unfold fnV at hz ⊢
  go_enter Tryd.func39, Tryd.ntmps39
  go_wp2
  go_ret
  exact ⟨w.heap.size, rfl, Nat.le_refl _, by simp, hz, bl_alloc (Below.refl _ _) _⟩
/-- the readers by their words -/
def rdF (p1 p2 p3 : Nat) : ByteArray → Option Value := fun t =>
  if t == ⟨#[100, 111]⟩ then some (fnV 49) else if t == ⟨#[102, 117, 101, 108]⟩ then some (rclo p3) else if t == ⟨#[112, 101, 114, 105, 111, 100]⟩ then some (rclo p2)
  else if t == ⟨#[99, 97, 112, 97, 99, 105, 116, 121]⟩ then some (rclo p1) else if t == ⟨#[102, 105, 108, 101]⟩ then some (fnV 45) else if t == ⟨#[105, 110, 112, 117, 116]⟩ then some (fnV 44)
  else if t == ⟨#[111, 112, 116, 105, 111, 110]⟩ then some (fnV 43) else if t == ⟨#[115, 101, 100]⟩ then some (fnV 42) else none
/-- what readers answers -/
def RdIs (w : World) (e : Ending) (w' : World) : Prop := ∃ mg p1 p2 p3, e = .returned (.map (some mg)) ∧ StrMap w' mg (rdF p1 p2 p3) ∧ w.heap.size ≤ mg ∧ mg < w'.heap.size ∧ Below w.heap.size w w' ∧
  w'.cell? ⟨p1, 0, none⟩ = some (fnV 46) ∧ w'.cell? ⟨p2, 0, none⟩ = some (fnV 47) ∧ w'.cell? ⟨p3, 0, none⟩ = some (fnV 48) ∧ w.heap.size ≤ p1 ∧ w.heap.size ≤ p2 ∧ w.heap.size ≤ p3
set_option maxHeartbeats 4000000 in
set_option maxRecDepth 100000 in
theorem readers_any (w : World) : Calls Tryd.prog 19 #[] w (RdIs w) := by
  have hmm := @run_makeMap Tryd.prog
  have hr1 := Lib.hid (fun W => rclo_any 46 W)
  have hr2 := Lib.hid (fun W => rclo_any 47 W)
  have hr3 := Lib.hid (fun W => rclo_any 48 W)
  unfold rclo fnV at hr1 hr2 hr3
  go_enter Tryd.func19, Tryd.ntmps19
  have hM := Lib.hid (StrMap.made w)
  have hB := Lib.hid (bl_alloc (Below.refl w.heap.size w) (.map #[] 0))
  have hz : w.heap.size < (w.alloc (.map #[] 0)).heap.size := by simp
  go_wp2_with (first
    | ((with_reducible show wpList _ _ _ (⟨none, .insert _ _ _ _, _, _, _, _⟩ :: _) _ _); refine wpList_entry rfl _ _ _ 55 rfl _ _ Tryd.underlying55 Tryd.underlying9 _ _ hM.out rfl _ rfl _ rfl (by kernel_rfl) ?_; intro w1 hM1 hB1 hC1 hz1; replace hB := Lib.hid (hB1 _ _ (Nat.le_refl _) hB.out); replace hM := Lib.hid hM1; try (replace hx1 := Lib.hid ((hC1 ⟨p1, 0, none⟩ (by simp only; omega)).trans hx1.out)); try (replace hx2 := Lib.hid ((hC1 ⟨p2, 0, none⟩ (by simp only; omega)).trans hx2.out)); try (replace hx3 := Lib.hid ((hC1 ⟨p3, 0, none⟩ (by simp only; omega)).trans hx3.out)); clear hM1 hB1 hC1)
    | (go_at_call 39; first
      | ((with_reducible refine (hr1.out _).mono ?_); rintro e w2 ⟨p1, rfl, hp1, hq1, hx1, hb2⟩; replace hx1 := Lib.hid hx1; replace hM := Lib.hid (hM.out.below hb2); replace hB := Lib.hid (bl_trans hB.out hb2); have hs1 := hb2.size; clear hb2)
      | ((with_reducible refine (hr2.out _).mono ?_); rintro e w3 ⟨p2, rfl, hp2, hq2, hx2, hb2⟩; replace hx2 := Lib.hid hx2; replace hx1 := Lib.hid ((hb2.cell (p := ⟨p1, 0, none⟩) (by simp only; omega)).trans hx1.out); replace hM := Lib.hid (hM.out.below hb2); replace hB := Lib.hid (bl_trans hB.out hb2); have hs2 := hb2.size; clear hb2)
      | ((with_reducible refine (hr3.out _).mono ?_); rintro e w4 ⟨p3, rfl, hp3, hq3, hx3, hb2⟩; replace hx3 := Lib.hid hx3; replace hx1 := Lib.hid ((hb2.cell (p := ⟨p1, 0, none⟩) (by simp only; omega)).trans hx1.out); replace hx2 := Lib.hid ((hb2.cell (p := ⟨p2, 0, none⟩) (by simp only; omega)).trans hx2.out); replace hM := Lib.hid (hM.out.below hb2); replace hB := Lib.hid (bl_trans hB.out hb2); have hs3 := hb2.size; clear hb2)))
  go_ret
  exact ⟨w.heap.size, p1, p2, p3, rfl, hM.out, Nat.le_refl _, by omega, hB.out, hx1.out, hx2.out, hx3.out, by omega, by omega, by omega⟩
end Go.Proofs.YtaginadnaajleaaDoor
