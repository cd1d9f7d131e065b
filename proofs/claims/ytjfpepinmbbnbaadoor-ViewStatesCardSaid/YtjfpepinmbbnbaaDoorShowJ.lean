/-
  The invariant of view.Show's literal, of chapter 30.
  Conditions: as each theorem states them.
-/
import Derived.Test.YtjfpepinmbbnbaaDoorShowI
namespace Go.Proofs.YtjfpepinmbbnbaaDoor
open Go.RowKit
set_option linter.unusedVariables false
set_option linter.unusedSimpArgs false
abbrev ptrV (b o : Nat) : Value := .pointer (some ⟨b, o, none⟩)
/-- what the lookup gives -/
def shR (G : ShG) (what : ByteArray) : Value × Bool := match fS (Array.replicate 42 true) (shT G) what with | some v => (v, true) | none => (.nilFunc, false)
/-- the slot of each operation; 0: none -/
def slotOf (j : Nat) : Nat := [10, 11, 12, 13, 14, 15, 0, 16, 17, 18, 19, 20, 0, 21, 22, 23, 24, 25, 0, 26, 27, 28, 29, 30, 0, 31, 32, 33, 34, 35, 0, 0, 0, 0, 36, 37, 38, 9, 39, 40, 7, 8].getD j 0
def valOf (s : StC) (b : Nat) (what : ByteArray) (G : ShG) (j : Nat) : Value :=
  [.map (some G.g), oneV, ptrV b 0, ptrV b 0, s.pat.v, clo G.p0, undef, oneV, ptrV b 0, ptrV b 1, s.hold.v, clo G.p1, undef, oneV, ptrV b 6, ptrV b 10, s.rest.v, clo G.p2, undef, oneV, ptrV b 11, ptrV b 11, s.out.v, clo G.p3, undef, oneV, ptrV b 11, ptrV b 13, s.place.v, clo G.p4, undef, undef, undef, undef,
    .map (some G.g), .string what, .tuple #[(shR G what).1, .bool (shR G what).2], .tuple #[(shR G what).1, .bool (shR G what).2], (shR G what).1, .bool (shR G what).2, (shR G what).1, .bool (shR G what).2].getD j undef
theorem slot_apart : ∀ j, j < 42 → ∀ i, i < 42 → i ≠ j → slotOf i ≠ 0 → slotOf i ≠ slotOf j := by decide
theorem slot_static : ∀ i, i < 42 → slotOf i < 46 ∧ slotOf i ≠ 1 ∧ slotOf i ≠ 2 ∧ slotOf i ≠ 6 := by decide
def ShInv (s : StC) (b n : Nat) (what : ByteArray) (w0 : World) (l : Array Bool) (a : Act) (w : World) : Prop :=
  ∃ G : ShG, a.tmps.size = 46 ∧ a.defers = [] ∧ a.eval (.tmp 1) = .string what ∧ a.eval (.tmp 2) = ptrV b 0 ∧ a.eval (.tmp 6) = oneV ∧ Below n w0 w ∧ Gr w0 w ∧
    (∀ j, j < 42 → slotOf j ≠ 0 → l.getD j false = true → a.eval (.tmp (slotOf j)) = valOf s b what G j) ∧
    (l.getD 5 false = true → w.cell? ⟨G.p0, 0, none⟩ = some s.pat.v) ∧ (l.getD 11 false = true → w.cell? ⟨G.p1, 0, none⟩ = some s.hold.v) ∧ (l.getD 17 false = true → w.cell? ⟨G.p2, 0, none⟩ = some s.rest.v) ∧
    (l.getD 23 false = true → w.cell? ⟨G.p3, 0, none⟩ = some s.out.v) ∧ (l.getD 29 false = true → w.cell? ⟨G.p4, 0, none⟩ = some s.place.v) ∧
    (l.getD 0 false = true → n ≤ G.g ∧ StrMap w G.g (fS l (shT G)))
theorem put_size (a : Act) (d : Option Tmp) (v : Value) : (a.put d v).tmps.size = a.tmps.size := by cases d <;> simp [Act.put]
theorem put_defers (a : Act) (d : Option Tmp) (v : Value) : (a.put d v).defers = a.defers := by cases d <;> rfl
/-- an operation that only yields a value -/
theorem ShInv.val {s : StC} {b n : Nat} {what : ByteArray} {w0 : World} {l : Array Bool} {a : Act} {w : World} (hs : l.size = 42) (h : ShInv s b n what w0 l a w) {i : Nat} (hi : i < 42) (h0 : slotOf i ≠ 0)
    (hk : i ≠ 0 ∧ i ≠ 5 ∧ i ≠ 11 ∧ i ≠ 17 ∧ i ≠ 23 ∧ i ≠ 29) (v : Value) (hv : ∀ G, (∀ j, j < 42 → slotOf j ≠ 0 → l.getD j false = true → a.eval (.tmp (slotOf j)) = valOf s b what G j) → v = valOf s b what G i) : ShInv s b n what w0 (l.setIfInBounds i true) (a.put (some (slotOf i)) v) w := by
  obtain ⟨G, g1, g2, g3, g4, g5, g6, g7, g8, g9, g10, g11, g12, g13, g14⟩ := h
  obtain ⟨k0, k5, k11, k17, k23, k29⟩ := hk
  have hl : i < l.size := by omega
  obtain ⟨q0, q1, q2, q6⟩ := slot_static i hi
  have hT : ∀ r ∈ shT G, r.1 ≠ i := by
    intro r hr e
    subst e
    unfold shT at hr
    simp only [List.mem_cons, List.not_mem_nil, or_false] at hr
    rcases hr with rfl | rfl | rfl | rfl | rfl | rfl | rfl | rfl <;> exact h0 rfl
  refine ⟨G, by rw [put_size]; exact g1, by rw [put_defers]; exact g2, ?_, ?_, ?_, g6, g7, ?_, ?_, ?_, ?_, ?_, ?_, ?_⟩
  · rw [Act.eval_put_ne _ _ _ _ q1]; exact g3
  · rw [Act.eval_put_ne _ _ _ _ q2]; exact g4
  · rw [Act.eval_put_ne _ _ _ _ q6]; exact g5
  · intro j hj hj0 hd
    by_cases e : i = j
    · subst e
      rw [Act.eval_put_same _ _ _ (by omega)]
      exact hv G g8
    · rw [Act.eval_put_ne _ _ _ _ (slot_apart j hj i hi e h0)]
      rw [getD_setB hl, if_neg e] at hd
      exact g8 j hj hj0 hd
  · rw [getD_setB hl, if_neg k5]; exact g9
  · rw [getD_setB hl, if_neg k11]; exact g10
  · rw [getD_setB hl, if_neg k17]; exact g11
  · rw [getD_setB hl, if_neg k23]; exact g12
  · rw [getD_setB hl, if_neg k29]; exact g13
  · rw [getD_setB hl, if_neg k0, fS_other hl hT]; exact g14
end Go.Proofs.YtjfpepinmbbnbaaDoor
