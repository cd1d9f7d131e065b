/-
  Contracts of the two functions Right (the program and the reference): both return rightB; with them the walk of the law AddrRight.
  Conditions: as each theorem states them; none beyond.
-/
import Derived.Test.YtfbimghnimepjaaRows
import Derived.WalkKit
import Derived.WalkSpells
import Derived.WalkLawsBesides
import Derived.Deep.QuietTactic
import Derived.BigQuiet
import Derived.Test.YtfbimghnimepjaaAddr
import Derived.Deep.RegionWith
import Derived.Deep.Light
namespace Go.Proofs.Ytfbimghnimepjaa
open Go.RowKit
set_option linter.unusedVariables false

def rightB (k n r res : Int) : Bool :=
  if k = 0 ∨ k = 2 then decide (n = 0) && decide (r = 0)
  else if k = 1 then decide (0 ≤ n) && decide (n ≤ 2147483648) && decide (r = 0)
  else if k = 3 then decide (n = 0) && decide (-1 ≤ r) && decide (r < max res 0)
  else false




set_option maxHeartbeats 1000000 in
theorem right_any (k n r res : Int) (w : World) :
    Calls Try.prog 25 #[.agg #[.int .i64 k, .int .i64 n, .int .i64 r], .int .i64 res] w fun e w' => e = .returned (.bool (rightB k n r res)) ∧ Below w.heap.size w w' := by
  go_enter Try.func25, Try.ntmps25
  go_wp2
  all_goals go_ret
  all_goals refine ⟨ret_bool ?_, (Below.refl _ _).alloc (Nat.le_refl _) _⟩
  all_goals (go_light; simp_all [rightB])
  all_goals first | omega | (rw [Bool.eq_iff_iff]; simp; done) | (rw [Bool.eq_iff_iff]; simp; omega)
set_option maxHeartbeats 1000000 in
theorem refright_any (k n r res : Int) (w : World) :
    Calls Try.prog 26 #[.agg #[.int .i64 k, .int .i64 n, .int .i64 r], .int .i64 res] w fun e w' => e = .returned (.bool (rightB k n r res)) ∧ Below w.heap.size w w' := by
  go_enter Try.func26, Try.ntmps26
  go_wp2
  all_goals go_ret
  all_goals refine ⟨ret_bool ?_, (Below.refl _ _).alloc (Nat.le_refl _) _⟩
  all_goals (go_light; simp_all [rightB])
  all_goals first | omega | (rw [Bool.eq_iff_iff]; simp; done) | (rw [Bool.eq_iff_iff]; simp; omega)
theorem bcell1 {W w1 : World} (hb : Below W.heap.size W w1) : (∀ b o, b < W.heap.size → w1.cell? ⟨b, o, none⟩ = W.cell? ⟨b, o, none⟩) ∧ (∀ b o, b < W.heap.size → w1.frozen? ⟨b, o, none⟩ = W.frozen? ⟨b, o, none⟩) :=
  ⟨fun b o h => hb.cell (p := ⟨b, o, none⟩) h, fun b o h => hb.frozen (p := ⟨b, o, none⟩) h⟩
set_option maxHeartbeats 2000000 in
theorem right_walk (k n r res : Int) (w : World) :
    Calls Try.prog 8 #[.agg #[.int .i64 k, .int .i64 n, .int .i64 r], .int .i64 res] w fun e w' => e = .returned (.bool true) ∧ Below w.heap.size w w' := by
  go_enter Try.func8, Try.ntmps8
  go_wp2_with fail
  go_region_with (first | (go_at_call 25; refine (right_any _ _ _ _ _).mono ?_; rintro e w1 ⟨rfl, hb1⟩; obtain ⟨hc1, hf1⟩ := bcell1 hb1) | (go_at_call 26; refine (refright_any _ _ _ _ _).mono ?_; rintro e w2 ⟨rfl, hb2⟩; obtain ⟨hc2, hf2⟩ := bcell1 hb2) | (go_at_call 14; refine (awake_any _).mono ?_; rintro e w3 ⟨rfl, hb3⟩))
  all_goals go_wp2
  all_goals go_ret
  all_goals exact ⟨rfl, by repeat (first | (with_reducible exact Below.refl _ _) | (with_reducible refine bl_trans ?_ (by with_reducible assumption)) | (with_reducible refine bl_alloc ?_ _) | (with_reducible refine Below.drew ?_))⟩
end Go.Proofs.Ytfbimghnimepjaa
