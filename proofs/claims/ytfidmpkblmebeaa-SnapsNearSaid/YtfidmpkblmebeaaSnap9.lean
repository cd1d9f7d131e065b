/-
  SnapsNear at data that come in: the walk, as the frame takes it; of chapter 25.
  Conditions: as each theorem states them.
-/
import Derived.Test.YtfidmpkblmebeaaSnap8
import Derived.Test.YtfidmpkblmebeaaReads
namespace Go.Proofs.Ytfidmpkblmebeaa
open Go.RowKit
set_option linter.unusedVariables false
theorem snapsNear_walk (W : World) (a0 : Int) (w0 : (Lit.int .u8 a0).wf = true) (a1 : Int) (w1 : (Lit.int .u8 a1).wf = true) (a2 : Int) (w2 : (Lit.int .u8 a2).wf = true) :
    Calls Try.prog 4 #[.int .u8 a0, .int .u8 a1, .int .u8 a2] W fun e w' => e = .returned (.bool true) ∧ Below W.heap.size W w' := by
  have u0 : 0 ≤ a0 ∧ a0 < 256 := by simp [Lit.wf, IntKind.min, IntKind.max, IntKind.signed, IntKind.bits] at w0; omega
  have u1 : 0 ≤ a1 ∧ a1 < 256 := by simp [Lit.wf, IntKind.min, IntKind.max, IntKind.signed, IntKind.bits] at w1; omega
  have u2 : 0 ≤ a2 ∧ a2 < 256 := by simp [Lit.wf, IntKind.min, IntKind.max, IntKind.signed, IntKind.bits] at w2; omega
  have := snapsNear_list a0.toNat a1.toNat a2.toNat (by omega) (by omega) (by omega) W
  rw [Int.toNat_of_nonneg u0.1, Int.toNat_of_nonneg u1.1, Int.toNat_of_nonneg u2.1] at this
  exact this
end Go.Proofs.Ytfidmpkblmebeaa
