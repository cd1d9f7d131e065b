/-
  StopsFull at data that come in: the walk, as the frame takes it; of chapter 28.
  Conditions: as each theorem states them.
-/
import Derived.Test.YtlaafamodaogmaaStopL
namespace Go.Proofs.Ytlaafamodaogmaa
open Go.RowKit
set_option linter.unusedVariables false
theorem stopsFull_walk (W : World) (a0 : Int) (w0 : (Lit.int .u8 a0).wf = true) (hsh : W.ShapedOpen Try.prog) :
    Calls Try.prog 7 #[.int .u8 a0] W fun e w' => e = .returned (.bool true) ∧ Below W.heap.size W w' := by
  obtain ⟨mx, hmx⟩ : ∃ m, W.cell? ⟨0, 0, none⟩ = some (.int .i64 m) := Try.laysM186.s1_3 W hsh
  have hm : MxAt W := ⟨World.block_lt_of_cell? W ⟨0, 0, none⟩ hmx, mx, hmx⟩
  have u0 : 0 ≤ a0 ∧ a0 < 256 := by simp [Lit.wf, IntKind.min, IntKind.max, IntKind.signed, IntKind.bits] at w0; omega
  exact stopsFull_list a0 u0.1 (by omega) W hm
end Go.Proofs.Ytlaafamodaogmaa
