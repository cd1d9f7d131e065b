/-
  StopsOff at data that come in: the walk, as the frame takes it; of chapter 28.
  Conditions: as each theorem states them.
-/
import Derived.Test.YtlaafamodaogmaaStopM
import Derived.Test.YtlaafamodaogmaaRaw
namespace Go.Proofs.Ytlaafamodaogmaa
open Go.RowKit
set_option linter.unusedVariables false
theorem stopsOff_walk (W : World) (a0 : Int) (w0 : (Lit.int .i64 a0).wf = true) (a1 : Int) (w1 : (Lit.int .i64 a1).wf = true) (a2 : ByteArray) (l2 : a2.data.toList.length ≤ reachBytes)
    (cs3 : Array Value) (x3 : _) (rd3 : rState.ok (Sub.all W) cs3.toList x3) (cs4 : Array Value) (x4 : _) (rd4 : rState.ok (Sub.all W) cs4.toList x4) (hsh : W.ShapedOpen Try.prog) :
    Calls Try.prog 8 #[.int .i64 a0, .int .i64 a1, .string a2, .agg cs3, .agg cs4] W fun e w' => e = .returned (.bool true) ∧ Below W.heap.size W w' := by
  obtain ⟨s1, b1, e1, h1⟩ := raw_of rd3
  obtain ⟨s2, b2, e2, h2⟩ := raw_of rd4
  obtain ⟨c2⟩ := cs3
  obtain ⟨c3⟩ := cs4
  simp only at e1 e2
  subst e1 e2
  obtain ⟨mx, hmx⟩ : ∃ m, W.cell? ⟨0, 0, none⟩ = some (.int .i64 m) := Try.laysM186.s1_3 W hsh
  have hm : MxAt W := ⟨World.block_lt_of_cell? W ⟨0, 0, none⟩ hmx, mx, hmx⟩
  have := stopsOff_list a0 a1 a2.data.toList l2 s1 s2 b1 b2 W h1 h2 hm
  rw [← strV_eq (s := a2) rfl] at this
  exact this
end Go.Proofs.Ytlaafamodaogmaa
