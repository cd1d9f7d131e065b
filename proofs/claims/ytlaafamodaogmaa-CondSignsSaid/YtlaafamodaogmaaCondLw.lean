/-
  CondLogic at data that come in: the walk, as the frame takes it; of chapter 27.
  Conditions: as each theorem states them.
-/
import Derived.Test.YtlaafamodaogmaaCondLg
namespace Go.Proofs.Ytlaafamodaogmaa
open Go.RowKit
set_option linter.unusedVariables false
theorem condLogic_walk (W : World) (a0 : ByteArray) (l0 : a0.data.toList.length ≤ reachBytes) (a1 : ByteArray) (l1 : a1.data.toList.length ≤ reachBytes)
    (cs2 : Array Value) (x2 : _) (rd2 : rState.ok (Sub.all W) cs2.toList x2) (cs3 : Array Value) (x3 : _) (rd3 : rState.ok (Sub.all W) cs3.toList x3) (hsh : W.ShapedOpen Try.prog) :
    Calls Try.prog 3 #[.string a0, .string a1, .agg cs2, .agg cs3] W fun e w' => e = .returned (.bool true) ∧ Below W.heap.size W w' := by
  obtain ⟨s1, b1, e1, h1⟩ := raw_of rd2
  obtain ⟨s2, b2, e2, h2⟩ := raw_of rd3
  obtain ⟨c2⟩ := cs2
  obtain ⟨c3⟩ := cs3
  simp only at e1 e2
  subst e1 e2
  obtain ⟨mx, hmx⟩ : ∃ m, W.cell? ⟨0, 0, none⟩ = some (.int .i64 m) := Try.laysM186.s1_3 W hsh
  have hm : MxAt W := ⟨World.block_lt_of_cell? W ⟨0, 0, none⟩ hmx, mx, hmx⟩
  have := condLogic_list a0.data.toList a1.data.toList l0 l1 s1 s2 b1 b2 W h1 h2 hm
  rw [← strV_eq (s := a0) rfl, ← strV_eq (s := a1) rfl] at this
  exact this
end Go.Proofs.Ytlaafamodaogmaa
