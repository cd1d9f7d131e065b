/-
  SnapsPlay at data that come in; of chapter 25.
  Conditions: as the theorem states them.
-/
import Derived.Test.YtfidmpkblmebeaaSnP5
import Derived.Test.YtfidmpkblmebeaaCpy4
import Derived.Test.YtfidmpkblmebeaaSin
namespace Go.Proofs.Ytfidmpkblmebeaa
open Go.RowKit
set_option linter.unusedVariables false
set_option linter.unusedSimpArgs false
theorem copyC : CopyC := fun w s V lo hi hs hm => copy_any w s V hs hm.mid
theorem rcopyC : RCopyC := fun w s V lo hi hs hm => rcopy_any w s V hs hm.mid
theorem snapsPlay_walk (W : World) (a0 : Int) (w0 : (Lit.int .i64 a0).wf = true) (a1 : Option Addr) (l1 c1 : Nat) (x1) (rd1 : (rSlB rOp).ok (Sub.all W) [.slice a1 l1 c1] x1) (hsh : World.ShapedOpen Try.prog W) :
    Calls Try.prog 3 #[.int .i64 a0, .slice a1 l1 c1] W fun e w' => e = .returned (.bool true) ∧ Below W.heap.size W w' := by
  obtain ⟨a, c, e, hc, hl, hr⟩ := sl_of rd1
  obtain ⟨rfl, rfl, rfl⟩ : a1 = a ∧ l1 = x1.length ∧ c1 = c := by simpa using e
  refine snapsPlay_list W copyC rcopyC a0 a1 x1.length c1 hl fun i hi => ?_
  obtain ⟨b, o, rfl, hrow⟩ := hr (by omega)
  obtain ⟨cs, h1, h2⟩ := hrow i hi
  obtain ⟨x, rfl, hx⟩ := op_of h1
  have hn : rOp.n = 30 := rfl
  rw [hn] at h2
  exact ⟨b, o, x, rfl, hx, h2.lt (Sub.all_in W), fun X hX => op_load h2 hX⟩
end Go.Proofs.Ytfidmpkblmebeaa
