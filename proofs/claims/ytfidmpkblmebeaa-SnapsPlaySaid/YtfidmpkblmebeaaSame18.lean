/-
  palinoderef18.Same of any two readers' places; of chapter 20.
  Conditions: as each theorem states them.
-/
import Derived.Test.YtfidmpkblmebeaaSameP
namespace Go.Proofs.Ytfidmpkblmebeaa
open Go.RowKit
set_option linter.unusedVariables false
set_option linter.unusedSimpArgs false
set_option maxHeartbeats 2000000 in
set_option maxRecDepth 100000 in
theorem same_in (w : World) (x0 x1 x2 x3 : Int) (a b : Option Addr) (c d : Nat) (t : List UInt8) (ht : t.length ≤ 140737488351232) (h1 : BytesAt w a t) (h2 : BytesAt w b t) :
    Calls Try.prog 37 #[.agg #[.int .i64 x0, .int .i64 x1, .int .i64 x2, .int .i64 x3, .slice a t.length c], .agg #[.int .i64 x0, .int .i64 x1, .int .i64 x2, .int .i64 x3, .slice b t.length d]] w fun e w' => e = .returned (.bool true) ∧ Below w.heap.size w w' := by
  have hs := fun w' (hb : Below w.heap.size w w') => same_bytes a b c d t t w' ht ht (h1.below hb) (h2.below hb)
  replace hs := Lib.hid hs
  obtain ⟨n, hn⟩ : ∃ n, t.length = n := ⟨_, rfl⟩
  rw [hn] at hs ⊢
  clear hn h1 h2 ht
  go_enter Try.func37, Try.ntmps37
  go_wp2_with (go_at_call 36; (with_reducible refine (hs.out _ (by repeat (first | exact Below.refl _ _ | refine bl_alloc ?_ _))).mono ?_); rintro e w2 ⟨rfl, m, rfl⟩)
  all_goals go_ret
  all_goals exact ⟨by simp, bl_drewN (bl_alloc (bl_alloc (Below.refl _ _) _) _) _⟩
end Go.Proofs.Ytfidmpkblmebeaa
