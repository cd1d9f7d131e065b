/-
  The closures of view.Show: one is made, one is called; of chapter 30.
  Conditions: as each theorem states them.
-/
import Derived.Test.YtjfpepinmbbnbaaDoorSt
namespace Go.Proofs.YtjfpepinmbbnbaaDoor
open Go.RowKit
set_option linter.unusedVariables false
set_option linter.unusedSimpArgs false
set_option maxHeartbeats 1000000 in
theorem one_any (a : Option Addr) (n c : Nat) (w : World) : Calls Tryd.prog 63 #[.slice a n c] w fun e w' => e = .returned (.func (.func 64) #[] #[.pointer (some ⟨w.heap.size, 0, none⟩)]) ∧ w' = w.alloc (.cells #[.slice a n c] 22) := by
  go_enter Tryd.func63, Tryd.ntmps63
  go_wp2
  go_ret
  exact ⟨rfl, rfl⟩
set_option maxHeartbeats 4000000 in
set_option maxRecDepth 100000 in
theorem told_any (s : StC) (p : Nat) (a : Option Addr) (c : Nat) (xs : List UInt8) (hl : xs.length ≤ 1000000) (w : World) (hc : w.cell? ⟨p, 0, none⟩ = some (.slice a xs.length c)) (hs : BytesAt w a xs) :
    Calls Tryd.prog 64 #[.agg s.cells.toArray, .pointer (some ⟨p, 0, none⟩)] w (OneRow ⟨(quoteS xs).toArray⟩ w) := by
  have hp := World.block_lt_of_cell? w _ hc
  simp only at hp
  obtain ⟨W1, hW1⟩ : ∃ W1, w.alloc (.cells s.cells.toArray 66) = W1 := ⟨_, rfl⟩
  have hb1 : Below w.heap.size w W1 := hW1 ▸ bl_alloc (Below.refl _ _) _
  have c1 := (hb1.cell (p := ⟨p, 0, none⟩) hp).trans hc
  have hq := Lib.hid (quote_any a c xs W1 hl (hs.below hb1))
  clear hc hs
  unfold StC.cells at hW1 ⊢
  go_enter Tryd.func64, Tryd.ntmps64
  go_wp2_with (go_at_call 65; refine hq.out.mono ?_; rintro e w7 ⟨rfl, hb7⟩)
  go_ret
  exact OneRow.mk (bl_trans hb1 hb7) _
end Go.Proofs.YtjfpepinmbbnbaaDoor
