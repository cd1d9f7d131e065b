/-
  The walk of the law AddrHolds where a regular expression is asked that is there.
  Conditions: as each theorem states them; none beyond.
-/
import Derived.Test.YtfbimghnimepjaaA8
import Derived.Deep.RegionWith
import Derived.Deep.DeepMust
namespace Go.Proofs.Ytfbimghnimepjaa
open Go.RowKit
set_option linter.unusedVariables false
set_option maxHeartbeats 4000000 in
set_option maxRecDepth 100000 in
theorem holdsWalk_in (n line : Int) (last x : Bool) (g o len cap k : Nat) (w : World) (hl : len ≤ 40) (hin : k < len) (hx : w.cell? ⟨g, o + k, none⟩ = some (.bool x)) :
    Calls Try.prog 3 #[.agg #[.int .i64 3, .int .i64 n, .int .i64 k], .agg #[.int .i64 line, .bool last, .slice (some ⟨g, o, none⟩) len cap]] w fun e w' => e = .returned (.bool true) ∧ Below w.heap.size w w' := by

  have hg : g < w.heap.size := World.block_lt_of_cell? w _ hx
  go_enter Try.func3, Try.ntmps3
  go_wp2_with fail
  go_region_with (first | (go_at_call 16; refine (look_any _ line last _ (by go_simp) (by go_simp)).mono ?_; rintro e w1 ⟨rfl, hb1⟩; obtain ⟨N, hN, F1⟩ := From.mk1 hb1; have k0 : Kept N w.heap.size := kept (by simp at hN; omega); have k1 : Kept N (w.heap.size + 1) := kept (by simp at hN; omega); have k2 : Kept N (w.heap.size + 1 + 1) := kept (by simp at hN; omega); have hN := Lib.hid hN; have R1 := F1.rules; have hkg : Kept N g := kept (by have := k0; unfold Kept at *; omega); have hx1 := ((bl_trans (a := w) (by repeat (first | (with_reducible exact Below.refl _ _) | (with_reducible refine bl_alloc ?_ _) | (with_reducible refine bl_drew ?_) | (with_reducible refine bl_drewN ?_ _))) hb1).cell (p := ⟨g, o + k, none⟩) hg).trans hx) | (go_at_call 15; go_loud (refine (holds_ask (w.heap.size + 1 + 1) _ _ _ _ x 0 _ (.inl rfl) (Nat.lt_of_lt_of_le k2 F1.size) (fun W hW => find_in (w.heap.size + 1 + 1) line last g o len cap 0 k x W (Asked.from (Asked.mk (by go_simp) (by go_simp) (by go_simp) (by go_simp) (by go_simp) (by intro o; go_simp)) hW (Nat.lt_of_lt_of_le k2 F1.size)) hin (((hW.cell (p := ⟨g, o + k, none⟩) (Nat.lt_of_lt_of_le hkg F1.size)).trans hx1)) (by omega))).mono ?_); rintro e w2 ⟨rfl, ha2⟩))
  all_goals
    have F2 : From (w.heap.size + 1 + 1) _ w2 := From.mk ((hb1.mono (by simp)).trans ha2.below) (by have := ha2.below.size; have := hb1.size; simp at *; omega)
    have R2 := F2.rules
    have g0 : Kept (w.heap.size + 1 + 1) w.heap.size := kept (by omega)
    have g1 : Kept (w.heap.size + 1 + 1) (w.heap.size + 1) := kept (by omega)
    have hlt2 : w.heap.size + 1 + 1 < w2.heap.size := World.block_lt_of_cell? w2 _ ha2.c3
    have hlt2 := Lib.hid hlt2
    have g2 : Kept (w.heap.size + 1 + 1) g := kept (by omega)
    have hx2 := (F2.below.cell (p := ⟨g, o + k, none⟩) g2).trans ((F1.below.cell (p := ⟨g, o + k, none⟩) hkg).symm.trans hx1)
    clear R1 k0 k1 k2
    go_wp2_with (first | (go_at_call 17; refine (refh_in _ _ _ _ _ _ _ _ x _ hin hx2).mono ?_; rintro e w3 ⟨rfl, hb3⟩; have F3 := F2.step hb3; have R3 := F3.rules; have n3 := (hb3.cell (p := ⟨w.heap.size + 1 + 1, 3, none⟩) hlt2.out).trans ha2.c3; have l3 := (hb3.cell (p := ⟨w.heap.size + 1 + 1, 4, none⟩) hlt2.out).trans ha2.c4) | (go_at_call 15; refine (holds_nil _ _ _ _ _).mono ?_; rintro e w4 ⟨rfl, hb4⟩; (first | have F4 := F3.step hb4 | have F4 := (F3.drewN _).step hb4); have R4 := F4.rules) | (go_at_call 14; refine (awake_any _).mono ?_; rintro e w5 ⟨rfl, hb5⟩) | go_quiet (fail))
  all_goals go_ret
  all_goals exact ⟨rfl, by refine bl_trans (Below.trans ?_ (F4.below.mono (by omega))) hb5; repeat (first | (with_reducible exact Below.refl _ _) | (with_reducible refine bl_alloc ?_ _) | (with_reducible refine bl_drew ?_) | (with_reducible refine bl_drewN ?_ _))⟩
end Go.Proofs.Ytfbimghnimepjaa
