/-
  The walk of the law AddrHolds, its ways but one: it returns true and changes nothing that was there.
  Conditions: as each theorem states them; none beyond.
-/
import Derived.Test.YtfbimghnimepjaaA7
import Derived.Deep.RegionWith
namespace Go.Proofs.Ytfbimghnimepjaa
open Go.RowKit
set_option linter.unusedVariables false

theorem holdsWalk_great (k n r line : Int) (last : Bool) (fa : Option Addr) (len cap : Nat) (w : World) (hl : 40 < len) :
    Calls Try.prog 3 #[.agg #[.int .i64 k, .int .i64 n, .int .i64 r], .agg #[.int .i64 line, .bool last, .slice fa len cap]] w fun e w' => e = .returned (.bool true) ∧ Below w.heap.size w w' := by
  go_enter Try.func3, Try.ntmps3
  go_wp2_with (go_at_call 14; refine (awake_any _).mono ?_; rintro e w1 ⟨rfl, hb1⟩)
  all_goals go_ret
  all_goals exact ⟨rfl, by repeat (first | (with_reducible exact Below.refl _ _) | (with_reducible refine bl_trans ?_ (by with_reducible assumption)) | (with_reducible refine bl_alloc ?_ _) | (with_reducible refine Below.drew ?_))⟩
set_option maxHeartbeats 4000000 in
set_option maxRecDepth 100000 in
theorem holdsWalk_plain (k n r line : Int) (last : Bool) (fa : Option Addr) (len cap : Nat) (w : World) (hl : len ≤ 40) (hk : (k == 3) = false) :
    Calls Try.prog 3 #[.agg #[.int .i64 k, .int .i64 n, .int .i64 r], .agg #[.int .i64 line, .bool last, .slice fa len cap]] w fun e w' => e = .returned (.bool true) ∧ Below w.heap.size w w' := by
  have hk' : (k != 3) = true := by simp_all
  go_enter Try.func3, Try.ntmps3
  go_wp2_with fail
  go_region_with (first | (go_at_call 16; refine (look_any _ line last _ (by go_simp) (by go_simp)).mono ?_; rintro e w1 ⟨rfl, hb1⟩; obtain ⟨N, hN, F1⟩ := From.mk1 hb1; have k0 : Kept N w.heap.size := kept (by simp at hN; omega); have k1 : Kept N (w.heap.size + 1) := kept (by simp at hN; omega); have k2 : Kept N (w.heap.size + 1 + 1) := kept (by simp at hN; omega); have hN := Lib.hid hN; have R1 := F1.rules) | (go_at_call 15; refine (holds_plain _ _ _ _ _ _ _ hk).mono ?_; rintro e w2 ⟨rfl, hb2⟩; have F2 := F1.step hb2; have R2 := F2.rules))
  all_goals
    go_wp2_with (first | (go_at_call 17; refine (refh_plain _ _ _ _ _ _ _ _ _ hk).mono ?_; rintro e w3 ⟨rfl, hb3⟩; have F3 := F2.step hb3; have R3 := F3.rules) | (go_at_call 15; refine (holds_plain _ _ _ _ _ _ _ hk).mono ?_; rintro e w4 ⟨rfl, hb4⟩; (first | have F4 := F3.step hb4 | have F4 := (F3.drewN _).step hb4); have R4 := F4.rules) | (go_at_call 14; refine (awake_any _).mono ?_; rintro e w5 ⟨rfl, hb5⟩) | go_quiet (fail))
  all_goals go_ret
  all_goals exact ⟨rfl, by repeat (first | (with_reducible exact Below.refl _ _) | (with_reducible refine bl_trans ?_ (by with_reducible assumption)) | (with_reducible refine bl_alloc ?_ _) | (with_reducible refine bl_drew ?_) | (with_reducible refine bl_drewN ?_ _))⟩
theorem Asked.from {w W : World} {b : Nat} {line : Int} {last : Bool} {fa : Option Addr} {len cap : Nat} {n lst : Int} (h : Asked w b line last fa len cap n lst) (hb : Below w.heap.size w W) (hlt : b < w.heap.size) : Asked W b line last fa len cap n lst :=
  ⟨(hb.cell (p := ⟨b, 0, none⟩) hlt).trans h.c0, (hb.cell (p := ⟨b, 1, none⟩) hlt).trans h.c1, (hb.cell (p := ⟨b, 2, none⟩) hlt).trans h.c2, (hb.cell (p := ⟨b, 3, none⟩) hlt).trans h.c3, (hb.cell (p := ⟨b, 4, none⟩) hlt).trans h.c4, fun o => (hb.frozen (p := ⟨b, o, none⟩) hlt).trans (h.fr o)⟩
set_option maxHeartbeats 4000000 in
set_option maxRecDepth 100000 in
theorem holdsWalk_out (n r line : Int) (last : Bool) (fa : Option Addr) (len cap : Nat) (w : World) (hl : len ≤ 40) (hout : r < 0 ∨ (len : Int) ≤ r) :
    Calls Try.prog 3 #[.agg #[.int .i64 3, .int .i64 n, .int .i64 r], .agg #[.int .i64 line, .bool last, .slice fa len cap]] w fun e w' => e = .returned (.bool true) ∧ Below w.heap.size w w' := by

  go_enter Try.func3, Try.ntmps3
  go_wp2_with fail
  go_region_with (first | (go_at_call 16; refine (look_any _ line last _ (by go_simp) (by go_simp)).mono ?_; rintro e w1 ⟨rfl, hb1⟩; obtain ⟨N, hN, F1⟩ := From.mk1 hb1; have k0 : Kept N w.heap.size := kept (by simp at hN; omega); have k1 : Kept N (w.heap.size + 1) := kept (by simp at hN; omega); have k2 : Kept N (w.heap.size + 1 + 1) := kept (by simp at hN; omega); have hN := Lib.hid hN; have R1 := F1.rules) | (go_at_call 15; refine (holds_ask (w.heap.size + 1 + 1) _ _ _ _ true 27 _ (.inr ⟨rfl, rfl⟩) (by have := k2; have := F1.size; unfold Kept at *; omega) (fun W hW => find_out (w.heap.size + 1 + 1) line last fa len cap 0 r W (Asked.from (Asked.mk (by go_simp) (by go_simp) (by go_simp) (by go_simp) (by go_simp) (by intro o; go_simp)) hW (by have := k2; have := F1.size; unfold Kept at *; omega)) hout)).mono ?_; rintro e w2 ⟨rfl, ha2⟩))
  all_goals
    have F2 : From (w.heap.size + 1 + 1) _ w2 := From.mk ((hb1.mono (by simp)).trans ha2.below) (by have := ha2.below.size; have := hb1.size; simp at *; omega)
    have R2 := F2.rules
    have g0 : Kept (w.heap.size + 1 + 1) w.heap.size := kept (by omega)
    have g1 : Kept (w.heap.size + 1 + 1) (w.heap.size + 1) := kept (by omega)
    have hlt2 : w.heap.size + 1 + 1 < w2.heap.size := World.block_lt_of_cell? w2 _ ha2.c3
    have hlt2 := Lib.hid hlt2
    clear R1 k0 k1 k2
    go_wp2_with (first | (go_at_call 17; refine (refh_out _ _ _ _ _ _ _ _ hout).mono ?_; rintro e w3 ⟨rfl, hb3⟩; have F3 := F2.step hb3; have R3 := F3.rules; have n3 := (hb3.cell (p := ⟨w.heap.size + 1 + 1, 3, none⟩) hlt2.out).trans ha2.c3; have l3 := (hb3.cell (p := ⟨w.heap.size + 1 + 1, 4, none⟩) hlt2.out).trans ha2.c4) | (go_at_call 15; refine (holds_nil _ _ _ _ _).mono ?_; rintro e w4 ⟨rfl, hb4⟩; (first | have F4 := F3.step hb4 | have F4 := (F3.drewN _).step hb4); have R4 := F4.rules) | (go_at_call 14; refine (awake_any _).mono ?_; rintro e w5 ⟨rfl, hb5⟩) | go_quiet (fail))
  all_goals go_ret
  all_goals exact ⟨rfl, by refine bl_trans (Below.trans ?_ (F4.below.mono (by omega))) hb5; repeat (first | (with_reducible exact Below.refl _ _) | (with_reducible refine bl_alloc ?_ _) | (with_reducible refine bl_drew ?_) | (with_reducible refine bl_drewN ?_ _))⟩
end Go.Proofs.Ytfbimghnimepjaa
