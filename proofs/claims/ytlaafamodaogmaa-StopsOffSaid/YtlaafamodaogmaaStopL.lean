/-
  StopsFull: the walk; of chapter 28.
  Conditions: as each theorem states them.
-/
import Derived.Test.YtlaafamodaogmaaStopK
import Derived.Deep.LoopGhost
namespace Go.Proofs.Ytlaafamodaogmaa
open Go.RowKit
set_option linter.unusedVariables false
set_option linter.unusedSimpArgs false
def full (m : Int) (k : Nat) : List Stp := (List.range k).map fun (j : Nat) => ⟨(j : Int) + 1, 0, m, [], false, none⟩
theorem full_len (m : Int) (k : Nat) : (full m k).length = k := by simp [full]
theorem full_succ (m : Int) (k : Nat) : full m (k + 1) = full m k ++ [⟨(k : Int) + 1, 0, m, [], false, none⟩] := by simp [full, List.range_succ]
def fullL (m : Int) : List Stp := delS 7 (full m 32) ++ [⟨33, 1, 1, [], false, none⟩]
theorem fullD (m : Int) : (delS 7 (full m 32)).length = 31 := by kernel_rfl
theorem fullL_len (m : Int) : (fullL m).length = 32 := by kernel_rfl
theorem fullL_six (m : Int) : (brksC (fullL m))[30]? = some (.int .i64 8) := by kernel_rfl
theorem fullL_end (m : Int) : (brksC (fullL m))[155]? = some (.int .i64 33) := by kernel_rfl
theorem subst_x : CM.parseS [115, 117, 98, 115, 116, 32, 120] = .error (6, 30) := by kernel_rfl
theorem own_cells {w : World} {base e size n : Nat} {v : Value} {xs : List Value} (h : w.ownsRow base e size v n xs) (h0 : 0 < n) : ∃ g cap, v = .slice (some ⟨g, 0, none⟩) n cap ∧ g < w.heap.size ∧ ∀ j u, xs[j]? = some u → w.cell? ⟨g, j, none⟩ = some u := by
  rcases h.2 with ⟨_, h2⟩ | ⟨g, cap, cur, h1, h2, h3, h4, h5, h6, h7⟩
  · omega
  · refine ⟨g, cap, h1, (Array.getElem?_eq_some_iff.1 h3).1, fun j u hu => ?_⟩
    rw [← h7, List.getElem?_take] at hu
    split at hu
    · simp only [World.cell?, h3]
      simpa using hu
    · cases hu
set_option maxHeartbeats 8000000 in
set_option maxRecDepth 100000 in
theorem stopsFull_list (a : Int) (ha0 : 0 ≤ a) (ha : a ≤ 255) (W : World) (hm : MxAt W) : Calls Try.prog 7 #[.int .u8 a] W fun e w' => e = .returned (.bool true) ∧ Below W.heap.size W w' := by
  have haw := Lib.hid (fun w' (hw : Below W.heap.size W w') => (awake28 w' (hm.below hw)).mono (R' := fun e w2 => e = .returned (.bool true) ∧ Below W.heap.size W w2) (fun e w2 he => ⟨he.1, bl_trans hw he.2⟩))
  have hnw := Lib.hid (new_stops W.heap.size W (Nat.le_refl _))
  have hr1 : 0 ≤ a % 200 := by omega
  have hr2 : a % 200 ≤ 200 := by omega
  have had := Lib.hid (fun (k : Nat) w2 p (hk : k < 32) (h : StopsAt W.heap.size w2 p (full (a % 200) k) (k : Int)) (hb : Below W.heap.size W w2) => (by
    have := add_good 0 (a % 200) [] w2 h hb.size (by rw [full_len]; exact hk) (by omega) (by omega) (by unfold addS; rw [if_pos rfl, if_neg (by omega)]; rfl)
    refine this.mono fun e w3 ⟨h1, h2, h3⟩ => ⟨h1, ?_, hb.trans h3⟩
    rw [full_succ]
    exact h2 : Calls Try.prog 20 #[.pointer (some ⟨p, 0, none⟩), .int .i64 0, .int .i64 (a % 200), .string ⟨#[]⟩] w2 fun e w' => e = .returned (.tuple #[.int .i64 ((k : Int) + 1), .int .i64 0, .int .i64 0]) ∧ StopsAt W.heap.size w' p (full (a % 200) (k + 1)) ((k : Int) + 1) ∧ Below W.heap.size W w'))
  clear hm hr1 hr2
  go_enter Try.func7, Try.ntmps7
  go_wp2_with (go_at_call 19; refine hnw.out.mono ?_; rintro e w2 ⟨p, rfl, hS, hb2⟩)
  replace hS := Lib.hid hS
  go_loopg [4] 32 (fun gh v wr => ∃ k : Nat, gh = 32 - k ∧ v = .int .i64 ((k : Int) + 1) ∧ k ≤ 32 ∧ Hid (StopsAt W.heap.size wr p (full (a % 200) k) (k : Int)) ∧ Hid (Below W.heap.size W wr))
  case atStart => exact ⟨0, rfl, rfl, by omega, hS, Lib.hid hb2⟩
  case round =>
    obtain ⟨k, rfl, rfl, hk, hSr, hbr⟩ := hrel
    by_cases hlt : k < 32
    · have hc := Lib.hid (had.out k wr p hlt hSr.out hbr.out)
      have z1 : (k : Int) + 1 ≤ 32 := by omega
      have z0 : (0 : Int) ≤ (k : Int) + 1 := by omega
      clear hSr had haw hS
      go_wp2_with (go_at_call 20; (with_reducible refine hc.out.mono ?_); rintro e w4 ⟨rfl, hS4, hb4⟩; replace hS4 := Lib.hid hS4)
      go_roundg (32 - (k + 1))
      case measure => omega
      case rel => exact ⟨k + 1, rfl, by push_cast; rfl, by omega, hS4, Lib.hid hb4⟩
    · obtain rfl : k = 32 := by omega
      have hS2 := hSr.out
      clear had hS hnw
      have c1 := Lib.hid (add_bad 1 1 [] wr hS2 hbr.out.size (by rw [full_len]; omega) (by omega) (by omega) (a := 0) (x := 7) (by rw [full_len]; rfl))
      have c2 := Lib.hid (fun w' (h : StopsAt W.heap.size w' p (full (a % 200) 32) ((32 : Nat) : Int)) (hb : Below W.heap.size wr w') => add_bad 2 0 [115, 117, 98, 115, 116, 32, 120] w' h (by have := hbr.out.size; have := hb.size; omega) (by rw [full_len]; omega) (by omega) (by omega) (a := 6) (x := 30) (by unfold addS; rw [if_neg (by decide), if_neg (by decide), if_pos rfl, subst_x]; rfl))
      have c3 := Lib.hid (fun w' (h : StopsAt W.heap.size w' p (full (a % 200) 32) ((32 : Nat) : Int)) (hb : Below W.heap.size wr w') => (by have := delete_any h (by have := hbr.out.size; have := hb.size; omega) (by rw [full_len]; omega) 7; rw [fullD, full_len, if_neg (by decide)] at this; exact this : Calls Try.prog 21 #[.pointer (some ⟨p, 0, none⟩), .int .i64 7] w' fun e w2 => e = .returned (.int .i64 0) ∧ StopsAt W.heap.size w2 p (delS 7 (full (a % 200) 32)) ((32 : Nat) : Int) ∧ Below W.heap.size w' w2))
      have c4 := Lib.hid (fun w' (h : StopsAt W.heap.size w' p (delS 7 (full (a % 200) 32)) ((32 : Nat) : Int)) (hb : Below W.heap.size wr w') => (by have := add_good 1 1 [] w' h (by have := hbr.out.size; have := hb.size; omega) (by rw [fullD]; omega) (by omega) (by omega) (by rfl); exact this : Calls Try.prog 20 #[.pointer (some ⟨p, 0, none⟩), .int .i64 1, .int .i64 1, .string ⟨#[]⟩] w' fun e w2 => e = .returned (.tuple #[.int .i64 33, .int .i64 0, .int .i64 0]) ∧ StopsAt W.heap.size w2 p (fullL (a % 200)) 33 ∧ Below W.heap.size w' w2))
      have c5 := Lib.hid (fun w' (h : StopsAt W.heap.size w' p (fullL (a % 200)) 33) => (by
        have := all_any h (by rw [fullL_len]; omega)
        rw [fullL_len] at this
        refine this.mono fun e w2 ⟨v, h1, h2, h3⟩ => ?_
        obtain ⟨g, cap, h4, h5, h6⟩ := own_cells h2 (by decide)
        exact ⟨g, cap, by rw [h1, h4], h5, h6 30 _ (fullL_six _), h6 155 _ (fullL_end _), h3⟩ : Calls Try.prog 22 #[.pointer (some ⟨p, 0, none⟩)] w' fun e w2 => ∃ g cap, e = .returned (.slice (some ⟨g, 0, none⟩) 32 cap) ∧ g < w2.heap.size ∧ w2.cell? ⟨g, 30, none⟩ = some (.int .i64 8) ∧ w2.cell? ⟨g, 155, none⟩ = some (.int .i64 33) ∧ Below w'.heap.size w' w2))
      replace hSr := Lib.hid hSr
      replace hbr := Lib.hid hbr
      clear hS2
      have hbx : Below W.heap.size wr wr := Below.refl _ _
      go_wp2_with (first
        | (go_at_call 20; (first
          | ((with_reducible refine c1.out.mono ?_); rintro e w4 ⟨rfl, hS4, hb4⟩; have hbx := hbx.trans hb4)
          | ((with_reducible refine (c2.out _ hS4 hbx).mono ?_); rintro e w5 ⟨rfl, hS5, hb5⟩; have hbx := hbx.trans hb5)
          | ((with_reducible refine (c4.out _ hS6 hbx).mono ?_); rintro e w7 ⟨rfl, hS7, hb7⟩; have hbx := hbx.trans hb7)))
        | (go_at_call 21; (with_reducible refine (c3.out _ hS5 hbx).mono ?_); rintro e w6 ⟨rfl, hS6, hb6⟩; have hbx := hbx.trans hb6)
        | (go_at_call 22; (with_reducible refine (c5.out _ hS7).mono ?_); rintro e w8 ⟨g, cap, rfl, hg, d30, d155, hb8⟩; have hbx := hbx.trans (hb8.mono (by have := hbr.out.out.size; have := hbx.size; omega)))
        | (go_at_call 23; refine (haw.out _ (hbr.out.out.trans hbx)).mono ?_; rintro e w9 ⟨rfl, hb9⟩))
      go_ret
      exact ⟨rfl, hb9⟩
end Go.Proofs.Ytlaafamodaogmaa
