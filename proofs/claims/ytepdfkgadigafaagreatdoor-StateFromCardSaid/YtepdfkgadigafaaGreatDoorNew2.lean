/-
  state.New, First at the script p; of chapter 20.
  Conditions: as each theorem states them.
-/
import Derived.Test.YtepdfkgadigafaaGreatDoorNew1
import Derived.StillTailTactics
namespace Go.Proofs.YtepdfkgadigafaaGreatDoor
open Go.RowKit
set_option linter.unusedVariables false
set_option linter.unusedSimpArgs false
set_option maxHeartbeats 2000000 in
set_option maxRecDepth 100000 in
theorem filesnew_nil (w : World) : Calls Tryz.prog 64 #[.slice none 0 0] w fun e w' => ∃ tb, e = .returned (.tuple #[.pointer (some ⟨tb, 0, none⟩), .int .i64 0]) ∧ Blk w' tb 163 [.slice none 0 0] ∧ Below w.heap.size w w' := by
  go_enter Tryz.func64, Tryz.ntmps64
  go_wp2_with fail
  refine wp_loop_rounds 1 ?_
  rw [rounds_succ]
  go_wp2_with fail
  all_goals go_ret2
  all_goals exact ⟨_, rfl, Blk.new w _ _, bl_alloc (Below.refl _ _) _⟩
set_option maxHeartbeats 2000000 in
set_option maxRecDepth 100000 in
theorem all_nil {w : World} {tb : Nat} (h : Blk w tb 163 [.slice none 0 0]) : Calls Tryz.prog 69 #[.pointer (some ⟨tb, 0, none⟩)] w fun e w' => e = .returned (.slice none 0 0) ∧ w' = w := by
  have c0 := h.cell 0
  simp only [List.getElem?_cons_zero] at c0
  clear h
  go_enter Tryz.func69, Tryz.ntmps69
  go_wp2_with fail
  refine wp_loop_rounds 1 ?_
  rw [rounds_succ]
  go_wp2_with fail
  all_goals go_ret
  all_goals exact ⟨rfl, rfl⟩
/-- a job's cells, of the script p -/
abbrev jR (sb : Nat) : List Value := [.pointer (some ⟨sb, 0, none⟩), .bool false, .bool false, .bool false, .bool false, .slice none 0 0, .slice none 0 0, .int .i64 0, .slice none 0 0]
set_option maxHeartbeats 4000000 in
set_option maxRecDepth 100000 in
theorem new_p (w : World) (a : Option Addr) (c : Nat) (hs : ByAt (fun _ => True) false w a pS) :
    Calls Tryz.prog 43 #[.slice a 1 c, .agg #[.bool false, .bool false, .bool false, .bool false, .slice none 0 0], .slice none 0 0] w fun e w' => ∃ jb sb va vc, e = .returned (.tuple #[.pointer (some ⟨jb, 0, none⟩), .int .i64 0, .int .i64 0]) ∧ Blk w' jb 128 (jR sb) ∧ Blk w' sb 161 [.slice va 1 vc, .slice none 0 0, .slice none 0 0, .slice none 0 0, .bool false, .bool false] ∧ Below w.heap.size w w' := by
  obtain ⟨W1, hW1⟩ : ∃ x, w.alloc (.cells #[.bool false, .bool false, .bool false, .bool false, .slice none 0 0] 89) = x := ⟨_, rfl⟩
  have hb1 : Below w.heap.size w W1 := by rw [← hW1]; exact bl_alloc (Below.refl _ _) _
  have hO1 : Blk W1 w.heap.size 89 [.bool false, .bool false, .bool false, .bool false, .slice none 0 0] := by rw [← hW1]; exact Blk.new w _ _
  have hpp := Lib.hid (parse_p W1 a c (hs.below hb1))
  have o3 := hO1.cell 3
  have ol := hO1.lt
  simp only [List.getElem?_cons_zero, List.getElem?_cons_succ] at o3
  replace hW1 := Lib.hid hW1
  clear hs
  go_enter Tryz.func43, Tryz.ntmps43
  go_upto_region 1 with fail
  rw [hW1.out]
  go_upto_region 4 with (go_at_call 63; (with_reducible refine hpp.out.mono ?_); rintro e w2 ⟨sb, v, rfl, hS2, ho2, hsb, hb2⟩; replace hS2 := Lib.hid hS2; replace ho2 := Lib.hid ho2; replace hb2 := Lib.hid hb2)
  obtain ⟨va, vc, rfl⟩ := own_slice ho2.out
  have hfn := Lib.hid (filesnew_nil w2)
  go_upto_region 7 with (go_at_call 64; (with_reducible refine hfn.out.mono ?_); rintro e w3 ⟨tb, rfl, hT3, hb3⟩; replace hT3 := Lib.hid hT3; replace hb3 := Lib.hid hb3)
  have hO3 := (hO1.below hb2.out).below hb3.out
  have hbw3 : Below w.heap.size w w3 := bl_trans (bl_trans hb1 hb2.out) hb3.out
  have hpg := Lib.hid (program_p (hS2.out.below hb3.out) (own_only9 ho2.out (Only.of_below (S := fun _ => False) hb3.out) (fun _ h => h.elim)))
  have k4 := hO3.cell 4
  simp only [List.getElem?_cons_zero, List.getElem?_cons_succ] at k4
  have hS3 := hS2.out.below hb3.out
  replace hO3 := Lib.hid hO3
  replace hbw3 := Lib.hid hbw3
  replace hS3 := Lib.hid hS3
  clear o3
  go_wp2_with fail
  refine wp_loop_rounds 1 ?_
  rw [rounds_succ]
  go_upto_region 16 with (go_at_call 66; (with_reducible refine hpg.out.mono ?_); rintro e w4 ⟨a4, c4, rfl, hb4⟩; replace hb4 := Lib.hid hb4)
  obtain ⟨w5, hw5⟩ : ∃ x, w4.alloc (.cells #[.slice a4 1 c4, .slice none 0 0, .slice none 0 0, .slice none 0 0, .bool false] 122) = x := ⟨_, rfl⟩
  have hb5 : Below w4.heap.size w4 w5 := by rw [← hw5]; exact bl_alloc (Below.refl _ _) _
  have hP5 : Blk w5 w4.heap.size 122 [.slice a4 1 c4, .slice none 0 0, .slice none 0 0, .slice none 0 0, .bool false] := by rw [← hw5]; exact Blk.new w4 _ _
  have hO5 := (hO3.out.below hb4.out).below hb5
  have hS5 := (hS3.out.below hb4.out).below hb5
  have hT5 := (hT3.out.below hb4.out).below hb5
  have hbw5 := bl_trans (bl_trans hbw3.out hb4.out) hb5
  have hn4 : w.heap.size + 1 ≤ w4.heap.size := Nat.le_trans hO3.out.lt hb4.out.size
  rw [hw5]
  clear hw5 k4 hb5
  have k0 := hO5.cell 0
  have k1 := hO5.cell 1
  have k2 := hO5.cell 2
  have k3 := hO5.cell 3
  have k4 := hO5.cell 4
  have kf := hO5.free 4
  have kl := hO5.lt
  have p1 := hP5.cell 1
  have p3 := hP5.cell 3
  simp only [List.getElem?_cons_zero, List.getElem?_cons_succ] at k0 k1 k2 k3 k4 p1 p3
  obtain ⟨pb, hpb⟩ : ∃ pb, w4.heap.size = pb := ⟨_, rfl⟩
  rw [hpb] at hP5 p1 p3 hn4 ⊢
  replace hpb := Lib.hid hpb
  replace hO5 := Lib.hid hO5
  replace hS5 := Lib.hid hS5
  replace hT5 := Lib.hid hT5
  replace hP5 := Lib.hid hP5
  replace hbw5 := Lib.hid hbw5
  go_wp2_with fail
  refine wp_loop_rounds 1 ?_
  rw [rounds_succ]
  go_upto_region 24 with (go_at_call 68; (with_reducible refine (clone_nilS _).mono ?_); rintro e wx ⟨rfl, rfl⟩)
  have hO6 := hO5.out.set 4 (.slice none 0 0)
  have hw2n : w.heap.size ≤ sb := Nat.le_trans hb1.size hsb
  have hsbn : sb ≠ w.heap.size := by
    have := hW1.out
    have h1 : W1.heap.size = w.heap.size + 1 := by rw [← this]; simp
    omega
  have htbn : tb ≠ w.heap.size := by
    intro e
    have h1 := hT5.out
    rw [e] at h1
    have h2 := hO5.out
    have := h1.symm.trans h2
    simp at this
  have hpbn : pb ≠ w.heap.size := by omega
  have hS6 := hS5.out.set_other (p := ⟨w.heap.size, 4, none⟩) (by simp only; omega) (.slice none 0 0)
  have hT6 := hT5.out.set_other (p := ⟨w.heap.size, 4, none⟩) (by simp only; omega) (.slice none 0 0)
  have hP6 := hP5.out.set_other (p := ⟨w.heap.size, 4, none⟩) (by simp only; omega) (.slice none 0 0)
  have hb6 : Below w.heap.size w (w5.setCell ⟨w.heap.size, 4, none⟩ (.slice none 0 0)) := bl_setCell hbw5.out (Nat.le_refl _) _
  simp only [List.set_cons_zero, List.set_cons_succ] at hO6
  clear k0 k1 k2 k3 k4 kf kl p1 p3
  generalize w5.setCell ⟨w.heap.size, 4, none⟩ (.slice none 0 0) = w6 at *
  have k0 := hO6.cell 0
  have k1 := hO6.cell 1
  have k2 := hO6.cell 2
  have k3 := hO6.cell 3
  have k4 := hO6.cell 4
  have p1 := hP6.cell 1
  have p3 := hP6.cell 3
  simp only [List.getElem?_cons_zero, List.getElem?_cons_succ] at k0 k1 k2 k3 k4 p1 p3
  have hal := all_nil (hT6.below (bl_drew (Below.refl _ _)))
  replace hS6 := Lib.hid hS6
  refine wp_region_still_tail 10 (by kernel_rfl) (by kernel_rfl) ?_
  simp only [List.take_succ_cons, List.take_zero, List.drop_succ_cons, List.drop_zero]
  iterate 8 still_step
  still_call hal
  still_step
  refine wpStill_nil ?_
  clear hal
  obtain ⟨w7, hw7⟩ : ∃ x, w6.drew = x := ⟨_, rfl⟩
  have hb7 : Below w6.heap.size w6 w7 := by rw [← hw7]; exact bl_drew (Below.refl _ _)
  change wpList _ _ _ _ _ w6.drew
  rw [hw7]
  clear hw7 k0 k1 k2 k3 k4 p1 p3
  go_wp2_with fail
  all_goals go_ret3
  exact ⟨_, sb, va, vc, rfl, Blk.new w7 _ _, (hS6.out.below hb7).alloc _, bl_alloc (bl_trans hb6 hb7) _⟩
end Go.Proofs.YtepdfkgadigafaaGreatDoor
