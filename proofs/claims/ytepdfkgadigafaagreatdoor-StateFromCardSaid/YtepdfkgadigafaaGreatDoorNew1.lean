/-
  The script p's program; of chapter 16.
  Conditions: as each theorem states them.
-/
import Derived.Test.YtepdfkgadigafaaGreatDoorNew0
namespace Go.Proofs.YtepdfkgadigafaaGreatDoor
open Go.RowKit
set_option linter.unusedVariables false
set_option linter.unusedSimpArgs false
attribute [local go_sem ↓] load_cm store_cm
set_option maxHeartbeats 4000000 in
set_option maxRecDepth 100000 in
theorem program_p {w : World} {sb base : Nat} {va : Option Addr} {vc : Nat} (h : Blk w sb 161 [.slice va 1 vc, .slice none 0 0, .slice none 0 0, .slice none 0 0, .bool false, .bool false])
    (ho : w.ownsRow base 168 21 (.slice va 1 vc) 1 (pC 112)) :
    Calls Tryz.prog 66 #[.pointer (some ⟨sb, 0, none⟩)] w fun e w' => ∃ a c, e = .returned (.agg #[.slice a 1 c, .slice none 0 0, .slice none 0 0, .slice none 0 0, .bool false]) ∧ Below w.heap.size w w' := by
  have hcm := Lib.hid (fun X (hX : Below w.heap.size w X) => cmd_p (h.below hX) (own_only9 ho (Only.of_below (S := fun _ => False) hX) (fun _ h => h.elim)))
  obtain ⟨W2, hW2⟩ : ∃ x, (w.alloc (.cells #[.slice none 0 0, .slice none 0 0, .slice none 0 0, .slice none 0 0, .bool false] 122)).alloc (.cells #[.slice none 0 0, .slice none 0 0, .slice none 0 0, .slice none 0 0, .bool false] 122) = x := ⟨_, rfl⟩
  have hb2 : Below w.heap.size w W2 := by rw [← hW2]; exact bl_alloc (bl_alloc (Below.refl _ _) _) _
  have hr2 : Blk W2 w.heap.size 122 [.slice none 0 0, .slice none 0 0, .slice none 0 0, .slice none 0 0, .bool false] := by rw [← hW2]; exact (Blk.new w _ _).alloc _
  have hp2 : Blk W2 (w.heap.size + 1) 122 [.slice none 0 0, .slice none 0 0, .slice none 0 0, .slice none 0 0, .bool false] := by rw [← hW2]; simpa using Blk.new (w.alloc (.cells #[.slice none 0 0, .slice none 0 0, .slice none 0 0, .slice none 0 0, .bool false] 122)) 122 [.slice none 0 0, .slice none 0 0, .slice none 0 0, .slice none 0 0, .bool false]
  have hs2 := h.below hb2
  replace hW2 := Lib.hid hW2
  have hsb : sb < w.heap.size := h.lt
  have c0 := h.cell 0
  have c1 := h.cell 1
  have c2 := h.cell 2
  have c3 := h.cell 3
  have c4 := h.cell 4
  simp only [List.getElem?_cons_zero, List.getElem?_cons_succ] at c0 c1 c2 c3 c4
  go_enter Tryz.func66, Tryz.ntmps66
  go_upto_region 5 with fail
  rw [hW2.out]
  have hnew := fun X => cm_new X (pC 112) rfl (pC_one 112)
  have hld := fun X G (hB : Blk X G 168 (pC 112)) => cmLoad_is (pC 112) rfl hB
  have hlen : (pC 112).length = 21 := rfl
  have hone := pC_one 112
  obtain ⟨CC, hCC⟩ : ∃ CC, pC 112 = CC := ⟨_, rfl⟩
  simp only [hCC] at hcm hnew hld hlen hone
  replace hcm := Lib.hid (hcm.out W2 hb2)
  clear hCC
  clear c0 c1 c2 c3 c4
  have c0 := hs2.cell 0
  have c1 := hs2.cell 1
  simp only [List.getElem?_cons_zero, List.getElem?_cons_succ] at c0 c1
  replace hnew := Lib.hid hnew
  replace hld := Lib.hid hld
  replace hone := Lib.hid hone
  replace hlen := Lib.hid hlen
  go_upto_region 6 with fail
  refine wp_loop_rounds 2 ?_
  rw [rounds_succ]
  go_upto_region 9 with (go_at_call 96; (with_reducible refine hcm.out.mono ?_); rintro e w3 ⟨rfl, hb3⟩; obtain ⟨w4, S4, hB4, hb4⟩ := hnew.out w3; have hz3 := hb3.size; replace hb3 := Lib.hid hb3; replace hb4 := Lib.hid hb4; replace hB4 := Lib.hid hB4)
  have hn2 : w.heap.size + 2 = W2.heap.size := by rw [← hW2.out]; simp
  have hp4 := (hp2.below hb3.out).below hb4.out
  have hr4 := (hr2.below hb3.out).below hb4.out
  have hs4 := (hs2.below hb3.out).below hb4.out
  have hbw4 : Below w.heap.size w w4 := bl_trans (bl_trans hb2 hb3.out) hb4.out
  have d0 := hp4.cell 0
  have d2 := hs4.cell 1
  simp only [List.getElem?_cons_zero, List.getElem?_cons_succ] at d0 d2
  have L4 := hld.out _ _ hB4.out
  have hbc := build_cm CC hlen.out
  have hsrc : ∀ j u, CC[j]? = some u → (w4.alloc (.cells CC.toArray 168)).cell? ((⟨w4.heap.size, 0, none⟩ : Addr).add j) = some u := fun j u hu => by
    rw [Addr.add_mid, Nat.zero_add, (Blk.new w4 168 CC).cell]; exact hu
  obtain ⟨i0, hi, hz0, hz1, hz2⟩ := info_parts info_cmd
  have hl21 := hlen.out
  replace hsrc := Lib.hid hsrc
  replace hp4 := Lib.hid hp4
  replace hr4 := Lib.hid hr4
  replace hs4 := Lib.hid hs4
  replace hbw4 := Lib.hid hbw4
  replace hn2 := Lib.hid hn2
  clear c0 c1 S4
  go_wp2_with (at_builtin; refine wpList_append_own _ rfl (.tmp 36) (.tmp 38) 119 rfl (w4.heap.size + 1) 168 i0 (.agg cmZ.toArray) 21 224 Tryz.underlying119 hi hz0 hz1 hz2 rfl (by decide) (.slice none 0 0) 0 [] rfl (World.ownsRow_nil _ _ _ _) ⟨w4.heap.size, 0, none⟩ 1 1 CC rfl (by rw [hlen.out]) hsrc.out hone.out (by decide) (by decide) (by simp) ?_; intro v wB hown hgrow _; obtain ⟨va', vc', rfl⟩ := own_slice hown; have hbB : Below w4.heap.size w4 wB := (bl_alloc (Below.refl _ _) _).grown hgrow (by simp) (fun j hj => by cases hj); clear hown hgrow; have hpB := hp4.out.below hbB; have hzB := hbB.size; have b0 := hpB.cell 0; have f0 := hpB.free 0; have l0 := hpB.lt; simp only [List.getElem?_cons_zero, List.getElem?_cons_succ] at b0; replace hpB := Lib.hid hpB; replace hbB := Lib.hid hbB)
  have hpC := hpB.out.set 0 (.slice va' 1 vc')
  have hsC := (hs4.out.below hbB.out).set_other (p := ⟨w.heap.size + 1, 0, none⟩) (by simp only; omega) (.slice va' 1 vc')
  have hrC := (hr4.out.below hbB.out).set_other (p := ⟨w.heap.size + 1, 0, none⟩) (by simp only; omega) (.slice va' 1 vc')
  have hbC : Below w.heap.size w (wB.setCell ⟨w.heap.size + 1, 0, none⟩ (.slice va' 1 vc')) := bl_setCell (bl_trans hbw4.out hbB.out) (by simp only; omega) _
  generalize wB.setCell ⟨w.heap.size + 1, 0, none⟩ (.slice va' 1 vc') = wC at *
  clear b0 f0 l0 d0 d2 L4 hbc hsrc hl21 hi hz0 hz1 hz2
  have s1 := hsC.cell 1
  have p0 := hpC.cell 0
  have p1 := hpC.cell 1
  have p2 := hpC.cell 2
  have p3 := hpC.cell 3
  have p4 := hpC.cell 4
  have g2 := hpC.free 2
  have g3 := hpC.free 3
  have pl := hpC.lt
  have r0 := hrC.cell 0
  have r1 := hrC.cell 1
  have r2 := hrC.cell 2
  have r3 := hrC.cell 3
  have r4 := hrC.cell 4
  have q0 := hrC.free 0
  have q1 := hrC.free 1
  have q2 := hrC.free 2
  have q3 := hrC.free 3
  have q4 := hrC.free 4
  have rl := hrC.lt
  simp only [List.getElem?_cons_zero, List.getElem?_cons_succ, List.set_cons_zero] at s1 p0 p1 p2 p3 p4 r0 r1 r2 r3 r4
  replace hpC := Lib.hid hpC
  replace hsC := Lib.hid hsC
  replace hrC := Lib.hid hrC
  replace hbC := Lib.hid hbC
  rw [rounds_succ]
  go_wp2_with fail
  refine wp_loop_rounds 1 ?_
  rw [rounds_succ]
  go_wp2_with (go_at_call 50; (with_reducible refine (clone_nilT _).mono ?_); rintro e wx ⟨rfl, rfl⟩)
  refine wp_loop_rounds 1 ?_
  rw [rounds_succ]
  go_wp2_with (go_at_call 68; (with_reducible refine (clone_nilS _).mono ?_); rintro e wx ⟨rfl, rfl⟩)
  have hbF := hbC.out
  exact bodyPost_ret (v := .agg #[.slice va' 1 vc', .slice none 0 0, .slice none 0 0, .slice none 0 0, .bool false]) (by simp [results, Tryz.results66, go_sem, r0, r1, r2, r3, r4, q0, q1, q2, q3, q4, rl, p2, p3, g2, g3, pl]) rfl ⟨va', vc', rfl, bl_setCell (bl_setCell (bl_setCell (bl_setCell (bl_setCell (bl_setCell (bl_setCell hbF (by simp only; omega) _) (by simp only; omega) _) (by simp only; omega) _) (by simp only; omega) _) (by simp only; omega) _) (by simp only; omega) _) (by simp only; omega) _⟩
end Go.Proofs.YtepdfkgadigafaaGreatDoor
