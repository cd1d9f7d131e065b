/-
  The first state of a job of the script p; of chapter 20.
  Conditions: as each theorem states them.
-/
import Derived.Test.YtepdfkgadigafaaGreatDoorNew2
import Derived.Deep.RegionHeld3
import Derived.Deep.CutBlock
import Derived.Deep.DeepCutAuto
namespace Go.Proofs.YtepdfkgadigafaaGreatDoor
open Go.RowKit
set_option linter.unusedVariables false
set_option linter.unusedSimpArgs false
attribute [local go_sem ↓] load_st store_st
theorem ffirst_any (w : World) : Calls Tryz.prog 70 #[] w fun e w' => e = .returned (.agg #[.int .i64 0, .int .i64 (-1), .int .i64 (-1), .int .i64 0, .slice none 0 0]) ∧ Below w.heap.size w w' := by
  go_enter Tryz.func70, Tryz.ntmps70
  go_wp2_with fail
  exact bodyPost_ret (v := .agg #[.int .i64 0, .int .i64 (-1), .int .i64 (-1), .int .i64 0, .slice none 0 0]) (by simp [results, Tryz.results70, go_sem]) rfl ⟨rfl, bl_alloc (Below.refl _ _) _⟩
theorem slen_p {w : World} {sb : Nat} {va : Option Addr} {vc : Nat} (h : w.cell? ⟨sb, 0, none⟩ = some (.slice va 1 vc)) :
    Calls Tryz.prog 71 #[.pointer (some ⟨sb, 0, none⟩)] w fun e w' => e = .returned (.int .i64 1) ∧ w' = w := by
  go_enter Tryz.func71, Tryz.ntmps71
  go_wp2_with fail
  all_goals go_ret
  all_goals exact ⟨rfl, rfl⟩
/-- the first state's cells -/
def fstC (a b : Sl3) : StC := ⟨⟨none, 0, 0⟩, ⟨none, 0, 0⟩, false, 0, false, -1, 0, -1, -1, 0, ⟨none, 0, 0⟩, ⟨none, 0, 0⟩, false, ⟨none, 0, 0⟩, false, 0, 0, 0, -1, 0, false, false, false, a, ⟨none, 0, 0⟩, ⟨none, 0, 0⟩, b⟩
set_option maxHeartbeats 4000000 in
set_option maxRecDepth 100000 in
theorem first_p {w : World} {jb sb : Nat} {va : Option Addr} {vc : Nat} (hJ : Blk w jb 128 (jR sb)) (hS : Blk w sb 161 [.slice va 1 vc, .slice none 0 0, .slice none 0 0, .slice none 0 0, .bool false, .bool false]) :
    Calls Tryz.prog 44 #[.pointer (some ⟨jb, 0, none⟩)] w fun e w' => ∃ g b, e = .returned (.agg (fstC ⟨some ⟨g, 0, none⟩, 1, 1⟩ b).cells.toArray) ∧ w'.cell? ⟨g, 0, none⟩ = some (.bool false) ∧ Below w.heap.size w w' := by
  have hmk1 : ∀ W, (Instr.makeSlice 30 (.int .i64 1) (.int .i64 1)).run Tryz.prog W = .ok (.slice (some ⟨W.heap.size, 0, none⟩) 1 1) (W.alloc (.cells #[.bool false] 4)) := fun _ => by kernel_rfl
  have hmk0 : ∀ W, (Instr.makeSlice 30 (.int .i64 0) (.int .i64 0)).run Tryz.prog W = .ok (.slice (some ⟨W.heap.size, 0, none⟩) 0 0) (W.alloc (.cells #[] 4)) := fun _ => by kernel_rfl
  have hjl := hJ.lt
  have hsl := hS.lt
  go_enter Tryz.func44, Tryz.ntmps44
  go_upto_region 4 with fail
  obtain ⟨W2, hW2⟩ : ∃ x, (w.alloc (.cells zeroC.cells.toArray 34)).alloc (.cells zeroC.cells.toArray 34) = x := ⟨_, rfl⟩
  have hb2 : Below w.heap.size w W2 := by rw [← hW2]; exact bl_alloc (bl_alloc (Below.refl _ _) _) _
  have hr2 : Blk W2 w.heap.size 34 zeroC.cells := by rw [← hW2]; exact (Blk.new w _ _).alloc _
  have hs2 : Blk W2 (w.heap.size + 1) 34 zeroC.cells := by rw [← hW2]; simpa using Blk.new (w.alloc (.cells zeroC.cells.toArray 34)) 34 zeroC.cells
  change Code.wp _ _ _ _ ((w.alloc (.cells zeroC.cells.toArray 34)).alloc (.cells zeroC.cells.toArray 34))
  rw [hW2]
  clear hW2
  have hff := Lib.hid (ffirst_any W2)
  go_upto_region 5 with (go_at_call 70; (with_reducible refine hff.out.mono ?_); rintro e w3 ⟨rfl, hb3⟩; have hs3 := hs2.below hb3; have q5 := hs3.cell 5; have q6 := hs3.cell 6; have q7 := hs3.cell 7; have q8 := hs3.cell 8; have q9 := hs3.cell 9; have q10 := hs3.cell 10; have q18 := hs3.cell 18; have f5 := hs3.free 5; have f6 := hs3.free 6; have f7 := hs3.free 7; have f8 := hs3.free 8; have f9 := hs3.free 9; have f10 := hs3.free 10; have f18 := hs3.free 18; have ls := hs3.lt; simp only [zeroC, StC.cells, List.getElem?_cons_zero, List.getElem?_cons_succ] at q5 q6 q7 q8 q9 q10 q18; replace hs3 := Lib.hid hs3; replace hb3 := Lib.hid hb3)
  have hs4 : Blk (((((((w3.setCell ⟨w.heap.size + 1, 6, none⟩ (.int .i64 0)).setCell ⟨w.heap.size + 1, 7, none⟩ (.int .i64 (-1))).setCell ⟨w.heap.size + 1, 8, none⟩ (.int .i64 (-1))).setCell ⟨w.heap.size + 1, 9, none⟩ (.int .i64 0)).setCell ⟨w.heap.size + 1, 10, none⟩ (.slice none 0 0)).setCell ⟨w.heap.size + 1, 5, none⟩ (.int .i64 (-1))).setCell ⟨w.heap.size + 1, 18, none⟩ (.int .i64 (-1))) (w.heap.size + 1) 34 (fstC ⟨none, 0, 0⟩ ⟨none, 0, 0⟩).cells := by
    have h := (((((((hs3.out.set 6 (.int .i64 0)).set 7 (.int .i64 (-1))).set 8 (.int .i64 (-1))).set 9 (.int .i64 0)).set 10 (.slice none 0 0)).set 5 (.int .i64 (-1))).set 18 (.int .i64 (-1)))
    simp only [zeroC, StC.cells, List.set_cons_zero, List.set_cons_succ] at h
    simp only [fstC, StC.cells]
    exact h
  have hb4 : Below w.heap.size w (((((((w3.setCell ⟨w.heap.size + 1, 6, none⟩ (.int .i64 0)).setCell ⟨w.heap.size + 1, 7, none⟩ (.int .i64 (-1))).setCell ⟨w.heap.size + 1, 8, none⟩ (.int .i64 (-1))).setCell ⟨w.heap.size + 1, 9, none⟩ (.int .i64 0)).setCell ⟨w.heap.size + 1, 10, none⟩ (.slice none 0 0)).setCell ⟨w.heap.size + 1, 5, none⟩ (.int .i64 (-1))).setCell ⟨w.heap.size + 1, 18, none⟩ (.int .i64 (-1))) := (bl_setCell (bl_setCell (bl_setCell (bl_setCell (bl_setCell (bl_setCell (bl_setCell (bl_trans hb2 hb3.out) (by simp only; omega) _) (by simp only; omega) _) (by simp only; omega) _) (by simp only; omega) _) (by simp only; omega) _) (by simp only; omega) _) (by simp only; omega) _)
  have hr4 : Blk (((((((w3.setCell ⟨w.heap.size + 1, 6, none⟩ (.int .i64 0)).setCell ⟨w.heap.size + 1, 7, none⟩ (.int .i64 (-1))).setCell ⟨w.heap.size + 1, 8, none⟩ (.int .i64 (-1))).setCell ⟨w.heap.size + 1, 9, none⟩ (.int .i64 0)).setCell ⟨w.heap.size + 1, 10, none⟩ (.slice none 0 0)).setCell ⟨w.heap.size + 1, 5, none⟩ (.int .i64 (-1))).setCell ⟨w.heap.size + 1, 18, none⟩ (.int .i64 (-1))) w.heap.size 34 zeroC.cells := by
    have h := hr2.below hb3.out
    iterate 7 (refine Blk.set_other ?_ (by simp only; omega) _)
    exact h
  generalize (((((((w3.setCell ⟨w.heap.size + 1, 6, none⟩ (.int .i64 0)).setCell ⟨w.heap.size + 1, 7, none⟩ (.int .i64 (-1))).setCell ⟨w.heap.size + 1, 8, none⟩ (.int .i64 (-1))).setCell ⟨w.heap.size + 1, 9, none⟩ (.int .i64 0)).setCell ⟨w.heap.size + 1, 10, none⟩ (.slice none 0 0)).setCell ⟨w.heap.size + 1, 5, none⟩ (.int .i64 (-1))).setCell ⟨w.heap.size + 1, 18, none⟩ (.int .i64 (-1))) = w4 at *
  clear q5 q6 q7 q8 q9 q10 q18 f5 f6 f7 f8 f9 f10 f18 ls
  have j0 := hJ.cell 0
  have j6 := hJ.cell 6
  have j8 := hJ.cell 8
  have s0 := hS.cell 0
  simp only [List.getElem?_cons_zero, List.getElem?_cons_succ] at j0 j6 j8 s0
  have kS := Lib.hid (fun (X : World) (hX : Below w.heap.size w X) => (⟨(hX.cell (p := ⟨jb, 0, none⟩) hjl).trans j0, (hX.cell (p := ⟨jb, 6, none⟩) hjl).trans j6, (hX.cell (p := ⟨sb, 0, none⟩) hsl).trans s0⟩ : X.cell? ⟨jb, 0, none⟩ = some (.pointer (some ⟨sb, 0, none⟩)) ∧ X.cell? ⟨jb, 6, none⟩ = some (.slice none 0 0) ∧ X.cell? ⟨sb, 0, none⟩ = some (.slice va 1 vc)))
  have hln := Lib.hid (fun (X : World) (hX : X.cell? ⟨sb, 0, none⟩ = some (.slice va 1 vc)) => slen_p hX)
  have q23 := hs4.cell 23
  have q26 := hs4.cell 26
  have f23 := hs4.free 23
  have f26 := hs4.free 26
  have ls := hs4.lt
  have l1 : w.heap.size + 1 < w4.heap.size + 1 := by omega
  have l2 : w.heap.size + 1 < w4.heap.size + 1 + 1 := by omega
  obtain ⟨k0, k6, ks⟩ := kS.out _ hb4
  simp only [fstC, StC.cells, List.getElem?_cons_zero, List.getElem?_cons_succ] at q23 q26
  replace hs4 := Lib.hid hs4
  replace hr4 := Lib.hid hr4
  replace hb4 := Lib.hid hb4
  clear j0 j6 hJ hS s0
  go_cut [] from 12 to 25 (fun wx => ∃ g b, Blk wx (w.heap.size + 1) 34 (fstC ⟨some ⟨g, 0, none⟩, 1, 1⟩ b).cells ∧ Blk wx w.heap.size 34 zeroC.cells ∧ wx.cell? ⟨g, 0, none⟩ = some (.bool false) ∧ Below w.heap.size w wx)
  case first =>
    go_region_held3 (fun X => X.cell? ⟨jb, 0, none⟩ = some (.pointer (some ⟨sb, 0, none⟩)) ∧ X.cell? ⟨jb, 6, none⟩ = some (.slice none 0 0) ∧ X.cell? ⟨sb, 0, none⟩ = some (.slice va 1 vc)) (exact kS.out _ (by repeat (first | with_reducible exact hb4.out | refine bl_alloc ?_ _ | refine bl_setCell ?_ (by simp only; omega) _ | refine bl_drew ?_))) ((go_at_call 71; (refine (hln.out _ (kS.out _ (by repeat (first | with_reducible exact hb4.out | refine bl_alloc ?_ _ | refine bl_setCell ?_ (by simp only; omega) _ | refine bl_drew ?_))).2.2).mono ?_); rintro e wx ⟨rfl, hwx⟩; subst hwx))
    all_goals (go_wp2_with fail; go_meet)
    all_goals (first
      | (refine ⟨w4.heap.size, ⟨some ⟨w4.heap.size + 1, 0, none⟩, 0, 0⟩, ?_, ?_, ?_, ?_⟩
         · have h := (hs4.out.set 23 (.slice (some ⟨w4.heap.size, 0, none⟩) 1 1)).set 26 (.slice (some ⟨w4.heap.size + 1, 0, none⟩) 0 0)
           simp only [fstC, StC.cells, List.set_cons_zero, List.set_cons_succ] at h
           exact ((h.alloc _).alloc _).drew
         · exact ((((hr4.out.set_other (by simp only; omega) _).set_other (by simp only; omega) _).alloc _).alloc _).drew
         · have h := ((Blk.new ((w4.setCell ⟨w.heap.size + 1, 23, none⟩ (.slice (some ⟨w4.heap.size, 0, none⟩) 1 1)).setCell ⟨w.heap.size + 1, 26, none⟩ (.slice (some ⟨w4.heap.size + 1, 0, none⟩) 0 0)) 4 [.bool false]).alloc (.cells #[] 4)).cell 0
           simp only [World.setCell, Array.size_modify] at h
           exact h
         · exact bl_drew (bl_alloc (bl_alloc (bl_setCell (bl_setCell hb4.out (by simp only; omega) _) (by simp only; omega) _) _) _))
      | (refine ⟨w4.heap.size + 1, ⟨some ⟨w4.heap.size, 0, none⟩, 0, 0⟩, ?_, ?_, ?_, ?_⟩
         · have h := (hs4.out.set 23 (.slice (some ⟨w4.heap.size + 1, 0, none⟩) 1 1)).set 26 (.slice (some ⟨w4.heap.size, 0, none⟩) 0 0)
           simp only [fstC, StC.cells, List.set_cons_zero, List.set_cons_succ] at h
           exact ((h.alloc _).alloc _).drew
         · exact ((((hr4.out.set_other (by simp only; omega) _).set_other (by simp only; omega) _).alloc _).alloc _).drew
         · have h := (Blk.new (((w4.setCell ⟨w.heap.size + 1, 23, none⟩ (.slice (some ⟨w4.heap.size + 1, 0, none⟩) 1 1)).setCell ⟨w.heap.size + 1, 26, none⟩ (.slice (some ⟨w4.heap.size, 0, none⟩) 0 0)).alloc (.cells #[] 4)) 4 [.bool false]).cell 0
           simp only [World.size_alloc, World.setCell, Array.size_modify] at h
           exact h
         · exact bl_drew (bl_alloc (bl_alloc (bl_setCell (bl_setCell hb4.out (by simp only; omega) _) (by simp only; omega) _) _) _)))
  case rest =>
    obtain ⟨G, b, hs5, hr5, hG, hb5⟩ := hcut
    obtain ⟨w5, rfl⟩ : ∃ x : World, x = wc := ⟨_, rfl⟩
    have e8 := (hb5.cell (p := ⟨jb, 8, none⟩) hjl).trans j8
    have z25 := hs5.cell 25
    have y25 := hs5.free 25
    have ls5 := hs5.lt
    simp only [fstC, StC.cells, List.getElem?_cons_zero, List.getElem?_cons_succ] at z25
    have hcf := Lib.hid (fun W => copyFiles_nil W)
    replace hs5 := Lib.hid hs5
    replace hr5 := Lib.hid hr5
    replace hG := Lib.hid hG
    replace hb5 := Lib.hid hb5
    clear k0 k6 ks q23 q26 f23 f26 l1 l2 j8
    go_upto_region 7 with (go_at_call 47; (with_reducible refine (hcf.out _).mono ?_); rintro e wx ⟨rfl, rfl⟩)
    have hs6 := hs5.out.set 25 (.slice none 0 0)
    have hs6' : Blk (w5.setCell ⟨w.heap.size + 1, 25, none⟩ (.slice none 0 0)) (w.heap.size + 1) 34 (fstC ⟨some ⟨G, 0, none⟩, 1, 1⟩ b).cells := by
      simp only [fstC, StC.cells, List.set_cons_zero, List.set_cons_succ] at hs6 ⊢
      exact hs6
    have hr6 := hr5.out.set_other (p := ⟨w.heap.size + 1, 25, none⟩) (by simp only; omega) (.slice none 0 0)
    have hb6 := bl_setCell hb5.out (p := ⟨w.heap.size + 1, 25, none⟩) (by simp only; omega) (.slice none 0 0)
    have hGn : G ≠ w.heap.size + 1 := by
      intro e
      have h1 := hG.out
      rw [e] at h1
      have h2 := hs5.out.cell 0
      rw [h2] at h1
      simp [fstC, StC.cells] at h1
    have hGr : G ≠ w.heap.size := by
      intro e
      have h1 := hG.out
      rw [e] at h1
      have h2 := hr5.out.cell 0
      rw [h2] at h1
      simp [zeroC, StC.cells] at h1
    have hG6 : (w5.setCell ⟨w.heap.size + 1, 25, none⟩ (.slice none 0 0)).cell? ⟨G, 0, none⟩ = some (.bool false) := by
      rw [World.cell?_of_block (a := ⟨G, 0, none⟩) (Below.heap_setCell _ _ _ _ (by simp only; omega))]
      exact hG.out
    clear hs6 z25 y25 ls5 e8
    generalize w5.setCell ⟨w.heap.size + 1, 25, none⟩ (.slice none 0 0) = w6 at *
    have L1 := stLoad_is _ hs6'
    obtain ⟨Z, S1, hBZ, hOZ⟩ := stStore_is (fstC ⟨some ⟨G, 0, none⟩, 1, 1⟩ b) hr6 rfl
    have L2 := stLoad_is _ hBZ
    have hbZ : Below w.heap.size w Z := hb6.trans (hOZ.below hb6.size (fun k hk => by rw [hk]; exact Nat.le_refl _))
    have hGZ : Z.cell? ⟨G, 0, none⟩ = some (.bool false) := (World.cell?_of_block (a := ⟨G, 0, none⟩) (hOZ.block G (World.block_lt_of_cell? _ _ hG6) (by simpa using hGr))).trans hG6
    obtain ⟨D, hD⟩ : ∃ D, (fstC ⟨some ⟨G, 0, none⟩, 1, 1⟩ b).cells.toArray = D := ⟨_, rfl⟩
    rw [hD] at L1 S1 L2
    replace hD := Lib.hid hD
    replace hGZ := Lib.hid hGZ
    replace hbZ := Lib.hid hbZ
    clear hs6' hr6 hb6 hG6 hBZ hOZ
    go_wp2_with fail
    exact bodyPost_ret (v := .agg D) (by simp [results, Tryz.results44, ↓load_st, asAddr, L2, Result.andThen]) rfl ⟨G, b, by rw [hD.out], hGZ.out, hbZ.out⟩
end Go.Proofs.YtepdfkgadigafaaGreatDoor
