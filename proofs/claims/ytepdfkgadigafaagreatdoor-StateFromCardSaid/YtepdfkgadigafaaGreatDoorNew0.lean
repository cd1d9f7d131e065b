/-
  The script p's program: list, nth, Cmd, Program; of chapter 16.
  Conditions: as each theorem states them.
-/
import Derived.Test.YtepdfkgadigafaaGreatDoorPrs2
import Derived.Test.YtepdfkgadigafaaGreatDoorCpA
namespace Go.Proofs.YtepdfkgadigafaaGreatDoor
open Go.RowKit
set_option linter.unusedVariables false
set_option linter.unusedSimpArgs false
attribute [local go_sem ↓] load_cm store_cm
theorem cmLoad_mid (C : List Value) (hC : C.length = 21) {w : World} {g o : Nat} (h : ∀ j, j < 21 → w.cell? ⟨g, o + j, none⟩ = C[j]?) : (cmLoad ⟨g, o, none⟩).run Tryz.prog w = .ok (.agg C.toArray) w :=
  run_loadVar_mid w g o 168 C _ (fun j v hv => by
    rw [h j (by rw [← hC]; exact (List.getElem?_eq_some_iff.1 hv).1)]; exact hv) Tryz.underlying168 rfl (by rw [hC]; kernel_rfl)
theorem clone_nilP (w : World) : Calls Tryz.prog 128 #[.slice none 0 0] w fun e w' => e = .returned (.slice none 0 0) ∧ w = w' := by
  have q22 : ∀ (w : World) (a : Option Addr) (n c n' c' : Nat), (binOp .eql 166 (.slice a n c) (.slice none n' c')).run Tryz.prog w = .ok (.bool a.isNone) w := fun w a n c n' c' => Lib.run_eql_slice_nil w _ _ a n c n' c' Tryz.underlying166
  go_enter Tryz.func128, Tryz.ntmps128
  go_wp2_with fail
  all_goals go_ret
  all_goals exact ⟨rfl, rfl⟩
theorem clone_nilT (w : World) : Calls Tryz.prog 50 #[.slice none 0 0] w fun e w' => e = .returned (.slice none 0 0) ∧ w = w' := by
  have q22 : ∀ (w : World) (a : Option Addr) (n c n' c' : Nat), (binOp .eql 40 (.slice a n c) (.slice none n' c')).run Tryz.prog w = .ok (.bool a.isNone) w := fun w a n c n' c' => Lib.run_eql_slice_nil w _ _ a n c n' c' Tryz.underlying40
  go_enter Tryz.func50, Tryz.ntmps50
  go_wp2_with fail
  all_goals go_ret
  all_goals exact ⟨rfl, rfl⟩
theorem clone_nilS (w : World) : Calls Tryz.prog 68 #[.slice none 0 0] w fun e w' => e = .returned (.slice none 0 0) ∧ w = w' := by
  have q22 : ∀ (w : World) (a : Option Addr) (n c n' c' : Nat), (binOp .eql 87 (.slice a n c) (.slice none n' c')).run Tryz.prog w = .ok (.bool a.isNone) w := fun w a n c n' c' => Lib.run_eql_slice_nil w _ _ a n c n' c' Tryz.underlying87
  go_enter Tryz.func68, Tryz.ntmps68
  go_wp2_with fail
  all_goals go_ret
  all_goals exact ⟨rfl, rfl⟩
set_option maxHeartbeats 2000000 in
set_option maxRecDepth 100000 in
theorem list_p {w : World} {sb : Nat} {va : Option Addr} {n vc : Nat} (h : Blk w sb 161 [.slice va n vc, .slice none 0 0, .slice none 0 0, .slice none 0 0, .bool false, .bool false]) :
    Calls Tryz.prog 127 #[.pointer (some ⟨sb, 0, none⟩)] w fun e w' => e = .returned (.agg #[.slice va n vc, .slice none 0 0, .slice none 0 0, .slice none 0 0, .bool false]) ∧ Below w.heap.size w w' := by
  have c0 := h.cell 0
  have c1 := h.cell 1
  have c2 := h.cell 2
  have c3 := h.cell 3
  have c4 := h.cell 4
  have hl := h.lt
  simp only [List.getElem?_cons_zero, List.getElem?_cons_succ] at c0 c1 c2 c3 c4
  have hne : sb ≠ w.heap.size := by omega
  clear h
  go_enter Tryz.func127, Tryz.ntmps127
  go_wp2_with fail
  exact bodyPost_ret (v := .agg #[.slice va n vc, .slice none 0 0, .slice none 0 0, .slice none 0 0, .bool false]) (by simp [results, Tryz.results127, go_sem]) rfl ⟨rfl, bl_alloc (Below.refl _ _) _⟩
set_option maxHeartbeats 2000000 in
set_option maxRecDepth 100000 in
theorem nth_p {w : World} {base : Nat} {va : Option Addr} {vc : Nat} (C : List Value) (hC : C.length = 21) (h1 : ∀ u ∈ C, u.oneCell' = true) (ho : w.ownsRow base 168 21 (.slice va 1 vc) 1 C) :
    Calls Tryz.prog 126 #[.slice va 1 vc, .int .i64 0] w fun e w' => e = .returned (.tuple #[.agg C.toArray, .bool true]) ∧ Below w.heap.size w w' := by
  obtain ⟨g, c, e, _, _, _, hcell⟩ := own_at ho (by omega)
  injection e with e1 e2 e3
  subst e1 e3
  obtain ⟨W1, hW1⟩ : ∃ x, w.alloc (.cells cmZ.toArray 168) = x := ⟨_, rfl⟩
  have hb1 : Below w.heap.size w W1 := by rw [← hW1]; exact bl_alloc (Below.refl _ _) _
  have hB1 : Blk W1 w.heap.size 168 cmZ := by rw [← hW1]; exact Blk.new w _ _
  have hgl : g < w.heap.size := World.block_lt_of_cell? w ⟨g, 0, none⟩ (u := C[0]'(by omega)) ((hcell 0 (by omega)).1.trans (List.getElem?_eq_getElem (by omega)))
  have L1 := cmLoad_mid C hC (w := W1) (g := g) (o := 0) (fun j hj => by rw [Nat.zero_add, hb1.cell (p := ⟨g, j, none⟩) hgl]; exact (hcell j (by omega)).1)
  obtain ⟨W2, S1, hB2, hO2⟩ := cmStore_is C hC h1 hB1 rfl
  have L2 := cmLoad_is C hC hB2
  have hb2 := hb1.trans (hO2.below hb1.size (fun k hk => by rw [hk]; exact Nat.le_refl _))
  clear hB1 hB2 hO2 hcell ho
  generalize C.toArray = D at *
  replace hW1 := Lib.hid hW1
  replace hb1 := Lib.hid hb1
  replace hb2 := Lib.hid hb2
  clear hC h1
  go_enter Tryz.func126, Tryz.ntmps126
  go_upto_region 1 with fail
  rw [hW1.out]
  go_wp2_with fail
  exact bodyPost_ret (v := .tuple #[.agg D, .bool true]) (by simp [results, Tryz.results126, ↓load_cm, asAddr, L2, Result.andThen]) rfl ⟨rfl, hb2.out⟩
set_option maxHeartbeats 4000000 in
set_option maxRecDepth 100000 in
theorem cmd_p {w : World} {sb base : Nat} {va : Option Addr} {vc : Nat} (h : Blk w sb 161 [.slice va 1 vc, .slice none 0 0, .slice none 0 0, .slice none 0 0, .bool false, .bool false])
    (ho : w.ownsRow base 168 21 (.slice va 1 vc) 1 (pC 112)) :
    Calls Tryz.prog 96 #[.pointer (some ⟨sb, 0, none⟩), .int .i64 0] w fun e w' => e = .returned (.tuple #[.agg (pC 112).toArray, .bool true]) ∧ Below w.heap.size w w' := by
  have hfd : ∀ (a b c d e : Value) W, (Instr.field 122 (.agg #[a, b, c, d, e]) 0).run Tryz.prog W = .ok a W := fun _ _ _ _ _ _ => by kernel_rfl
  obtain ⟨W1, hW1⟩ : ∃ x, w.alloc (.cells cmZ.toArray 168) = x := ⟨_, rfl⟩
  have hb1 : Below w.heap.size w W1 := by rw [← hW1]; exact bl_alloc (Below.refl _ _) _
  have hB1 : Blk W1 w.heap.size 168 cmZ := by rw [← hW1]; exact Blk.new w _ _
  have hls := Lib.hid (list_p (h.below hb1))
  have hnt := (fun X (hX : Below w.heap.size w X) => nth_p (pC 112) rfl (pC_one 112) (own_only9 ho (Only.of_below (S := fun _ => False) hX) (fun _ h => h.elim)))
  have hnew := fun X => cm_new X (pC 112) rfl (pC_one 112)
  have hld := fun X G (hB : Blk X G 168 (pC 112)) => cmLoad_is (pC 112) rfl hB
  have hst := fun X G (hB : Blk X G 168 cmZ) => cmStore_is (pC 112) rfl (pC_one 112) hB rfl
  obtain ⟨D, hD⟩ : ∃ D, (pC 112).toArray = D := ⟨_, rfl⟩
  rw [hD] at hnt
  simp only [hD] at hnew hld hst
  rw [hD]
  replace hD := Lib.hid hD
  replace hnt := Lib.hid hnt
  replace hnew := Lib.hid hnew
  replace hld := Lib.hid hld
  replace hst := Lib.hid hst
  replace hW1 := Lib.hid hW1
  replace hb1 := Lib.hid hb1
  clear h ho
  go_enter Tryz.func96, Tryz.ntmps96
  go_upto_region 1 with fail
  rw [hW1.out]
  go_upto_region 2 with (first
    | (go_at_call 127; (with_reducible refine hls.out.mono ?_); rintro e w2 ⟨rfl, hb2⟩; have hsz2 := hb2.size; have hb12 := Lib.hid hb2; replace hb2 := Lib.hid (bl_trans hb1.out hb2))
    | (go_at_call 126; (with_reducible refine (hnt.out _ hb2.out).mono ?_); rintro e w3 ⟨rfl, hb3⟩; obtain ⟨w4, S4, hB4, hb4⟩ := hnew.out w3; have hz4 : w3.heap.size + 1 ≤ w4.heap.size := hB4.lt; replace hb3 := Lib.hid hb3))
  have cn : ∀ W, Calls Tryz.prog 29 #[.slice none 0 0] W fun e w' => e = .returned (.slice none 0 0) ∧ w' = W := fun W => (clone_nil29 W).mono fun _ _ h => ⟨h.1, h.2.symm⟩
  have hlt4 : w3.heap.size < w4.heap.size := hz4
  have k6 := hB4.cell 10
  have k15 := hB4.cell 19
  have k16 := hB4.cell 20
  simp only [List.getElem?_cons_zero, List.getElem?_cons_succ] at k6 k15 k16
  replace cn := Lib.hid cn
  refine wp_region_still_tail 10 (by kernel_rfl) (by kernel_rfl) ?_
  simp only [List.take_succ_cons, List.take_zero, List.drop_succ_cons, List.drop_zero]
  iterate 2 still_step
  still_call (cn.out _)
  iterate 2 still_step
  still_call (cn.out _)
  iterate 2 still_step
  still_call (cn.out _)
  still_step
  refine wpStill_nil ?_
  obtain ⟨w5, hw5⟩ : ∃ x, w4.drew = x := ⟨_, rfl⟩
  have hb5 : Below w4.heap.size w4 w5 := by rw [← hw5]; exact bl_drew (Below.refl _ _)
  change wpList _ _ _ _ _ w4.drew
  rw [hw5]
  have hB5 := hB4.below hb5
  have hlt5 := hB5.lt
  clear hw5 k6 k15 k16 S4
  have k6 := hB5.cell 10
  have k13 := hB5.cell 13
  have k15 := hB5.cell 19
  have k16 := hB5.cell 20
  have f6 := hB5.free 10
  have f13 := hB5.free 13
  have f15 := hB5.free 19
  have f16 := hB5.free 20
  simp only [List.getElem?_cons_zero, List.getElem?_cons_succ] at k6 k13 k15 k16
  go_wp2_with (go_at_call 128; (with_reducible refine (clone_nilP _).mono ?_); rintro e wx ⟨rfl, rfl⟩)
  have hB6 : Blk ((((w5.setCell ⟨w3.heap.size, 10, none⟩ (.slice none 0 0)).setCell ⟨w3.heap.size, 19, none⟩ (.slice none 0 0)).setCell ⟨w3.heap.size, 20, none⟩ (.slice none 0 0)).setCell ⟨w3.heap.size, 13, none⟩ (.slice none 0 0)) w3.heap.size 168 (pC 112) :=
    (((hB5.set 10 (.slice none 0 0)).set 19 (.slice none 0 0)).set 20 (.slice none 0 0)).set 13 (.slice none 0 0)
  have hO6 : Only (fun k => k = w3.heap.size) w5 ((((w5.setCell ⟨w3.heap.size, 10, none⟩ (.slice none 0 0)).setCell ⟨w3.heap.size, 19, none⟩ (.slice none 0 0)).setCell ⟨w3.heap.size, 20, none⟩ (.slice none 0 0)).setCell ⟨w3.heap.size, 13, none⟩ (.slice none 0 0)) :=
    ((((Only.refl (fun k => k = w3.heap.size) w5).setCell (p := ⟨w3.heap.size, 10, none⟩) rfl _).setCell (p := ⟨w3.heap.size, 19, none⟩) rfl _).setCell (p := ⟨w3.heap.size, 20, none⟩) rfl _).setCell (p := ⟨w3.heap.size, 13, none⟩) rfl _
  generalize ((((w5.setCell ⟨w3.heap.size, 10, none⟩ (.slice none 0 0)).setCell ⟨w3.heap.size, 19, none⟩ (.slice none 0 0)).setCell ⟨w3.heap.size, 20, none⟩ (.slice none 0 0)).setCell ⟨w3.heap.size, 13, none⟩ (.slice none 0 0)) = w6 at *
  clear k6 k13 k15 k16 f6 f13 f15 f16 hlt5
  have hb46 : Below w4.heap.size w4 w5 := hb5
  have hw3 : w.heap.size + 1 ≤ w3.heap.size := by
    have := hW1.out
    have h1 := hb3.out.size
    have h2 : W1.heap.size ≤ w2.heap.size := hsz2
    rw [← this] at h2
    simp at h2
    omega
  have hb34 : Below w.heap.size w w6 := by
    have h1 := bl_trans (bl_trans hb2.out hb3.out) hb4
    have h2 := bl_trans h1 hb5
    exact h2.trans (hO6.below h2.size (fun k hk => by omega))
  have hrB : Blk w6 w.heap.size 168 cmZ := by
    have e1 : W1.heap.size = w.heap.size + 1 := by rw [← hW1.out]; simp
    have b2 : Blk w2 w.heap.size 168 cmZ := by
      have : Blk W1 w.heap.size 168 cmZ := by rw [← hW1.out]; exact Blk.new w _ _
      exact this.below hb12.out
    have b4 := ((b2.below hb3.out).below hb4).below hb5
    exact b4.only hO6 (by omega)
  have k13 := hB6.cell 13
  simp only [List.getElem?_cons_zero, List.getElem?_cons_succ] at k13
  have L6 := hld.out _ _ hB6
  obtain ⟨w7, S7, hB7, hO7⟩ := hst.out _ _ hrB
  have L7 := hld.out _ _ hB7
  have hb7 := hb34.trans (hO7.below hb34.size (fun k hk => by rw [hk]; exact Nat.le_refl _))
  refine wp_loop_rounds 1 ?_
  rw [rounds_succ]
  go_wp2_with fail
  exact bodyPost_ret (v := .tuple #[.agg D, .bool true]) (by simp [results, Tryz.results96, ↓load_cm, asAddr, L7, Result.andThen]) rfl ⟨rfl, hb7⟩
end Go.Proofs.YtepdfkgadigafaaGreatDoor
