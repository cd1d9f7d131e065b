/-
  state.Same of any two states, of chapter 20.
  Conditions: as each theorem states them.
-/
import Derived.Test.YtepdfkgadigafaaGreatDoorSfd
import Derived.Test.YtepdfkgadigafaaGreatDoorCpB
namespace Go.Proofs.YtepdfkgadigafaaGreatDoor
open Go.RowKit Go.Sort
set_option linter.unusedVariables false
set_option linter.unusedSimpArgs false
attribute [local go_sem ↓] load_st store_st
theorem txB_fields {V V' : StV} (hl : LookV V) (hl' : LookV V') : txB (FM.fieldsS V) (FM.fieldsS V') = decide (V = V') := by
  unfold txB
  rw [decide_eq_decide]
  exact ⟨fun e => FM.fields_inj hl.sc hl.w64 hl'.sc hl'.w64 e, fun e => by rw [e]⟩
set_option maxHeartbeats 4000000 in
set_option maxRecDepth 100000 in
theorem state_same (w : World) (s s' : StC) (V V' : StV) {lo hi_ lo' hi' : Nat} (h : SIn lo hi_ s V w) (h' : SIn lo' hi' s' V' w) (hp : Pow w) (hl : LookV V) (hl' : LookV V') :
    Calls Tryz.prog 16 #[.agg s.cells.toArray, .agg s'.cells.toArray] w fun e w' => e = .returned (.bool (decide (V = V'))) ∧ Below w.heap.size w w' := by
  have hf1 := fun X (hX : Below w.heap.size w X) => fields_look (h.below hX) (hp.below hX) hl
  have hf2 := fun X (hX : Below w.heap.size w X) => fields_look (h'.below hX) (hp.below hX) hl'
  rw [← txB_fields hl hl']
  obtain ⟨W1, hW1⟩ : ∃ W1, (w.alloc (.cells s.cells.toArray 34)).alloc (.cells s'.cells.toArray 34) = W1 := ⟨_, rfl⟩
  have bA : Blk W1 w.heap.size 34 s.cells := by rw [← hW1]; exact (Blk.new w _ _).alloc _
  have bB : Blk W1 (w.heap.size + 1) 34 s'.cells := by rw [← hW1]; simpa using Blk.new (w.alloc (.cells s.cells.toArray 34)) 34 s'.cells
  have hbW : Below w.heap.size w W1 := by rw [← hW1]; exact bl_alloc (bl_alloc (Below.refl _ _) _) _
  have hst := fun X (hX : Below W1.heap.size W1 X) => (⟨stLoad_is s (bA.below hX), stLoad_is s' (bB.below hX)⟩ : (stLoad ⟨w.heap.size, 0, none⟩).run Tryz.prog X = .ok (.agg s.cells.toArray) X ∧ (stLoad ⟨w.heap.size + 1, 0, none⟩).run Tryz.prog X = .ok (.agg s'.cells.toArray) X)
  obtain ⟨C, hC⟩ : ∃ C, s.cells = C := ⟨_, rfl⟩
  obtain ⟨C', hC'⟩ : ∃ C, s'.cells = C := ⟨_, rfl⟩
  rw [hC] at hf1 hst hW1 ⊢
  rw [hC'] at hf2 hst hW1 ⊢
  have hlx := hl.len
  have hly := hl'.len
  obtain ⟨xs, hxs⟩ : ∃ xs, FM.fieldsS V = xs := ⟨_, rfl⟩
  obtain ⟨ys, hys⟩ : ∃ ys, FM.fieldsS V' = ys := ⟨_, rfl⟩
  have hx10 : xs.length = 10 := by rw [← hxs]; rfl
  have hy10 : ys.length = 10 := by rw [← hys]; rfl
  rw [hxs] at hf1 ⊢
  rw [hys] at hf2 ⊢
  have hbt := fun X (a b : Option Addr) (c d : Nat) (k1 : TxAt (fun _ => True) false X a xs) (k2 : TxAt (fun _ => True) false X b ys) => eqtexts_any a b c d xs ys X (by omega) (by omega) k1 k2
  rw [hx10, hy10] at hbt
  generalize txB xs ys = B at *
  clear h h' hp hl hl' hC hC' bA bB hlx hly hxs hys
  replace hf1 := Lib.hid hf1
  replace hf2 := Lib.hid hf2
  replace hst := Lib.hid hst
  replace hbt := Lib.hid hbt
  replace hW1 := Lib.hid hW1
  go_enter Tryz.func16, Tryz.ntmps16
  go_upto_region 1 with fail
  rw [hW1.out]
  have hb0 : Below W1.heap.size W1 W1.drew := bl_drew (Below.refl _ _)
  have hC0 := hst.out _ hb0
  refine region_till (fun X => (stLoad ⟨w.heap.size, 0, none⟩).run Tryz.prog X = .ok (.agg C.toArray) X ∧ (stLoad ⟨w.heap.size + 1, 0, none⟩).run Tryz.prog X = .ok (.agg C'.toArray) X) 5 (by kernel_rfl) ?_
  refine wpAnyT_take (i := 0) (v := (.agg C.toArray)) (some 5) rfl (by kernel_rfl) (by kernel_rfl) (by kernel_rfl) (by kernel_rfl) (fun _ _ _ h => absurd h np_panic) [5] (by kernel_rfl) (by kernel_rfl) (by kernel_rfl) (Or.inl ⟨by rfl, ?_⟩) hC0 ?_
  · intro X hX
    (obtain ⟨x0, x1⟩ := hX; go_simp)
  simp only [Act.put, List.setIfInBounds_toArray, List.set_cons_zero, List.set_cons_succ]
  refine wpAnyT_take (i := 2) (v := (.agg C'.toArray)) (some 7) rfl (by kernel_rfl) (by kernel_rfl) (by kernel_rfl) (by kernel_rfl) (fun _ _ _ h => absurd h np_panic) [5] (by kernel_rfl) (by kernel_rfl) (by kernel_rfl) (Or.inl ⟨by rfl, ?_⟩) hC0 ?_
  · intro X hX
    (obtain ⟨x0, x1⟩ := hX; go_simp)
  simp only [Act.put, List.setIfInBounds_toArray, List.set_cons_zero, List.set_cons_succ]
  refine wpAnyT_ready (rs := [1]) (by kernel_rfl) (by simp) ?_
  refine AllT.cons rfl (fun K hK => ?_) AllT.nil
  go_simp
  (go_at_call 11; (with_reducible refine (hf1.out _ (bl_trans hbW hb0)).mono ?_); rintro e X1 ⟨xa, xc, rfl, hx1, hy1⟩)
  have hb1 := bl_trans hb0 hy1
  have hC1 := hst.out _ hb1
  try simp only [go_sem]
  refine hK.out _ _ (fun _ => hC1) ?_
  clear hK K
  try simp only [Act.put, List.setIfInBounds_toArray, List.set_cons_zero, List.set_cons_succ]
  refine wpAnyT_ready (rs := [3]) (by kernel_rfl) (by simp) ?_
  refine AllT.cons rfl (fun K hK => ?_) AllT.nil
  go_simp
  (go_at_call 11; (with_reducible refine (hf2.out _ (bl_trans hbW hb1)).mono ?_); rintro e X2 ⟨ya, yc, rfl, hx2, hy2⟩)
  have hb2 := bl_trans hb1 hy2
  have hC2 := hst.out _ hb2
  try simp only [go_sem]
  refine hK.out _ _ (fun _ => hC2) ?_
  clear hK K
  try simp only [Act.put, List.setIfInBounds_toArray, List.set_cons_zero, List.set_cons_succ]
  refine wpAnyT_ready (rs := [4]) (by kernel_rfl) (by simp) ?_
  refine AllT.cons rfl (fun K hK => ?_) AllT.nil
  go_simp
  (go_at_call 36; (with_reducible refine (hbt.out _ _ _ _ _ (hx1.below hy2) hx2).mono ?_); rintro e X3 ⟨rfl, rfl⟩)
  try simp only [go_sem]
  refine hK.out _ _ (fun _ => hC2) ?_
  clear hK K
  try simp only [Act.put, List.setIfInBounds_toArray, List.set_cons_zero, List.set_cons_succ]
  refine wpAnyT_ready (rs := [5]) (by kernel_rfl) (by simp) ?_
  refine AllT.cons rfl (fun K hK => ?_) AllT.nil
  go_simp
  refine hK.out _ _ (fun h => nomatch (Eq.trans (by kernel_rfl : true = _) h : true = false)) ?_
  clear hK K
  refine wpAnyT_done (by kernel_rfl) ⟨rfl, ?_⟩ _
  go_wp2_with fail
  all_goals go_ret
  all_goals exact ⟨rfl, bl_trans hbW hb2⟩
end Go.Proofs.YtepdfkgadigafaaGreatDoor
