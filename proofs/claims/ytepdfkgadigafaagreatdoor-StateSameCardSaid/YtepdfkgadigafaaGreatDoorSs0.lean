/-
  StateSame, of chapter 20: the walk.
  Conditions: as each theorem states them.
-/
import Derived.Test.YtepdfkgadigafaaGreatDoorSsm
import Derived.Test.YtepdfkgadigafaaGreatDoorMut
import Derived.Test.YtepdfkgadigafaaGreatDoorCpC
import Derived.Deep.LoopGhost
namespace Go.Proofs.YtepdfkgadigafaaGreatDoor
open Go.RowKit Go.Sort
set_option linter.unusedVariables false
set_option linter.unusedSimpArgs false
attribute [local go_sem ↓] load_st store_st
set_option maxHeartbeats 8000000 in
set_option maxRecDepth 100000 in
theorem stateSame_main (w : World) (s s' : StC) (V V' : StV) {lo hi_ lo' hi' : Nat} (h : SIn lo hi_ s V w) (h' : SIn lo' hi' s' V' w) (hp : Pow w) (hk : ScOk V.sc) (hk' : ScOk V'.sc)
    (hfn : ∀ x ∈ V.files, x.1.length ≤ 140737488351232) (hfn' : ∀ x ∈ V'.files, x.1.length ≤ 140737488351232) (hl : LookV V) (hl' : LookV V') :
    Calls Tryz.prog 4 #[.agg s.cells.toArray, .agg s'.cells.toArray] w fun e w' => e = .returned (.bool true) ∧ Below w.heap.size w w' := by
  have hsm := small_of hl.gr
  have hsm' := small_of hl'.gr
  have big := fun (U : StV) (hU : SmallV U) => (⟨Nat.le_trans hU.waits (by decide), fun p hp => Nat.le_trans (hU.wait p hp) (by decide), Nat.le_trans hU.files (by decide), fun p hp => Nat.le_trans (hU.file p hp).1 (by decide)⟩ : U.waits.length ≤ 1000000 ∧ (∀ p ∈ U.waits, p.2.length ≤ 1000000) ∧ U.files.length ≤ 1000000 ∧ ∀ p ∈ U.files, p.2.length ≤ 1000000)
  obtain ⟨u1, u2, u3, u4⟩ := big V hsm
  obtain ⟨t1, t2, t3, t4⟩ := big V' hsm'
  obtain ⟨xs, hxs⟩ : ∃ xs, FM.fieldsS V = xs := ⟨_, rfl⟩
  obtain ⟨ys, hys⟩ : ∃ ys, FM.fieldsS V' = ys := ⟨_, rfl⟩
  have hx10 : xs.length = 10 := by rw [← hxs]; rfl
  have hy10 : ys.length = 10 := by rw [← hys]; rfl
  have lx := hl.len
  have ly := hl'.len
  have hEE := txB_fields hl hl'
  have g1 := fun X (hX : Below w.heap.size w X) => great_sin (h.below hX) hk hfn
  have g2 := fun X (hX : Below w.heap.size w X) => great_sin (h'.below hX) hk' hfn'
  rw [hl.gr] at g1
  rw [hl'.gr] at g2
  have hF1 := fun X (hX : Below w.heap.size w X) => fields_look (h.below hX) (hp.below hX) hl
  have hF2 := fun X (hX : Below w.heap.size w X) => fields_look (h'.below hX) (hp.below hX) hl'
  rw [hxs] at hF1 lx hEE
  rw [hys] at hF2 ly hEE
  have hT := fun X (a b : Option Addr) (c d : Nat) (k1 : TxAt (fun _ => True) false X a xs) (k2 : TxAt (fun _ => True) false X b ys) => texts_any a b xs ys c d X (by omega) (by omega) (fun i hi => by have := lx i hi; omega) (fun i hi => by have := ly i hi; omega) k1 k2
  rw [hx10, hy10, hEE] at hT
  have hR := fun X (hX : Below w.heap.size w X) => same_dec X s s' V V' (h.below hX) (h'.below hX) u1 u2 u3 u4 t1 t2 t3 t4
  have hP1 := fun X (hX : Below w.heap.size w X) => state_same X s s' V V' (h.below hX) (h'.below hX) (hp.below hX) hl hl'
  have hP2 := fun X (hX : Below w.heap.size w X) => state_same X s s V V (h.below hX) (h.below hX) (hp.below hX) hl hl
  have hQ := fun X (q r : StC) (l1 l2 l3 l4 : Nat) (c1 : SIn l1 l2 q V X) (c2 : SIn l3 l4 r V X) => same_dec X q r V V c1 c2 u1 u2 u3 u4 u1 u2 u3 u4
  have hC1 := fun X (q : StC) (l1 l2 : Nat) (c1 : SIn l1 l2 q V X) => copy_any X q V c1 hsm.mid
  rw [decide_eq_true rfl] at hP2 hQ
  obtain ⟨E, hE⟩ : ∃ E, decide (V = V') = E := ⟨_, rfl⟩
  rw [hE] at hT hR hP1
  have haw := fun X => awake20 X
  obtain ⟨W1, hW1⟩ : ∃ W1, (w.alloc (.cells s.cells.toArray 34)).alloc (.cells s'.cells.toArray 34) = W1 := ⟨_, rfl⟩
  have bA : Blk W1 w.heap.size 34 s.cells := by rw [← hW1]; exact (Blk.new w _ _).alloc _
  have bB : Blk W1 (w.heap.size + 1) 34 s'.cells := by rw [← hW1]; simpa using Blk.new (w.alloc (.cells s.cells.toArray 34)) 34 s'.cells
  have hbW : Below w.heap.size w W1 := by rw [← hW1]; exact bl_alloc (bl_alloc (Below.refl _ _) _) _
  have hst := fun X (hX : Below W1.heap.size W1 X) => (⟨stLoad_is s (bA.below hX), stLoad_is s' (bB.below hX)⟩ : (stLoad ⟨w.heap.size, 0, none⟩).run Tryz.prog X = .ok (.agg s.cells.toArray) X ∧ (stLoad ⟨w.heap.size + 1, 0, none⟩).run Tryz.prog X = .ok (.agg s'.cells.toArray) X)
  have hW1s : w.heap.size < W1.heap.size := bA.lt
  obtain ⟨C, hC⟩ : ∃ C, s.cells = C := ⟨_, rfl⟩
  obtain ⟨C', hC'⟩ : ∃ C, s'.cells = C := ⟨_, rfl⟩
  rw [hC] at g1 hF1 hR hP1 hP2 hst hW1 bA ⊢
  rw [hC'] at g2 hF2 hR hP1 hst hW1 ⊢
  clear hp hk hk' hfn' hl' hsm' t1 t2 t3 t4 bB lx ly hxs hys hE hEE hC' h' hl big hx10 hy10
  replace g1 := Lib.hid g1
  replace g2 := Lib.hid g2
  replace hF1 := Lib.hid hF1
  replace hF2 := Lib.hid hF2
  replace hT := Lib.hid hT
  replace hR := Lib.hid hR
  replace hP1 := Lib.hid hP1
  replace hP2 := Lib.hid hP2
  replace hQ := Lib.hid hQ
  replace hC1 := Lib.hid hC1
  replace hst := Lib.hid hst
  replace haw := Lib.hid haw
  replace hW1 := Lib.hid hW1
  replace hbW := Lib.hid hbW
  replace h := Lib.hid h
  replace hfn := Lib.hid hfn
  replace hsm := Lib.hid hsm
  replace hC := Lib.hid hC
  replace bA := Lib.hid bA
  replace u1 := Lib.hid u1
  replace u2 := Lib.hid u2
  replace u4 := Lib.hid u4
  go_enter Tryz.func4, Tryz.ntmps4
  go_upto_region 1 with fail
  rw [hW1.out]
  clear hW1
  have hb := Below.refl W1.heap.size W1
  obtain ⟨L1, L2⟩ := hst.out _ hb
  go_upto_region 4 with (first
    | (go_at_call 7; first
      | ((with_reducible refine (g1.out _ (bl_trans hbW.out hb)).mono ?_); rintro e X1 ⟨rfl, hy⟩; replace hb := bl_trans hb hy; clear hy; obtain ⟨L1, L2⟩ := hst.out _ hb)
      | ((with_reducible refine (g2.out _ (bl_trans hbW.out hb)).mono ?_); rintro e X1 ⟨rfl, hy⟩; replace hb := bl_trans hb hy; clear hy; obtain ⟨L1, L2⟩ := hst.out _ hb))
    | (go_at_call 14; (with_reducible refine (hR.out _ (bl_trans hbW.out hb)).mono ?_); rintro e X3 ⟨rfl, hy⟩; replace hb := bl_trans hb hy; clear hy; clear L1 L2))
  have hbd : Below X3.heap.size X3 X3.drew := bl_drew (Below.refl _ _)
  replace hb := bl_trans hb hbd
  clear hbd
  have hC0 := hst.out _ hb
  refine region_till (fun X => (stLoad ⟨w.heap.size, 0, none⟩).run Tryz.prog X = .ok (.agg C.toArray) X ∧ (stLoad ⟨w.heap.size + 1, 0, none⟩).run Tryz.prog X = .ok (.agg C'.toArray) X) 19 (by kernel_rfl) ?_
  obtain ⟨X4, hX4⟩ : ∃ x, X3.drew = x := ⟨_, rfl⟩
  rw [hX4] at hb hC0 ⊢
  clear hX4
  refine wpAnyT_take (i := 0) (v := (.agg C.toArray)) (some 24) rfl (by kernel_rfl) (by kernel_rfl) (by kernel_rfl) (by kernel_rfl) (fun _ _ _ h => absurd h np_panic) [19, 14, 13, 5, 4, 2] (by kernel_rfl) (by kernel_rfl) (by kernel_rfl) (Or.inl ⟨by rfl, ?_⟩) hC0 ?_
  · intro X hX
    (obtain ⟨x0, x1⟩ := hX; go_simp)
  simp only [Act.put, List.setIfInBounds_toArray, List.set_cons_zero, List.set_cons_succ]
  refine wpAnyT_take (i := 1) (v := (.agg C'.toArray)) (some 25) rfl (by kernel_rfl) (by kernel_rfl) (by kernel_rfl) (by kernel_rfl) (fun _ _ _ h => absurd h np_panic) [19, 14, 13, 5, 4, 2] (by kernel_rfl) (by kernel_rfl) (by kernel_rfl) (Or.inl ⟨by rfl, ?_⟩) hC0 ?_
  · intro X hX
    (obtain ⟨x0, x1⟩ := hX; go_simp)
  simp only [Act.put, List.setIfInBounds_toArray, List.set_cons_zero, List.set_cons_succ]
  refine wpAnyT_take (i := 3) (v := (.bool E)) (some 27) rfl (by kernel_rfl) (by kernel_rfl) (by kernel_rfl) (by kernel_rfl) (fun _ _ _ h => absurd h np_panic) [19, 14, 13, 5, 4] (by kernel_rfl) (by kernel_rfl) (by kernel_rfl) (Or.inl ⟨by rfl, ?_⟩) hC0 ?_
  · intro X hX
    (obtain ⟨x0, x1⟩ := hX; go_simp)
  simp only [Act.put, List.setIfInBounds_toArray, List.set_cons_zero, List.set_cons_succ]
  try simp only [Act.put, List.setIfInBounds_toArray, List.set_cons_zero, List.set_cons_succ]
  refine wpAnyT_ready (rs := [2]) (by kernel_rfl) (by simp) ?_
  refine AllT.cons rfl (fun K hK => ?_) AllT.nil
  go_simp
  (go_at_call 16; (with_reducible refine (hP1.out _ (bl_trans hbW.out hb)).mono ?_); rintro e X5 ⟨rfl, hy⟩)
  replace hb := bl_trans hb hy
  clear hy
  have hC5 := hst.out _ hb
  try simp only [go_sem]
  refine hK.out _ _ (fun _ => hC5) ?_
  clear hK K
  try simp only [Act.put, List.setIfInBounds_toArray, List.set_cons_zero, List.set_cons_succ]
  refine wpAnyT_ready (rs := [4]) (by kernel_rfl) (by simp) ?_
  refine AllT.cons rfl (fun K hK => ?_) AllT.nil
  go_simp
  refine hK.out _ _ (fun _ => hC5) ?_
  clear hK K
  try simp only [Act.put, List.setIfInBounds_toArray, List.set_cons_zero, List.set_cons_succ]
  refine wpAnyT_ready (rs := [5]) (by kernel_rfl) (by simp) ?_
  refine AllT.cons rfl (fun K hK => ?_) AllT.nil
  go_simp
  refine hK.out _ _ (fun _ => hC5) ?_
  clear hK K
  try simp only [Act.put, List.setIfInBounds_toArray, List.set_cons_zero, List.set_cons_succ]
  refine wpAnyT_take (i := 6) (v := (.agg C.toArray)) (some 30) rfl (by kernel_rfl) (by kernel_rfl) (by kernel_rfl) (by kernel_rfl) (fun _ _ _ h => absurd h np_panic) [19, 14, 13, 12, 10, 9, 7] (by kernel_rfl) (by kernel_rfl) (by kernel_rfl) (Or.inl ⟨by rfl, ?_⟩) hC5 ?_
  · intro X hX
    (obtain ⟨x0, x1⟩ := hX; go_simp)
  simp only [Act.put, List.setIfInBounds_toArray, List.set_cons_zero, List.set_cons_succ]
  refine wpAnyT_take (i := 8) (v := (.agg C'.toArray)) (some 32) rfl (by kernel_rfl) (by kernel_rfl) (by kernel_rfl) (by kernel_rfl) (fun _ _ _ h => absurd h np_panic) [19, 14, 13, 12, 10, 9] (by kernel_rfl) (by kernel_rfl) (by kernel_rfl) (Or.inl ⟨by rfl, ?_⟩) hC5 ?_
  · intro X hX
    (obtain ⟨x0, x1⟩ := hX; go_simp)
  simp only [Act.put, List.setIfInBounds_toArray, List.set_cons_zero, List.set_cons_succ]
  refine wpAnyT_take (i := 11) (v := (.bool E)) (some 35) rfl (by kernel_rfl) (by kernel_rfl) (by kernel_rfl) (by kernel_rfl) (fun _ _ _ h => absurd h np_panic) [19, 14, 13, 12] (by kernel_rfl) (by kernel_rfl) (by kernel_rfl) (Or.inl ⟨by rfl, ?_⟩) hC5 ?_
  · intro X hX
    (obtain ⟨x0, x1⟩ := hX; go_simp)
  simp only [Act.put, List.setIfInBounds_toArray, List.set_cons_zero, List.set_cons_succ]
  try simp only [Act.put, List.setIfInBounds_toArray, List.set_cons_zero, List.set_cons_succ]
  refine wpAnyT_ready (rs := [7]) (by kernel_rfl) (by simp) ?_
  refine AllT.cons rfl (fun K hK => ?_) AllT.nil
  go_simp
  (go_at_call 11; (with_reducible refine (hF1.out _ (bl_trans hbW.out hb)).mono ?_); rintro e X6 ⟨fa, fc, rfl, hf6, hy⟩)
  replace hb := bl_trans hb hy
  clear hy
  have hC6 := hst.out _ hb
  try simp only [go_sem]
  refine hK.out _ _ (fun _ => hC6) ?_
  clear hK K
  try simp only [Act.put, List.setIfInBounds_toArray, List.set_cons_zero, List.set_cons_succ]
  refine wpAnyT_ready (rs := [9]) (by kernel_rfl) (by simp) ?_
  refine AllT.cons rfl (fun K hK => ?_) AllT.nil
  go_simp
  (go_at_call 11; (with_reducible refine (hF2.out _ (bl_trans hbW.out hb)).mono ?_); rintro e X7 ⟨ga, gc, rfl, hf7, hy⟩)
  replace hb := bl_trans hb hy
  replace hf6 := hf6.below hy
  clear hy
  have hC7 := hst.out _ hb
  try simp only [go_sem]
  refine hK.out _ _ (fun _ => hC7) ?_
  clear hK K
  try simp only [Act.put, List.setIfInBounds_toArray, List.set_cons_zero, List.set_cons_succ]
  refine wpAnyT_ready (rs := [10]) (by kernel_rfl) (by simp) ?_
  refine AllT.cons rfl (fun K hK => ?_) AllT.nil
  go_simp
  (go_at_call 17; (with_reducible refine (hT.out _ _ _ fc gc hf6 hf7).mono ?_); rintro e X8 ⟨rfl, m8, rfl⟩)
  replace hb := bl_drewN hb m8
  have hC8 := hst.out _ hb
  try simp only [go_sem]
  refine hK.out _ _ (fun _ => hC8) ?_
  clear hK K
  try simp only [Act.put, List.setIfInBounds_toArray, List.set_cons_zero, List.set_cons_succ]
  refine wpAnyT_ready (rs := [12]) (by kernel_rfl) (by simp) ?_
  refine AllT.cons rfl (fun K hK => ?_) AllT.nil
  go_simp
  refine hK.out _ _ (fun _ => hC8) ?_
  clear hK K
  try simp only [Act.put, List.setIfInBounds_toArray, List.set_cons_zero, List.set_cons_succ]
  refine wpAnyT_ready (rs := [13]) (by kernel_rfl) (by simp) ?_
  refine AllT.cons rfl (fun K hK => ?_) AllT.nil
  go_simp
  refine hK.out _ _ (fun _ => hC8) ?_
  clear hK K
  try simp only [Act.put, List.setIfInBounds_toArray, List.set_cons_zero, List.set_cons_succ]
  refine wpAnyT_ready (rs := [14]) (by kernel_rfl) (by simp) ?_
  refine AllT.cons rfl (fun K hK => ?_) AllT.nil
  go_simp
  refine hK.out _ _ (fun _ => hC8) ?_
  clear hK K
  try simp only [Act.put, List.setIfInBounds_toArray, List.set_cons_zero, List.set_cons_succ]
  refine wpAnyT_take (i := 15) (v := (.agg C.toArray)) (some 39) rfl (by kernel_rfl) (by kernel_rfl) (by kernel_rfl) (by kernel_rfl) (fun _ _ _ h => absurd h np_panic) [19, 18, 17] (by kernel_rfl) (by kernel_rfl) (by kernel_rfl) (Or.inl ⟨by rfl, ?_⟩) hC8 ?_
  · intro X hX
    (obtain ⟨x0, x1⟩ := hX; go_simp)
  simp only [Act.put, List.setIfInBounds_toArray, List.set_cons_zero, List.set_cons_succ]
  refine wpAnyT_take (i := 16) (v := (.agg C.toArray)) (some 40) rfl (by kernel_rfl) (by kernel_rfl) (by kernel_rfl) (by kernel_rfl) (fun _ _ _ h => absurd h np_panic) [19, 18, 17] (by kernel_rfl) (by kernel_rfl) (by kernel_rfl) (Or.inl ⟨by rfl, ?_⟩) hC8 ?_
  · intro X hX
    (obtain ⟨x0, x1⟩ := hX; go_simp)
  simp only [Act.put, List.setIfInBounds_toArray, List.set_cons_zero, List.set_cons_succ]
  try simp only [Act.put, List.setIfInBounds_toArray, List.set_cons_zero, List.set_cons_succ]
  refine wpAnyT_ready (rs := [17]) (by kernel_rfl) (by simp) ?_
  refine AllT.cons rfl (fun K hK => ?_) AllT.nil
  go_simp
  (go_at_call 16; (with_reducible refine (hP2.out _ (bl_trans hbW.out hb)).mono ?_); rintro e X9 ⟨rfl, hy⟩)
  replace hb := bl_trans hb hy
  clear hy
  have hC9 := hst.out _ hb
  try simp only [go_sem]
  refine hK.out _ _ (fun _ => hC9) ?_
  clear hK K
  try simp only [Act.put, List.setIfInBounds_toArray, List.set_cons_zero, List.set_cons_succ]
  refine wpAnyT_ready (rs := [18]) (by kernel_rfl) (by simp) ?_
  refine AllT.cons rfl (fun K hK => ?_) AllT.nil
  go_simp
  refine hK.out _ _ (fun _ => hC9) ?_
  clear hK K
  try simp only [Act.put, List.setIfInBounds_toArray, List.set_cons_zero, List.set_cons_succ]
  refine wpAnyT_ready (rs := [19]) (by kernel_rfl) (by simp) ?_
  refine AllT.cons rfl (fun K hK => ?_) AllT.nil
  go_simp
  refine hK.out _ _ (fun h => nomatch (Eq.trans (by kernel_rfl : true = _) h : true = false)) ?_
  clear hK K
  refine wpAnyT_done (by kernel_rfl) ⟨rfl, ?_⟩ _
  clear hC0 hC5 hC6 hC7 hC8 hC9 hf6 hf7
  obtain ⟨L1, L2⟩ := hst.out _ hb
  have hl9 := hb.size
  have hcp := hC1.out X9 s _ _ (h.out.below (bl_trans hbW.out hb))
  rw [hC.out] at hcp
  replace hcp := Lib.hid hcp
  clear hP1 hP2 hT hF1 hF2 hR g1 g2
  go_upto_region 7 with (go_at_call 18; (with_reducible refine hcp.out.mono ?_); rintro e Y0 ⟨sc, rfl, hsc, hy⟩; obtain ⟨Z1, S1, hZ1, hbZ1⟩ := st_new9 Y0 sc; have hsz := hy.size; replace hb := bl_trans (bl_trans hb hy) hbZ1; have hsi1 := Lib.hid (hsc.below hbZ1); obtain ⟨L1, L2⟩ := hst.out _ hb; obtain ⟨D1, hD1⟩ : ∃ D, sc.cells.toArray = D := ⟨_, rfl⟩; rw [hD1] at S1 ⊢; clear hsc hy hbZ1; replace hZ1 := Lib.hid hZ1; replace hD1 := Lib.hid hD1)
  have hcz : Y0.heap.size < Z1.heap.size := hZ1.out.lt
  have L3 := stLoad_is sc hZ1.out
  rw [hD1.out] at L3
  have hcp2 := hC1.out Z1 sc _ _ hsi1.out
  rw [hD1.out] at hcp2
  replace hcp2 := Lib.hid hcp2
  go_upto_region 8 with (go_at_call 18; (with_reducible refine hcp2.out.mono ?_); rintro e Y1 ⟨sd, rfl, hsd, hy⟩; obtain ⟨Z2, S2, hZ2, hbZ2⟩ := st_new9 Y1 sd; have hsz2 := hy.size; replace hb := bl_trans (bl_trans hb hy) hbZ2; have hsi2 := Lib.hid (hsd.below hbZ2); replace hsi1 := Lib.hid ((hsi1.out.below hy).below hbZ2); replace hZ1 := Lib.hid ((hZ1.out.below hy).below hbZ2); obtain ⟨L1, L2⟩ := hst.out _ hb; obtain ⟨D2, hD2⟩ : ∃ D, sd.cells.toArray = D := ⟨_, rfl⟩; rw [hD2] at S2 ⊢; clear hsd hy hbZ2; replace hZ2 := Lib.hid hZ2; replace hD2 := Lib.hid hD2)
  have hdz : Y1.heap.size < Z2.heap.size := hZ2.out.lt
  clear L3
  have L3 := stLoad_is sc hZ1.out
  rw [hD1.out] at L3
  have hsq := hQ.out Z2 sc s _ _ _ _ hsi1.out (h.out.below (bl_trans hbW.out hb))
  rw [hD1.out, hC.out] at hsq
  replace hsq := Lib.hid hsq
  clear S1 S2 hcp hcp2
  go_upto_region 10 with (go_at_call 14; (with_reducible refine hsq.out.mono ?_); rintro e W0 ⟨rfl, hy⟩; have hsz3 := hy.size; replace hb := bl_trans hb hy; replace hsi1 := Lib.hid (hsi1.out.below hy); replace hsi2 := Lib.hid (hsi2.out.below hy); replace hZ1 := Lib.hid (hZ1.out.below hy); replace hZ2 := Lib.hid (hZ2.out.below hy); clear hy)
  clear L1 L2 L3 hsq
  obtain ⟨lo9, hlo9⟩ : ∃ x, X9.heap.size = x := ⟨_, rfl⟩
  obtain ⟨cb, hcb⟩ : ∃ x, Y0.heap.size = x := ⟨_, rfl⟩
  obtain ⟨db, hdb⟩ : ∃ x, Y1.heap.size = x := ⟨_, rfl⟩
  obtain ⟨dl, hdl⟩ : ∃ x, Z1.heap.size = x := ⟨_, rfl⟩
  have h0 : 0 < lo9 := by omega
  have hbI := hsi1.out.top
  rw [hlo9, hcb] at hsi1
  rw [hdl, hdb] at hsi2
  rw [hcb] at hZ1 ⊢
  rw [hdb] at hZ2 ⊢
  rw [hlo9] at hl9 hsz
  rw [hcb] at hsz hcz hbI
  rw [hdb] at hsz2 hdz
  rw [hdl] at hcz hsz2
  clear hlo9 hcb hdb hdl
  have hcB : ∀ (N : Nat) (X : World), Mut lo9 cb N W0 X → Blk X cb 34 sc.cells := fun N X hX => hZ1.out.only hX.only (by omega)
  have A0 : ∀ (N : Nat) (X : World), Mut lo9 cb N W0 X → X.cell? ⟨cb, 0, none⟩ = some (.slice sc.pat.a sc.pat.n sc.pat.c) := fun N X hX => (hcB N X hX).cell 0
  have A25 : ∀ (N : Nat) (X : World), Mut lo9 cb N W0 X → X.cell? ⟨cb, 25, none⟩ = some (.slice sc.files.a sc.files.n sc.files.c) := fun N X hX => (hcB N X hX).cell 25
  have A24 : ∀ (N : Nat) (X : World), Mut lo9 cb N W0 X → X.cell? ⟨cb, 24, none⟩ = some (.slice sc.waits.a sc.waits.n sc.waits.c) := fun N X hX => (hcB N X hX).cell 24
  have A23 : ∀ (N : Nat) (X : World), Mut lo9 cb N W0 X → X.cell? ⟨cb, 23, none⟩ = some (.slice sc.active.a sc.active.n sc.active.c) := fun N X hX => (hcB N X hX).cell 23
  have iP := hsi1.out.pat
  have iF := hsi1.out.files
  have iW := hsi1.out.waits
  have iA := hsi1.out.active
  generalize sc.pat = qp at A0 iP
  generalize sc.files = qf at A25 iF
  generalize sc.waits = qw at A24 iW
  generalize sc.active = qa at A23 iA
  obtain ⟨pa, pn, pc⟩ := qp
  obtain ⟨fa, fn, fc⟩ := qf
  obtain ⟨wa, wn, wc⟩ := qw
  obtain ⟨aa, an, ac⟩ := qa
  obtain ⟨iP1, iP2, iP3, iP4⟩ := iP
  obtain ⟨iF1, iF2, iF3, ss, hss, iF4, iF5⟩ := iF
  obtain ⟨iW1, iW2, iW3, sw, hsw, iW4, iW5⟩ := iW
  obtain ⟨iA1, iA2, iA3, iA4⟩ := iA
  simp only at A0 A25 A24 A23 iP1 iP2 iP4 iF1 iF2 iF4 iW1 iW2 iW4 iA1 iA2 iA4
  replace A0 := Lib.hid A0
  replace A25 := Lib.hid A25
  replace A24 := Lib.hid A24
  replace A23 := Lib.hid A23
  replace iP4 := Lib.hid iP4
  replace iF4 := Lib.hid iF4
  replace iF5 := Lib.hid iF5
  replace iW4 := Lib.hid iW4
  replace iW5 := Lib.hid iW5
  replace iA4 := Lib.hid iA4
  replace iP1 := Lib.hid iP1
  replace iF1 := Lib.hid iF1
  replace iW1 := Lib.hid iW1
  replace iA1 := Lib.hid iA1
  replace hss := Lib.hid hss
  replace hsw := Lib.hid hsw
  clear hcB
  go_wp2_with fail
  go_loopg [8] pn (fun gh v wr => ∃ k : Nat, gh = pn - k ∧ v = .int .i64 (k : Int) ∧ k ≤ pn ∧ Hid (Mut lo9 cb 0 W0 wr))
  case atStart => exact ⟨0, rfl, rfl, Nat.zero_le _, Lib.hid (Mut.refl _ _ _ _)⟩
  case round =>
    obtain ⟨k, rfl, rfl, hk, hM⟩ := hrel
    have d0 := A0.out _ _ hM.out
    by_cases hlt : k < pn
    · obtain ⟨p, o, rfl, h1, h2, hrow⟩ := hM.out.row h0 iP4.out (by rw [bc_len]; have := iP1.out; omega)
      have hkl : k < V.pat.length := by have := iP1.out; omega
      obtain ⟨k1, k2, k3⟩ := hrow k (by rw [bc_len]; exact hkl)
      have e : (Lib.byteCells V.pat)[k]'(by rw [bc_len]; exact hkl) = .int .u8 (V.pat[k].toNat : Int) := by simp [Lib.byteCells]
      rw [e] at k1 k2
      obtain ⟨b, hx⟩ := k2.byte_of
      have hpl := World.block_lt_of_cell? _ _ hx
      have q1 : (k : Int) < (pn : Int) := by omega
      replace k1 := Lib.hid k1
      replace hrow := Lib.hid hrow
      clear k2 e
      go_wp2_with fail
      go_roundg (pn - (k + 1))
      case measure => omega
      case rel => exact ⟨k + 1, rfl, by go_num, by omega, Lib.hid (hM.out.set (Nat.le_refl _) h1 h2 _ hx (by rw [k1.out]; exact .byte _ _))⟩
    · obtain rfl : k = pn := by omega
      have q1 : ¬ ((k : Int) < (k : Int)) := by omega
      clear hlt
      rename World => w1
      go_wp2_with fail
      clear q1 d0
      go_loopg [9, 10] fn (fun gh v u wr => ∃ k : Nat, gh = fn - k ∧ v = .int .i64 (k : Int) ∧ k ≤ fn ∧ Hid (Mut lo9 cb k W0 wr))
      case atStart => exact ⟨0, rfl, rfl, Nat.zero_le _, hM⟩
      case round =>
        clear hM
        obtain ⟨i, rfl, rfl, hi, hM⟩ := hrel
        have d25 := A25.out _ _ hM.out
        by_cases hlt : i < fn
        · have hil : i < V.files.length := by have := iF1.out; omega
          have hsl : i < ss.length := by have := hss.out; omega
          have hcl : (pairCells ((V.files.map fun p => strV p.1).zip ss)).length = V.files.length * 2 := by rw [pairs_len, List.length_zip, List.length_map, hss.out, Nat.min_self]
          obtain ⟨p, o, rfl, h1, h2, hrow⟩ := hM.out.row h0 iF4.out (by rw [hcl]; omega)
          have hzl : i < ((V.files.map fun p => strV p.1).zip ss).length := by rw [List.length_zip, List.length_map]; omega
          obtain ⟨e1, e2⟩ := pairs_get ((V.files.map fun p => strV p.1).zip ss) i hzl
          obtain ⟨k1, k2, k3⟩ := hrow (i * 2) (by rw [hcl]; omega)
          obtain ⟨m1, m2, m3⟩ := hrow (i * 2 + 1) (by rw [hcl]; omega)
          rw [List.getElem?_eq_getElem (by rw [hcl]; omega)] at e1 e2
          rw [Option.some.inj e1] at k1 k2
          rw [Option.some.inj e2] at m1 m2
          simp only [List.getElem_zip, List.getElem_map] at k1 k2 m1 m2
          obtain ⟨t, hx, htl⟩ := k2.text_of
          have hy := m2.slice_of
          have htx := iF5.out i hil hsl
          have hpl := World.block_lt_of_cell? _ _ hx
          have hnm := hfn.out _ (List.getElem_mem hil)
          have hfl := u3
          have hA : t.size ≤ (V.files[i]).1.length + i := by have hh := htl; rw [ba_size] at hh; exact hh
          have hsz9 : t.size ≤ 140737488351232 + 1000000 := by have h5 : (V.files[i]).1.length ≤ 140737488351232 := hnm; have h6 : i < 1000000 := Nat.lt_of_lt_of_le hil hfl; omega
          clear hA
          have q0 : decide ((i : Int) < (fn : Int)) = true := by rw [decide_eq_true_eq]; omega
          have q1 : (i : Int) < (fn : Int) := by omega
          have q2 : ¬ (9223372036854775807 < t.size + 1) := by omega
          replace k1 := Lib.hid k1
          replace m1 := Lib.hid m1
          replace hrow := Lib.hid hrow
          replace htx := Lib.hid htx
          replace htl := Lib.hid htl
          clear k2 m2 m3 e1 e2 hcl hnm
          generalize ss[i] = sb at *
          obtain ⟨ba, bn, bc⟩ := sb
          simp only at hy
          rw [← Nat.add_assoc] at hy
          go_upto_region 17 with fail
          refine wp_region_still_tail 12 (by kernel_rfl) (by kernel_rfl) ?_
          simp only [List.take_succ_cons, List.take_zero, List.drop_succ_cons, List.drop_zero]
          iterate 12 still_step
          refine wpStill_nil ?_
          change wpList _ _ _ _ _ wr.drew
          go_wp2_with fail
          have hM2 := (hM.out.set (Nat.le_succ i) h1 h2 (.string (t ++ ⟨#[120]⟩)) hx (by rw [k1.out]; exact .text _ _ (by have hh := htl.out; rw [ByteArray.size_append, show (⟨#[120]⟩ : ByteArray).size = 1 from rfl]; omega))).drew
          generalize (wr.setCell ⟨p, o + i * 2, none⟩ (.string (t ++ ⟨#[120]⟩))).drew = w2 at hM2 ⊢
          replace hM2 := Lib.hid hM2
          clear hx hy d25 hpl hM k3 hsz9 q0 q1 q2
          go_loopg [10] bn (fun gh v wr => ∃ j : Nat, gh = bn - j ∧ v = .int .i64 (j : Int) ∧ j ≤ bn ∧ Hid (Mut lo9 cb (i + 1) W0 wr))
          case atStart => exact ⟨0, rfl, rfl, Nat.zero_le _, hM2⟩
          case round =>
            clear hM2
            obtain ⟨j, rfl, rfl, hj, hMj⟩ := hrel
            have dA := A25.out _ _ hMj.out
            have hy : wr.cell? ⟨p, o + i * 2 + 1, none⟩ = some (.slice ba bn bc) := by have hh := hMj.out.like p (o + (i * 2 + 1)) h1 h2; rw [m1.out] at hh; exact hh.slice_of
            have q1 : (i : Int) < (fn : Int) := by omega
            have hbn : bn ≤ 140737488351232 := by have hh := htx.out.1; have hh2 := htx.out.2.2.1; simp only at hh; omega
            by_cases hjl : j < bn
            · have hbl : j < (V.files[i]).2.length := by have hh := htx.out.1; simp only at hh; omega
              obtain ⟨p2, o2, rfl, g1, g2, hrow2⟩ := hMj.out.row h0 htx.out.2.2.2 (by rw [bc_len]; omega)
              obtain ⟨x1, x2, x3⟩ := hrow2 j (by rw [bc_len]; exact hbl)
              have e : (Lib.byteCells (V.files[i]).2)[j]'(by rw [bc_len]; exact hbl) = .int .u8 ((V.files[i]).2[j].toNat : Int) := by simp [Lib.byteCells]
              rw [e] at x1 x2
              obtain ⟨b, hx⟩ := x2.byte_of
              have hpl := World.block_lt_of_cell? _ _ hx
              have q2 : (j : Int) < (bn : Int) := by omega
              replace x1 := Lib.hid x1
              replace hrow2 := Lib.hid hrow2
              clear x2 e
              go_wp2_with fail
              go_roundg (bn - (j + 1))
              case measure => omega
              case rel => exact ⟨j + 1, rfl, by go_num, by omega, Lib.hid (hMj.out.set (Nat.le_refl _) g1 g2 _ hx (by rw [x1.out]; exact .byte _ _))⟩
            · obtain rfl : j = bn := by omega
              have q2 : ¬ ((j : Int) < (j : Int)) := by omega
              go_wp2_with fail
              go_roundg (fn - (i + 1))
              case measure => omega
              case rel => exact ⟨i + 1, rfl, by go_num, by omega, hMj⟩
        · obtain rfl : i = fn := by omega
          have q1 : ¬ ((i : Int) < (i : Int)) := by omega
          clear hlt
          go_wp2_with fail
          clear q1 d25
          go_loopg [11, 12] wn (fun gh v u wr => ∃ k : Nat, gh = wn - k ∧ v = .int .i64 (k : Int) ∧ k ≤ wn ∧ Hid (Mut lo9 cb i W0 wr))
          case atStart => exact ⟨0, rfl, rfl, Nat.zero_le _, hM⟩
          case round =>
            clear hM
            obtain ⟨iw, rfl, rfl, hi2, hM⟩ := hrel
            have d24 := A24.out _ _ hM.out
            by_cases hlt : iw < wn
            · have hil : iw < V.waits.length := by have := iW1.out; omega
              have hsl : iw < sw.length := by have := hsw.out; omega
              have hcl : (pairCells ((V.waits.map fun p => kindV p.1).zip sw)).length = V.waits.length * 2 := by rw [pairs_len, List.length_zip, List.length_map, hsw.out, Nat.min_self]
              obtain ⟨p, o, rfl, h1, h2, hrow⟩ := hM.out.row h0 iW4.out (by rw [hcl]; omega)
              have hzl : iw < ((V.waits.map fun p => kindV p.1).zip sw).length := by rw [List.length_zip, List.length_map]; omega
              obtain ⟨e1, e2⟩ := pairs_get ((V.waits.map fun p => kindV p.1).zip sw) iw hzl
              obtain ⟨m1, m2, m3⟩ := hrow (iw * 2 + 1) (by rw [hcl]; omega)
              rw [List.getElem?_eq_getElem (by rw [hcl]; omega)] at e2
              rw [Option.some.inj e2] at m1 m2
              simp only [List.getElem_zip, List.getElem_map] at m1 m2
              have htx := iW5.out iw hil hsl
              have q1 : (iw : Int) < (wn : Int) := by omega
              have q0 : decide ((iw : Int) < (wn : Int)) = true := by rw [decide_eq_true_eq]; omega
              replace m1 := Lib.hid m1
              replace hrow := Lib.hid hrow
              replace htx := Lib.hid htx
              clear m2 m3 e1 e2 hcl
              generalize sw[iw] = sb at *
              obtain ⟨ba, bn, bc⟩ := sb
              go_wp2_with fail
              clear d24 q0 q1
              have hM2 := hM
              clear hM
              go_loopg [12] bn (fun gh v wr => ∃ j : Nat, gh = bn - j ∧ v = .int .i64 (j : Int) ∧ j ≤ bn ∧ Hid (Mut lo9 cb (i) W0 wr))
              case atStart => exact ⟨0, rfl, rfl, Nat.zero_le _, hM2⟩
              case round =>
                clear hM2
                obtain ⟨j, rfl, rfl, hj, hMj⟩ := hrel
                have dA := A24.out _ _ hMj.out
                have hy : wr.cell? ⟨p, o + iw * 2 + 1, none⟩ = some (.slice ba bn bc) := by have hh := hMj.out.like p (o + (iw * 2 + 1)) h1 h2; rw [m1.out] at hh; exact hh.slice_of
                have q1 : (iw : Int) < (wn : Int) := by omega
                have hbn : bn ≤ 140737488351232 := by have hh := htx.out.1; have hh2 := htx.out.2.2.1; simp only at hh; omega
                by_cases hjl : j < bn
                · have hbl : j < (V.waits[iw]).2.length := by have hh := htx.out.1; simp only at hh; omega
                  obtain ⟨p2, o2, rfl, g1, g2, hrow2⟩ := hMj.out.row h0 htx.out.2.2.2 (by rw [bc_len]; omega)
                  obtain ⟨x1, x2, x3⟩ := hrow2 j (by rw [bc_len]; exact hbl)
                  have e : (Lib.byteCells (V.waits[iw]).2)[j]'(by rw [bc_len]; exact hbl) = .int .u8 ((V.waits[iw]).2[j].toNat : Int) := by simp [Lib.byteCells]
                  rw [e] at x1 x2
                  obtain ⟨b, hx⟩ := x2.byte_of
                  have hpl := World.block_lt_of_cell? _ _ hx
                  have q2 : (j : Int) < (bn : Int) := by omega
                  replace x1 := Lib.hid x1
                  replace hrow2 := Lib.hid hrow2
                  clear x2 e
                  go_wp2_with fail
                  go_roundg (bn - (j + 1))
                  case measure => omega
                  case rel => exact ⟨j + 1, rfl, by go_num, by omega, Lib.hid (hMj.out.set (Nat.le_refl _) g1 g2 _ hx (by rw [x1.out]; exact .byte _ _))⟩
                · obtain rfl : j = bn := by omega
                  have q2 : ¬ ((j : Int) < (j : Int)) := by omega
                  go_wp2_with fail
                  go_roundg (wn - (iw + 1))
                  case measure => omega
                  case rel => exact ⟨iw + 1, rfl, by go_num, by omega, hMj⟩
            · obtain rfl : iw = wn := by omega
              have q1 : ¬ ((iw : Int) < (iw : Int)) := by omega
              clear hlt
              go_wp2_with fail
              clear q1 d24
              go_loopg [13] an (fun gh v wr => ∃ k : Nat, gh = an - k ∧ v = .int .i64 (k : Int) ∧ k ≤ an ∧ Hid (Mut lo9 cb i W0 wr))
              case atStart => exact ⟨0, rfl, rfl, Nat.zero_le _, hM⟩
              case round =>
                clear hM
                obtain ⟨ia, rfl, rfl, hi3, hM⟩ := hrel
                have d23 := A23.out _ _ hM.out
                by_cases hlt : ia < an
                · have hil : ia < V.active.length := by have := iA1.out; omega
                  obtain ⟨p, o, rfl, h1, h2, hrow⟩ := hM.out.row h0 iA4.out (by rw [List.length_map]; omega)
                  obtain ⟨m1, m2, m3⟩ := hrow ia (by rw [List.length_map]; exact hil)
                  simp only [List.getElem_map] at m1 m2
                  obtain ⟨b, hx⟩ := m2.truth_of
                  have hpl := World.block_lt_of_cell? _ _ hx
                  have q1 : (ia : Int) < (an : Int) := by omega
                  have q0 : decide ((ia : Int) < (an : Int)) = true := by rw [decide_eq_true_eq]; omega
                  have hbn : an ≤ 140737488351232 := by have := iA1.out; omega
                  replace m1 := Lib.hid m1
                  replace hrow := Lib.hid hrow
                  clear m2
                  go_upto_region 32 with fail
                  refine wp_region_still_tail 10 (by kernel_rfl) (by kernel_rfl) ?_
                  simp only [List.take_succ_cons, List.take_zero, List.drop_succ_cons, List.drop_zero]
                  iterate 10 still_step
                  refine wpStill_nil ?_
                  change wpList _ _ _ _ _ wr.drew
                  go_wp2_with fail
                  go_roundg (an - (ia + 1))
                  case measure => omega
                  case rel => exact ⟨ia + 1, rfl, by go_num, by omega, Lib.hid ((hM.out.set (Nat.le_refl _) h1 h2 _ hx (by rw [m1.out]; exact .truth _ _)).drew)⟩
                · obtain rfl : ia = an := by omega
                  have q1 : ¬ ((ia : Int) < (ia : Int)) := by omega
                  clear hlt
                  have hMo := hM.out.only
                  have hbz := hb.trans (hMo.below (N := W1.heap.size) hb.size (fun k hk => by omega))
                  obtain ⟨L1, L2⟩ := hst.out _ hbz
                  have hd2 := hsi2.out.keep (KeepI.only hMo hsi2.out.top (fun k _ _ => by omega))
                  have L4 := stLoad_is sd (hZ2.out.only hMo (by omega))
                  have hsq2 := hQ.out wr sd s _ _ _ _ hd2 (h.out.below (bl_trans hbW.out hbz))
                  rw [hD2.out] at L4 hsq2
                  rw [hC.out] at hsq2
                  replace hsq2 := Lib.hid hsq2
                  replace hMo := Lib.hid hMo
                  replace hd2 := Lib.hid hd2
                  go_wp2_with (first
                    | (go_at_call 14; (with_reducible refine hsq2.out.mono ?_); rintro e Y4 ⟨rfl, hy⟩; replace hbz := bl_trans hbz hy; clear hy)
                    | (go_at_call 15; (with_reducible refine (haw.out _).mono ?_); rintro e Y5 ⟨rfl, hy⟩; replace hbz := bl_trans hbz hy; clear hy))
                  all_goals go_ret
                  all_goals exact ⟨rfl, bl_trans hbW.out hbz⟩
end Go.Proofs.YtepdfkgadigafaaGreatDoor
