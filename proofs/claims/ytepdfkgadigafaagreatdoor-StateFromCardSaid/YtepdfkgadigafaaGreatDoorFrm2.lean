/-
  state.From of ten texts; of chapter 20. (Printed by gen_frm2.py.)
  Conditions: as each theorem states them.
-/
import Derived.Test.YtepdfkgadigafaaGreatDoorFrA
import Derived.Deep.LoopGhost
import Derived.Deep.CutBlock
namespace Go.Proofs.YtepdfkgadigafaaGreatDoor
open Go.RowKit Go.Sort
set_option linter.unusedVariables false
set_option linter.unusedSimpArgs false
attribute [local go_sem ↓] load_st store_st
set_option maxHeartbeats 80000000 in
set_option maxRecDepth 100000 in
theorem from_ten (b o c : Nat) (x0 x1 x2 x3 x4 x5 x6 x7 x8 x9 : List UInt8) (a0 a1 a2 a3 a4 a5 a6 a7 a8 a9 : Option Addr) (c0 c1 c2 c3 c4 c5 c6 c7 c8 c9 : Nat) (w : World) (hp : Pow w) (hE : ErrAt w) (hb : b < w.heap.size) (hT : TxAt (fun _ => True) false w (some ⟨b, o, none⟩) [x0, x1, x2, x3, x4, x5, x6, x7, x8, x9])
    (hx : ∀ z ∈ [x0, x1, x2, x3, x4, x5, x6, x7, x8, x9], z.length ≤ 20000) (e0 : w.cell? ⟨b, o, none⟩ = some (.slice a0 x0.length c0)) (k0 : x0.length ≤ c0) (B0 : ByAt (fun _ => True) false w a0 x0) (e1 : w.cell? ⟨b, o + 1, none⟩ = some (.slice a1 x1.length c1)) (k1 : x1.length ≤ c1) (B1 : ByAt (fun _ => True) false w a1 x1) (e2 : w.cell? ⟨b, o + 2, none⟩ = some (.slice a2 x2.length c2)) (k2 : x2.length ≤ c2) (B2 : ByAt (fun _ => True) false w a2 x2) (e3 : w.cell? ⟨b, o + 3, none⟩ = some (.slice a3 x3.length c3)) (k3 : x3.length ≤ c3) (B3 : ByAt (fun _ => True) false w a3 x3) (e4 : w.cell? ⟨b, o + 4, none⟩ = some (.slice a4 x4.length c4)) (k4 : x4.length ≤ c4) (B4 : ByAt (fun _ => True) false w a4 x4) (e5 : w.cell? ⟨b, o + 5, none⟩ = some (.slice a5 x5.length c5)) (k5 : x5.length ≤ c5) (B5 : ByAt (fun _ => True) false w a5 x5) (e6 : w.cell? ⟨b, o + 6, none⟩ = some (.slice a6 x6.length c6)) (k6 : x6.length ≤ c6) (B6 : ByAt (fun _ => True) false w a6 x6) (e7 : w.cell? ⟨b, o + 7, none⟩ = some (.slice a7 x7.length c7)) (k7 : x7.length ≤ c7) (B7 : ByAt (fun _ => True) false w a7 x7) (e8 : w.cell? ⟨b, o + 8, none⟩ = some (.slice a8 x8.length c8)) (k8 : x8.length ≤ c8) (B8 : ByAt (fun _ => True) false w a8 x8) (e9 : w.cell? ⟨b, o + 9, none⟩ = some (.slice a9 x9.length c9)) (k9 : x9.length ≤ c9) (B9 : ByAt (fun _ => True) false w a9 x9) :
    Calls Tryz.prog 13 #[.slice (some ⟨b, o, none⟩) 10 c] w (FromIs (FM.fromS [x0, x1, x2, x3, x4, x5, x6, x7, x8, x9]) w) := by
  obtain ⟨Wa, hWa⟩ : ∃ X, w.alloc (.cells zeroC.cells.toArray 34) = X := ⟨_, rfl⟩
  have hRa : Blk Wa w.heap.size 34 zeroC.cells := by rw [← hWa]; exact Blk.new w _ _
  have hba : Below w.heap.size w Wa := by rw [← hWa]; exact bl_alloc (Below.refl _ _) _
  have hfz := (fields_any Wa zeroC zeroV (zero_sin 0 Wa.heap.size Wa (Nat.le_refl _)) (hp.below hba) ⟨by unfold FM.I64; decide, by unfold FM.I64; decide, by unfold FM.I64; decide, by unfold FM.I64; decide, by unfold FM.I64; decide, by unfold FM.I64; decide, by unfold FM.I64; decide, by unfold FM.I64; decide, by unfold FM.I64; decide, by unfold FM.I64; decide, by unfold FM.I64; decide⟩ (by simp [zeroV]) (zero_small.fit (by simp [zeroV]))).mono (R' := fun e w' => ∃ a c, e = .returned (.slice a 10 c) ∧ Below Wa.heap.size Wa w') (by rintro e w' ⟨a, c, rfl, _, h⟩; exact ⟨a, c, rfl, h⟩)
  unfold zeroC StC.cells at hfz hWa
  simp only [Sl3.v] at hfz hWa
  replace hfz := Lib.hid hfz
  replace hWa := Lib.hid hWa
  replace hx := Lib.hid hx
  replace hT := Lib.hid hT
  obtain ⟨iw, hiw, hw0, hw1, hw2⟩ := info_parts' info_waits
  obtain ⟨jf, hjf, hf0, hf1, hf2⟩ := info_parts' info_files
  go_enter Tryz.func13, Tryz.ntmps13
  go_upto_region 1 with fail
  rw [hWa.out]
  go_upto_region 4 with (go_at_call 11; (with_reducible refine hfz.out.mono ?_); rintro e W1 ⟨az, cz, rfl, hb1⟩)
  have hbw1 := bl_trans hba hb1
  obtain ⟨WB, hWB⟩ : ∃ X, W1.alloc (.cells zeroC.cells.toArray 34) = X := ⟨_, rfl⟩
  obtain ⟨S, hS⟩ : ∃ S, W1.heap.size = S := ⟨_, rfl⟩
  have hF : FrAt w S zeroC.cells WB := by
    rw [← hWB, ← hS]
    exact ⟨Blk.new W1 _ _, (hRa.below hb1).alloc _, bl_alloc hbw1 _, Nat.lt_of_lt_of_le hRa.lt hb1.size⟩
  unfold zeroC StC.cells at hWB hF
  simp only [Sl3.v] at hWB hF
  try simp only [hS]
  rw [hWB]
  clear hWB hWa hRa hba hfz hb1 hbw1
  have hcl := Lib.hid (fun X (h : Below w.heap.size w X) => (⟨(h.cell (p := ⟨b, o, none⟩) hb).trans e0, (h.cell (p := ⟨b, o + 1, none⟩) hb).trans e1, (h.cell (p := ⟨b, o + 2, none⟩) hb).trans e2, (h.cell (p := ⟨b, o + 3, none⟩) hb).trans e3, (h.cell (p := ⟨b, o + 4, none⟩) hb).trans e4, (h.cell (p := ⟨b, o + 5, none⟩) hb).trans e5, (h.cell (p := ⟨b, o + 6, none⟩) hb).trans e6, (h.cell (p := ⟨b, o + 7, none⟩) hb).trans e7, (h.cell (p := ⟨b, o + 8, none⟩) hb).trans e8, (h.cell (p := ⟨b, o + 9, none⟩) hb).trans e9⟩ : X.cell? ⟨b, o, none⟩ = some (.slice a0 x0.length c0) ∧ X.cell? ⟨b, o + 1, none⟩ = some (.slice a1 x1.length c1) ∧ X.cell? ⟨b, o + 2, none⟩ = some (.slice a2 x2.length c2) ∧ X.cell? ⟨b, o + 3, none⟩ = some (.slice a3 x3.length c3) ∧ X.cell? ⟨b, o + 4, none⟩ = some (.slice a4 x4.length c4) ∧ X.cell? ⟨b, o + 5, none⟩ = some (.slice a5 x5.length c5) ∧ X.cell? ⟨b, o + 6, none⟩ = some (.slice a6 x6.length c6) ∧ X.cell? ⟨b, o + 7, none⟩ = some (.slice a7 x7.length c7) ∧ X.cell? ⟨b, o + 8, none⟩ = some (.slice a8 x8.length c8) ∧ X.cell? ⟨b, o + 9, none⟩ = some (.slice a9 x9.length c9)))
  have hcl5 := Lib.hid (fun X (h : Below w.heap.size w X) => (⟨(h.cell (p := ⟨b, o, none⟩) hb).trans e0, (h.cell (p := ⟨b, o + 1, none⟩) hb).trans e1, (h.cell (p := ⟨b, o + 2, none⟩) hb).trans e2, (h.cell (p := ⟨b, o + 3, none⟩) hb).trans e3, (h.cell (p := ⟨b, o + 4, none⟩) hb).trans e4⟩ : X.cell? ⟨b, o, none⟩ = some (.slice a0 x0.length c0) ∧ X.cell? ⟨b, o + 1, none⟩ = some (.slice a1 x1.length c1) ∧ X.cell? ⟨b, o + 2, none⟩ = some (.slice a2 x2.length c2) ∧ X.cell? ⟨b, o + 3, none⟩ = some (.slice a3 x3.length c3) ∧ X.cell? ⟨b, o + 4, none⟩ = some (.slice a4 x4.length c4)))
  clear e0 e1 e2 e3 e4 e5 e6 e7 e8 e9
  have hbS : b < S := Nat.lt_trans hb hF.lt
  have hF0 : FrAt w S [.slice none 0 0, .slice none 0 0, .bool false, .int .i64 0, .bool false, .int .i64 0, .int .i64 0, .int .i64 0, .int .i64 0, .int .i64 0, .slice none 0 0, .slice none 0 0, .bool false, .slice none 0 0, .bool false, .int .i64 0, .int .i64 0, .int .i64 0, .int .i64 0, .int .i64 0, .bool false, .bool false, .bool false, .slice none 0 0, .slice none 0 0, .slice none 0 0, .slice none 0 0] WB.drew := hF.below (bl_drew (Below.refl _ _))
  clear hF
  have hC := hcl5.out _ hF0.old
  refine region_till (fun X => X.cell? ⟨b, o, none⟩ = some (.slice a0 x0.length c0) ∧ X.cell? ⟨b, o + 1, none⟩ = some (.slice a1 x1.length c1) ∧ X.cell? ⟨b, o + 2, none⟩ = some (.slice a2 x2.length c2) ∧ X.cell? ⟨b, o + 3, none⟩ = some (.slice a3 x3.length c3) ∧ X.cell? ⟨b, o + 4, none⟩ = some (.slice a4 x4.length c4)) 29 (by kernel_rfl) ?_
  obtain ⟨P0, eP0⟩ : ∃ P, WB.drew = P := ⟨_, rfl⟩
  rw [eP0] at hF0 hC ⊢
  clear eP0
  refine wpAnyT_take (i := 0) (v := (.slice (some ⟨b, o, none⟩) 10 c)) (some 18) rfl (by kernel_rfl) (by kernel_rfl) (by kernel_rfl) (by kernel_rfl) (fun _ _ _ h => absurd h np_panic) [29] (by kernel_rfl) (by kernel_rfl) (by kernel_rfl) (Or.inl ⟨by rfl, ?_⟩) hC ?_
  · intro X hX
    (obtain ⟨y0, y1, y2, y3, y4⟩ := hX; go_simp)
  simp only [Act.put, List.setIfInBounds_toArray, List.set_cons_zero, List.set_cons_succ]
  refine wpAnyT_take (i := 1) (v := (.pointer (some ⟨b, o, none⟩))) (some 19) rfl (by kernel_rfl) (by kernel_rfl) (by kernel_rfl) (by kernel_rfl) (fun _ _ _ h => absurd h np_panic) [29] (by kernel_rfl) (by kernel_rfl) (by kernel_rfl) (Or.inl ⟨by rfl, ?_⟩) hC ?_
  · intro X hX
    (obtain ⟨y0, y1, y2, y3, y4⟩ := hX; go_simp)
  simp only [Act.put, List.setIfInBounds_toArray, List.set_cons_zero, List.set_cons_succ]
  refine wpAnyT_take (i := 2) (v := (.slice a0 x0.length c0)) (some 20) rfl (by kernel_rfl) (by kernel_rfl) (by kernel_rfl) (by kernel_rfl) (fun _ _ _ h => absurd h np_panic) [29] (by kernel_rfl) (by kernel_rfl) (by kernel_rfl) (Or.inl ⟨by rfl, ?_⟩) hC ?_
  · intro X hX
    (obtain ⟨y0, y1, y2, y3, y4⟩ := hX; go_simp)
  simp only [Act.put, List.setIfInBounds_toArray, List.set_cons_zero, List.set_cons_succ]
  refine wpAnyT_take (i := 3) (v := (.slice (some ⟨b, o, none⟩) 10 c)) (some 21) rfl (by kernel_rfl) (by kernel_rfl) (by kernel_rfl) (by kernel_rfl) (fun _ _ _ h => absurd h np_panic) [29] (by kernel_rfl) (by kernel_rfl) (by kernel_rfl) (Or.inl ⟨by rfl, ?_⟩) hC ?_
  · intro X hX
    (obtain ⟨y0, y1, y2, y3, y4⟩ := hX; go_simp)
  simp only [Act.put, List.setIfInBounds_toArray, List.set_cons_zero, List.set_cons_succ]
  refine wpAnyT_take (i := 4) (v := (.pointer (some ⟨b, o + 1, none⟩))) (some 22) rfl (by kernel_rfl) (by kernel_rfl) (by kernel_rfl) (by kernel_rfl) (fun _ _ _ h => absurd h np_panic) [29] (by kernel_rfl) (by kernel_rfl) (by kernel_rfl) (Or.inl ⟨by rfl, ?_⟩) hC ?_
  · intro X hX
    (obtain ⟨y0, y1, y2, y3, y4⟩ := hX; go_simp)
  simp only [Act.put, List.setIfInBounds_toArray, List.set_cons_zero, List.set_cons_succ]
  refine wpAnyT_take (i := 5) (v := (.slice a1 x1.length c1)) (some 23) rfl (by kernel_rfl) (by kernel_rfl) (by kernel_rfl) (by kernel_rfl) (fun _ _ _ h => absurd h np_panic) [29] (by kernel_rfl) (by kernel_rfl) (by kernel_rfl) (Or.inl ⟨by rfl, ?_⟩) hC ?_
  · intro X hX
    (obtain ⟨y0, y1, y2, y3, y4⟩ := hX; go_simp)
  simp only [Act.put, List.setIfInBounds_toArray, List.set_cons_zero, List.set_cons_succ]
  refine wpAnyT_take (i := 6) (v := (.slice (some ⟨b, o, none⟩) 10 c)) (some 24) rfl (by kernel_rfl) (by kernel_rfl) (by kernel_rfl) (by kernel_rfl) (fun _ _ _ h => absurd h np_panic) [29] (by kernel_rfl) (by kernel_rfl) (by kernel_rfl) (Or.inl ⟨by rfl, ?_⟩) hC ?_
  · intro X hX
    (obtain ⟨y0, y1, y2, y3, y4⟩ := hX; go_simp)
  simp only [Act.put, List.setIfInBounds_toArray, List.set_cons_zero, List.set_cons_succ]
  refine wpAnyT_take (i := 7) (v := (.pointer (some ⟨b, o + 2, none⟩))) (some 25) rfl (by kernel_rfl) (by kernel_rfl) (by kernel_rfl) (by kernel_rfl) (fun _ _ _ h => absurd h np_panic) [29] (by kernel_rfl) (by kernel_rfl) (by kernel_rfl) (Or.inl ⟨by rfl, ?_⟩) hC ?_
  · intro X hX
    (obtain ⟨y0, y1, y2, y3, y4⟩ := hX; go_simp)
  simp only [Act.put, List.setIfInBounds_toArray, List.set_cons_zero, List.set_cons_succ]
  refine wpAnyT_take (i := 8) (v := (.slice a2 x2.length c2)) (some 26) rfl (by kernel_rfl) (by kernel_rfl) (by kernel_rfl) (by kernel_rfl) (fun _ _ _ h => absurd h np_panic) [29] (by kernel_rfl) (by kernel_rfl) (by kernel_rfl) (Or.inl ⟨by rfl, ?_⟩) hC ?_
  · intro X hX
    (obtain ⟨y0, y1, y2, y3, y4⟩ := hX; go_simp)
  simp only [Act.put, List.setIfInBounds_toArray, List.set_cons_zero, List.set_cons_succ]
  refine wpAnyT_take (i := 9) (v := (.slice (some ⟨b, o, none⟩) 10 c)) (some 27) rfl (by kernel_rfl) (by kernel_rfl) (by kernel_rfl) (by kernel_rfl) (fun _ _ _ h => absurd h np_panic) [29] (by kernel_rfl) (by kernel_rfl) (by kernel_rfl) (Or.inl ⟨by rfl, ?_⟩) hC ?_
  · intro X hX
    (obtain ⟨y0, y1, y2, y3, y4⟩ := hX; go_simp)
  simp only [Act.put, List.setIfInBounds_toArray, List.set_cons_zero, List.set_cons_succ]
  refine wpAnyT_take (i := 10) (v := (.pointer (some ⟨b, o + 3, none⟩))) (some 28) rfl (by kernel_rfl) (by kernel_rfl) (by kernel_rfl) (by kernel_rfl) (fun _ _ _ h => absurd h np_panic) [29] (by kernel_rfl) (by kernel_rfl) (by kernel_rfl) (Or.inl ⟨by rfl, ?_⟩) hC ?_
  · intro X hX
    (obtain ⟨y0, y1, y2, y3, y4⟩ := hX; go_simp)
  simp only [Act.put, List.setIfInBounds_toArray, List.set_cons_zero, List.set_cons_succ]
  refine wpAnyT_take (i := 11) (v := (.slice a3 x3.length c3)) (some 29) rfl (by kernel_rfl) (by kernel_rfl) (by kernel_rfl) (by kernel_rfl) (fun _ _ _ h => absurd h np_panic) [29] (by kernel_rfl) (by kernel_rfl) (by kernel_rfl) (Or.inl ⟨by rfl, ?_⟩) hC ?_
  · intro X hX
    (obtain ⟨y0, y1, y2, y3, y4⟩ := hX; go_simp)
  simp only [Act.put, List.setIfInBounds_toArray, List.set_cons_zero, List.set_cons_succ]
  refine wpAnyT_take (i := 12) (v := (.slice (some ⟨b, o, none⟩) 10 c)) (some 30) rfl (by kernel_rfl) (by kernel_rfl) (by kernel_rfl) (by kernel_rfl) (fun _ _ _ h => absurd h np_panic) [29] (by kernel_rfl) (by kernel_rfl) (by kernel_rfl) (Or.inl ⟨by rfl, ?_⟩) hC ?_
  · intro X hX
    (obtain ⟨y0, y1, y2, y3, y4⟩ := hX; go_simp)
  simp only [Act.put, List.setIfInBounds_toArray, List.set_cons_zero, List.set_cons_succ]
  refine wpAnyT_take (i := 13) (v := (.pointer (some ⟨b, o + 4, none⟩))) (some 31) rfl (by kernel_rfl) (by kernel_rfl) (by kernel_rfl) (by kernel_rfl) (fun _ _ _ h => absurd h np_panic) [29] (by kernel_rfl) (by kernel_rfl) (by kernel_rfl) (Or.inl ⟨by rfl, ?_⟩) hC ?_
  · intro X hX
    (obtain ⟨y0, y1, y2, y3, y4⟩ := hX; go_simp)
  simp only [Act.put, List.setIfInBounds_toArray, List.set_cons_zero, List.set_cons_succ]
  refine wpAnyT_take (i := 14) (v := (.slice a4 x4.length c4)) (some 32) rfl (by kernel_rfl) (by kernel_rfl) (by kernel_rfl) (by kernel_rfl) (fun _ _ _ h => absurd h np_panic) [29] (by kernel_rfl) (by kernel_rfl) (by kernel_rfl) (Or.inl ⟨by rfl, ?_⟩) hC ?_
  · intro X hX
    (obtain ⟨y0, y1, y2, y3, y4⟩ := hX; go_simp)
  simp only [Act.put, List.setIfInBounds_toArray, List.set_cons_zero, List.set_cons_succ]
  refine wpAnyT_take (i := 15) (v := (.pointer (some ⟨S, 0, none⟩))) (some 33) rfl (by kernel_rfl) (by kernel_rfl) (by kernel_rfl) (by kernel_rfl) (fun _ _ _ h => absurd h np_panic) [29] (by kernel_rfl) (by kernel_rfl) (by kernel_rfl) (Or.inl ⟨by rfl, ?_⟩) hC ?_
  · intro X hX
    (obtain ⟨y0, y1, y2, y3, y4⟩ := hX; go_simp)
  simp only [Act.put, List.setIfInBounds_toArray, List.set_cons_zero, List.set_cons_succ]
  refine wpAnyT_take (i := 16) (v := (.pointer (some ⟨S, 0, none⟩))) (some 34) rfl (by kernel_rfl) (by kernel_rfl) (by kernel_rfl) (by kernel_rfl) (fun _ _ _ h => absurd h np_panic) [29] (by kernel_rfl) (by kernel_rfl) (by kernel_rfl) (Or.inl ⟨by rfl, ?_⟩) hC ?_
  · intro X hX
    (obtain ⟨y0, y1, y2, y3, y4⟩ := hX; go_simp)
  simp only [Act.put, List.setIfInBounds_toArray, List.set_cons_zero, List.set_cons_succ]
  refine wpAnyT_ready (rs := [17]) (by kernel_rfl) (by simp) ?_
  refine AllT.cons rfl (fun K hK => ?_) AllT.nil
  have kk := hF0.st.cell 0
  have ff := hF0.st.free 0
  have ll := hF0.st.lt
  simp only [List.getElem?_cons_zero, List.getElem?_cons_succ] at kk
  go_simp
  have hF1 : FrAt w S [.slice a0 x0.length c0, .slice none 0 0, .bool false, .int .i64 0, .bool false, .int .i64 0, .int .i64 0, .int .i64 0, .int .i64 0, .int .i64 0, .slice none 0 0, .slice none 0 0, .bool false, .slice none 0 0, .bool false, .int .i64 0, .int .i64 0, .int .i64 0, .int .i64 0, .int .i64 0, .bool false, .bool false, .bool false, .slice none 0 0, .slice none 0 0, .slice none 0 0, .slice none 0 0] (P0.setCell ⟨S, 0, none⟩ (.slice a0 x0.length c0)) := hF0.set 0 (.slice a0 x0.length c0)
  have hC1 := hcl5.out _ hF1.old
  refine hK.out _ _ (fun _ => hC1) ?_
  clear hK K kk ff ll hC hF0
  obtain ⟨P1, eP⟩ : ∃ P, P0.setCell ⟨S, 0, none⟩ (.slice a0 x0.length c0) = P := ⟨_, rfl⟩
  rw [eP] at hF1 hC1 ⊢
  clear eP
  have hC := hC1
  clear hC1
  try simp only [Act.put, List.setIfInBounds_toArray, List.set_cons_zero, List.set_cons_succ]
  refine wpAnyT_take (i := 18) (v := (.pointer (some ⟨S, 0, none⟩))) (some 35) rfl (by kernel_rfl) (by kernel_rfl) (by kernel_rfl) (by kernel_rfl) (fun _ _ _ h => absurd h np_panic) [29] (by kernel_rfl) (by kernel_rfl) (by kernel_rfl) (Or.inl ⟨by rfl, ?_⟩) hC ?_
  · intro X hX
    (obtain ⟨y0, y1, y2, y3, y4⟩ := hX; go_simp)
  simp only [Act.put, List.setIfInBounds_toArray, List.set_cons_zero, List.set_cons_succ]
  refine wpAnyT_take (i := 19) (v := (.pointer (some ⟨S, 1, none⟩))) (some 36) rfl (by kernel_rfl) (by kernel_rfl) (by kernel_rfl) (by kernel_rfl) (fun _ _ _ h => absurd h np_panic) [29] (by kernel_rfl) (by kernel_rfl) (by kernel_rfl) (Or.inl ⟨by rfl, ?_⟩) hC ?_
  · intro X hX
    (obtain ⟨y0, y1, y2, y3, y4⟩ := hX; go_simp)
  simp only [Act.put, List.setIfInBounds_toArray, List.set_cons_zero, List.set_cons_succ]
  refine wpAnyT_ready (rs := [20]) (by kernel_rfl) (by simp) ?_
  refine AllT.cons rfl (fun K hK => ?_) AllT.nil
  have kk := hF1.st.cell 1
  have ff := hF1.st.free 1
  have ll := hF1.st.lt
  simp only [List.getElem?_cons_zero, List.getElem?_cons_succ] at kk
  go_simp
  have hF2 : FrAt w S [.slice a0 x0.length c0, .slice a1 x1.length c1, .bool false, .int .i64 0, .bool false, .int .i64 0, .int .i64 0, .int .i64 0, .int .i64 0, .int .i64 0, .slice none 0 0, .slice none 0 0, .bool false, .slice none 0 0, .bool false, .int .i64 0, .int .i64 0, .int .i64 0, .int .i64 0, .int .i64 0, .bool false, .bool false, .bool false, .slice none 0 0, .slice none 0 0, .slice none 0 0, .slice none 0 0] (P1.setCell ⟨S, 1, none⟩ (.slice a1 x1.length c1)) := hF1.set 1 (.slice a1 x1.length c1)
  have hC2 := hcl5.out _ hF2.old
  refine hK.out _ _ (fun _ => hC2) ?_
  clear hK K kk ff ll hC hF1
  obtain ⟨P2, eP⟩ : ∃ P, P1.setCell ⟨S, 1, none⟩ (.slice a1 x1.length c1) = P := ⟨_, rfl⟩
  rw [eP] at hF2 hC2 ⊢
  clear eP
  have hC := hC2
  clear hC2
  try simp only [Act.put, List.setIfInBounds_toArray, List.set_cons_zero, List.set_cons_succ]
  refine wpAnyT_take (i := 21) (v := (.pointer (some ⟨S, 6, none⟩))) (some 37) rfl (by kernel_rfl) (by kernel_rfl) (by kernel_rfl) (by kernel_rfl) (fun _ _ _ h => absurd h np_panic) [29] (by kernel_rfl) (by kernel_rfl) (by kernel_rfl) (Or.inl ⟨by rfl, ?_⟩) hC ?_
  · intro X hX
    (obtain ⟨y0, y1, y2, y3, y4⟩ := hX; go_simp)
  simp only [Act.put, List.setIfInBounds_toArray, List.set_cons_zero, List.set_cons_succ]
  refine wpAnyT_take (i := 22) (v := (.pointer (some ⟨S, 10, none⟩))) (some 38) rfl (by kernel_rfl) (by kernel_rfl) (by kernel_rfl) (by kernel_rfl) (fun _ _ _ h => absurd h np_panic) [29] (by kernel_rfl) (by kernel_rfl) (by kernel_rfl) (Or.inl ⟨by rfl, ?_⟩) hC ?_
  · intro X hX
    (obtain ⟨y0, y1, y2, y3, y4⟩ := hX; go_simp)
  simp only [Act.put, List.setIfInBounds_toArray, List.set_cons_zero, List.set_cons_succ]
  refine wpAnyT_ready (rs := [23]) (by kernel_rfl) (by simp) ?_
  refine AllT.cons rfl (fun K hK => ?_) AllT.nil
  have kk := hF2.st.cell 10
  have ff := hF2.st.free 10
  have ll := hF2.st.lt
  simp only [List.getElem?_cons_zero, List.getElem?_cons_succ] at kk
  go_simp
  have hF3 : FrAt w S [.slice a0 x0.length c0, .slice a1 x1.length c1, .bool false, .int .i64 0, .bool false, .int .i64 0, .int .i64 0, .int .i64 0, .int .i64 0, .int .i64 0, .slice a2 x2.length c2, .slice none 0 0, .bool false, .slice none 0 0, .bool false, .int .i64 0, .int .i64 0, .int .i64 0, .int .i64 0, .int .i64 0, .bool false, .bool false, .bool false, .slice none 0 0, .slice none 0 0, .slice none 0 0, .slice none 0 0] (P2.setCell ⟨S, 10, none⟩ (.slice a2 x2.length c2)) := hF2.set 10 (.slice a2 x2.length c2)
  have hC3 := hcl5.out _ hF3.old
  refine hK.out _ _ (fun _ => hC3) ?_
  clear hK K kk ff ll hC hF2
  obtain ⟨P3, eP⟩ : ∃ P, P2.setCell ⟨S, 10, none⟩ (.slice a2 x2.length c2) = P := ⟨_, rfl⟩
  rw [eP] at hF3 hC3 ⊢
  clear eP
  have hC := hC3
  clear hC3
  try simp only [Act.put, List.setIfInBounds_toArray, List.set_cons_zero, List.set_cons_succ]
  refine wpAnyT_take (i := 24) (v := (.pointer (some ⟨S, 11, none⟩))) (some 39) rfl (by kernel_rfl) (by kernel_rfl) (by kernel_rfl) (by kernel_rfl) (fun _ _ _ h => absurd h np_panic) [29] (by kernel_rfl) (by kernel_rfl) (by kernel_rfl) (Or.inl ⟨by rfl, ?_⟩) hC ?_
  · intro X hX
    (obtain ⟨y0, y1, y2, y3, y4⟩ := hX; go_simp)
  simp only [Act.put, List.setIfInBounds_toArray, List.set_cons_zero, List.set_cons_succ]
  refine wpAnyT_take (i := 25) (v := (.pointer (some ⟨S, 11, none⟩))) (some 40) rfl (by kernel_rfl) (by kernel_rfl) (by kernel_rfl) (by kernel_rfl) (fun _ _ _ h => absurd h np_panic) [29] (by kernel_rfl) (by kernel_rfl) (by kernel_rfl) (Or.inl ⟨by rfl, ?_⟩) hC ?_
  · intro X hX
    (obtain ⟨y0, y1, y2, y3, y4⟩ := hX; go_simp)
  simp only [Act.put, List.setIfInBounds_toArray, List.set_cons_zero, List.set_cons_succ]
  refine wpAnyT_ready (rs := [26]) (by kernel_rfl) (by simp) ?_
  refine AllT.cons rfl (fun K hK => ?_) AllT.nil
  have kk := hF3.st.cell 11
  have ff := hF3.st.free 11
  have ll := hF3.st.lt
  simp only [List.getElem?_cons_zero, List.getElem?_cons_succ] at kk
  go_simp
  have hF4 : FrAt w S [.slice a0 x0.length c0, .slice a1 x1.length c1, .bool false, .int .i64 0, .bool false, .int .i64 0, .int .i64 0, .int .i64 0, .int .i64 0, .int .i64 0, .slice a2 x2.length c2, .slice a3 x3.length c3, .bool false, .slice none 0 0, .bool false, .int .i64 0, .int .i64 0, .int .i64 0, .int .i64 0, .int .i64 0, .bool false, .bool false, .bool false, .slice none 0 0, .slice none 0 0, .slice none 0 0, .slice none 0 0] (P3.setCell ⟨S, 11, none⟩ (.slice a3 x3.length c3)) := hF3.set 11 (.slice a3 x3.length c3)
  have hC4 := hcl5.out _ hF4.old
  refine hK.out _ _ (fun _ => hC4) ?_
  clear hK K kk ff ll hC hF3
  obtain ⟨P4, eP⟩ : ∃ P, P3.setCell ⟨S, 11, none⟩ (.slice a3 x3.length c3) = P := ⟨_, rfl⟩
  rw [eP] at hF4 hC4 ⊢
  clear eP
  have hC := hC4
  clear hC4
  try simp only [Act.put, List.setIfInBounds_toArray, List.set_cons_zero, List.set_cons_succ]
  refine wpAnyT_take (i := 27) (v := (.pointer (some ⟨S, 11, none⟩))) (some 41) rfl (by kernel_rfl) (by kernel_rfl) (by kernel_rfl) (by kernel_rfl) (fun _ _ _ h => absurd h np_panic) [28, 29] (by kernel_rfl) (by kernel_rfl) (by kernel_rfl) (Or.inl ⟨by rfl, ?_⟩) hC ?_
  · intro X hX
    (obtain ⟨y0, y1, y2, y3, y4⟩ := hX; go_simp)
  simp only [Act.put, List.setIfInBounds_toArray, List.set_cons_zero, List.set_cons_succ]
  refine wpAnyT_take (i := 28) (v := (.pointer (some ⟨S, 13, none⟩))) (some 42) rfl (by kernel_rfl) (by kernel_rfl) (by kernel_rfl) (by kernel_rfl) (fun _ _ _ h => absurd h np_panic) [29] (by kernel_rfl) (by kernel_rfl) (by kernel_rfl) (Or.inl ⟨by rfl, ?_⟩) hC ?_
  · intro X hX
    (obtain ⟨y0, y1, y2, y3, y4⟩ := hX; go_simp)
  simp only [Act.put, List.setIfInBounds_toArray, List.set_cons_zero, List.set_cons_succ]
  refine wpAnyT_ready (rs := [29]) (by kernel_rfl) (by simp) ?_
  refine AllT.cons rfl (fun K hK => ?_) AllT.nil
  have kk := hF4.st.cell 13
  have ff := hF4.st.free 13
  have ll := hF4.st.lt
  simp only [List.getElem?_cons_zero, List.getElem?_cons_succ] at kk
  go_simp
  have hF5 : FrAt w S [.slice a0 x0.length c0, .slice a1 x1.length c1, .bool false, .int .i64 0, .bool false, .int .i64 0, .int .i64 0, .int .i64 0, .int .i64 0, .int .i64 0, .slice a2 x2.length c2, .slice a3 x3.length c3, .bool false, .slice a4 x4.length c4, .bool false, .int .i64 0, .int .i64 0, .int .i64 0, .int .i64 0, .int .i64 0, .bool false, .bool false, .bool false, .slice none 0 0, .slice none 0 0, .slice none 0 0, .slice none 0 0] (P4.setCell ⟨S, 13, none⟩ (.slice a4 x4.length c4)) := hF4.set 13 (.slice a4 x4.length c4)
  have hC5 := hcl5.out _ hF5.old
  refine hK.out _ _ (fun h => nomatch (Eq.trans (by kernel_rfl : true = _) h : true = false)) ?_
  clear hK K kk ff ll hC hF4
  obtain ⟨P5, eP⟩ : ∃ P, P4.setCell ⟨S, 13, none⟩ (.slice a4 x4.length c4) = P := ⟨_, rfl⟩
  rw [eP] at hF5 hC5 ⊢
  clear eP
  have hC := hC5
  clear hC5
  try simp only [Act.put, List.setIfInBounds_toArray, List.set_cons_zero, List.set_cons_succ]
  refine wpAnyT_done (by kernel_rfl) ⟨rfl, ?_⟩ _
  clear hC
  have hcl67 := Lib.hid (fun X (h : Below w.heap.size w X) => (⟨(hcl.out X h).2.2.2.2.2.2.1, (hcl.out X h).2.2.2.2.2.2.2.1⟩ : X.cell? ⟨b, o + 6, none⟩ = some (.slice a6 x6.length c6) ∧ X.cell? ⟨b, o + 7, none⟩ = some (.slice a7 x7.length c7)))
  have hx6 : x6.length ≤ 20000 := hx.out _ (by simp)
  have hx7 : x7.length ≤ 20000 := hx.out _ (by simp)
  have hx5 : x5.length ≤ 20000 := hx.out _ (by simp)
  go_upto_region 5 with fail
  refine region_till (fun X => X.cell? ⟨b, o + 6, none⟩ = some (.slice a6 x6.length c6) ∧ X.cell? ⟨b, o + 7, none⟩ = some (.slice a7 x7.length c7)) 11 (by kernel_rfl) ?_
  have hF6 : FrAt w S [.slice a0 x0.length c0, .slice a1 x1.length c1, .bool false, .int .i64 0, .bool false, .int .i64 0, .int .i64 0, .int .i64 0, .int .i64 0, .int .i64 0, .slice a2 x2.length c2, .slice a3 x3.length c3, .bool false, .slice a4 x4.length c4, .bool false, .int .i64 0, .int .i64 0, .int .i64 0, .int .i64 0, .int .i64 0, .bool false, .bool false, .bool false, .slice none 0 0, .slice none 0 0, .slice none 0 0, .slice none 0 0] P5.drew := hF5.below (bl_drew (Below.refl _ _))
  clear hF5
  have hC := hcl67.out _ hF6.old
  obtain ⟨P6, eP6⟩ : ∃ P, P5.drew = P := ⟨_, rfl⟩
  rw [eP6] at hF6 hC ⊢
  clear eP6
  refine wpAnyT_take (i := 0) (v := (.slice (some ⟨b, o, none⟩) 10 c)) (some 43) rfl (by kernel_rfl) (by kernel_rfl) (by kernel_rfl) (by kernel_rfl) (fun _ _ _ h => absurd h np_panic) [11] (by kernel_rfl) (by kernel_rfl) (by kernel_rfl) (Or.inl ⟨by rfl, ?_⟩) hC ?_
  · intro X hX
    (obtain ⟨y0, y1⟩ := hX; go_simp)
  simp only [Act.put, List.setIfInBounds_toArray, List.set_cons_zero, List.set_cons_succ]
  refine wpAnyT_take (i := 1) (v := (.pointer (some ⟨b, o + 6, none⟩))) (some 44) rfl (by kernel_rfl) (by kernel_rfl) (by kernel_rfl) (by kernel_rfl) (fun _ _ _ h => absurd h np_panic) [11] (by kernel_rfl) (by kernel_rfl) (by kernel_rfl) (Or.inl ⟨by rfl, ?_⟩) hC ?_
  · intro X hX
    (obtain ⟨y0, y1⟩ := hX; go_simp)
  simp only [Act.put, List.setIfInBounds_toArray, List.set_cons_zero, List.set_cons_succ]
  refine wpAnyT_take (i := 2) (v := (.slice a6 x6.length c6)) (some 45) rfl (by kernel_rfl) (by kernel_rfl) (by kernel_rfl) (by kernel_rfl) (fun _ _ _ h => absurd h np_panic) [11] (by kernel_rfl) (by kernel_rfl) (by kernel_rfl) (Or.inl ⟨by rfl, ?_⟩) hC ?_
  · intro X hX
    (obtain ⟨y0, y1⟩ := hX; go_simp)
  simp only [Act.put, List.setIfInBounds_toArray, List.set_cons_zero, List.set_cons_succ]
  refine wpAnyT_take (i := 4) (v := (.slice (some ⟨b, o, none⟩) 10 c)) (some 47) rfl (by kernel_rfl) (by kernel_rfl) (by kernel_rfl) (by kernel_rfl) (fun _ _ _ h => absurd h np_panic) [11] (by kernel_rfl) (by kernel_rfl) (by kernel_rfl) (Or.inl ⟨by rfl, ?_⟩) hC ?_
  · intro X hX
    (obtain ⟨y0, y1⟩ := hX; go_simp)
  simp only [Act.put, List.setIfInBounds_toArray, List.set_cons_zero, List.set_cons_succ]
  refine wpAnyT_take (i := 5) (v := (.pointer (some ⟨b, o + 7, none⟩))) (some 48) rfl (by kernel_rfl) (by kernel_rfl) (by kernel_rfl) (by kernel_rfl) (fun _ _ _ h => absurd h np_panic) [11] (by kernel_rfl) (by kernel_rfl) (by kernel_rfl) (Or.inl ⟨by rfl, ?_⟩) hC ?_
  · intro X hX
    (obtain ⟨y0, y1⟩ := hX; go_simp)
  simp only [Act.put, List.setIfInBounds_toArray, List.set_cons_zero, List.set_cons_succ]
  refine wpAnyT_take (i := 6) (v := (.slice a7 x7.length c7)) (some 49) rfl (by kernel_rfl) (by kernel_rfl) (by kernel_rfl) (by kernel_rfl) (fun _ _ _ h => absurd h np_panic) [11] (by kernel_rfl) (by kernel_rfl) (by kernel_rfl) (Or.inl ⟨by rfl, ?_⟩) hC ?_
  · intro X hX
    (obtain ⟨y0, y1⟩ := hX; go_simp)
  simp only [Act.put, List.setIfInBounds_toArray, List.set_cons_zero, List.set_cons_succ]
  refine wpAnyT_ready (rs := [3]) (by kernel_rfl) (by simp) ?_
  refine AllT.cons rfl (fun K hK => ?_) AllT.nil
  go_simp
  (go_at_call 32; (with_reducible refine (truths_any a6 c6 x6 _ (by omega) (B6.below hF6.old)).mono ?_); rintro e Y1 ⟨v1, rfl, ho1, hy1⟩)
  obtain ⟨⟨va, vn, vc⟩, rfl, hT1⟩ := bl_own ho1 (by simp [FM.truths]; omega)
  obtain rfl : vn = _ := hT1.1
  have hFa := hF6.below hy1
  have hCa := hcl67.out _ hFa.old
  try simp only [go_sem]
  refine hK.out _ _ (fun _ => hCa) ?_
  clear hK K ho1
  try simp only [Act.put, List.setIfInBounds_toArray, List.set_cons_zero, List.set_cons_succ]
  refine wpAnyT_take (i := 8) (v := (.pointer (some ⟨S, 23, none⟩))) (some 51) rfl (by kernel_rfl) (by kernel_rfl) (by kernel_rfl) (by kernel_rfl) (fun _ _ _ h => absurd h np_panic) [11] (by kernel_rfl) (by kernel_rfl) (by kernel_rfl) (Or.inl ⟨by rfl, ?_⟩) hCa ?_
  · intro X hX
    (obtain ⟨y0, y1⟩ := hX; go_simp)
  simp only [Act.put, List.setIfInBounds_toArray, List.set_cons_zero, List.set_cons_succ]
  refine wpAnyT_ready (rs := [7]) (by kernel_rfl) (by simp) ?_
  refine AllT.cons rfl (fun K hK => ?_) AllT.nil
  go_simp
  (go_at_call 32; (with_reducible refine (truths_any a7 c7 x7 _ (by omega) (B7.below hFa.old)).mono ?_); rintro e Y2 ⟨v2, rfl, ho2, hy2⟩)
  obtain ⟨⟨ua, un, uc⟩, rfl, hT2⟩ := bl_own ho2 (by simp [FM.truths]; omega)
  obtain rfl : un = _ := hT2.1
  have hFb := hFa.below hy2
  have hCb := hcl67.out _ hFb.old
  have hT1b := hT1.keep (KeepI.below hy2 (Nat.le_refl _))
  have hlS := hF6.st.lt
  have hly1 := hy1.size
  have hly2 := hy2.size
  try simp only [go_sem]
  refine hK.out _ _ (fun _ => hCb) ?_
  clear hK K ho2 hT1 hFa hCa hC hF6
  try simp only [Act.put, List.setIfInBounds_toArray, List.set_cons_zero, List.set_cons_succ]
  refine wpAnyT_ready (rs := [9]) (by kernel_rfl) (by simp) ?_
  refine AllT.cons rfl (fun K hK => ?_) AllT.nil
  have kk := hFb.st.cell 23
  have ff := hFb.st.free 23
  have ll := hFb.st.lt
  simp only [List.getElem?_cons_zero, List.getElem?_cons_succ] at kk
  go_simp
  have hFc : FrAt w S [.slice a0 x0.length c0, .slice a1 x1.length c1, .bool false, .int .i64 0, .bool false, .int .i64 0, .int .i64 0, .int .i64 0, .int .i64 0, .int .i64 0, .slice a2 x2.length c2, .slice a3 x3.length c3, .bool false, .slice a4 x4.length c4, .bool false, .int .i64 0, .int .i64 0, .int .i64 0, .int .i64 0, .int .i64 0, .bool false, .bool false, .bool false, .slice va (FM.truths x6).length vc, .slice none 0 0, .slice none 0 0, .slice none 0 0] (Y2.setCell ⟨S, 23, none⟩ (.slice va (FM.truths x6).length vc)) := hFb.set 23 (.slice va (FM.truths x6).length vc)
  have hCc := hcl67.out _ hFc.old
  have hoc : Only (fun k => k = S) Y2 (Y2.setCell ⟨S, 23, none⟩ (.slice va (FM.truths x6).length vc)) := (Only.refl (fun k => k = S) Y2).setCell (p := ⟨S, 23, none⟩) rfl _
  refine hK.out _ _ (fun _ => hCc) ?_
  clear hK K kk ff ll hCb hFb
  obtain ⟨Pc, eP⟩ : ∃ P, Y2.setCell ⟨S, 23, none⟩ (.slice va (FM.truths x6).length vc) = P := ⟨_, rfl⟩
  rw [eP] at hFc hCc hoc ⊢
  clear eP
  try simp only [Act.put, List.setIfInBounds_toArray, List.set_cons_zero, List.set_cons_succ]
  refine wpAnyT_take (i := 10) (v := (.pointer (some ⟨S, 26, none⟩))) (some 52) rfl (by kernel_rfl) (by kernel_rfl) (by kernel_rfl) (by kernel_rfl) (fun _ _ _ h => absurd h np_panic) [11] (by kernel_rfl) (by kernel_rfl) (by kernel_rfl) (Or.inl ⟨by rfl, ?_⟩) hCc ?_
  · intro X hX
    (obtain ⟨y0, y1⟩ := hX; go_simp)
  simp only [Act.put, List.setIfInBounds_toArray, List.set_cons_zero, List.set_cons_succ]
  refine wpAnyT_ready (rs := [11]) (by kernel_rfl) (by simp) ?_
  refine AllT.cons rfl (fun K hK => ?_) AllT.nil
  have kk := hFc.st.cell 26
  have ff := hFc.st.free 26
  have ll := hFc.st.lt
  simp only [List.getElem?_cons_zero, List.getElem?_cons_succ] at kk
  go_simp
  have hFd : FrAt w S [.slice a0 x0.length c0, .slice a1 x1.length c1, .bool false, .int .i64 0, .bool false, .int .i64 0, .int .i64 0, .int .i64 0, .int .i64 0, .int .i64 0, .slice a2 x2.length c2, .slice a3 x3.length c3, .bool false, .slice a4 x4.length c4, .bool false, .int .i64 0, .int .i64 0, .int .i64 0, .int .i64 0, .int .i64 0, .bool false, .bool false, .bool false, .slice va (FM.truths x6).length vc, .slice none 0 0, .slice none 0 0, .slice ua (FM.truths x7).length uc] (Pc.setCell ⟨S, 26, none⟩ (.slice ua (FM.truths x7).length uc)) := hFc.set 26 (.slice ua (FM.truths x7).length uc)
  have hod := hoc.setCell (p := ⟨S, 26, none⟩) rfl (.slice ua (FM.truths x7).length uc)
  refine hK.out _ _ (fun h => nomatch (Eq.trans (by kernel_rfl : true = _) h : true = false)) ?_
  clear hK K kk ff ll hCc hFc hoc
  obtain ⟨Pd, eP⟩ : ∃ P, Pc.setCell ⟨S, 26, none⟩ (.slice ua (FM.truths x7).length uc) = P := ⟨_, rfl⟩
  rw [eP] at hFd hod ⊢
  clear eP
  try simp only [Act.put, List.setIfInBounds_toArray, List.set_cons_zero, List.set_cons_succ]
  refine wpAnyT_done (by kernel_rfl) ⟨rfl, ?_⟩ _
  have hT1d := hT1b.keep (KeepI.only hod (Nat.le_trans (Nat.le_refl _) (by omega)) (fun k h1 h2 => by omega))
  have hT2d := hT2.keep (KeepI.only hod (Nat.le_refl _) (fun k h1 h2 => by omega))
  have hzd := hod.size
  clear hT1b hT2 hod
  have hcv := run_conv (B5.below hFd.old) 22 5 9 Tryz.underlying22 Tryz.underlying5 Tryz.underlying9 c5
  have q5 := (hcl.out _ hFd.old).2.2.2.2.2.1
  go_upto_region 8 with fail
  obtain ⟨p, hpd⟩ : ∃ p, Pd.heap.size = p := ⟨_, rfl⟩
  obtain ⟨W7, hW7⟩ : ∃ X, (Pd.alloc (.cells #[strV x5, .bool false] 75)).alloc (.cells #[.pointer (some ⟨Pd.heap.size, 0, none⟩)] 73) = X := ⟨_, rfl⟩
  have hbd7 : Below Pd.heap.size Pd W7 := by rw [← hW7]; exact bl_alloc (bl_alloc (Below.refl _ _) _) _
  have hN0 : NextAt (p + 1) p (FM.it 0 (x5, false)) W7 := by
    refine ⟨?_, ?_, (hE.below (bl_trans hFd.old hbd7))⟩
    · rw [← hW7, ← hpd]; simpa using Blk.new (Pd.alloc (.cells #[strV x5, .bool false] 75)) 73 [.pointer (some ⟨Pd.heap.size, 0, none⟩)]
    · rw [← hW7, ← hpd]; exact (Blk.new Pd 75 [strV x5, .bool false]).alloc _
  have hF7 := hFd.below hbd7
  have hp7 : p < W7.heap.size := hN0.p.lt
  have hT17 := hT1d.keep (KeepI.below hbd7 (by omega))
  have hT27 := hT2d.keep (KeepI.below hbd7 (by omega))
  have hSp : S < p := by rw [← hpd]; exact hFd.st.lt
  have hgp : 4 < p := by
    obtain ⟨⟨_, h1, _⟩, ⟨_, h2, _⟩⟩ := hE
    have hq : 4 < w.heap.size := World.block_lt_of_cell? w ⟨4, 0, none⟩ h2
    have := hF7.lt
    omega
  have hgS : 4 < S := by
    obtain ⟨⟨_, h1, _⟩, ⟨_, h2, _⟩⟩ := hE
    have hq : 4 < w.heap.size := World.block_lt_of_cell? w ⟨4, 0, none⟩ h2
    have := hF7.lt
    omega
  rw [hpd] at hW7
  try simp only [hpd]
  rw [hW7]
  clear hW7 hbd7 hT1d hT2d hcv q5 hFd
  obtain ⟨r0, hr0⟩ : ∃ r0 : FM.Rd, (x5, false) = r0 := ⟨_, rfl⟩
  rw [hr0] at hN0
  have hrl : r0.1.length ≤ 20000 := by rw [← hr0]; exact hx5
  have hnext : Hid (∀ (k : Nat) (W : World), NextAt (p + 1) p (FM.it k r0) W → Calls Tryz.prog 33 #[.pointer (some ⟨p + 1, 0, none⟩)] W fun e w' => e = .returned (.int .i64 (FM.nv k r0)) ∧ NextAt (p + 1) p (FM.it (k + 1) r0) w' ∧ Only (fun k => k = p) W w') := Lib.hid (fun k W h => next_at h (by omega) (by omega) (by omega) (Nat.le_trans (it_le k r0) (by omega)))
  replace hr0 := Lib.hid hr0
  have hN := hN0
  have hF := hF7
  have hP : Only (fun k => k = p ∨ k = S) W7 W7 := Only.refl _ _
  clear hN0 hF7
  go_upto_region 9 with (go_at_call 33; (with_reducible refine (hnext.out _ _ hN).mono ?_); rintro e wn ⟨rfl, hN2, hO2⟩; simp only [Nat.zero_add, Nat.reduceAdd] at hN2; replace hN := hN2; replace hF := hF.only hO2 (by omega) (by have := hF.lt; omega) (fun k hk => by have := hF.lt; omega); replace hP := hP.trans (hO2.mono (fun k hk => .inl hk)); have kk0 := hF.st.cell 2; have kk1 := hF.st.cell 3; have kk2 := hF.st.cell 4; have kk3 := hF.st.cell 5; simp only [List.getElem?_cons_zero, List.getElem?_cons_succ] at kk0 kk1 kk2 kk3; have ff := hF.st.free; have ll := hF.st.lt)
  have hF2 : FrAt w S [.slice a0 x0.length c0, .slice a1 x1.length c1, .bool (FM.nv 0 r0 == 1), .int .i64 (FM.nv 1 r0), .bool (FM.nv 2 r0 == 1), .int .i64 (FM.nv 3 r0), .int .i64 0, .int .i64 0, .int .i64 0, .int .i64 0, .slice a2 x2.length c2, .slice a3 x3.length c3, .bool false, .slice a4 x4.length c4, .bool false, .int .i64 0, .int .i64 0, .int .i64 0, .int .i64 0, .int .i64 0, .bool false, .bool false, .bool false, .slice va (FM.truths x6).length vc, .slice none 0 0, .slice none 0 0, .slice ua (FM.truths x7).length uc] ((((wn.setCell ⟨S, 2, none⟩ (.bool (FM.nv 0 r0 == 1))).setCell ⟨S, 3, none⟩ (.int .i64 (FM.nv 1 r0))).setCell ⟨S, 4, none⟩ (.bool (FM.nv 2 r0 == 1))).setCell ⟨S, 5, none⟩ (.int .i64 (FM.nv 3 r0))) := ((((hF.set 2 (.bool (FM.nv 0 r0 == 1))).set 3 (.int .i64 (FM.nv 1 r0))).set 4 (.bool (FM.nv 2 r0 == 1))).set 5 (.int .i64 (FM.nv 3 r0)))
  have hP2 := ((((hP.setCell (p := ⟨S, 2, none⟩) (.inr rfl) (.bool (FM.nv 0 r0 == 1))).setCell (p := ⟨S, 3, none⟩) (.inr rfl) (.int .i64 (FM.nv 1 r0))).setCell (p := ⟨S, 4, none⟩) (.inr rfl) (.bool (FM.nv 2 r0 == 1))).setCell (p := ⟨S, 5, none⟩) (.inr rfl) (.int .i64 (FM.nv 3 r0)))
  have hO3 : Only (fun k => k = S) wn ((((wn.setCell ⟨S, 2, none⟩ (.bool (FM.nv 0 r0 == 1))).setCell ⟨S, 3, none⟩ (.int .i64 (FM.nv 1 r0))).setCell ⟨S, 4, none⟩ (.bool (FM.nv 2 r0 == 1))).setCell ⟨S, 5, none⟩ (.int .i64 (FM.nv 3 r0))) := ((((Only.refl (fun k => k = S) wn).setCell (p := ⟨S, 2, none⟩) rfl (.bool (FM.nv 0 r0 == 1))).setCell (p := ⟨S, 3, none⟩) rfl (.int .i64 (FM.nv 1 r0))).setCell (p := ⟨S, 4, none⟩) rfl (.bool (FM.nv 2 r0 == 1))).setCell (p := ⟨S, 5, none⟩) rfl (.int .i64 (FM.nv 3 r0))
  have hN2 := hN.only hO3 (by omega) (by omega) (by have := hF.lt; have := hgp; have hq : 4 < S := hgS; omega) (by have hq : 4 < S := hgS; omega)
  obtain ⟨V8, eV⟩ : ∃ X, ((((wn.setCell ⟨S, 2, none⟩ (.bool (FM.nv 0 r0 == 1))).setCell ⟨S, 3, none⟩ (.int .i64 (FM.nv 1 r0))).setCell ⟨S, 4, none⟩ (.bool (FM.nv 2 r0 == 1))).setCell ⟨S, 5, none⟩ (.int .i64 (FM.nv 3 r0))) = X := ⟨_, rfl⟩
  rw [eV] at hF2 hP2 hN2 ⊢
  clear eV hO3 hF hP hN
  have hF := hF2
  have hP := hP2
  have hN := hN2
  clear hF2 hP2 hN2
  try clear kk0 kk1 kk2 kk3 ff ll hO2
  go_upto_region 10 with (go_at_call 33; (with_reducible refine (hnext.out _ _ hN).mono ?_); rintro e wn ⟨rfl, hN2, hO2⟩; simp only [Nat.zero_add, Nat.reduceAdd] at hN2; replace hN := hN2; replace hF := hF.only hO2 (by omega) (by have := hF.lt; omega) (fun k hk => by have := hF.lt; omega); replace hP := hP.trans (hO2.mono (fun k hk => .inl hk)); have kk0 := hF.st.cell 6; have kk1 := hF.st.cell 7; have kk2 := hF.st.cell 8; have kk3 := hF.st.cell 9; simp only [List.getElem?_cons_zero, List.getElem?_cons_succ] at kk0 kk1 kk2 kk3; have ff := hF.st.free; have ll := hF.st.lt)
  have hF2 : FrAt w S [.slice a0 x0.length c0, .slice a1 x1.length c1, .bool (FM.nv 0 r0 == 1), .int .i64 (FM.nv 1 r0), .bool (FM.nv 2 r0 == 1), .int .i64 (FM.nv 3 r0), .int .i64 (FM.nv 4 r0), .int .i64 (FM.nv 5 r0), .int .i64 (FM.nv 6 r0), .int .i64 (FM.nv 7 r0), .slice a2 x2.length c2, .slice a3 x3.length c3, .bool false, .slice a4 x4.length c4, .bool false, .int .i64 0, .int .i64 0, .int .i64 0, .int .i64 0, .int .i64 0, .bool false, .bool false, .bool false, .slice va (FM.truths x6).length vc, .slice none 0 0, .slice none 0 0, .slice ua (FM.truths x7).length uc] ((((wn.setCell ⟨S, 6, none⟩ (.int .i64 (FM.nv 4 r0))).setCell ⟨S, 7, none⟩ (.int .i64 (FM.nv 5 r0))).setCell ⟨S, 8, none⟩ (.int .i64 (FM.nv 6 r0))).setCell ⟨S, 9, none⟩ (.int .i64 (FM.nv 7 r0))) := ((((hF.set 6 (.int .i64 (FM.nv 4 r0))).set 7 (.int .i64 (FM.nv 5 r0))).set 8 (.int .i64 (FM.nv 6 r0))).set 9 (.int .i64 (FM.nv 7 r0)))
  have hP2 := ((((hP.setCell (p := ⟨S, 6, none⟩) (.inr rfl) (.int .i64 (FM.nv 4 r0))).setCell (p := ⟨S, 7, none⟩) (.inr rfl) (.int .i64 (FM.nv 5 r0))).setCell (p := ⟨S, 8, none⟩) (.inr rfl) (.int .i64 (FM.nv 6 r0))).setCell (p := ⟨S, 9, none⟩) (.inr rfl) (.int .i64 (FM.nv 7 r0)))
  have hO3 : Only (fun k => k = S) wn ((((wn.setCell ⟨S, 6, none⟩ (.int .i64 (FM.nv 4 r0))).setCell ⟨S, 7, none⟩ (.int .i64 (FM.nv 5 r0))).setCell ⟨S, 8, none⟩ (.int .i64 (FM.nv 6 r0))).setCell ⟨S, 9, none⟩ (.int .i64 (FM.nv 7 r0))) := ((((Only.refl (fun k => k = S) wn).setCell (p := ⟨S, 6, none⟩) rfl (.int .i64 (FM.nv 4 r0))).setCell (p := ⟨S, 7, none⟩) rfl (.int .i64 (FM.nv 5 r0))).setCell (p := ⟨S, 8, none⟩) rfl (.int .i64 (FM.nv 6 r0))).setCell (p := ⟨S, 9, none⟩) rfl (.int .i64 (FM.nv 7 r0))
  have hN2 := hN.only hO3 (by omega) (by omega) (by have := hF.lt; have := hgp; have hq : 4 < S := hgS; omega) (by have hq : 4 < S := hgS; omega)
  obtain ⟨V9, eV⟩ : ∃ X, ((((wn.setCell ⟨S, 6, none⟩ (.int .i64 (FM.nv 4 r0))).setCell ⟨S, 7, none⟩ (.int .i64 (FM.nv 5 r0))).setCell ⟨S, 8, none⟩ (.int .i64 (FM.nv 6 r0))).setCell ⟨S, 9, none⟩ (.int .i64 (FM.nv 7 r0))) = X := ⟨_, rfl⟩
  rw [eV] at hF2 hP2 hN2 ⊢
  clear eV hO3 hF hP hN
  have hF := hF2
  have hP := hP2
  have hN := hN2
  clear hF2 hP2 hN2
  try clear kk0 kk1 kk2 kk3 ff ll hO2
  go_upto_region 11 with (go_at_call 33; (with_reducible refine (hnext.out _ _ hN).mono ?_); rintro e wn ⟨rfl, hN2, hO2⟩; simp only [Nat.zero_add, Nat.reduceAdd] at hN2; replace hN := hN2; replace hF := hF.only hO2 (by omega) (by have := hF.lt; omega) (fun k hk => by have := hF.lt; omega); replace hP := hP.trans (hO2.mono (fun k hk => .inl hk)); have kk0 := hF.st.cell 12; have kk1 := hF.st.cell 14; simp only [List.getElem?_cons_zero, List.getElem?_cons_succ] at kk0 kk1; have ff := hF.st.free; have ll := hF.st.lt)
  have hF2 : FrAt w S [.slice a0 x0.length c0, .slice a1 x1.length c1, .bool (FM.nv 0 r0 == 1), .int .i64 (FM.nv 1 r0), .bool (FM.nv 2 r0 == 1), .int .i64 (FM.nv 3 r0), .int .i64 (FM.nv 4 r0), .int .i64 (FM.nv 5 r0), .int .i64 (FM.nv 6 r0), .int .i64 (FM.nv 7 r0), .slice a2 x2.length c2, .slice a3 x3.length c3, .bool (FM.nv 8 r0 == 1), .slice a4 x4.length c4, .bool (FM.nv 9 r0 == 1), .int .i64 0, .int .i64 0, .int .i64 0, .int .i64 0, .int .i64 0, .bool false, .bool false, .bool false, .slice va (FM.truths x6).length vc, .slice none 0 0, .slice none 0 0, .slice ua (FM.truths x7).length uc] ((wn.setCell ⟨S, 12, none⟩ (.bool (FM.nv 8 r0 == 1))).setCell ⟨S, 14, none⟩ (.bool (FM.nv 9 r0 == 1))) := ((hF.set 12 (.bool (FM.nv 8 r0 == 1))).set 14 (.bool (FM.nv 9 r0 == 1)))
  have hP2 := ((hP.setCell (p := ⟨S, 12, none⟩) (.inr rfl) (.bool (FM.nv 8 r0 == 1))).setCell (p := ⟨S, 14, none⟩) (.inr rfl) (.bool (FM.nv 9 r0 == 1)))
  have hO3 : Only (fun k => k = S) wn ((wn.setCell ⟨S, 12, none⟩ (.bool (FM.nv 8 r0 == 1))).setCell ⟨S, 14, none⟩ (.bool (FM.nv 9 r0 == 1))) := ((Only.refl (fun k => k = S) wn).setCell (p := ⟨S, 12, none⟩) rfl (.bool (FM.nv 8 r0 == 1))).setCell (p := ⟨S, 14, none⟩) rfl (.bool (FM.nv 9 r0 == 1))
  have hN2 := hN.only hO3 (by omega) (by omega) (by have := hF.lt; have := hgp; have hq : 4 < S := hgS; omega) (by have hq : 4 < S := hgS; omega)
  obtain ⟨V10, eV⟩ : ∃ X, ((wn.setCell ⟨S, 12, none⟩ (.bool (FM.nv 8 r0 == 1))).setCell ⟨S, 14, none⟩ (.bool (FM.nv 9 r0 == 1))) = X := ⟨_, rfl⟩
  rw [eV] at hF2 hP2 hN2 ⊢
  clear eV hO3 hF hP hN
  have hF := hF2
  have hP := hP2
  have hN := hN2
  clear hF2 hP2 hN2
  try clear kk0 kk1 ff ll hO2
  go_upto_region 12 with (go_at_call 33; (with_reducible refine (hnext.out _ _ hN).mono ?_); rintro e wn ⟨rfl, hN2, hO2⟩; simp only [Nat.zero_add, Nat.reduceAdd] at hN2; replace hN := hN2; replace hF := hF.only hO2 (by omega) (by have := hF.lt; omega) (fun k hk => by have := hF.lt; omega); replace hP := hP.trans (hO2.mono (fun k hk => .inl hk)); have kk0 := hF.st.cell 15; have kk1 := hF.st.cell 16; have kk2 := hF.st.cell 17; have kk3 := hF.st.cell 18; have kk4 := hF.st.cell 19; simp only [List.getElem?_cons_zero, List.getElem?_cons_succ] at kk0 kk1 kk2 kk3 kk4; have ff := hF.st.free; have ll := hF.st.lt)
  have hF2 : FrAt w S [.slice a0 x0.length c0, .slice a1 x1.length c1, .bool (FM.nv 0 r0 == 1), .int .i64 (FM.nv 1 r0), .bool (FM.nv 2 r0 == 1), .int .i64 (FM.nv 3 r0), .int .i64 (FM.nv 4 r0), .int .i64 (FM.nv 5 r0), .int .i64 (FM.nv 6 r0), .int .i64 (FM.nv 7 r0), .slice a2 x2.length c2, .slice a3 x3.length c3, .bool (FM.nv 8 r0 == 1), .slice a4 x4.length c4, .bool (FM.nv 9 r0 == 1), .int .i64 (FM.nv 10 r0), .int .i64 (FM.nv 11 r0), .int .i64 (FM.nv 12 r0), .int .i64 (FM.nv 13 r0), .int .i64 (FM.nv 14 r0), .bool false, .bool false, .bool false, .slice va (FM.truths x6).length vc, .slice none 0 0, .slice none 0 0, .slice ua (FM.truths x7).length uc] (((((wn.setCell ⟨S, 15, none⟩ (.int .i64 (FM.nv 10 r0))).setCell ⟨S, 16, none⟩ (.int .i64 (FM.nv 11 r0))).setCell ⟨S, 17, none⟩ (.int .i64 (FM.nv 12 r0))).setCell ⟨S, 18, none⟩ (.int .i64 (FM.nv 13 r0))).setCell ⟨S, 19, none⟩ (.int .i64 (FM.nv 14 r0))) := (((((hF.set 15 (.int .i64 (FM.nv 10 r0))).set 16 (.int .i64 (FM.nv 11 r0))).set 17 (.int .i64 (FM.nv 12 r0))).set 18 (.int .i64 (FM.nv 13 r0))).set 19 (.int .i64 (FM.nv 14 r0)))
  have hP2 := (((((hP.setCell (p := ⟨S, 15, none⟩) (.inr rfl) (.int .i64 (FM.nv 10 r0))).setCell (p := ⟨S, 16, none⟩) (.inr rfl) (.int .i64 (FM.nv 11 r0))).setCell (p := ⟨S, 17, none⟩) (.inr rfl) (.int .i64 (FM.nv 12 r0))).setCell (p := ⟨S, 18, none⟩) (.inr rfl) (.int .i64 (FM.nv 13 r0))).setCell (p := ⟨S, 19, none⟩) (.inr rfl) (.int .i64 (FM.nv 14 r0)))
  have hO3 : Only (fun k => k = S) wn (((((wn.setCell ⟨S, 15, none⟩ (.int .i64 (FM.nv 10 r0))).setCell ⟨S, 16, none⟩ (.int .i64 (FM.nv 11 r0))).setCell ⟨S, 17, none⟩ (.int .i64 (FM.nv 12 r0))).setCell ⟨S, 18, none⟩ (.int .i64 (FM.nv 13 r0))).setCell ⟨S, 19, none⟩ (.int .i64 (FM.nv 14 r0))) := (((((Only.refl (fun k => k = S) wn).setCell (p := ⟨S, 15, none⟩) rfl (.int .i64 (FM.nv 10 r0))).setCell (p := ⟨S, 16, none⟩) rfl (.int .i64 (FM.nv 11 r0))).setCell (p := ⟨S, 17, none⟩) rfl (.int .i64 (FM.nv 12 r0))).setCell (p := ⟨S, 18, none⟩) rfl (.int .i64 (FM.nv 13 r0))).setCell (p := ⟨S, 19, none⟩) rfl (.int .i64 (FM.nv 14 r0))
  have hN2 := hN.only hO3 (by omega) (by omega) (by have := hF.lt; have := hgp; have hq : 4 < S := hgS; omega) (by have hq : 4 < S := hgS; omega)
  obtain ⟨V11, eV⟩ : ∃ X, (((((wn.setCell ⟨S, 15, none⟩ (.int .i64 (FM.nv 10 r0))).setCell ⟨S, 16, none⟩ (.int .i64 (FM.nv 11 r0))).setCell ⟨S, 17, none⟩ (.int .i64 (FM.nv 12 r0))).setCell ⟨S, 18, none⟩ (.int .i64 (FM.nv 13 r0))).setCell ⟨S, 19, none⟩ (.int .i64 (FM.nv 14 r0))) = X := ⟨_, rfl⟩
  rw [eV] at hF2 hP2 hN2 ⊢
  clear eV hO3 hF hP hN
  have hF := hF2
  have hP := hP2
  have hN := hN2
  clear hF2 hP2 hN2
  try clear kk0 kk1 kk2 kk3 kk4 ff ll hO2
  go_upto_region 13 with (go_at_call 33; (with_reducible refine (hnext.out _ _ hN).mono ?_); rintro e wn ⟨rfl, hN2, hO2⟩; simp only [Nat.zero_add, Nat.reduceAdd] at hN2; replace hN := hN2; replace hF := hF.only hO2 (by omega) (by have := hF.lt; omega) (fun k hk => by have := hF.lt; omega); replace hP := hP.trans (hO2.mono (fun k hk => .inl hk)); have kk0 := hF.st.cell 20; have kk1 := hF.st.cell 21; have kk2 := hF.st.cell 22; simp only [List.getElem?_cons_zero, List.getElem?_cons_succ] at kk0 kk1 kk2; have ff := hF.st.free; have ll := hF.st.lt)
  have hF2 : FrAt w S [.slice a0 x0.length c0, .slice a1 x1.length c1, .bool (FM.nv 0 r0 == 1), .int .i64 (FM.nv 1 r0), .bool (FM.nv 2 r0 == 1), .int .i64 (FM.nv 3 r0), .int .i64 (FM.nv 4 r0), .int .i64 (FM.nv 5 r0), .int .i64 (FM.nv 6 r0), .int .i64 (FM.nv 7 r0), .slice a2 x2.length c2, .slice a3 x3.length c3, .bool (FM.nv 8 r0 == 1), .slice a4 x4.length c4, .bool (FM.nv 9 r0 == 1), .int .i64 (FM.nv 10 r0), .int .i64 (FM.nv 11 r0), .int .i64 (FM.nv 12 r0), .int .i64 (FM.nv 13 r0), .int .i64 (FM.nv 14 r0), .bool (FM.nv 15 r0 == 1), .bool (FM.nv 16 r0 == 1), .bool (FM.nv 17 r0 == 1), .slice va (FM.truths x6).length vc, .slice none 0 0, .slice none 0 0, .slice ua (FM.truths x7).length uc] (((wn.setCell ⟨S, 20, none⟩ (.bool (FM.nv 15 r0 == 1))).setCell ⟨S, 21, none⟩ (.bool (FM.nv 16 r0 == 1))).setCell ⟨S, 22, none⟩ (.bool (FM.nv 17 r0 == 1))) := (((hF.set 20 (.bool (FM.nv 15 r0 == 1))).set 21 (.bool (FM.nv 16 r0 == 1))).set 22 (.bool (FM.nv 17 r0 == 1)))
  have hP2 := (((hP.setCell (p := ⟨S, 20, none⟩) (.inr rfl) (.bool (FM.nv 15 r0 == 1))).setCell (p := ⟨S, 21, none⟩) (.inr rfl) (.bool (FM.nv 16 r0 == 1))).setCell (p := ⟨S, 22, none⟩) (.inr rfl) (.bool (FM.nv 17 r0 == 1)))
  have hO3 : Only (fun k => k = S) wn (((wn.setCell ⟨S, 20, none⟩ (.bool (FM.nv 15 r0 == 1))).setCell ⟨S, 21, none⟩ (.bool (FM.nv 16 r0 == 1))).setCell ⟨S, 22, none⟩ (.bool (FM.nv 17 r0 == 1))) := (((Only.refl (fun k => k = S) wn).setCell (p := ⟨S, 20, none⟩) rfl (.bool (FM.nv 15 r0 == 1))).setCell (p := ⟨S, 21, none⟩) rfl (.bool (FM.nv 16 r0 == 1))).setCell (p := ⟨S, 22, none⟩) rfl (.bool (FM.nv 17 r0 == 1))
  have hN2 := hN.only hO3 (by omega) (by omega) (by have := hF.lt; have := hgp; have hq : 4 < S := hgS; omega) (by have hq : 4 < S := hgS; omega)
  obtain ⟨V12, eV⟩ : ∃ X, (((wn.setCell ⟨S, 20, none⟩ (.bool (FM.nv 15 r0 == 1))).setCell ⟨S, 21, none⟩ (.bool (FM.nv 16 r0 == 1))).setCell ⟨S, 22, none⟩ (.bool (FM.nv 17 r0 == 1))) = X := ⟨_, rfl⟩
  rw [eV] at hF2 hP2 hN2 ⊢
  clear eV hO3 hF hP hN
  have hF := hF2
  have hP := hP2
  have hN := hN2
  clear hF2 hP2 hN2
  try clear kk0 kk1 kk2 ff ll hO2
  have hcvx := run_conv (B8.below hF.old) 22 5 9 Tryz.underlying22 Tryz.underlying5 Tryz.underlying9 c8
  have qx := (hcl.out _ hF.old).2.2.2.2.2.2.2.2.1
  have hx8 : x8.length ≤ 20000 := hx.out _ (by simp)
  go_wp2_with fail
  obtain ⟨p8, hpx⟩ : ∃ q, V12.heap.size = q := ⟨_, rfl⟩
  obtain ⟨V13, hVx⟩ : ∃ X, V12.alloc (.cells #[strV x8, .bool false] 75) = X := ⟨_, rfl⟩
  have hbv : Below V12.heap.size V12 V13 := by rw [← hVx]; exact bl_alloc (Below.refl _ _) _
  have hRd0 : Blk V13 p8 75 [strV x8, .bool false] := by rw [← hVx, ← hpx]; exact Blk.new V12 _ _
  have hFx := hF.below hbv
  have hSx : S < p8 := by rw [← hpx]; exact hF.st.lt
  have hzx : V13.heap.size = p8 + 1 := by rw [← hVx, ← hpx]; simp
  try simp only [hpx]
  rw [hVx]
  clear hVx hF hcvx qx
  replace hzx := Lib.hid hzx
  replace hbv := Lib.hid hbv
  replace hpx := Lib.hid hpx
  replace hFx := Lib.hid hFx
  replace hRd0 := Lib.hid hRd0
  go_loopg [8] (x8.length + 1) (fun gg vk wr => ∃ (gh : Nat) (r : FM.Rd) (acc : List (Int × FM.Bytes)) (row : Value), gg = gh ∧ Hid (FM.rounds FM.waitR FM.waitV gh r acc = FM.wsR x8) ∧ FM.mu r < gh ∧ r.1.length ≤ x8.length ∧ acc.length + FM.mu r ≤ x8.length ∧ Hid (FrAt w S [.slice a0 x0.length c0, .slice a1 x1.length c1, .bool (FM.nv 0 r0 == 1), .int .i64 (FM.nv 1 r0), .bool (FM.nv 2 r0 == 1), .int .i64 (FM.nv 3 r0), .int .i64 (FM.nv 4 r0), .int .i64 (FM.nv 5 r0), .int .i64 (FM.nv 6 r0), .int .i64 (FM.nv 7 r0), .slice a2 x2.length c2, .slice a3 x3.length c3, .bool (FM.nv 8 r0 == 1), .slice a4 x4.length c4, .bool (FM.nv 9 r0 == 1), .int .i64 (FM.nv 10 r0), .int .i64 (FM.nv 11 r0), .int .i64 (FM.nv 12 r0), .int .i64 (FM.nv 13 r0), .int .i64 (FM.nv 14 r0), .bool (FM.nv 15 r0 == 1), .bool (FM.nv 16 r0 == 1), .bool (FM.nv 17 r0 == 1), .slice va (FM.truths x6).length vc, row, .slice none 0 0, .slice ua (FM.truths x7).length uc] wr) ∧ Hid (RowA kindV 52 V13.heap.size row acc wr) ∧ Hid (Blk wr p8 75 [strV r.1, .bool r.2]) ∧ Hid (Only (fun k => k = S ∨ k = p8) V13 wr))
  case atStart => exact ⟨x8.length + 1, (x8, false), [], .slice none 0 0, rfl, Lib.hid rfl, by have := mu_le (x8, false); simp only at this; omega, Nat.le_refl _, by have := mu_le (x8, false); simp only [List.length_nil] at this ⊢; omega, hFx, Lib.hid RowA.nil, hRd0, Lib.hid (Only.refl _ _)⟩
  case round =>
    clear hFx hRd0
    obtain ⟨gh, ⟨s, bad⟩, acc, row, hgg, hR, hmu, hrl8, hcnt, hFr, hRow, hRd, hOn⟩ := hrel
    have rd0 : wr.cell? ⟨p8, 0, none⟩ = some (strV s) := hRd.out.cell 0
    have rd1 : wr.cell? ⟨p8, 1, none⟩ = some (.bool bad) := hRd.out.cell 1
    obtain ⟨wo, hwo⟩ : ∃ X : World, X = wr := ⟨_, rfl⟩
    go_upto_region 14 with fail
    go_cut [148] from 137 to 148 (fun st wx => st = .bool (decide (s ≠ [] ∧ bad = false)) ∧ wo = wx)
    case first =>
      subst hwo
      clear hR hFr hRow hOn
      cases s <;> cases bad
      all_goals go_wp2_with fail
      all_goals go_meet
      all_goals exact ⟨by simp, rfl⟩
    case rest =>
    obtain ⟨rfl, rfl⟩ := hcut
    obtain rfl := hwo
    by_cases hgo : s ≠ [] ∧ bad = false
    · rw [decide_eq_true hgo]
      obtain ⟨hs0, rfl⟩ := hgo
      have hrl9 : s.length ≤ x8.length := hrl8
      have hcn9 : acc.length + FM.mu (s, false) ≤ x8.length := hcnt
      obtain ⟨g, rfl⟩ : ∃ g, gh = g + 1 := ⟨gh - 1, by omega⟩
      have hR2 : FM.rounds FM.waitR FM.waitV g (FM.waitR (s, false)) (acc ++ [FM.waitV (s, false)]) = FM.wsR x8 := by rw [← hR.out, FM.rounds_go hs0 rfl]
      have hmu2 := mu_wait (s, false) hs0 rfl
      have hE1 := hE.below hFr.out.old
      have hpN : p8 < V13.heap.size := by rw [hzx.out]; omega
      have hzw := hOn.out.size
      replace hR2 := Lib.hid hR2
      clear hR
      have hnum := Lib.hid (number_any34 p8 s false wo hRd.out (by omega) hE1)
      have hql : (FM.quoV (FM.numE 34 (s, false))).length + (FM.quoE (FM.numE 34 (s, false))).1.length ≤ (FM.numE 34 (s, false)).1.length := (quo_len (FM.numE 34 (s, false))).1
      have hnl : (FM.numE 34 (s, false)).1.length ≤ s.length := num_len 34 (s, false)
      obtain ⟨M, hM⟩ : ∃ M, FM.numV 34 (s, false) = M := ⟨_, rfl⟩
      rw [hM] at hnum
      go_upto_region 16 with (go_at_call 34; (with_reducible refine hnum.out.mono ?_); rintro e Y ⟨rfl, hRd1, hO1⟩)
      have hF1 := Lib.hid (hFr.out.only hO1 (by omega) (by have := hFr.out.lt; omega) (fun k hk => by have := hFr.out.lt; omega))
      have hRow1 := Lib.hid (hRow.out.only hO1 (fun k hk => by rw [hk]; exact hpN))
      have hOn1 := Lib.hid (hOn.out.trans (hO1.mono (fun k hk => .inr hk)))
      replace hRd1 := Lib.hid hRd1
      clear hFr hRow hOn hO1 hnum rd0 rd1 hRd
      go_upto_region 16 with fail
      have hF2 := hF1.out.below (bl_drew (Below.refl _ _))
      have hRow2 := hRow1.out.below (bl_drew (Below.refl _ _))
      have hRd2 := hRd1.out.drew
      have hOn2 := hOn1.out.drew
      refine region_till (fun X => X.cell? ⟨S, 24, none⟩ = some row) 9 (by kernel_rfl) ?_
      obtain ⟨Z, hZ⟩ : ∃ Z, Y.drew = Z := ⟨_, rfl⟩
      rw [hZ] at hF2 hRow2 hRd2 hOn2 ⊢
      clear hZ
      have hC : Z.cell? ⟨S, 24, none⟩ = some row := hF2.st.cell 24
      refine wpAnyT_take (i := 0) (v := (.pointer (some ⟨S, 24, none⟩))) (some 151) rfl (by kernel_rfl) (by kernel_rfl) (by kernel_rfl) (by kernel_rfl) (fun _ _ _ h => absurd h np_panic) [9] (by kernel_rfl) (by kernel_rfl) (by kernel_rfl) (Or.inl ⟨by rfl, ?_⟩) hC ?_
      · intro X hX
        (have x0 := hX; go_simp)
      simp only [Act.put, List.setIfInBounds_toArray, List.set_cons_zero, List.set_cons_succ]
      refine wpAnyT_take (i := 1) (v := row) (some 152) rfl (by kernel_rfl) (by kernel_rfl) (by kernel_rfl) (by kernel_rfl) (fun _ _ _ h => absurd h np_panic) [9] (by kernel_rfl) (by kernel_rfl) (by kernel_rfl) (Or.inl ⟨by rfl, ?_⟩) hC ?_
      · intro X hX
        (have x0 := hX; go_simp)
      simp only [Act.put, List.setIfInBounds_toArray, List.set_cons_zero, List.set_cons_succ]
      refine wpAnyT_take (i := 2) (v := .int .i64 M) (some 153) rfl (by kernel_rfl) (by kernel_rfl) (by kernel_rfl) (by kernel_rfl) (fun _ _ _ h => absurd h np_panic) [9] (by kernel_rfl) (by kernel_rfl) (by kernel_rfl) (Or.inl ⟨by rfl, ?_⟩) hC ?_
      · intro X hX
        (have x0 := hX; go_simp)
      simp only [Act.put, List.setIfInBounds_toArray, List.set_cons_zero, List.set_cons_succ]
      refine wpAnyT_take (i := 3) (v := (.pointer (some ⟨p8, 0, none⟩))) (some 154) rfl (by kernel_rfl) (by kernel_rfl) (by kernel_rfl) (by kernel_rfl) (fun _ _ _ h => absurd h np_panic) [9] (by kernel_rfl) (by kernel_rfl) (by kernel_rfl) (Or.inl ⟨by rfl, ?_⟩) hC ?_
      · intro X hX
        (have x0 := hX; go_simp)
      simp only [Act.put, List.setIfInBounds_toArray, List.set_cons_zero, List.set_cons_succ]
      refine wpAnyT_ready (rs := [4]) (by kernel_rfl) (by simp) ?_
      refine AllT.cons rfl (fun K hK => ?_) AllT.nil
      go_simp
      (go_at_call 35; (with_reducible refine (rdquote_any p8 _ _ _ hRd2 (by omega)).mono ?_); rintro e Q1 ⟨qv, rfl, hoq, hRd3, hO3⟩)
      obtain ⟨⟨qa, qn, qc⟩, rfl, hqn, _, _⟩ := cells_own hoq
      have hZl := hOn2.size
      have hF3 := hF2.only hO3 (by omega) (by have := hF2.lt; omega) (fun k hk => by have := hF2.lt; omega)
      have hRow3 := hRow2.only hO3 (fun k hk => by rw [hk]; exact hpN)
      have hOn3 := hOn2.trans (hO3.mono (fun k hk => .inr hk))
      have hC3 : Q1.cell? ⟨S, 24, none⟩ = some row := hF3.st.cell 24
      have hoq3 : Q1.ownsRow V13.heap.size 5 1 (.slice qa qn qc) _ (Lib.byteCells _) := own_base hoq (by omega)
      try simp only [go_sem]
      refine hK.out _ _ (fun _ => hC3) ?_
      clear hK K hoq hC
      try simp only [Act.put, List.setIfInBounds_toArray, List.set_cons_zero, List.set_cons_succ]
      refine wpAnyT_ready (rs := [5]) (by kernel_rfl) (by simp) ?_
      refine AllT.cons rfl (fun K hK => ?_) AllT.nil
      go_simp
      refine hK.out _ _ (fun _ => hC3) ?_
      clear hK K
      try simp only [Act.put, List.setIfInBounds_toArray, List.set_cons_zero, List.set_cons_succ]
      refine wpAnyT_ready (rs := [6]) (by kernel_rfl) (by simp) ?_
      refine AllT.cons rfl (fun K hK => ?_) AllT.nil
      have hF4 := hF3.below (bl_alloc (Below.refl _ _) (.cells #[.int .i64 M, .slice qa qn qc] 52))
      have hC4 : (Q1.alloc (.cells #[.int .i64 M, .slice qa qn qc] 52)).cell? ⟨S, 24, none⟩ = some row := hF4.st.cell 24
      go_simp
      refine hK.out _ _ (fun _ => hC4) ?_
      clear hK K
      try simp only [Act.put, List.setIfInBounds_toArray, List.set_cons_zero, List.set_cons_succ]
      have hRow4 := hRow3.below (bl_alloc (Below.refl _ _) (.cells #[.int .i64 M, .slice qa qn qc] 52))
      have hRd4 := hRd3.below (bl_alloc (Below.refl _ _) (.cells #[.int .i64 M, .slice qa qn qc] 52))
      have hOn4 := hOn3.alloc (.cells #[.int .i64 M, .slice qa qn qc] 52)
      have hoq4 := own_below hoq3 (bl_alloc (Below.refl _ _) (.cells #[.int .i64 M, .slice qa qn qc] 52))
      have hn4 : Blk (Q1.alloc (.cells #[.int .i64 M, .slice qa qn qc] 52)) Q1.heap.size 52 [.int .i64 M, .slice qa qn qc] := Blk.new Q1 _ _
      obtain ⟨n1, hn1⟩ : ∃ n, Q1.heap.size = n := ⟨_, rfl⟩
      obtain ⟨Q2, hQ2⟩ : ∃ Q, Q1.alloc (.cells #[.int .i64 M, .slice qa qn qc] 52) = Q := ⟨_, rfl⟩
      rw [hQ2] at hF4 hC4 hRow4 hRd4 hOn4 hoq4 hn4 ⊢
      rw [hn1] at hn4
      try simp only [hn1]
      clear hQ2 hF3 hRow3 hRd3 hOn3 hoq3 hC3
      obtain ⟨ss, g1, g2, g3⟩ := hRow4
      have hVQ := hOn4.size
      refine wpAnyT_ready (rs := [7]) (by kernel_rfl) (by simp) ?_
      refine AllT.cons rfl (fun K hK => ?_) AllT.nil
      rw [if_pos (by rfl)]
      refine wp_append_at8 (.tmp 152) (.tmp 157) 31 (by rfl) V13.heap.size 52 iw _ 2 32 Tryz.underlying31 hiw hw0 hw1 hw2 (by rfl) (by decide) row acc.length _ (by rfl) g2 ⟨n1, 0, none⟩ 1 1 [.int .i64 M, .slice qa qn qc] (by rfl) (fun j u hj => by rw [addr_add, Nat.zero_add, hn4.cell]; exact hj) rfl (by intro u hu; simp only [List.mem_cons, List.mem_nil_iff, or_false] at hu; rcases hu with rfl | rfl <;> rfl) (by unfold maxLen; omega) (by omega) hVQ ?_
      intro v5 w5 ho5 hg5
      obtain ⟨ja, jc, rfl⟩ := own_slice ho5
      have hMv : (.int .i64 M : Value) = kindV (FM.waitV (s, false)).1 := by rw [← hM]; rfl
      have hP5 := RowA.push (f := kindV) (x := FM.waitV (s, false)) (s := ⟨qa, qn, qc⟩) g1 g2 g3 (by decide) hoq4 hg5 (by rw [← hMv]; exact ho5)
      clear hMv
      have hOg : Only (fun k => V13.heap.size ≤ k) Q2 w5 := ⟨hg5.os, hg5.tape, hg5.output, hg5.size, fun k hk hn => hg5.block k hk (fun e => hn (g2.lt k e.symm).1)⟩
      have hSN : S < V13.heap.size := by omega
      have hF5 := hF4.only hOg (by omega) (by have := hF4.lt; omega) (fun k hk => by have := hF4.lt; omega)
      have hRd5 := hRd4.only hOg (by omega)
      have hOn5 : Only (fun k => k = S ∨ k = p8) V13 w5 := ⟨hg5.os.trans hOn4.os, hg5.tape.trans hOn4.tape, hg5.output.trans hOn4.output, Nat.le_trans hOn4.size hg5.size, fun k hk hn => (hOg.block k (Nat.lt_of_lt_of_le hk hOn4.size) (by omega)).trans (hOn4.block k hk hn)⟩
      have hC5 : w5.cell? ⟨S, 24, none⟩ = some row := hF5.st.cell 24
      refine hK.out _ _ (fun _ => hC5) ?_
      clear hK K g1 g2 g3 hoq4 hg5 ho5 hF4 hRd4 hOn4 hC4 hn4 hOg
      try simp only [Act.put, List.setIfInBounds_toArray, List.set_cons_zero, List.set_cons_succ]
      refine wpAnyT_ready (rs := [8]) (by kernel_rfl) (by simp) ?_
      refine AllT.cons rfl (fun K hK => ?_) AllT.nil
      go_simp
      refine hK.out _ _ (fun _ => hC5) ?_
      clear hK K
      try simp only [Act.put, List.setIfInBounds_toArray, List.set_cons_zero, List.set_cons_succ]
      refine wpAnyT_ready (rs := [9]) (by kernel_rfl) (by simp) ?_
      refine AllT.cons rfl (fun K hK => ?_) AllT.nil
      have kk := hF5.st.cell 24
      have ff := hF5.st.free 24
      have ll := hF5.st.lt
      simp only [List.getElem?_cons_zero, List.getElem?_cons_succ] at kk
      go_simp
      refine hK.out _ _ (fun h => nomatch (Eq.trans (by kernel_rfl : true = _) h : true = false)) ?_
      clear hK K kk ff ll
      try simp only [Act.put, List.setIfInBounds_toArray, List.set_cons_zero, List.set_cons_succ]
      refine wpAnyT_done (by kernel_rfl) ⟨rfl, ?_⟩ _
      have hO6 : Only (fun k => k = S) w5 (w5.setCell ⟨S, 24, none⟩ (.slice ja (acc.length + 1) jc)) := (Only.refl (fun k => k = S) w5).setCell (p := ⟨S, 24, none⟩) rfl _
      have hF6 : FrAt w S [.slice a0 x0.length c0, .slice a1 x1.length c1, .bool (FM.nv 0 r0 == 1), .int .i64 (FM.nv 1 r0), .bool (FM.nv 2 r0 == 1), .int .i64 (FM.nv 3 r0), .int .i64 (FM.nv 4 r0), .int .i64 (FM.nv 5 r0), .int .i64 (FM.nv 6 r0), .int .i64 (FM.nv 7 r0), .slice a2 x2.length c2, .slice a3 x3.length c3, .bool (FM.nv 8 r0 == 1), .slice a4 x4.length c4, .bool (FM.nv 9 r0 == 1), .int .i64 (FM.nv 10 r0), .int .i64 (FM.nv 11 r0), .int .i64 (FM.nv 12 r0), .int .i64 (FM.nv 13 r0), .int .i64 (FM.nv 14 r0), .bool (FM.nv 15 r0 == 1), .bool (FM.nv 16 r0 == 1), .bool (FM.nv 17 r0 == 1), .slice va (FM.truths x6).length vc, .slice ja (acc.length + 1) jc, .slice none 0 0, .slice ua (FM.truths x7).length uc] (w5.setCell ⟨S, 24, none⟩ (.slice ja (acc.length + 1) jc)) := hF5.set 24 (.slice ja (acc.length + 1) jc)
      have hP6 := hP5.only hO6 (fun k hk => by rw [hk]; exact hSN)
      have hRd6 := hRd5.only hO6 (by omega)
      have hOn6 := hOn5.setCell (p := ⟨S, 24, none⟩) (.inl rfl) (.slice ja (acc.length + 1) jc)
      clear hF5 hP5 hRd5 hOn5 hO6 hC5
      obtain ⟨w6, hw6⟩ : ∃ X, w5.setCell ⟨S, 24, none⟩ (.slice ja (acc.length + 1) jc) = X := ⟨_, rfl⟩
      rw [hw6] at hF6 hP6 hRd6 hOn6 ⊢
      clear hw6
      replace hF6 := Lib.hid hF6
      replace hP6 := Lib.hid hP6
      replace hRd6 := Lib.hid hRd6
      replace hOn6 := Lib.hid hOn6
      go_wp2_with fail
      all_goals go_roundg g
      case measure => omega
      case rel => exact ⟨g, FM.waitR (s, false), acc ++ [FM.waitV (s, false)], (.slice ja (acc.length + 1) jc), rfl, hR2, by omega, by unfold FM.waitR; omega, by rw [List.length_append]; simp only [List.length_cons, List.length_nil]; omega, hF6, hP6, hRd6, hOn6⟩
    · rw [decide_eq_false hgo]
      have hend : (((s, bad), acc) : FM.Rd × List (Int × FM.Bytes)) = FM.wsR x8 := by
        rw [← hR.out]
        exact (FM.rounds_stop _ _ _ (by
          by_cases h : s = []
          · exact .inl h
          · right; cases bad; exact absurd ⟨h, rfl⟩ hgo; rfl)).symm
      clear hgo hR hmu hrl8 hcnt rd0 rd1
      obtain ⟨accW, hacc⟩ : ∃ q, q = acc := ⟨_, rfl⟩
      obtain ⟨roww, hroww⟩ : ∃ q, q = row := ⟨_, rfl⟩
      obtain ⟨s8, hs8⟩ : ∃ q, q = s := ⟨_, rfl⟩
      obtain ⟨bad8, hbad8⟩ : ∃ q, q = bad := ⟨_, rfl⟩
      obtain ⟨V16, hV16⟩ : ∃ q : World, q = wo := ⟨_, rfl⟩
      subst hacc hroww hs8 hbad8 hV16
      have hF := hFr.out
      have hP13 := (hP.mono (T := fun k => k = p ∨ k = S ∨ k = p8) (fun k h => by rcases h with h | h; exact .inl h; exact .inr (.inl h))).trans ((Only.of_below hbv.out).trans (hOn.out.mono (fun k h => by rcases h with h | h; exact .inr (.inl h); exact .inr (.inr h))))
      have hpp8 : p + 1 < p8 := by have := hN.q.lt; rw [← hpx.out]; exact this
      have hN13 := (hN.below hbv.out).only hOn.out (by omega) (by omega) (by have hq : 4 < S := hgS; omega) (by have hq : 4 < S := hgS; omega)
      replace hP13 := Lib.hid hP13
      replace hN13 := Lib.hid hN13
      have hWrow := hRow
      have hRd8 := hRd
      have hpz8 : p8 + 1 = V13.heap.size := hzx.out.symm
      have hV1316 := hOn.out.size
      replace hend := Lib.hid hend
      clear hFr hRow hRd hOn hP hN hzx hbv hpx
      have hcvx := run_conv (B9.below hF.old) 22 5 9 Tryz.underlying22 Tryz.underlying5 Tryz.underlying9 c9
      have qx := (hcl.out _ hF.old).2.2.2.2.2.2.2.2.2
      have hx9 : x9.length ≤ 20000 := hx.out _ (by simp)
      go_wp2_with fail
      obtain ⟨p9, hpx⟩ : ∃ q, V16.heap.size = q := ⟨_, rfl⟩
      obtain ⟨V17, hVx⟩ : ∃ X, V16.alloc (.cells #[strV x9, .bool false] 75) = X := ⟨_, rfl⟩
      have hbv : Below V16.heap.size V16 V17 := by rw [← hVx]; exact bl_alloc (Below.refl _ _) _
      have hRd0 : Blk V17 p9 75 [strV x9, .bool false] := by rw [← hVx, ← hpx]; exact Blk.new V16 _ _
      have hFx := hF.below hbv
      have hSx : S < p9 := by rw [← hpx]; exact hF.st.lt
      have hzx : V17.heap.size = p9 + 1 := by rw [← hVx, ← hpx]; simp
      try simp only [hpx]
      rw [hVx]
      clear hVx hF hcvx qx
      replace hzx := Lib.hid hzx
      replace hbv := Lib.hid hbv
      replace hpx := Lib.hid hpx
      replace hFx := Lib.hid hFx
      replace hRd0 := Lib.hid hRd0
      go_loopg [10] (x9.length + 1) (fun gg vk wr => ∃ (gh : Nat) (r : FM.Rd) (acc : List (FM.Bytes × FM.Bytes)) (row : Value), gg = gh ∧ Hid (FM.rounds FM.fileR FM.fileV gh r acc = FM.fsR x9) ∧ FM.mu r < gh ∧ r.1.length ≤ x9.length ∧ acc.length + FM.mu r ≤ x9.length ∧ Hid (FrAt w S [.slice a0 x0.length c0, .slice a1 x1.length c1, .bool (FM.nv 0 r0 == 1), .int .i64 (FM.nv 1 r0), .bool (FM.nv 2 r0 == 1), .int .i64 (FM.nv 3 r0), .int .i64 (FM.nv 4 r0), .int .i64 (FM.nv 5 r0), .int .i64 (FM.nv 6 r0), .int .i64 (FM.nv 7 r0), .slice a2 x2.length c2, .slice a3 x3.length c3, .bool (FM.nv 8 r0 == 1), .slice a4 x4.length c4, .bool (FM.nv 9 r0 == 1), .int .i64 (FM.nv 10 r0), .int .i64 (FM.nv 11 r0), .int .i64 (FM.nv 12 r0), .int .i64 (FM.nv 13 r0), .int .i64 (FM.nv 14 r0), .bool (FM.nv 15 r0 == 1), .bool (FM.nv 16 r0 == 1), .bool (FM.nv 17 r0 == 1), .slice va (FM.truths x6).length vc, roww, row, .slice ua (FM.truths x7).length uc] wr) ∧ Hid (RowA strV 50 V17.heap.size row acc wr) ∧ Hid (Blk wr p9 75 [strV r.1, .bool r.2]) ∧ Hid (Only (fun k => k = S ∨ k = p9) V17 wr))
      case atStart => exact ⟨x9.length + 1, (x9, false), [], .slice none 0 0, rfl, Lib.hid rfl, by have := mu_le (x9, false); simp only at this; omega, Nat.le_refl _, by have := mu_le (x9, false); simp only [List.length_nil] at this ⊢; omega, hFx, Lib.hid RowA.nil, hRd0, Lib.hid (Only.refl _ _)⟩
      case round =>
        clear hFx hRd0
        obtain ⟨gh, ⟨s, bad⟩, acc, row, hgg, hR, hmu, hrl8, hcnt, hFr, hRow, hRd, hOn⟩ := hrel
        have rd0 : wr.cell? ⟨p9, 0, none⟩ = some (strV s) := hRd.out.cell 0
        have rd1 : wr.cell? ⟨p9, 1, none⟩ = some (.bool bad) := hRd.out.cell 1
        obtain ⟨wo, hwo⟩ : ∃ X : World, X = wr := ⟨_, rfl⟩
        go_upto_region 18 with fail
        go_cut [177] from 166 to 177 (fun st wx => st = .bool (decide (s ≠ [] ∧ bad = false)) ∧ wo = wx)
        case first =>
          subst hwo
          clear hR hFr hRow hOn
          cases s <;> cases bad
          all_goals go_wp2_with fail
          all_goals go_meet
          all_goals exact ⟨by simp, rfl⟩
        case rest =>
        obtain ⟨rfl, rfl⟩ := hcut
        obtain rfl := hwo
        by_cases hgo : s ≠ [] ∧ bad = false
        · rw [decide_eq_true hgo]
          obtain ⟨hs0, rfl⟩ := hgo
          have hrl9 : s.length ≤ x9.length := hrl8
          have hcn9 : acc.length + FM.mu (s, false) ≤ x9.length := hcnt
          obtain ⟨g, rfl⟩ : ∃ g, gh = g + 1 := ⟨gh - 1, by omega⟩
          have hR2 : FM.rounds FM.fileR FM.fileV g (FM.fileR (s, false)) (acc ++ [FM.fileV (s, false)]) = FM.fsR x9 := by rw [← hR.out, FM.rounds_go hs0 rfl]
          have hmu2 := mu_file (s, false) hs0 rfl
          have hE1 := hE.below hFr.out.old
          have hpN : p9 < V17.heap.size := by rw [hzx.out]; omega
          have hzw := hOn.out.size
          replace hR2 := Lib.hid hR2
          clear hR
          have hnum := Lib.hid (rdquote_any p9 s false wo hRd.out (by omega))
          have hql : (FM.quoV (s, false)).length + (FM.quoE (s, false)).1.length ≤ s.length := (quo_len (s, false)).1
          have hql2 : (FM.quoV (FM.quoE (s, false))).length + (FM.quoE (FM.quoE (s, false))).1.length ≤ (FM.quoE (s, false)).1.length := (quo_len (FM.quoE (s, false))).1
          obtain ⟨M, hM⟩ : ∃ M, FM.quoV (s, false) = M := ⟨_, rfl⟩
          rw [hM] at hnum
          go_upto_region 20 with (go_at_call 35; (with_reducible refine hnum.out.mono ?_); rintro e Y ⟨qv, rfl, hoqn, hRd1, hO1⟩; have hcl9 := conv_line hoqn)
          have hF1 := Lib.hid (hFr.out.only hO1 (by omega) (by have := hFr.out.lt; omega) (fun k hk => by have := hFr.out.lt; omega))
          have hRow1 := Lib.hid (hRow.out.only hO1 (fun k hk => by rw [hk]; exact hpN))
          have hOn1 := Lib.hid (hOn.out.trans (hO1.mono (fun k hk => .inr hk)))
          replace hRd1 := Lib.hid hRd1
          clear hFr hRow hOn hO1 hnum rd0 rd1 hRd hoqn hcl9
          go_upto_region 20 with fail
          have hF2 := hF1.out.below (bl_drew (Below.refl _ _))
          have hRow2 := hRow1.out.below (bl_drew (Below.refl _ _))
          have hRd2 := hRd1.out.drew
          have hOn2 := hOn1.out.drew
          refine region_till (fun X => X.cell? ⟨S, 25, none⟩ = some row) 9 (by kernel_rfl) ?_
          obtain ⟨Z, hZ⟩ : ∃ Z, Y.drew = Z := ⟨_, rfl⟩
          rw [hZ] at hF2 hRow2 hRd2 hOn2 ⊢
          clear hZ
          have hC : Z.cell? ⟨S, 25, none⟩ = some row := hF2.st.cell 25
          refine wpAnyT_take (i := 0) (v := (.pointer (some ⟨S, 25, none⟩))) (some 181) rfl (by kernel_rfl) (by kernel_rfl) (by kernel_rfl) (by kernel_rfl) (fun _ _ _ h => absurd h np_panic) [9] (by kernel_rfl) (by kernel_rfl) (by kernel_rfl) (Or.inl ⟨by rfl, ?_⟩) hC ?_
          · intro X hX
            (have x0 := hX; go_simp)
          simp only [Act.put, List.setIfInBounds_toArray, List.set_cons_zero, List.set_cons_succ]
          refine wpAnyT_take (i := 1) (v := row) (some 182) rfl (by kernel_rfl) (by kernel_rfl) (by kernel_rfl) (by kernel_rfl) (fun _ _ _ h => absurd h np_panic) [9] (by kernel_rfl) (by kernel_rfl) (by kernel_rfl) (Or.inl ⟨by rfl, ?_⟩) hC ?_
          · intro X hX
            (have x0 := hX; go_simp)
          simp only [Act.put, List.setIfInBounds_toArray, List.set_cons_zero, List.set_cons_succ]
          refine wpAnyT_take (i := 2) (v := strV M) (some 183) rfl (by kernel_rfl) (by kernel_rfl) (by kernel_rfl) (by kernel_rfl) (fun _ _ _ h => absurd h np_panic) [9] (by kernel_rfl) (by kernel_rfl) (by kernel_rfl) (Or.inl ⟨by rfl, ?_⟩) hC ?_
          · intro X hX
            (have x0 := hX; go_simp)
          simp only [Act.put, List.setIfInBounds_toArray, List.set_cons_zero, List.set_cons_succ]
          refine wpAnyT_take (i := 3) (v := (.pointer (some ⟨p9, 0, none⟩))) (some 184) rfl (by kernel_rfl) (by kernel_rfl) (by kernel_rfl) (by kernel_rfl) (fun _ _ _ h => absurd h np_panic) [9] (by kernel_rfl) (by kernel_rfl) (by kernel_rfl) (Or.inl ⟨by rfl, ?_⟩) hC ?_
          · intro X hX
            (have x0 := hX; go_simp)
          simp only [Act.put, List.setIfInBounds_toArray, List.set_cons_zero, List.set_cons_succ]
          refine wpAnyT_ready (rs := [4]) (by kernel_rfl) (by simp) ?_
          refine AllT.cons rfl (fun K hK => ?_) AllT.nil
          go_simp
          (go_at_call 35; (with_reducible refine (rdquote_any p9 _ _ _ hRd2 (by omega)).mono ?_); rintro e Q1 ⟨qv, rfl, hoq, hRd3, hO3⟩)
          obtain ⟨⟨qa, qn, qc⟩, rfl, hqn, _, _⟩ := cells_own hoq
          have hZl := hOn2.size
          have hF3 := hF2.only hO3 (by omega) (by have := hF2.lt; omega) (fun k hk => by have := hF2.lt; omega)
          have hRow3 := hRow2.only hO3 (fun k hk => by rw [hk]; exact hpN)
          have hOn3 := hOn2.trans (hO3.mono (fun k hk => .inr hk))
          have hC3 : Q1.cell? ⟨S, 25, none⟩ = some row := hF3.st.cell 25
          have hoq3 : Q1.ownsRow V17.heap.size 5 1 (.slice qa qn qc) _ (Lib.byteCells _) := own_base hoq (by omega)
          try simp only [go_sem]
          refine hK.out _ _ (fun _ => hC3) ?_
          clear hK K hoq hC
          try simp only [Act.put, List.setIfInBounds_toArray, List.set_cons_zero, List.set_cons_succ]
          refine wpAnyT_ready (rs := [5]) (by kernel_rfl) (by simp) ?_
          refine AllT.cons rfl (fun K hK => ?_) AllT.nil
          go_simp
          refine hK.out _ _ (fun _ => hC3) ?_
          clear hK K
          try simp only [Act.put, List.setIfInBounds_toArray, List.set_cons_zero, List.set_cons_succ]
          refine wpAnyT_ready (rs := [6]) (by kernel_rfl) (by simp) ?_
          refine AllT.cons rfl (fun K hK => ?_) AllT.nil
          have hF4 := hF3.below (bl_alloc (Below.refl _ _) (.cells #[strV M, .slice qa qn qc] 50))
          have hC4 : (Q1.alloc (.cells #[strV M, .slice qa qn qc] 50)).cell? ⟨S, 25, none⟩ = some row := hF4.st.cell 25
          go_simp
          refine hK.out _ _ (fun _ => hC4) ?_
          clear hK K
          try simp only [Act.put, List.setIfInBounds_toArray, List.set_cons_zero, List.set_cons_succ]
          have hRow4 := hRow3.below (bl_alloc (Below.refl _ _) (.cells #[strV M, .slice qa qn qc] 50))
          have hRd4 := hRd3.below (bl_alloc (Below.refl _ _) (.cells #[strV M, .slice qa qn qc] 50))
          have hOn4 := hOn3.alloc (.cells #[strV M, .slice qa qn qc] 50)
          have hoq4 := own_below hoq3 (bl_alloc (Below.refl _ _) (.cells #[strV M, .slice qa qn qc] 50))
          have hn4 : Blk (Q1.alloc (.cells #[strV M, .slice qa qn qc] 50)) Q1.heap.size 50 [strV M, .slice qa qn qc] := Blk.new Q1 _ _
          obtain ⟨n1, hn1⟩ : ∃ n, Q1.heap.size = n := ⟨_, rfl⟩
          obtain ⟨Q2, hQ2⟩ : ∃ Q, Q1.alloc (.cells #[strV M, .slice qa qn qc] 50) = Q := ⟨_, rfl⟩
          rw [hQ2] at hF4 hC4 hRow4 hRd4 hOn4 hoq4 hn4 ⊢
          rw [hn1] at hn4
          try simp only [hn1]
          clear hQ2 hF3 hRow3 hRd3 hOn3 hoq3 hC3
          obtain ⟨ss, g1, g2, g3⟩ := hRow4
          have hVQ := hOn4.size
          refine wpAnyT_ready (rs := [7]) (by kernel_rfl) (by simp) ?_
          refine AllT.cons rfl (fun K hK => ?_) AllT.nil
          rw [if_pos (by rfl)]
          refine wp_append_at8 (.tmp 182) (.tmp 187) 32 (by rfl) V17.heap.size 50 jf _ 2 40 Tryz.underlying32 hjf hf0 hf1 hf2 (by rfl) (by decide) row acc.length _ (by rfl) g2 ⟨n1, 0, none⟩ 1 1 [strV M, .slice qa qn qc] (by rfl) (fun j u hj => by rw [addr_add, Nat.zero_add, hn4.cell]; exact hj) rfl (by intro u hu; simp only [List.mem_cons, List.mem_nil_iff, or_false] at hu; rcases hu with rfl | rfl <;> rfl) (by unfold maxLen; omega) (by omega) hVQ ?_
          intro v5 w5 ho5 hg5
          obtain ⟨ja, jc, rfl⟩ := own_slice ho5
          have hMv : (strV M : Value) = strV (FM.fileV (s, false)).1 := by rw [← hM]; rfl
          have hP5 := RowA.push (f := strV) (x := FM.fileV (s, false)) (s := ⟨qa, qn, qc⟩) g1 g2 g3 (by decide) hoq4 hg5 (by rw [← hMv]; exact ho5)
          clear hMv
          have hOg : Only (fun k => V17.heap.size ≤ k) Q2 w5 := ⟨hg5.os, hg5.tape, hg5.output, hg5.size, fun k hk hn => hg5.block k hk (fun e => hn (g2.lt k e.symm).1)⟩
          have hSN : S < V17.heap.size := by omega
          have hF5 := hF4.only hOg (by omega) (by have := hF4.lt; omega) (fun k hk => by have := hF4.lt; omega)
          have hRd5 := hRd4.only hOg (by omega)
          have hOn5 : Only (fun k => k = S ∨ k = p9) V17 w5 := ⟨hg5.os.trans hOn4.os, hg5.tape.trans hOn4.tape, hg5.output.trans hOn4.output, Nat.le_trans hOn4.size hg5.size, fun k hk hn => (hOg.block k (Nat.lt_of_lt_of_le hk hOn4.size) (by omega)).trans (hOn4.block k hk hn)⟩
          have hC5 : w5.cell? ⟨S, 25, none⟩ = some row := hF5.st.cell 25
          refine hK.out _ _ (fun _ => hC5) ?_
          clear hK K g1 g2 g3 hoq4 hg5 ho5 hF4 hRd4 hOn4 hC4 hn4 hOg
          try simp only [Act.put, List.setIfInBounds_toArray, List.set_cons_zero, List.set_cons_succ]
          refine wpAnyT_ready (rs := [8]) (by kernel_rfl) (by simp) ?_
          refine AllT.cons rfl (fun K hK => ?_) AllT.nil
          go_simp
          refine hK.out _ _ (fun _ => hC5) ?_
          clear hK K
          try simp only [Act.put, List.setIfInBounds_toArray, List.set_cons_zero, List.set_cons_succ]
          refine wpAnyT_ready (rs := [9]) (by kernel_rfl) (by simp) ?_
          refine AllT.cons rfl (fun K hK => ?_) AllT.nil
          have kk := hF5.st.cell 25
          have ff := hF5.st.free 25
          have ll := hF5.st.lt
          simp only [List.getElem?_cons_zero, List.getElem?_cons_succ] at kk
          go_simp
          refine hK.out _ _ (fun h => nomatch (Eq.trans (by kernel_rfl : true = _) h : true = false)) ?_
          clear hK K kk ff ll
          try simp only [Act.put, List.setIfInBounds_toArray, List.set_cons_zero, List.set_cons_succ]
          refine wpAnyT_done (by kernel_rfl) ⟨rfl, ?_⟩ _
          have hO6 : Only (fun k => k = S) w5 (w5.setCell ⟨S, 25, none⟩ (.slice ja (acc.length + 1) jc)) := (Only.refl (fun k => k = S) w5).setCell (p := ⟨S, 25, none⟩) rfl _
          have hF6 : FrAt w S [.slice a0 x0.length c0, .slice a1 x1.length c1, .bool (FM.nv 0 r0 == 1), .int .i64 (FM.nv 1 r0), .bool (FM.nv 2 r0 == 1), .int .i64 (FM.nv 3 r0), .int .i64 (FM.nv 4 r0), .int .i64 (FM.nv 5 r0), .int .i64 (FM.nv 6 r0), .int .i64 (FM.nv 7 r0), .slice a2 x2.length c2, .slice a3 x3.length c3, .bool (FM.nv 8 r0 == 1), .slice a4 x4.length c4, .bool (FM.nv 9 r0 == 1), .int .i64 (FM.nv 10 r0), .int .i64 (FM.nv 11 r0), .int .i64 (FM.nv 12 r0), .int .i64 (FM.nv 13 r0), .int .i64 (FM.nv 14 r0), .bool (FM.nv 15 r0 == 1), .bool (FM.nv 16 r0 == 1), .bool (FM.nv 17 r0 == 1), .slice va (FM.truths x6).length vc, roww, .slice ja (acc.length + 1) jc, .slice ua (FM.truths x7).length uc] (w5.setCell ⟨S, 25, none⟩ (.slice ja (acc.length + 1) jc)) := hF5.set 25 (.slice ja (acc.length + 1) jc)
          have hP6 := hP5.only hO6 (fun k hk => by rw [hk]; exact hSN)
          have hRd6 := hRd5.only hO6 (by omega)
          have hOn6 := hOn5.setCell (p := ⟨S, 25, none⟩) (.inl rfl) (.slice ja (acc.length + 1) jc)
          clear hF5 hP5 hRd5 hOn5 hO6 hC5
          obtain ⟨w6, hw6⟩ : ∃ X, w5.setCell ⟨S, 25, none⟩ (.slice ja (acc.length + 1) jc) = X := ⟨_, rfl⟩
          rw [hw6] at hF6 hP6 hRd6 hOn6 ⊢
          clear hw6
          replace hF6 := Lib.hid hF6
          replace hP6 := Lib.hid hP6
          replace hRd6 := Lib.hid hRd6
          replace hOn6 := Lib.hid hOn6
          go_wp2_with fail
          all_goals go_roundg g
          case measure => omega
          case rel => exact ⟨g, FM.fileR (s, false), acc ++ [FM.fileV (s, false)], (.slice ja (acc.length + 1) jc), rfl, hR2, by omega, by unfold FM.fileR; omega, by rw [List.length_append]; simp only [List.length_cons, List.length_nil]; omega, hF6, hP6, hRd6, hOn6⟩
        · rw [decide_eq_false hgo]
          have hend9 : (((s, bad), acc) : FM.Rd × List (FM.Bytes × FM.Bytes)) = FM.fsR x9 := by
            rw [← hR.out]
            exact (FM.rounds_stop _ _ _ (by
              by_cases h : s = []
              · exact .inl h
              · right; cases bad; exact absurd ⟨h, rfl⟩ hgo; rfl)).symm
          clear hgo hR hmu hrl8 hcnt rd0 rd1
          have hF := hFr.out
          obtain ⟨V20, hV20⟩ : ∃ q : World, q = wo := ⟨_, rfl⟩
          subst hV20
          have hO16 : Only (fun k => k = S) V16 V20 := ⟨hOn.out.os.trans hbv.out.os, hOn.out.tape.trans hbv.out.tape, hOn.out.output.trans hbv.out.output, Nat.le_trans hbv.out.size hOn.out.size, fun k hk hn => (hOn.out.block k (Nat.lt_of_lt_of_le hk hbv.out.size) (by have := hpx.out; omega)).trans (hbv.out.block k hk)⟩
          have hPP := hP13.out.trans (hO16.mono (T := fun k => k = p ∨ k = S ∨ k = p8) (fun k h => .inr (.inl h)))
          have hNe := hN13.out.only hO16 (by omega) (by omega) (by have hq : 4 < S := hgS; omega) (by have hq : 4 < S := hgS; omega)
          have hRe8 := hRd8.out.only hO16 (by omega)
          have m0 : V20.cell? ⟨p + 1, 0, none⟩ = some (.pointer (some ⟨p, 0, none⟩)) := hNe.q.cell 0
          have m1 : V20.cell? ⟨p, 1, none⟩ = some (.bool (FM.it 18 r0).2) := hNe.p.cell 1
          have m2 : V20.cell? ⟨p8, 1, none⟩ = some (.bool bad8) := hRe8.cell 1
          have m3 : V20.cell? ⟨p9, 1, none⟩ = some (.bool bad) := hRd.out.cell 1
          obtain ⟨⟨wsl, wsn, wsc⟩, hwv, hPrW⟩ := ((hWrow.out.only hO16 (fun k hk => by omega))).done (by have h := (ws_fit x8 hx8).1; rw [← hend.out] at h; exact h) (by have h := (ws_fit x8 hx8).2.1; rw [← hend.out] at h; exact fun z hz => (h z hz).1)
          obtain ⟨⟨fsl, fsn, fsc⟩, hfv, hPrF⟩ := (hRow.out).done (by have h := (fs_fit x9 hx9).1; rw [← hend9] at h; exact h) (by have h := (fs_fit x9 hx9).2.1; rw [← hend9] at h; exact fun z hz => (h z hz).1)
          subst hwv hfv
          have hold := hF.old
          have e7 := hPP.size
          have hT1e := hT17.keep (KeepI.only hPP (by omega) (fun k h1 h2 => by omega))
          have hT2e := hT27.keep (KeepI.only hPP (by omega) (fun k h1 h2 => by omega))
          obtain ⟨VV, hVV⟩ : ∃ VV, FM.rawV x0 x1 x2 x3 x4 x5 x6 x7 x8 x9 = VV := ⟨_, rfl⟩
          obtain ⟨s20, hs20⟩ : ∃ s : StC, (⟨⟨a0, x0.length, c0⟩, ⟨a1, x1.length, c1⟩, FM.nv 0 r0 == 1, FM.nv 1 r0, FM.nv 2 r0 == 1, FM.nv 3 r0, FM.nv 4 r0, FM.nv 5 r0, FM.nv 6 r0, FM.nv 7 r0, ⟨a2, x2.length, c2⟩, ⟨a3, x3.length, c3⟩, FM.nv 8 r0 == 1, ⟨a4, x4.length, c4⟩, FM.nv 9 r0 == 1, FM.nv 10 r0, FM.nv 11 r0, FM.nv 12 r0, FM.nv 13 r0, FM.nv 14 r0, FM.nv 15 r0 == 1, FM.nv 16 r0 == 1, FM.nv 17 r0 == 1, ⟨va, (FM.truths x6).length, vc⟩, ⟨wsl, wsn, wsc⟩, ⟨fsl, fsn, fsc⟩, ⟨ua, (FM.truths x7).length, uc⟩⟩ : StC) = s := ⟨_, rfl⟩
          have hcells : [.slice a0 x0.length c0, .slice a1 x1.length c1, .bool (FM.nv 0 r0 == 1), .int .i64 (FM.nv 1 r0), .bool (FM.nv 2 r0 == 1), .int .i64 (FM.nv 3 r0), .int .i64 (FM.nv 4 r0), .int .i64 (FM.nv 5 r0), .int .i64 (FM.nv 6 r0), .int .i64 (FM.nv 7 r0), .slice a2 x2.length c2, .slice a3 x3.length c3, .bool (FM.nv 8 r0 == 1), .slice a4 x4.length c4, .bool (FM.nv 9 r0 == 1), .int .i64 (FM.nv 10 r0), .int .i64 (FM.nv 11 r0), .int .i64 (FM.nv 12 r0), .int .i64 (FM.nv 13 r0), .int .i64 (FM.nv 14 r0), .bool (FM.nv 15 r0 == 1), .bool (FM.nv 16 r0 == 1), .bool (FM.nv 17 r0 == 1), .slice va (FM.truths x6).length vc, .slice wsl wsn wsc, .slice fsl fsn fsc, .slice ua (FM.truths x7).length uc] = s20.cells := by rw [← hs20]; simp only [StC.cells, Sl3.v]
          have hSI : SIn 0 V20.heap.size s20 VV V20 := by
            rw [← hs20, ← hVV]
            have ht : ∀ z, z ∈ [x0, x1, x2, x3, x4, x5, x6, x7, x8, x9] → z.length ≤ 1000000 := fun z hz => Nat.le_trans (hx.out z hz) (by omega)
            refine ⟨Nat.le_refl _, ?_, by_tx (B0.below hold) k0 (ht _ (by simp)), by_tx (B1.below hold) k1 (ht _ (by simp)), by_tx (B2.below hold) k2 (ht _ (by simp)), by_tx (B3.below hold) k3 (ht _ (by simp)), by_tx (B4.below hold) k4 (ht _ (by simp)), hT1e.wide (Nat.zero_le _) (by omega), hT2e.wide (Nat.zero_le _) (by omega), ?_, ?_⟩
            · show StC.sc _ = FM.scR (x5, false)
              rw [hr0.out]
              simp only [StC.sc, FM.scR]
            · show PrI kindV 0 _ _ _ (FM.wsR x8).2; rw [← hend.out]; exact hPrW
            · show PrI strV 0 _ _ _ (FM.fsR x9).2; rw [← hend9]; exact hPrF
          rw [hcells] at hF
          have hfit : FitV VV := by rw [← hVV]; exact raw_fit hx.out
          have hsi : FM.ScI VV.sc := by rw [← hVV]; exact scR_I _
          have hwi : ∀ z ∈ VV.waits, FM.I64 z.1 := by rw [← hVV]; exact fun z hz => ((ws_fit x8 hx8).2.1 z hz).2
          have hmid : MidV VV := ⟨by have := hfit.pat; omega, by have := hfit.hold; omega, by have := hfit.rest; omega, by have := hfit.out; omega, by have := hfit.place; omega, by have := hfit.active; omega, by have := hfit.lacks; omega, by have := hfit.waits; omega, by have := hfit.files; omega, fun i h => by have := hfit.wait _ (List.getElem_mem h); omega, fun i h => by have := hfit.file _ (List.getElem_mem h); omega⟩
          have hfl := (fields_any V20 s20 VV hSI (hp.below hold) hsi hwi hfit).mono (R' := fun e w' => ∃ a c, e = .returned (.slice a 10 c) ∧ TxAt (fun _ => True) false w' a (FM.fieldsS VV) ∧ Below V20.heap.size V20 w') (by rintro e w' ⟨a, c, rfl, h1, h2⟩; exact ⟨a, c, rfl, h1.tx.any, h2⟩)
          have hcp := fun X (hX : Below V20.heap.size V20 X) => copy_any X s20 VV (hSI.below hX) hmid
          have hfrom : FM.fromS [x0, x1, x2, x3, x4, x5, x6, x7, x8, x9] = if ((FM.it 18 r0).2 || bad8 || bad) = false ∧ FM.fieldsS VV = [x0, x1, x2, x3, x4, x5, x6, x7, x8, x9] then some VV else none := by
            unfold FM.fromS
            show (if FM.rawBad x5 x8 x9 = false ∧ FM.fieldsS (FM.rawV x0 x1 x2 x3 x4 x5 x6 x7 x8 x9) = [x0, x1, x2, x3, x4, x5, x6, x7, x8, x9] then some (FM.rawV x0 x1 x2 x3 x4 x5 x6 x7 x8 x9) else none) = _
            rw [hVV]
            have hrb : FM.rawBad x5 x8 x9 = ((FM.it 18 r0).2 || bad8 || bad) := by
              unfold FM.rawBad
              rw [← hend.out, ← hend9, hr0.out]
            rw [hrb]
          obtain ⟨XL, hXL⟩ : ∃ XL, [x0, x1, x2, x3, x4, x5, x6, x7, x8, x9] = XL := ⟨_, rfl⟩
          have hlen10 : XL.length = 10 := by rw [← hXL]; rfl
          have hT' := hT.out
          rw [hXL] at hfrom hT'
          have heq := fun X (hX : Below V20.heap.size V20 X) (a : Option Addr) (ca : Nat) (h : TxAt (fun _ => True) false X a (FM.fieldsS VV)) => eqtexts_any a (some ⟨b, o, none⟩) ca c (FM.fieldsS VV) XL X (Nat.le_trans (Nat.le_of_eq (show (FM.fieldsS VV).length = 10 from rfl)) (by decide)) (by omega) h (hT'.below (bl_trans hold hX))
          have hf10 : (FM.fieldsS VV).length = 10 := rfl
          rw [hf10, hlen10] at heq
          obtain ⟨FR, hFR⟩ : ∃ FR, FM.fromS XL = FR := ⟨_, rfl⟩
          rw [hFR] at hfrom
          obtain ⟨TB, hTB⟩ : ∃ TB, FR.isNone = TB := ⟨_, rfl⟩
          obtain ⟨EB, hEB⟩ : ∃ EB, txB (FM.fieldsS VV) XL = EB := ⟨_, rfl⟩
          rw [hEB] at heq
          have hTBv : TB = (((FM.it 18 r0).2 || bad8 || bad) || !EB) := by
            rw [← hTB, hfrom, ← hEB]
            unfold txB
            by_cases h1 : ((FM.it 18 r0).2 || bad8 || bad) = false
            · by_cases h2 : FM.fieldsS VV = XL
              · rw [if_pos ⟨h1, h2⟩, h1]; simp [h2]
              · rw [if_neg (fun h => h2 h.2), h1]; simp [h2]
            · rw [if_neg (fun h => h1 h.1)]
              simp only [Bool.not_eq_false] at h1
              rw [h1]; rfl
          have hFRv : FR = if TB = true then none else some VV := by
            rw [← hTB]
            rw [hfrom]
            split <;> simp
          have L1 := stLoad_is s20 hF.st
          obtain ⟨D, hD⟩ : ∃ D, s20.cells.toArray = D := ⟨_, rfl⟩
          rw [hD] at L1 hfl
          replace hcells := Lib.hid hcells
          replace hfl := Lib.hid hfl
          replace hcp := Lib.hid hcp
          replace heq := Lib.hid heq
          replace hTBv := Lib.hid hTBv
          replace hFRv := Lib.hid hFRv
          replace hFR := Lib.hid hFR
          replace hXL := Lib.hid hXL
          replace hD := Lib.hid hD
          replace hF := Lib.hid hF
          replace hSI := Lib.hid hSI
          clear hO16 hPP hNe hRe8 hPrW hPrF hT1e hT2e hfrom hWrow hRow hRd hRd8 hOn hend9 hsi hwi hfit hmid hTB hEB hT' hFr hP13 hN13 hpp8 hgp hgS hpx hzx hbv hend hcl hcl5 hcl67 hnext
          go_upto_region 21 with fail
          go_cut [212] from 190 to 212 (fun st wx => st = .bool TB ∧ Hid (Below V20.heap.size V20 wx))
          case first =>
            obtain ⟨B1, hB1⟩ : ∃ B, (FM.it 18 r0).2 = B := ⟨_, rfl⟩
            rw [hB1] at m1 hTBv
            clear hB1 hcp hFRv hSI
            cases B1 <;> cases bad8 <;> cases bad
            all_goals go_wp2_with (first
              | (go_at_call 11; (with_reducible refine hfl.out.mono ?_); rintro e X1 ⟨xa, xc, rfl, hx1, hy1⟩; have hx1' := Lib.hid hx1; clear hx1)
              | (go_at_call 36; (with_reducible refine (heq.out _ hy1 _ _ hx1'.out).mono ?_); rintro e X2 ⟨rfl, rfl⟩))
            all_goals go_meet
            all_goals first
              | exact ⟨by rw [hTBv.out]; rfl, Lib.hid hy1⟩
              | exact ⟨by rw [hTBv.out]; rfl, Lib.hid (Below.refl _ _)⟩
              | exact ⟨by rw [hTBv.out]; cases EB <;> rfl, Lib.hid hy1⟩
          case rest =>
          obtain ⟨rfl, hbc⟩ := hcut
          have hFc := hF.out.below hbc.out
          cases TB with
          | true =>
            obtain ⟨ZZ, S1, hBZ, hOZ⟩ := stStore_is zeroC hFc.res rfl
            have L2 := stLoad_is zeroC hBZ
            have hfinZ : FromIs FR w (.returned (.tuple #[.agg zeroC.cells.toArray, .bool false])) ZZ := by
              rw [hFRv.out, if_pos rfl]
              exact ⟨zeroC, rfl, zero_sin _ _ _ (Nat.le_refl _), hFc.old.trans (Only.below hOZ (N := w.heap.size) hFc.old.size (fun k hk => by rw [hk]; exact Nat.le_refl _))⟩
            rw [← hFR.out, ← hXL.out] at hfinZ
            replace hfinZ := Lib.hid hfinZ
            obtain ⟨D0, hD0⟩ : ∃ D, zeroC.cells.toArray = D := ⟨_, rfl⟩
            have S1' := S1
            rw [hD0] at L2 hfinZ
            unfold zeroC StC.cells at S1'
            simp only [Sl3.v] at S1'
            clear S1 hFc hBZ hOZ hF hSI hcp hfl heq L1 m0 m1 m2 m3
            repeat (first | go_values | go_skip | go_guarded | go_step)
            exact bodyPost_ret (v := .tuple #[.agg D0, .bool false]) (by simp [results, Tryz.results13, ↓load_st, asAddr, L2, Result.andThen]) rfl hfinZ.out
          | false =>
            have L3 := stLoad_is s20 hFc.st
            rw [hD.out] at L3
            have hcq := hcp.out _ hbc.out
            rw [hD.out] at hcq
            have hRc := hFc.res
            have hOc := hFc.old
            replace hcq := Lib.hid hcq
            replace hRc := Lib.hid hRc
            replace hOc := Lib.hid hOc
            clear hFc hF hSI hcp hfl heq L1 m0 m1 m2 m3
            repeat (first | (go_at_call 18; (with_reducible refine hcq.out.mono ?_); rintro e X5 ⟨s5, rfl, hS5, hb5⟩; obtain ⟨D5, hD5⟩ : ∃ D, s5.cells.toArray = D := ⟨_, rfl⟩; obtain ⟨ZZ, S1, hBZ, hOZ⟩ := stStore_is s5 (hRc.out.below hb5) rfl; have L2 := stLoad_is s5 hBZ; rw [hD5] at S1 L2 ⊢; replace hS5 := Lib.hid hS5; replace hOZ := Lib.hid hOZ; replace hb5 := Lib.hid hb5; replace hD5 := Lib.hid hD5; clear hBZ; dsimp only) | go_values | go_skip | go_guarded | go_step | go_upon)
            have hfinY : FromIs FR w (.returned (.tuple #[.agg D5, .bool true])) ZZ := by
              rw [hFRv.out, if_neg (by simp), ← hD5.out]
              have hkk := hOc.out.size
              have hk5 := hb5.out.size
              refine ⟨s5, rfl, (hS5.out.keep (KeepI.only hOZ.out (Nat.le_refl _) (fun k h1 h2 => by have := hRc.out.lt; omega))).wide (Nat.le_trans hkk (Nat.le_refl _)) hOZ.out.size (Nat.le_refl _), (bl_trans hOc.out hb5.out).trans (Only.below hOZ.out (N := w.heap.size) (Nat.le_trans hkk hk5) (fun k hk => by rw [hk]; exact Nat.le_refl _))⟩
            rw [← hFR.out, ← hXL.out] at hfinY
            exact bodyPost_ret (v := .tuple #[.agg D5, .bool true]) (by simp [results, Tryz.results13, ↓load_st, asAddr, L2, Result.andThen]) rfl hfinY
end Go.Proofs.YtepdfkgadigafaaGreatDoor
