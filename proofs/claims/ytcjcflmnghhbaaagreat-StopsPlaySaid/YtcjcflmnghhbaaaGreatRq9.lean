/-
  The reference's part: atoms; of chapter 27. (Printed by gen_rq9.py.)
  Conditions: as each theorem states them.
-/
import Derived.Test.YtcjcflmnghhbaaaGreatRqC
namespace Go.Proofs.YtcjcflmnghhbaaaGreat
open Go.RowKit
set_option linter.unusedVariables false
set_option linter.unusedSimpArgs false
open CM (Pc Ps)
set_option maxHeartbeats 8000000 in
set_option maxRecDepth 100000 in
theorem rpart_atom_c {s : List UInt8} (hs : s.length ≤ 4096) {p : Ps} {w : World} {g nn : Nat} (hG : Good nn w g s p) (hgn : g < nn) (hok : CM.Ok s p) {kd : Nat} {ps : List UInt8} (hkd : rk p.pc.kind = kd) (hps : rs p.pc = ps) (q1 : ((kd : Int) == 1) = true) (q3 : (ps == [110, 111, 116]) = false) (q2 : ((kd : Int) == 4) = false) : Calls Tryz.prog 70 #[.pointer (some ⟨g, 0, none⟩)] w (ROut s g p.deep (CM.atomS s p) w) := by
  obtain ⟨i0, hi, hz0, hz1, hz2⟩ := info_parts infoStrR
  have hgw := hG.lt
  have hBz := Blk.new w 81 zeroN
  have hsz1 := size_alloc' w (.cells zeroN.toArray 81)
  have hG1 : Good nn (w.alloc (.cells zeroN.toArray 81)) g s p := hG.below (bl_alloc (Below.refl _ _) _)
  obtain ⟨pa, pm, pc, hB, _⟩ := hG
  have hBW : RAt (w.alloc (.cells zeroN.toArray 81)) g s (rdOf p pa pm pc) := hB.below (bl_alloc (Below.refl _ _) _)
  obtain ⟨c0, c1, c2, c3, c4, c5, c6, c7, c8, c9⟩ := RAt.facts hBW
  simp only [rdOf] at c1 c2 c3 c4 c5 c6 c7 c8 c9
  rw [hkd] at c2
  rw [hps] at c4
  have hOw1 : Oly g w (w.alloc (.cells zeroN.toArray 81)) := Only.of_below (bl_alloc (Below.refl _ _) _)
  obtain ⟨W1, hW1⟩ : ∃ W1, w.alloc (.cells zeroN.toArray 81) = W1 := ⟨_, rfl⟩
  rw [hW1] at hBW hBz hsz1 c0 c1 c2 c3 c4 c5 c6 c7 c8 c9 hOw1 hG1
  have hb1 : Below W1.heap.size W1 (W1.alloc (.cells #[.int .i64 (kd : Int), .int .i64 (p.pc.at_ : Int), strV ps, .int .i64 p.pc.n, .slice pa pm pc] 102)) := bl_alloc (Below.refl _ _) _
  have hP := Blk.new W1 102 [.int .i64 (kd : Int), .int .i64 (p.pc.at_ : Int), strV ps, .int .i64 p.pc.n, .slice pa pm pc]
  rw [show ([.int .i64 (kd : Int), .int .i64 (p.pc.at_ : Int), strV ps, .int .i64 p.pc.n, .slice pa pm pc] : List Value).toArray = #[.int .i64 (kd : Int), .int .i64 (p.pc.at_ : Int), strV ps, .int .i64 p.pc.n, .slice pa pm pc] from rfl] at hP
  obtain ⟨W2, hW2⟩ : ∃ W2, W1.alloc (.cells #[.int .i64 (kd : Int), .int .i64 (p.pc.at_ : Int), strV ps, .int .i64 p.pc.n, .slice pa pm pc] 102) = W2 := ⟨_, rfl⟩
  rw [hW2] at hP hb1
  have hgl1 : g < W1.heap.size := by omega
  have hs2 := hb1.size
  rw [hsz1] at hP
  have p0 := hP.cell 0
  have p1 := hP.cell 1
  have p2 := hP.cell 2
  simp only [List.getElem?_cons_zero, List.getElem?_cons_succ] at p0 p1 p2
  have pl := hP.lt
  have hgl2 : g < W2.heap.size := by omega
  have hatom := Lib.hid (fun wb (hBb : Below W2.heap.size W2 wb) r c (hst : StrsAt wb r startsL) => atom_must hs (((hG1.below hb1).below hBb).mono (Nat.min_le_left nn wb.heap.size)) (Nat.lt_min.2 ⟨hgn, Nat.lt_of_lt_of_le hgl2 hBb.size⟩) (Nat.min_le_right _ _) hok r c hst)
  have hB2 := hBz.below hb1
  have hkeep := Lib.hid (fun wb w' (hBb : Below W2.heap.size W2 wb) (ho : Oly g wb w') => (⟨(hB2.below hBb).only ho (by show ¬ w.heap.size = g; omega), Only.trans hOw1 (Only.trans (Only.of_below hb1) (Only.trans (Only.of_below hBb) ho))⟩ : Blk w' w.heap.size 81 zeroN ∧ Oly g w w'))
  have hown0 := Lib.hid (World.ownsRow_lit (base := W2.heap.size) (e := 9) (size := 1) W2 #[] 0 (Nat.le_refl _) (by decide) rfl)
  have ho0 : Hid ((W2.alloc (.cells #[] 9)).ownsRow W2.heap.size 9 1 (.slice (some ⟨W2.heap.size, 0, none⟩) 0 0) 0 []) := Lib.hid hown0.out
  have hB0 := Lib.hid (bl_alloc (Below.refl W2.heap.size W2) (.cells #[] 9))
  replace hW1 := Lib.hid hW1
  replace hW2 := Lib.hid hW2
  replace hkd := Lib.hid hkd
  replace hps := Lib.hid hps
  unfold zeroN nodeC at hW1
  clear hb1 hB2 hBz hBW hP hB hOw1 hG1 hown0
  go_enter Tryz.func70, Tryz.ntmps70
  go_upto_region 1 with fail
  rw [hW1.out]
  go_upto_region 4 with fail
  rw [hW2.out]
  go_upto_region 18 with (first
    | (go_at_call 40; (with_reducible refine (rnums_any _).mono ?_); rintro e w4 ⟨b4, rfl, h4, hb4, _⟩; have hB4 := Lib.hid (bl_trans hB0.out hb4); have ho4 := Lib.hid (nrow_only (K := fun _ => False) ho0.out (Only.of_below hb4) (fun _ _ => id)); have hs4 := Lib.hid (SrcAt.strs h4 4 rfl 4); clear h4 hb4)
    | (at_builtin; refine wpList_append_src _ rfl (.tmp 74) (.tmp 75) 107 rfl W2.heap.size 9 i0 (.string ⟨#[]⟩) 1 16 Tryz.underlying107 hi hz0 hz1 hz2 rfl (by decide) _ _ _ rfl ho4.out _ 4 _ rfl hs4.out rfl (strs_one _) (by unfold maxLen; omega) (by omega) hB4.out.size ?_; intro v5 w5 ho5 hg5; have hB5 := Lib.hid (hB4.out.grown hg5 hB4.out.size (fun j hj => (ho4.out.lt j hj).1)); obtain ⟨a5, c5, rfl⟩ := own_slice' ho5; replace ho5 := Lib.hid ho5; clear hg5)
    | (go_at_call 53; (with_reducible refine (rtxts_any _).mono ?_); rintro e w6 ⟨b6, rfl, h6, hb6, _⟩; have hB6 := Lib.hid (bl_trans hB5.out hb6); have ho6 := Lib.hid (nrow_only (K := fun _ => False) ho5.out (Only.of_below hb6) (fun _ _ => id)); have hs6 := Lib.hid (SrcAt.strs h6 4 rfl 4); clear h6 hb6)
    | (at_builtin; refine wpList_append_src _ rfl (.tmp 76) (.tmp 77) 107 rfl W2.heap.size 9 i0 (.string ⟨#[]⟩) 1 16 Tryz.underlying107 hi hz0 hz1 hz2 rfl (by decide) _ _ _ rfl ho6.out _ 4 _ rfl hs6.out rfl (strs_one _) (by unfold maxLen; omega) (by omega) hB6.out.size ?_; intro v7 w7 ho7 hg7; have hB7 := Lib.hid (hB6.out.grown hg7 hB6.out.size (fun j hj => (ho6.out.lt j hj).1)); obtain ⟨a7, c7, rfl⟩ := own_slice' ho7; replace ho7 := Lib.hid ho7; clear hg7)
    | (go_at_call 54; (with_reducible refine (rflgs_any _).mono ?_); rintro e w8 ⟨b8, rfl, h8, hb8, _⟩; have hB8 := Lib.hid (bl_trans hB7.out hb8); have ho8 := Lib.hid (nrow_only (K := fun _ => False) ho7.out (Only.of_below hb8) (fun _ _ => id)); have hs8 := Lib.hid (SrcAt.strs h8 5 rfl 5); clear h8 hb8)
    | (at_builtin; refine wpList_append_src _ rfl (.tmp 78) (.tmp 79) 107 rfl W2.heap.size 9 i0 (.string ⟨#[]⟩) 1 16 Tryz.underlying107 hi hz0 hz1 hz2 rfl (by decide) _ _ _ rfl ho8.out _ 5 _ rfl hs8.out rfl (strs_one _) (by unfold maxLen; omega) (by omega) hB8.out.size ?_; intro v9 w9 ho9 hg9; have hB9 := hB8.out.grown hg9 hB8.out.size (fun j hj => (ho8.out.lt j hj).1); obtain ⟨a9, c9, rfl⟩ := own_slice' ho9; have hBa := Lib.hid (bl_alloc hB9 (.cells #[.string ⟨#[112, 104, 97, 115, 101]⟩] 9)); have hoa := Lib.hid (ho9.alloc (.cells #[.string ⟨#[112, 104, 97, 115, 101]⟩] 9)); have hsa := Lib.hid (SrcAt.strs (StrsAt.new w9 [CM.phaseW]) 1 rfl 1); clear hg9 ho9 hB9)
    | (at_builtin; refine wpList_append_src _ rfl (.tmp 80) (.tmp 81) 107 rfl W2.heap.size 9 i0 (.string ⟨#[]⟩) 1 16 Tryz.underlying107 hi hz0 hz1 hz2 rfl (by decide) _ _ _ rfl hoa.out _ 1 _ rfl hsa.out rfl (strs_one _) (by unfold maxLen; omega) (by omega) hBa.out.size ?_; intro vb wb hob hgb; have hBb := Lib.hid (hBa.out.grown hgb hBa.out.size (fun j hj => (hoa.out.lt j hj).1)); obtain ⟨ab, cb, rfl⟩ := own_slice' hob; replace hob := Lib.hid hob; clear hgb))
  obtain ⟨r, c, he, hst, hrb⟩ := own_strs (l := startsL) hob.out (by decide)
  simp only [Value.slice.injEq] at he
  obtain ⟨rfl, -, rfl⟩ := he
  have hm := Lib.hid (hatom.out wb hBb.out r cb hst)
  replace hst := Lib.hid hst
  go_upto_region 19 with (first | (rw [pce_s]) | (go_at_call 93; (with_reducible refine hm.out.mono ?_); rintro e w6 ⟨k6, a6, t6, m6, pa6, pm6, pc6, rfl, hO6, hA6⟩; have hA6' := Lib.hid hA6; clear hA6))
  rcases hA6'.out with ⟨a, x, hat, hB6⟩ | ⟨q, hnq, hk1, ht6, hin6, hG6⟩
  · clear hA6'
    have hst6 : RdSt s g p.deep wb.heap.size (.error (a, x)) w6 := hB6
    obtain ⟨d6, o6⟩ := hkeep.out wb w6 hBb.out hO6
    have hN0 : NSt s g p.deep w.heap.size w6.heap.size wb.heap.size w (.error (a, x)) [strV t6, .slice none 0 0, .string ⟨#[]⟩, .int .i64 0, .slice none 0 0] (w6.alloc (.cells #[strV t6, .slice none 0 0, .string ⟨#[]⟩, .int .i64 0, .slice none 0 0] 81)) := NSt.new d6 o6 hst6 rfl hgw (by have := hBb.out.size; omega) hO6.size _ _ _ _ _
    obtain ⟨W9, hW9⟩ : ∃ W9, w6.alloc (.cells #[strV t6, .slice none 0 0, .string ⟨#[]⟩, .int .i64 0, .slice none 0 0] 81) = W9 := ⟨_, rfl⟩
    rw [hW9] at hN0 ⊢
    obtain ⟨nb, hnb⟩ : ∃ nb, w6.heap.size = nb := ⟨_, rfl⟩
    rw [hnb] at hN0 ⊢
    have hkN := Lib.hid (fun w' (hb : Below W9.heap.size W9 w') => hN0.below hb)
    obtain ⟨bv, hbv⟩ : ∃ bv, inS t6 flgsL = bv := ⟨_, rfl⟩
    have hinn := Lib.hid (fun w' b (h : StrsAt w' b flgsL) => (by have := in_at t6 flgsL 5 rfl w' b 5 h (by decide); rwa [hbv] at this : Calls Tryz.prog 39 #[strV t6, .slice (some ⟨b, 0, none⟩) 5 5] w' fun e w'' => e = .returned (.bool bv) ∧ w' = w''))
    have n0 : W9.cell? ⟨nb, 0, none⟩ = some (strV t6) := hN0.n.cell 0
    have nl := hN0.n.lt
    replace hW9 := Lib.hid hW9
    replace hnb := Lib.hid hnb
    replace hN0 := Lib.hid hN0
    clear d6 o6 hO6 hkeep hatom hm hob hBb hoa hsa hBa hst
    have qx : (x != 0) = true := by have := hN0.out.e_bad.2; simpa using this
    replace hat := Lib.hid hat
    replace hbv := Lib.hid hbv
    cases bv with
    | true =>
      have sB : Below W9.heap.size W9 W9.drew := bl_drew (Below.refl _ _)
      have sl := (hkN.out _ sB).n.lt
      first | go_region_with (first | (go_at_call 54; (with_reducible refine (rflgs_any _).mono ?_); rintro e w5 ⟨b5, rfl, hS5, hb5, _⟩; have hb5' := bl_trans sB hb5; obtain ⟨⟨n0, n1, n2, n3, n4⟩, ⟨x0, x1, x2, x3, x4⟩, ⟨y0, y1, y2, y3, y4⟩, nl, bl, gl, hBn⟩ := NSt.cells (hkN.out _ hb5'); have hfin := Lib.hid ((hkN.out _ hb5').store (strV t6) (.slice none 0 0) (.string ⟨#[]⟩) (.int .i64 0) (.slice none 0 0)); replace hS5 := Lib.hid hS5) | (go_at_call 39; (with_reducible refine (hinn.out _ _ hS5.out).mono ?_); rintro e w7 ⟨rfl, rfl⟩)) | fail
      all_goals (
        go_wp2_with fail
        obtain ⟨z1, z2, z3, z4, z5⟩ := hfin.out _ rfl
        have e0 := z1.cell 0
        have e1 := z1.cell 1
        have e2 := z1.cell 2
        have e3 := z1.cell 3
        have e4 := z1.cell 4
        simp only [List.getElem?_cons_zero, List.getElem?_cons_succ] at e0 e1 e2 e3 e4
        clear z1
        refine bodyPost_ret (v := .agg #[strV t6, .slice none 0 0, .string ⟨#[]⟩, .int .i64 0, .slice none 0 0]) ?_ rfl ?_
        · simp [results, Tryz.results70, go_sem, e0, e1, e2, e3, e4]
        · exact RdSt.out_err z4 hat.out z2 ⟨t6, none, 0, 0, [], 0, none, 0, 0, rfl⟩)
    | false =>
      have sB : Below W9.heap.size W9 W9.drew := bl_drew (Below.refl _ _)
      have sI : Below W9.heap.size W9 W9.drew ∧ W9.drew.cell? ⟨nb, 0, none⟩ = some (strV t6) ∧ W9.drew.cell? ⟨g, 9, none⟩ = some (.int .i64 x) := ⟨sB, ⟨(hkN.out _ sB).n.cell 0, (hkN.out _ sB).e_bad.1⟩⟩
      have sl := (hkN.out _ sB).n.lt
      first | go_region_held3 (fun w' => Below W9.heap.size W9 w' ∧ w'.cell? ⟨nb, 0, none⟩ = some (strV t6) ∧ w'.cell? ⟨g, 9, none⟩ = some (.int .i64 x)) (first | with_reducible exact sI | with_reducible exact hI) (first | (go_at_call 54; (with_reducible refine (rflgs_any _).mono ?_); rintro e w5 ⟨b5, rfl, hS5, hb5, _⟩; have hb5' := bl_trans sB hb5; have hI : Below W9.heap.size W9 w5 ∧ w5.cell? ⟨nb, 0, none⟩ = some (strV t6) ∧ w5.cell? ⟨g, 9, none⟩ = some (.int .i64 x) := ⟨hb5', ⟨(hkN.out _ hb5').n.cell 0, (hkN.out _ hb5').e_bad.1⟩⟩; replace hS5 := Lib.hid hS5) | (go_at_call 39; (with_reducible refine (hinn.out _ _ hS5.out).mono ?_); rintro e w7 ⟨rfl, rfl⟩)) | fail
      have h5 := Lib.hid (hkN.out _ hI.1)
      have k4 := h5.out.n.lt
      clear sI sB hI hb5 hb5' hS5 hinn hkN sl
      clear k4 n0 nl
      obtain ⟨⟨n0, n1, n2, n3, n4⟩, ⟨x0, x1, x2, x3, x4⟩, ⟨y0, y1, y2, y3, y4⟩, nl, bl, gl, hBn⟩ := NSt.cells h5.out
      have hfin := Lib.hid (h5.out.store (strV t6) (.slice none 0 0) (.string ⟨#[]⟩) (.int .i64 0) (.slice none 0 0))
      go_wp2_with fail
      obtain ⟨z1, z2, z3, z4, z5⟩ := hfin.out _ rfl
      have e0 := z1.cell 0
      have e1 := z1.cell 1
      have e2 := z1.cell 2
      have e3 := z1.cell 3
      have e4 := z1.cell 4
      simp only [List.getElem?_cons_zero, List.getElem?_cons_succ] at e0 e1 e2 e3 e4
      clear z1
      refine bodyPost_ret (v := .agg #[strV t6, .slice none 0 0, .string ⟨#[]⟩, .int .i64 0, .slice none 0 0]) ?_ rfl ?_
      · simp [results, Tryz.results70, go_sem, e0, e1, e2, e3, e4]
      · exact RdSt.out_err z4 hat.out z2 ⟨t6, none, 0, 0, [], 0, none, 0, 0, rfl⟩
  clear hA6'
  have hok6 := CM.next_mu hok.le hok.deep hnq
  have hst6 : RdSt s g p.deep wb.heap.size (.ok q) w6 := ⟨hG6, hok6.1, next_sg hnq, hok6.2.1⟩
  clear hG6
  obtain ⟨lob, hlob⟩ : ∃ lob, wb.heap.size = lob := ⟨_, rfl⟩
  obtain ⟨d6, o6⟩ := hkeep.out wb w6 hBb.out hO6
  have hN0 : NSt s g p.deep w.heap.size w6.heap.size wb.heap.size w (.ok q) [strV t6, .slice none 0 0, .string ⟨#[]⟩, .int .i64 0, .slice none 0 0] (w6.alloc (.cells #[strV t6, .slice none 0 0, .string ⟨#[]⟩, .int .i64 0, .slice none 0 0] 81)) := NSt.new d6 o6 hst6 rfl hgw (by have := hBb.out.size; omega) hO6.size _ _ _ _ _
  obtain ⟨W9, hW9⟩ : ∃ W9, w6.alloc (.cells #[strV t6, .slice none 0 0, .string ⟨#[]⟩, .int .i64 0, .slice none 0 0] 81) = W9 := ⟨_, rfl⟩
  rw [hW9] at hN0 ⊢
  obtain ⟨nb, hnb⟩ : ∃ nb, w6.heap.size = nb := ⟨_, rfl⟩
  rw [hnb] at hN0 ⊢
  have hkN := Lib.hid (fun w' (hb : Below W9.heap.size W9 w') => hN0.below hb)
  obtain ⟨bv, hbv⟩ : ∃ bv, inS t6 flgsL = bv := ⟨_, rfl⟩
  have hinn := Lib.hid (fun w' b (h : StrsAt w' b flgsL) => (by have := in_at t6 flgsL 5 rfl w' b 5 h (by decide); rwa [hbv] at this : Calls Tryz.prog 39 #[strV t6, .slice (some ⟨b, 0, none⟩) 5 5] w' fun e w'' => e = .returned (.bool bv) ∧ w' = w''))
  have n0 : W9.cell? ⟨nb, 0, none⟩ = some (strV t6) := hN0.n.cell 0
  have nl := hN0.n.lt
  replace hW9 := Lib.hid hW9
  replace hnb := Lib.hid hnb
  replace hN0 := Lib.hid hN0
  clear d6 o6 hO6 hkeep hatom hm hob hBb hoa hsa hBa hst
  rw [in_flgs, ht6] at hbv
  rw [ht6] at hin6
  replace ht6 := Lib.hid ht6
  replace hk1 := Lib.hid hk1
  replace hnq := Lib.hid hnq
  replace hin6 := Lib.hid hin6
  clear hok6 hst6
  cases hfl : CM.flagOf p.pc.s with
  | some f =>
    rw [hfl] at hbv
    obtain rfl : true = bv := hbv
    have sB : Below W9.heap.size W9 W9.drew := bl_drew (Below.refl _ _)
    have sl := (hkN.out _ sB).n.lt
    first | go_region_with (first | (go_at_call 54; (with_reducible refine (rflgs_any _).mono ?_); rintro e w5 ⟨b5, rfl, hS5, hb5, _⟩; have hb5' := bl_trans sB hb5; obtain ⟨⟨n0, n1, n2, n3, n4⟩, ⟨x0, x1, x2, x3, x4⟩, ⟨y0, y1, y2, y3, y4⟩, nl, bl, gl, hBn⟩ := NSt.cells (hkN.out _ hb5'); have hfin := Lib.hid ((hkN.out _ hb5').store (strV t6) (.slice none 0 0) (.string ⟨#[]⟩) (.int .i64 0) (.slice none 0 0)); replace hS5 := Lib.hid hS5) | (go_at_call 39; (with_reducible refine (hinn.out _ _ hS5.out).mono ?_); rintro e w7 ⟨rfl, rfl⟩)) | fail
    all_goals (
      go_wp2_with fail
      obtain ⟨z1, z2, z3, z4, z5⟩ := hfin.out _ rfl
      have e0 := z1.cell 0
      have e1 := z1.cell 1
      have e2 := z1.cell 2
      have e3 := z1.cell 3
      have e4 := z1.cell 4
      simp only [List.getElem?_cons_zero, List.getElem?_cons_succ] at e0 e1 e2 e3 e4
      clear z1
      refine bodyPost_ret (v := .agg #[strV t6, .slice none 0 0, .string ⟨#[]⟩, .int .i64 0, .slice none 0 0]) ?_ rfl ?_
      · simp [results, Tryz.results70, go_sem, e0, e1, e2, e3, e4]
      · have hh := out_flag hk1.out hnq.out hfl z2 z3 z4; rw [← ht6.out] at hh; exact hh)
  | none =>
    rw [hfl] at hbv
    obtain rfl : false = bv := hbv
    have sB : Below W9.heap.size W9 W9.drew := bl_drew (Below.refl _ _)
    have sI : Below W9.heap.size W9 W9.drew ∧ W9.drew.cell? ⟨nb, 0, none⟩ = some (strV t6) ∧ W9.drew.cell? ⟨g, 9, none⟩ = some (.int .i64 0) := ⟨sB, ⟨(hkN.out _ sB).n.cell 0, (hkN.out _ sB).e⟩⟩
    have sl := (hkN.out _ sB).n.lt
    first | go_region_held3 (fun w' => Below W9.heap.size W9 w' ∧ w'.cell? ⟨nb, 0, none⟩ = some (strV t6) ∧ w'.cell? ⟨g, 9, none⟩ = some (.int .i64 0)) (first | with_reducible exact sI | with_reducible exact hI) (first | (go_at_call 54; (with_reducible refine (rflgs_any _).mono ?_); rintro e w5 ⟨b5, rfl, hS5, hb5, _⟩; have hb5' := bl_trans sB hb5; have hI : Below W9.heap.size W9 w5 ∧ w5.cell? ⟨nb, 0, none⟩ = some (strV t6) ∧ w5.cell? ⟨g, 9, none⟩ = some (.int .i64 0) := ⟨hb5', ⟨(hkN.out _ hb5').n.cell 0, (hkN.out _ hb5').e⟩⟩; replace hS5 := Lib.hid hS5) | (go_at_call 39; (with_reducible refine (hinn.out _ _ hS5.out).mono ?_); rintro e w7 ⟨rfl, rfl⟩)) | fail
    have h5 := Lib.hid (hkN.out _ hI.1)
    have k4 := h5.out.n.lt
    clear sI sB hI hb5 hb5' hS5 hinn hkN sl
    clear n0 nl
    by_cases hph : p.pc.s = CM.phaseW
    · have qph : (t6 == [112, 104, 97, 115, 101]) = true := by rw [ht6.out, hph]; rfl
      have hm := Lib.hid (fun w10 (hb : Below w5.heap.size w5 w10) b (hS : StrsAt w10 b phsL) => (h5.out.below hb).must_l hs 1 1 rfl phsL 4 b 4 rfl hS (by decide) (by decide))
      go_upto_region 23 with (first | (rw [pce_s]) | (go_at_call 38; (with_reducible refine (rphs_any _).mono ?_); rintro e w10 ⟨b10, rfl, hS10, hb10, _⟩; have hm10 := Lib.hid (hm.out w10 hb10 b10 hS10); have k9 := (h5.out.below hb10).n.lt; clear hS10 hb10) | (go_at_call 93; (with_reducible refine hm10.out.mono ?_); rintro e w11 ⟨k11, a11, u11, m11, pa11, pm11, pc11, rfl, h11, hl11, hv11⟩; have n11 := h11.n.cell 2; have f11 := h11.n.free 2; have ln11 := h11.n.lt; replace h11 := Lib.hid h11; replace hv11 := Lib.hid hv11))
      have h12 : NSt s g p.deep w.heap.size nb w10.heap.size w (takeR s 1 (fun x => inS (rs x) phsL) (.ok q)) [strV t6, .slice none 0 0, strV u11, .int .i64 0, .slice none 0 0] (w11.setCell ⟨nb, 2, none⟩ (strV u11)) := (h11.out.put hl11 2 (strV u11)).1
      have hb12 := (h11.out.put hl11 2 (strV u11)).2
      obtain ⟨w12, hw12⟩ : ∃ W, w11.setCell ⟨nb, 2, none⟩ (strV u11) = W := ⟨_, rfl⟩
      rw [hw12] at h12 hb12 ⊢
      replace hw12 := Lib.hid hw12
      replace h12 := Lib.hid h12
      replace hb12 := Lib.hid hb12
      clear n11 f11 ln11
      clear k4 k9
      obtain ⟨⟨n0, n1, n2, n3, n4⟩, ⟨x0, x1, x2, x3, x4⟩, ⟨y0, y1, y2, y3, y4⟩, nl, bl, gl, hBn⟩ := NSt.cells h12.out
      have hfin := Lib.hid (h12.out.store (strV t6) (.slice none 0 0) (strV u11) (.int .i64 0) (.slice none 0 0))
      go_wp2_with fail
      obtain ⟨z1, z2, z3, z4, z5⟩ := hfin.out _ rfl
      have e0 := z1.cell 0
      have e1 := z1.cell 1
      have e2 := z1.cell 2
      have e3 := z1.cell 3
      have e4 := z1.cell 4
      simp only [List.getElem?_cons_zero, List.getElem?_cons_succ] at e0 e1 e2 e3 e4
      clear z1
      refine bodyPost_ret (v := .agg #[strV t6, .slice none 0 0, strV u11, .int .i64 0, .slice none 0 0]) ?_ rfl ?_
      · simp [results, Tryz.results70, go_sem, e0, e1, e2, e3, e4]
      · have hh := out_phase hk1.out hnq.out hph z2 z3 (u := u11) z4 (fun r hr => by obtain ⟨p', e, a1, a2, a3, a4, _⟩ := hv11.out r hr; injection e with e; subst e; exact ⟨a1, a2, a3, a4⟩); rw [← hph, ← ht6.out] at hh; exact hh
    have qph : (t6 == [112, 104, 97, 115, 101]) = false := by rw [ht6.out]; simpa using hph
    cases hc : q.pc.is 1 CM.changedW with
    | true =>
      have his : Hid (Calls Tryz.prog 59 #[.pointer (some ⟨g, 0, none⟩), .int .i64 1, .string ⟨#[99, 104, 97, 110, 103, 101, 100]⟩] w5 fun e w' => e = .returned (.bool true) ∧ NSt s g p.deep w.heap.size nb w5.heap.size w (q.next s) [strV t6, .slice none 0 0, .string ⟨#[]⟩, .int .i64 0, .slice none 0 0] w') := Lib.hid (h5.out.is_yes hs CM.changedW hc)
      go_upto_region 26 with (go_at_call 59; (with_reducible refine his.out.mono ?_); rintro e w10 ⟨rfl, h10⟩; have n10 := h10.n.cell 2; have f10 := h10.n.free 2; have ln10 := h10.n.lt; replace h10 := Lib.hid h10; have hl10 : nb < w5.heap.size := k4)
      have h12 : NSt s g p.deep w.heap.size nb w5.heap.size w (q.next s) [strV t6, .slice none 0 0, .string ⟨#[99, 104, 97, 110, 103, 101, 100]⟩, .int .i64 0, .slice none 0 0] (w10.setCell ⟨nb, 2, none⟩ (.string ⟨#[99, 104, 97, 110, 103, 101, 100]⟩)) := (h10.out.put hl10 2 (.string ⟨#[99, 104, 97, 110, 103, 101, 100]⟩)).1
      have hb12 := (h10.out.put hl10 2 (.string ⟨#[99, 104, 97, 110, 103, 101, 100]⟩)).2
      obtain ⟨w12, hw12⟩ : ∃ W, w10.setCell ⟨nb, 2, none⟩ (.string ⟨#[99, 104, 97, 110, 103, 101, 100]⟩) = W := ⟨_, rfl⟩
      rw [hw12] at h12 hb12 ⊢
      replace hw12 := Lib.hid hw12
      replace h12 := Lib.hid h12
      replace hb12 := Lib.hid hb12
      clear n10 f10 ln10
      clear k4 hl10
      obtain ⟨⟨n0, n1, n2, n3, n4⟩, ⟨x0, x1, x2, x3, x4⟩, ⟨y0, y1, y2, y3, y4⟩, nl, bl, gl, hBn⟩ := NSt.cells h12.out
      have hfin := Lib.hid (h12.out.store (strV t6) (.slice none 0 0) (.string ⟨#[99, 104, 97, 110, 103, 101, 100]⟩) (.int .i64 0) (.slice none 0 0))
      go_wp2_with fail
      obtain ⟨z1, z2, z3, z4, z5⟩ := hfin.out _ rfl
      have e0 := z1.cell 0
      have e1 := z1.cell 1
      have e2 := z1.cell 2
      have e3 := z1.cell 3
      have e4 := z1.cell 4
      simp only [List.getElem?_cons_zero, List.getElem?_cons_succ] at e0 e1 e2 e3 e4
      clear z1
      refine bodyPost_ret (v := .agg #[strV t6, .slice none 0 0, .string ⟨#[99, 104, 97, 110, 103, 101, 100]⟩, .int .i64 0, .slice none 0 0]) ?_ rfl ?_
      · simp [results, Tryz.results70, go_sem, e0, e1, e2, e3, e4]
      · cases hnum : CM.numOf p.pc.s with
        | some f => have hh := out_num_chg hk1.out hnq.out hfl hnum hc z2 z3 z4; rw [← ht6.out] at hh; exact hh
        | none => obtain ⟨f, hf⟩ := starts_txt hin6.out hfl hnum hph; have hh := out_txt_chg hk1.out hnq.out hfl hf hc z2 z3 z4; rw [← ht6.out] at hh; exact hh
    | false =>
      have hs0 : Hid (Calls Tryz.prog 59 #[.pointer (some ⟨g, 0, none⟩), .int .i64 1, .string ⟨#[99, 104, 97, 110, 103, 101, 100]⟩] w5 fun e w' => e = .returned (.bool false) ∧ w5 = w') := Lib.hid (h5.out.is_no CM.changedW hc)
      go_upto_region 27 with (go_at_call 59; (with_reducible refine hs0.out.mono ?_); rintro e w10 ⟨rfl, rfl⟩)
      clear hs0
      have hkM := Lib.hid (fun w' (hb : Below w5.heap.size w5 w') => h5.out.below hb)
      obtain ⟨b2, hb2⟩ : ∃ b2, inS t6 numsL = b2 := ⟨_, rfl⟩
      have hinm := Lib.hid (fun w' b (h : StrsAt w' b numsL) => (by have := in_at t6 numsL 4 rfl w' b 4 h (by decide); rwa [hb2] at this : Calls Tryz.prog 39 #[strV t6, .slice (some ⟨b, 0, none⟩) 4 4] w' fun e w'' => e = .returned (.bool b2) ∧ w' = w''))
      rw [in_nums, ht6.out] at hb2
      replace hc := Lib.hid hc
      cases hnum : CM.numOf p.pc.s
      case some f =>
        rw [hnum] at hb2
        obtain rfl : true = b2 := hb2
        have sB : Below w5.heap.size w5 w5.drew := bl_drew (Below.refl _ _)
        have sI : Below w5.heap.size w5 w5.drew ∧ w5.drew.cell? ⟨nb, 0, none⟩ = some (strV t6) := ⟨sB, ((hkM.out _ sB).n.cell 0)⟩
        have sl := (hkM.out _ sB).n.lt
        first | go_region_held3 (fun w' => Below w5.heap.size w5 w' ∧ w'.cell? ⟨nb, 0, none⟩ = some (strV t6)) (first | with_reducible exact sI | with_reducible exact hI) (first | (go_at_call 40; (with_reducible refine (rnums_any _).mono ?_); rintro e w8 ⟨b8, rfl, hS8, hb8, _⟩; have hb8' := bl_trans sB hb8; have hI : Below w5.heap.size w5 w8 ∧ w8.cell? ⟨nb, 0, none⟩ = some (strV t6) := ⟨hb8', ((hkM.out _ hb8').n.cell 0)⟩; replace hS8 := Lib.hid hS8) | (go_at_call 39; (with_reducible refine (hinm.out _ _ hS8.out).mono ?_); rintro e w7 ⟨rfl, rfl⟩)) | fail
        have h8 := Lib.hid (hkM.out _ hI.1)
        clear sI sB hI hb8 hb8' hS8 hinm hkM sl k4 h5
        have hba : Below w8.heap.size w8 (w8.alloc (.cells #[.string ⟨#[61]⟩, .string ⟨#[33, 61]⟩, .string ⟨#[60]⟩, .string ⟨#[60, 61]⟩, .string ⟨#[62]⟩, .string ⟨#[62, 61]⟩] 9)) := bl_alloc (Below.refl _ _) _
        have hsa : StrsAt (w8.alloc (.cells #[.string ⟨#[61]⟩, .string ⟨#[33, 61]⟩, .string ⟨#[60]⟩, .string ⟨#[60, 61]⟩, .string ⟨#[62]⟩, .string ⟨#[62, 61]⟩] 9)) w8.heap.size sgsL := StrsAt.new w8 sgsL
        have hm8 : Hid (Calls Tryz.prog 93 #[.pointer (some ⟨g, 0, none⟩), .int .i64 4, .slice (some ⟨w8.heap.size, 0, none⟩) 6 6] (w8.alloc (.cells #[.string ⟨#[61]⟩, .string ⟨#[33, 61]⟩, .string ⟨#[60]⟩, .string ⟨#[60, 61]⟩, .string ⟨#[62]⟩, .string ⟨#[62, 61]⟩] 9)) (NMust s g p.deep w.heap.size nb wb.heap.size 4 (fun x => inS (rs x) sgsL) w (.ok q) [strV t6, .slice none 0 0, .string ⟨#[]⟩, .int .i64 0, .slice none 0 0] (w8.alloc (.cells #[.string ⟨#[61]⟩, .string ⟨#[33, 61]⟩, .string ⟨#[60]⟩, .string ⟨#[60, 61]⟩, .string ⟨#[62]⟩, .string ⟨#[62, 61]⟩] 9)))) := Lib.hid ((h8.out.below hba).must_l hs 4 4 rfl sgsL 6 w8.heap.size 6 rfl hsa (by decide) (by decide))
        clear hba hsa
        go_upto_region 29 with (first | (rw [pce_s]) | (go_at_call 93; (with_reducible refine hm8.out.mono ?_); rintro e w11 ⟨k11, a11, u11, m11, pa11, pm11, pc11, rfl, h11, hl11, hv11⟩; have n11 := h11.n.cell 2; have f11 := h11.n.free 2; have ln11 := h11.n.lt; replace h11 := Lib.hid h11; replace hv11 := Lib.hid hv11))
        replace h11 := h11.out
        replace hv11 := hv11.out
        obtain ⟨lo1, hlo1⟩ : ∃ lo1, (w8.alloc (.cells #[.string ⟨#[61]⟩, .string ⟨#[33, 61]⟩, .string ⟨#[60]⟩, .string ⟨#[60, 61]⟩, .string ⟨#[62]⟩, .string ⟨#[62, 61]⟩] 9)).heap.size = lo1 := ⟨_, rfl⟩
        obtain ⟨R1, hR1⟩ : ∃ R1, takeR s 4 (fun x => inS (rs x) sgsL) (.ok q) = R1 := ⟨_, rfl⟩
        rw [hlo1, hR1] at h11
        rw [hlo1] at hl11
        rw [hR1] at hv11
        replace h11 := Lib.hid h11
        replace hv11 := Lib.hid hv11
        replace hlo1 := Lib.hid hlo1
        replace hR1 := Lib.hid hR1
        have h12 : NSt s g p.deep w.heap.size nb lo1 w R1 [strV t6, .slice none 0 0, strV u11, .int .i64 0, .slice none 0 0] (w11.setCell ⟨nb, 2, none⟩ (strV u11)) := (h11.out.put hl11 2 (strV u11)).1
        have hb12 := (h11.out.put hl11 2 (strV u11)).2
        obtain ⟨w12, hw12⟩ : ∃ W, w11.setCell ⟨nb, 2, none⟩ (strV u11) = W := ⟨_, rfl⟩
        rw [hw12] at h12 hb12 ⊢
        replace hw12 := Lib.hid hw12
        replace h12 := Lib.hid h12
        replace hb12 := Lib.hid hb12
        clear n11 f11 ln11
        have hm12 := Lib.hid (h12.out.must_k hs 2 2 rfl)
        clear hl11 hm8
        go_upto_region 30 with (first | (rw [pce_n]) | (go_at_call 93; (with_reducible refine hm12.out.mono ?_); rintro e w13 ⟨k13, a13, u13, m13, pa13, pm13, pc13, rfl, h13, hl13, hv13⟩; have n13 := h13.n.cell 3; have f13 := h13.n.free 3; have ln13 := h13.n.lt; replace h13 := Lib.hid h13; replace hv13 := Lib.hid hv13))
        have h14 : NSt s g p.deep w.heap.size nb w12.heap.size w (takeR s 2 (fun _ => true) R1) [strV t6, .slice none 0 0, strV u11, .int .i64 m13, .slice none 0 0] (w13.setCell ⟨nb, 3, none⟩ (.int .i64 m13)) := (h13.out.put hl13 3 (.int .i64 m13)).1
        have hb14 := (h13.out.put hl13 3 (.int .i64 m13)).2
        obtain ⟨w14, hw14⟩ : ∃ W, w13.setCell ⟨nb, 3, none⟩ (.int .i64 m13) = W := ⟨_, rfl⟩
        rw [hw14] at h14 hb14 ⊢
        replace hw14 := Lib.hid hw14
        replace h14 := Lib.hid h14
        replace hb14 := Lib.hid hb14
        clear n13 f13 ln13
        clear hl13
        obtain ⟨⟨n0, n1, n2, n3, n4⟩, ⟨x0, x1, x2, x3, x4⟩, ⟨y0, y1, y2, y3, y4⟩, nl, bl, gl, hBn⟩ := NSt.cells h14.out
        have hfin := Lib.hid (h14.out.store (strV t6) (.slice none 0 0) (strV u11) (.int .i64 m13) (.slice none 0 0))
        go_wp2_with fail
        obtain ⟨z1, z2, z3, z4, z5⟩ := hfin.out _ rfl
        have e0 := z1.cell 0
        have e1 := z1.cell 1
        have e2 := z1.cell 2
        have e3 := z1.cell 3
        have e4 := z1.cell 4
        simp only [List.getElem?_cons_zero, List.getElem?_cons_succ] at e0 e1 e2 e3 e4
        clear z1
        refine bodyPost_ret (v := .agg #[strV t6, .slice none 0 0, strV u11, .int .i64 m13, .slice none 0 0]) ?_ rfl ?_
        · simp [results, Tryz.results70, go_sem, e0, e1, e2, e3, e4]
        · have hh := out_num hk1.out hnq.out hfl hnum hc.out (next_sg hnq.out) z2 z3 hR1.out z4 (fun r hr => by obtain ⟨p', e, a1, a2, a3, a4, _⟩ := hv11.out r hr; injection e with e; subst e; exact a4) (fun t ht => by obtain ⟨p', e, a1, a2, a3, a4, a5, _⟩ := hv13.out t ht; exact ⟨p', e, a5⟩); rw [← ht6.out] at hh; exact hh
      case none =>
        rw [hnum] at hb2
        obtain rfl : false = b2 := hb2
        have sB : Below w5.heap.size w5 w5.drew := bl_drew (Below.refl _ _)
        have sI : Below w5.heap.size w5 w5.drew ∧ w5.drew.cell? ⟨nb, 0, none⟩ = some (strV t6) := ⟨sB, ((hkM.out _ sB).n.cell 0)⟩
        have sl := (hkM.out _ sB).n.lt
        first | go_region_held3 (fun w' => Below w5.heap.size w5 w' ∧ w'.cell? ⟨nb, 0, none⟩ = some (strV t6)) (first | with_reducible exact sI | with_reducible exact hI) (first | (go_at_call 40; (with_reducible refine (rnums_any _).mono ?_); rintro e w8 ⟨b8, rfl, hS8, hb8, _⟩; have hb8' := bl_trans sB hb8; have hI : Below w5.heap.size w5 w8 ∧ w8.cell? ⟨nb, 0, none⟩ = some (strV t6) := ⟨hb8', ((hkM.out _ hb8').n.cell 0)⟩; replace hS8 := Lib.hid hS8) | (go_at_call 39; (with_reducible refine (hinm.out _ _ hS8.out).mono ?_); rintro e w7 ⟨rfl, rfl⟩)) | fail
        have h8 := Lib.hid (hkM.out _ hI.1)
        clear sI sB hI hb8 hb8' hS8 hinm hkM sl k4 h5
        obtain ⟨f, hftx⟩ := starts_txt hin6.out hfl hnum hph
        have hba : Below w8.heap.size w8 (w8.alloc (.cells #[.string ⟨#[105, 115]⟩, .string ⟨#[104, 97, 115]⟩] 9)) := bl_alloc (Below.refl _ _) _
        have hsa : StrsAt (w8.alloc (.cells #[.string ⟨#[105, 115]⟩, .string ⟨#[104, 97, 115]⟩] 9)) w8.heap.size wrdsL := StrsAt.new w8 wrdsL
        have hm8 : Hid (Calls Tryz.prog 93 #[.pointer (some ⟨g, 0, none⟩), .int .i64 1, .slice (some ⟨w8.heap.size, 0, none⟩) 2 2] (w8.alloc (.cells #[.string ⟨#[105, 115]⟩, .string ⟨#[104, 97, 115]⟩] 9)) (NMust s g p.deep w.heap.size nb wb.heap.size 1 (fun x => inS (rs x) wrdsL) w (.ok q) [strV t6, .slice none 0 0, .string ⟨#[]⟩, .int .i64 0, .slice none 0 0] (w8.alloc (.cells #[.string ⟨#[105, 115]⟩, .string ⟨#[104, 97, 115]⟩] 9)))) := Lib.hid ((h8.out.below hba).must_l hs 1 1 rfl wrdsL 2 w8.heap.size 2 rfl hsa (by decide) (by decide))
        clear hba hsa
        go_upto_region 32 with (first | (rw [pce_s]) | (go_at_call 93; (with_reducible refine hm8.out.mono ?_); rintro e w11 ⟨k11, a11, u11, m11, pa11, pm11, pc11, rfl, h11, hl11, hv11⟩; have n11 := h11.n.cell 2; have f11 := h11.n.free 2; have ln11 := h11.n.lt; replace h11 := Lib.hid h11; replace hv11 := Lib.hid hv11))
        replace h11 := h11.out
        replace hv11 := hv11.out
        obtain ⟨lo1, hlo1⟩ : ∃ lo1, (w8.alloc (.cells #[.string ⟨#[105, 115]⟩, .string ⟨#[104, 97, 115]⟩] 9)).heap.size = lo1 := ⟨_, rfl⟩
        obtain ⟨R1, hR1⟩ : ∃ R1, takeR s 1 (fun x => inS (rs x) wrdsL) (.ok q) = R1 := ⟨_, rfl⟩
        rw [hlo1, hR1] at h11
        rw [hlo1] at hl11
        rw [hR1] at hv11
        replace h11 := Lib.hid h11
        replace hv11 := Lib.hid hv11
        replace hlo1 := Lib.hid hlo1
        replace hR1 := Lib.hid hR1
        have h12 : NSt s g p.deep w.heap.size nb lo1 w R1 [strV t6, .slice none 0 0, strV u11, .int .i64 0, .slice none 0 0] (w11.setCell ⟨nb, 2, none⟩ (strV u11)) := (h11.out.put hl11 2 (strV u11)).1
        have hb12 := (h11.out.put hl11 2 (strV u11)).2
        obtain ⟨w12, hw12⟩ : ∃ W, w11.setCell ⟨nb, 2, none⟩ (strV u11) = W := ⟨_, rfl⟩
        rw [hw12] at h12 hb12 ⊢
        replace hw12 := Lib.hid hw12
        replace h12 := Lib.hid h12
        replace hb12 := Lib.hid hb12
        clear n11 f11 ln11
        have hm12 := Lib.hid (h12.out.must_k hs 3 3 rfl)
        have hlo12 := Lib.hid h12.out.ord
        clear hm8
        replace hl11 := Lib.hid hl11
        go_upto_region 33 with (first | (rw [pce_b]) | (go_at_call 93; (with_reducible refine hm12.out.mono ?_); rintro e w13 ⟨k13, a13, u13, m13, pa13, pm13, pc13, rfl, h13, hl13, hv13⟩; have n13 := h13.n.cell 4; have f13 := h13.n.free 4; have ln13 := h13.n.lt; replace h13 := Lib.hid h13; replace hv13 := Lib.hid hv13))
        have h14 : NSt s g p.deep w.heap.size nb w12.heap.size w (takeR s 3 (fun _ => true) R1) [strV t6, .slice none 0 0, strV u11, .int .i64 0, .slice pa13 pm13 pc13] (w13.setCell ⟨nb, 4, none⟩ (.slice pa13 pm13 pc13)) := (h13.out.put hl13 4 (.slice pa13 pm13 pc13)).1
        have hb14 := (h13.out.put hl13 4 (.slice pa13 pm13 pc13)).2
        obtain ⟨w14, hw14⟩ : ∃ W, w13.setCell ⟨nb, 4, none⟩ (.slice pa13 pm13 pc13) = W := ⟨_, rfl⟩
        rw [hw14] at h14 hb14 ⊢
        replace hw14 := Lib.hid hw14
        replace h14 := Lib.hid h14
        replace hb14 := Lib.hid hb14
        clear n13 f13 ln13
        clear hl13
        obtain ⟨⟨n0, n1, n2, n3, n4⟩, ⟨x0, x1, x2, x3, x4⟩, ⟨y0, y1, y2, y3, y4⟩, nl, bl, gl, hBn⟩ := NSt.cells h14.out
        have hfin := Lib.hid (h14.out.store (strV t6) (.slice none 0 0) (strV u11) (.int .i64 0) (.slice pa13 pm13 pc13))
        go_wp2_with fail
        obtain ⟨z1, z2, z3, z4, z5⟩ := hfin.out _ rfl
        have e0 := z1.cell 0
        have e1 := z1.cell 1
        have e2 := z1.cell 2
        have e3 := z1.cell 3
        have e4 := z1.cell 4
        simp only [List.getElem?_cons_zero, List.getElem?_cons_succ] at e0 e1 e2 e3 e4
        clear z1
        refine bodyPost_ret (v := .agg #[strV t6, .slice none 0 0, strV u11, .int .i64 0, .slice pa13 pm13 pc13]) ?_ rfl ?_
        · simp [results, Tryz.results70, go_sem, e0, e1, e2, e3, e4]
        · have hh := out_txt hk1.out hnq.out hfl hftx hc.out z2 z3 hR1.out z4 (fun r hr => by obtain ⟨p', e, a1, a2, a3, a4, _⟩ := hv11.out r hr; injection e with e; subst e; exact a4) hs (fun t ht => by
            obtain ⟨p', e, a1, a2, a3, a4, a5, a6⟩ := hv13.out t ht
            have hk3 : p'.pc.kind = 3 := (rk_eq (by omega) (by omega)).1 a1
            obtain ⟨c1, c2, c3⟩ := a6 hk3
            have ho := hlo12.out
            have hl := hl11.out
            exact ⟨p', e, c1, c2, piece_len hs (next_of_take hR1.out e) hk3, BytesN.mono (z5 _ _ _ (by omega) (hb14.out _ _ _ (by omega) c3)) (by omega)⟩)
          rw [← ht6.out] at hh
          exact hh
end Go.Proofs.YtcjcflmnghhbaaaGreat
