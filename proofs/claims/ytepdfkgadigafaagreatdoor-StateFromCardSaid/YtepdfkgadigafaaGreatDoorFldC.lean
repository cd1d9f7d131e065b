/-
  The fields of a state, of chapter 20: the walk.
  Conditions: as each theorem states them.
-/
import Derived.Test.YtepdfkgadigafaaGreatDoorFdA
import Derived.Test.YtepdfkgadigafaaGreatDoorCpB
namespace Go.Proofs.YtepdfkgadigafaaGreatDoor
open Go.RowKit Go.Sort
set_option linter.unusedVariables false
set_option linter.unusedSimpArgs false
set_option maxHeartbeats 4000000 in
set_option maxRecDepth 100000 in
theorem fields_any (w : World) (s : StC) (V : StV) {lo hi_ : Nat} (hs : SIn lo hi_ s V w) (hp : Pow w) (hk : FM.ScI V.sc) (hw64 : ∀ x ∈ V.waits, FM.I64 x.1) (hm : FitV V) :
    Calls Tryz.prog 11 #[.agg s.cells.toArray] w fun e w' => ∃ a c, e = .returned (.slice a 10 c) ∧ OutAt (fun b => w.heap.size ≤ b) true w' a (FM.fieldsS V) ∧ Below w.heap.size w w' := by
  obtain ⟨i0, hi, hz0, hz1, hz2⟩ := info_parts info5_
  have h64 := FM.nums64 hk
  have esc := hs.sc
  obtain ⟨sc, vp, vh, vr, vo, vl, va, vk, vw, vf⟩ := V
  have hS := Lib.hid hs
  obtain ⟨⟨pa, pn, pc⟩, ⟨ha, hn, hc⟩, nl, line, subst, last, next, opn, cur, missing, ⟨ra, rn, rc⟩, ⟨oa, on, oc⟩, short, ⟨la, ln, lc⟩, pshort, phase, pcc, exit, stop, err, silent, quit, again, ⟨aa, an, ac⟩, ⟨wa, wn, wc⟩, ⟨fa, fn, fc⟩, ⟨ka, kn, kc⟩⟩ := s
  dsimp only at esc hw64
  unfold StC.sc at esc
  dsimp only at esc
  subst esc
  replace h64 := Lib.hid h64
  clear hs hk
  obtain rfl : pn = vp.length := hS.out.pat.1
  obtain rfl : hn = vh.length := hS.out.hold.1
  obtain rfl : rn = vr.length := hS.out.rest.1
  obtain rfl : on = vo.length := hS.out.out.1
  obtain rfl : ln = vl.length := hS.out.place.1
  obtain rfl : an = va.length := hS.out.active.1
  obtain rfl : kn = vk.length := hS.out.lacks.1
  obtain rfl : wn = vw.length := hS.out.waits.1
  obtain rfl : fn = vf.length := hS.out.files.1
  obtain ⟨CA, hCA⟩ : ∃ CA : List Value, [.slice pa vp.length pc, .slice ha vh.length hc, .bool nl, .int .i64 line, .bool subst, .int .i64 last, .int .i64 next, .int .i64 opn, .int .i64 cur, .int .i64 missing, .slice ra vr.length rc, .slice oa vo.length oc, .bool short, .slice la vl.length lc, .bool pshort, .int .i64 phase, .int .i64 pcc, .int .i64 exit, .int .i64 stop, .int .i64 err, .bool silent, .bool quit, .bool again, .slice aa va.length ac, .slice wa vw.length wc, .slice fa vf.length fc, .slice ka vk.length kc] = CA := ⟨_, rfl⟩
  show Calls _ _ #[.agg (List.toArray [.slice pa vp.length pc, .slice ha vh.length hc, .bool nl, .int .i64 line, .bool subst, .int .i64 last, .int .i64 next, .int .i64 opn, .int .i64 cur, .int .i64 missing, .slice ra vr.length rc, .slice oa vo.length oc, .bool short, .slice la vl.length lc, .bool pshort, .int .i64 phase, .int .i64 pcc, .int .i64 exit, .int .i64 stop, .int .i64 err, .bool silent, .bool quit, .bool again, .slice aa va.length ac, .slice wa vw.length wc, .slice fa vf.length fc, .slice ka vk.length kc])] _ _
  rw [hCA]
  obtain ⟨W1, hW1⟩ : ∃ W1, w.alloc (.cells CA.toArray 34) = W1 := ⟨_, rfl⟩
  have bA : Blk W1 w.heap.size 34 CA := by rw [← hW1]; exact Blk.new w _ _
  have hbW : Below w.heap.size w W1 := by rw [← hW1]; exact bl_alloc (Below.refl _ _) _
  have hp1 := Lib.hid (hp.below hbW)
  have hS1 := Lib.hid (hS.out.below hbW)
  have ltA := bA.lt
  clear hp hS
  have K1 : Hid (W1.cell? ⟨w.heap.size, 2, none⟩ = some (.bool nl) ∧ W1.cell? ⟨w.heap.size, 3, none⟩ = some (.int .i64 line) ∧ W1.cell? ⟨w.heap.size, 4, none⟩ = some (.bool subst) ∧ W1.cell? ⟨w.heap.size, 5, none⟩ = some (.int .i64 last) ∧ W1.cell? ⟨w.heap.size, 6, none⟩ = some (.int .i64 next) ∧ W1.cell? ⟨w.heap.size, 7, none⟩ = some (.int .i64 opn) ∧ W1.cell? ⟨w.heap.size, 8, none⟩ = some (.int .i64 cur) ∧ W1.cell? ⟨w.heap.size, 9, none⟩ = some (.int .i64 missing) ∧ W1.cell? ⟨w.heap.size, 12, none⟩ = some (.bool short) ∧ W1.cell? ⟨w.heap.size, 14, none⟩ = some (.bool pshort) ∧ W1.cell? ⟨w.heap.size, 15, none⟩ = some (.int .i64 phase) ∧ W1.cell? ⟨w.heap.size, 16, none⟩ = some (.int .i64 pcc) ∧ W1.cell? ⟨w.heap.size, 17, none⟩ = some (.int .i64 exit) ∧ W1.cell? ⟨w.heap.size, 18, none⟩ = some (.int .i64 stop) ∧ W1.cell? ⟨w.heap.size, 19, none⟩ = some (.int .i64 err) ∧ W1.cell? ⟨w.heap.size, 20, none⟩ = some (.bool silent) ∧ W1.cell? ⟨w.heap.size, 21, none⟩ = some (.bool quit) ∧ W1.cell? ⟨w.heap.size, 22, none⟩ = some (.bool again)) := Lib.hid (by
    refine ⟨?_, ?_, ?_, ?_, ?_, ?_, ?_, ?_, ?_, ?_, ?_, ?_, ?_, ?_, ?_, ?_, ?_, ?_⟩ <;> (rw [bA.cell, ← hCA]; rfl))
  have K2 : Hid (∀ X, Below W1.heap.size W1 X → X.cell? ⟨w.heap.size, 0, none⟩ = some (.slice pa vp.length pc) ∧ X.cell? ⟨w.heap.size, 1, none⟩ = some (.slice ha vh.length hc) ∧ X.cell? ⟨w.heap.size, 10, none⟩ = some (.slice ra vr.length rc) ∧ X.cell? ⟨w.heap.size, 11, none⟩ = some (.slice oa vo.length oc) ∧ X.cell? ⟨w.heap.size, 13, none⟩ = some (.slice la vl.length lc) ∧ X.cell? ⟨w.heap.size, 23, none⟩ = some (.slice aa va.length ac) ∧ X.cell? ⟨w.heap.size, 26, none⟩ = some (.slice ka vk.length kc)) := Lib.hid (fun X hb => by
    refine ⟨?_, ?_, ?_, ?_, ?_, ?_, ?_⟩ <;> (rw [(hb.cell (p := ⟨w.heap.size, _, none⟩) ltA), bA.cell, ← hCA]; rfl))
  have K3 : Hid (∀ X, Below W1.heap.size W1 X → X.cell? ⟨w.heap.size, 24, none⟩ = some (.slice wa vw.length wc) ∧ X.cell? ⟨w.heap.size, 25, none⟩ = some (.slice fa vf.length fc)) := Lib.hid (fun X hb => by
    refine ⟨?_, ?_⟩ <;> (rw [(hb.cell (p := ⟨w.heap.size, _, none⟩) ltA), bA.cell, ← hCA]; rfl))
  clear bA
  obtain ⟨N, hN⟩ : ∃ N, FM.numsT (FM.scNums ⟨nl, line, subst, last, next, opn, cur, missing, short, pshort, phase, pcc, exit, stop, err, silent, quit, again⟩) = N := ⟨_, rfl⟩
  have hj : Hid (∀ (g : Nat) (hg : g = W1.heap.size), Calls Tryz.prog 24 #[.string ⟨#[32]⟩, .slice (some ⟨g, 0, none⟩) 18 18] (W1.alloc (.cells #[.int .i64 (FM.bitN nl), .int .i64 line, .int .i64 (FM.bitN subst), .int .i64 last, .int .i64 next, .int .i64 opn, .int .i64 cur, .int .i64 missing, .int .i64 (FM.bitN short), .int .i64 (FM.bitN pshort), .int .i64 phase, .int .i64 pcc, .int .i64 exit, .int .i64 stop, .int .i64 err, .int .i64 (FM.bitN silent), .int .i64 (FM.bitN quit), .int .i64 (FM.bitN again)] 3)).drew fun e w' => e = .returned (strV N) ∧ Below W1.heap.size W1 w') := Lib.hid (fun g hg => by
    subst hg
    obtain ⟨xs, hxs⟩ : ∃ xs, FM.scNums ⟨nl, line, subst, last, next, opn, cur, missing, short, pshort, phase, pcc, exit, stop, err, silent, quit, again⟩ = xs := ⟨_, rfl⟩
    have hcs : (xs.map fun n => Value.int .i64 n).toArray = #[.int .i64 (FM.bitN nl), .int .i64 line, .int .i64 (FM.bitN subst), .int .i64 last, .int .i64 next, .int .i64 opn, .int .i64 cur, .int .i64 missing, .int .i64 (FM.bitN short), .int .i64 (FM.bitN pshort), .int .i64 phase, .int .i64 pcc, .int .i64 exit, .int .i64 stop, .int .i64 err, .int .i64 (FM.bitN silent), .int .i64 (FM.bitN quit), .int .i64 (FM.bitN again)] := by rw [← hxs]; rfl
    have hln : xs.length = 18 := by rw [← hxs]; rfl
    have hxx : ∀ n ∈ xs, -9223372036854775808 ≤ n ∧ n ≤ 9223372036854775807 := fun n hn => h64.out n (by show n ∈ FM.scNums _; rw [hxs]; exact hn)
    have hjn : strV (FM.numsT xs) = .string (joinS ⟨#[32]⟩ xs) := by rw [joinS_nums]
    rw [← hcs, ← hN, hxs, hjn, ← hln]
    show Calls _ _ _ (W1.drew.alloc (.cells (xs.map fun n => Value.int .i64 n).toArray 3)) _
    have hb1 : Below W1.heap.size W1 (W1.drew.alloc (.cells (xs.map fun n => Value.int .i64 n).toArray 3)) := bl_alloc (bl_drew (Below.refl _ _)) _
    have hB := Blk.new W1.drew 3 (xs.map fun n => Value.int .i64 n)
    refine (join_any ⟨#[32]⟩ (some ⟨W1.heap.size, 0, none⟩) xs.length xs _ (hp1.out.below hb1) hxx (by omega) (by decide) (fun _ => ⟨W1.heap.size, 0, rfl, hB.lt, fun i hi => ?_⟩)).mono ?_
    · rw [Nat.zero_add]
      refine (hB.cell i).trans ?_
      simp [hi]
    · rintro e w' ⟨rfl, hb⟩
      exact ⟨rfl, hb1.trans (hb.mono hb1.size)⟩)
  replace hN := Lib.hid hN
  replace hbW := Lib.hid hbW
  replace hW1 := Lib.hid hW1
  replace hCA := Lib.hid hCA
  go_enter Tryz.func11, Tryz.ntmps11
  go_upto_region 1 with fail
  rw [hW1.out]
  clear hW1
  obtain ⟨m2, m3, m4, m5, m6, m7, m8, m9, m12, m14, m15, m16, m17, m18, m19, m20, m21, m22⟩ := K1.out
  refine wp_region_still_tail 53 (by kernel_rfl) (by kernel_rfl) ?_
  simp only [List.take_succ_cons, List.take_zero, List.drop_succ_cons, List.drop_zero]
  repeat (first | still_step | still_call (bit_any _ _))
  refine wpStill_nil ?_
  change wpList _ _ _ _ _ W1.drew
  clear m2 m3 m4 m5 m6 m7 m8 m9 m12 m14 m15 m16 m17 m18 m19 m20 m21 m22 K1
  go_wp2_with (go_at_call 24; (with_reducible refine (hj.out _ (by simp)).mono ?_); rintro e W2 ⟨rfl, hb2⟩; obtain ⟨c24, c25⟩ := K3.out _ hb2)
  have hsz2 := hb2.size
  have htop := hS1.out.top
  have hW := Lib.hid hS1.out.waits
  have hF := Lib.hid hS1.out.files
  have hk40 : vw.length ≤ 1000000 := hm.waits
  have hk20 : vf.length ≤ 1000000 := hm.files
  replace hm := Lib.hid hm
  replace hw64 := Lib.hid hw64
  go_loopw [4, 70] (fun v i wr => ∃ k : Nat, i = .int .i64 (k : Int) ∧ k ≤ vw.length ∧ wr.ownsRow W1.heap.size 5 1 v (FM.waitsT (vw.take k)).length ((FM.waitsT (vw.take k)).map bv) ∧ Below W1.heap.size W1 wr) (fun _ i _ => vw.length - (intOf i).toNat)
  case atStart => exact ⟨0, rfl, by omega, by simpa [FM.waitsT] using World.ownsRow_nil _ _ _ _, hb2⟩
  case round =>
    clear c24 c25
    obtain ⟨k, rfl, hk, hown, hbr⟩ := hrel
    have hsr := hbr.size
    by_cases h1 : k < vw.length
    · obtain ⟨b, q, ⟨xa, xn, xc⟩, ea, hbl, e0, e1, tx⟩ := pr_nth hW.out htop h1
      change wa = _ at ea
      subst ea
      replace e0 := (hbr.cell (p := ⟨b, q + k * 2, none⟩) hbl).trans e0
      replace e1 := (hbr.cell (p := ⟨b, q + k * 2 + 1, none⟩) hbl).trans e1
      have z64 : -9223372036854775808 ≤ (vw[k]).1 ∧ (vw[k]).1 ≤ 9223372036854775807 := hw64.out _ (List.getElem_mem h1)
      have tl : (vw[k]).2.length ≤ 1000000 := hm.out.wait _ (List.getElem_mem h1)
      have hsn := waits_snoc h1
      have hln : (FM.waitsT (vw.take k)).length ≤ 1000000 := Nat.le_trans (waits_take vw k) hm.out.waitsT
      have hbrw : b < wr.heap.size := by omega
      obtain ⟨x, hx⟩ : ∃ x, vw[k] = x := ⟨_, rfl⟩
      rw [hx] at e0 tx z64 tl hsn
      obtain ⟨z, t⟩ := x
      clear hx
      dsimp only at e0 tx z64 tl hsn
      unfold kindV at e0
      obtain rfl : xn = t.length := tx.1
      replace e1 : wr.cell? ⟨b, q + k * 2 + 1, none⟩ = some (.slice xa t.length xc) := e1
      obtain ⟨T, hT⟩ : ∃ T, FM.waitsT (vw.take k) = T := ⟨_, rfl⟩
      rw [hT] at hown hsn hln
      have hTl : T.length ≤ 1000000 := hln
      replace hT := Lib.hid hT
      replace hsn := Lib.hid hsn
      clear hln
      have hqz := itoa_len z64
      have hqt := quoteS_len t
      have hat : ∀ X, Below W1.heap.size W1 X → SH.BytesAt X xa t := fun X hX h0 => (tx.keep (KeepI.below hX htop)).at (Nat.le_trans htop hX.size) h0
      replace hat := Lib.hid hat
      go_upto_region 6 with fail
      obtain ⟨Wd, hWd⟩ : ∃ X, wr.alloc (.cells #[.int .i64 z, .slice xa t.length xc] 52) = X := ⟨_, rfl⟩
      rw [hWd]
      have hC : Blk Wd.drew wr.heap.size 52 [.int .i64 z, .slice xa t.length xc] := by rw [← hWd]; exact Blk.new wr _ _
      have hbd : Below W1.heap.size W1 Wd.drew := by rw [← hWd]; exact bl_drew (bl_alloc hbr _)
      have hod : Wd.drew.ownsRow W1.heap.size 5 1 u4 T.length (T.map bv) := by rw [← hWd]; exact hown.alloc _
      clear hWd hown e0 e1
      generalize wr.heap.size = g at *
      refine region_till (fun X => Blk X g 52 [.int .i64 z, .slice xa t.length xc]) 9 (by kernel_rfl) ?_
      refine wpAnyT_take (i := 0) (v := u4) (some 74) rfl (by kernel_rfl) (by kernel_rfl) (by kernel_rfl) (by kernel_rfl) (fun _ _ _ h => absurd h np_panic) [9] (by kernel_rfl) (by kernel_rfl) (by kernel_rfl) (Or.inl ⟨by rfl, ?_⟩) hC ?_
      · intro X hX
        (have x0 : X.cell? ⟨g, 0, none⟩ = _ := hX.cell 0; have x1 : X.cell? ⟨g, 1, none⟩ = _ := hX.cell 1; simp only [List.getElem?_cons_zero, List.getElem?_cons_succ] at x0 x1; go_simp)
      simp only [Act.put, List.setIfInBounds_toArray, List.set_cons_zero, List.set_cons_succ]
      refine wpAnyT_take (i := 1) (v := (.pointer (some ⟨g, 0, none⟩))) (some 75) rfl (by kernel_rfl) (by kernel_rfl) (by kernel_rfl) (by kernel_rfl) (fun _ _ _ h => absurd h np_panic) [9] (by kernel_rfl) (by kernel_rfl) (by kernel_rfl) (Or.inl ⟨by rfl, ?_⟩) hC ?_
      · intro X hX
        (have x0 : X.cell? ⟨g, 0, none⟩ = _ := hX.cell 0; have x1 : X.cell? ⟨g, 1, none⟩ = _ := hX.cell 1; simp only [List.getElem?_cons_zero, List.getElem?_cons_succ] at x0 x1; go_simp)
      simp only [Act.put, List.setIfInBounds_toArray, List.set_cons_zero, List.set_cons_succ]
      refine wpAnyT_take (i := 2) (v := (.int .i64 z)) (some 76) rfl (by kernel_rfl) (by kernel_rfl) (by kernel_rfl) (by kernel_rfl) (fun _ _ _ h => absurd h np_panic) [9] (by kernel_rfl) (by kernel_rfl) (by kernel_rfl) (Or.inl ⟨by rfl, ?_⟩) hC ?_
      · intro X hX
        (have x0 : X.cell? ⟨g, 0, none⟩ = _ := hX.cell 0; have x1 : X.cell? ⟨g, 1, none⟩ = _ := hX.cell 1; simp only [List.getElem?_cons_zero, List.getElem?_cons_succ] at x0 x1; go_simp)
      simp only [Act.put, List.setIfInBounds_toArray, List.set_cons_zero, List.set_cons_succ]
      refine wpAnyT_take (i := 5) (v := (.pointer (some ⟨g, 1, none⟩))) (some 79) rfl (by kernel_rfl) (by kernel_rfl) (by kernel_rfl) (by kernel_rfl) (fun _ _ _ h => absurd h np_panic) [9] (by kernel_rfl) (by kernel_rfl) (by kernel_rfl) (Or.inl ⟨by rfl, ?_⟩) hC ?_
      · intro X hX
        (have x0 : X.cell? ⟨g, 0, none⟩ = _ := hX.cell 0; have x1 : X.cell? ⟨g, 1, none⟩ = _ := hX.cell 1; simp only [List.getElem?_cons_zero, List.getElem?_cons_succ] at x0 x1; go_simp)
      simp only [Act.put, List.setIfInBounds_toArray, List.set_cons_zero, List.set_cons_succ]
      refine wpAnyT_take (i := 6) (v := (.slice xa t.length xc)) (some 80) rfl (by kernel_rfl) (by kernel_rfl) (by kernel_rfl) (by kernel_rfl) (fun _ _ _ h => absurd h np_panic) [9] (by kernel_rfl) (by kernel_rfl) (by kernel_rfl) (Or.inl ⟨by rfl, ?_⟩) hC ?_
      · intro X hX
        (have x0 : X.cell? ⟨g, 0, none⟩ = _ := hX.cell 0; have x1 : X.cell? ⟨g, 1, none⟩ = _ := hX.cell 1; simp only [List.getElem?_cons_zero, List.getElem?_cons_succ] at x0 x1; go_simp)
      simp only [Act.put, List.setIfInBounds_toArray, List.set_cons_zero, List.set_cons_succ]
      refine wpAnyT_ready (rs := [3]) (by kernel_rfl) (by simp) ?_
      refine AllT.cons rfl (fun K hK => ?_) AllT.nil
      go_simp
      (go_at_call 26; (with_reducible refine (text_any z z64 _ (hp1.out.below hbd)).mono ?_); rintro e Y0 ⟨rfl, hy0⟩)
      have hC0 := hC.below hy0
      have hb0 := bl_trans hbd hy0
      have ho0 := own_blw hod hy0
      have hs0 := hb0.size
      try simp only [go_sem]
      refine hK.out _ _ (fun _ => hC0) ?_
      clear hK K
      try simp only [Act.put, List.setIfInBounds_toArray, List.set_cons_zero, List.set_cons_succ]
      refine wpAnyT_ready (rs := [4]) (by kernel_rfl) (by simp) ?_
      refine AllT.cons rfl (fun K hK => ?_) AllT.nil
      rw [if_pos (by rfl)]
      refine wp_append_str (.tmp 74) (.tmp 77) 22 9 (by rfl) W1.heap.size 5 i0 Tryz.underlying22 Tryz.underlying9 hi hz0 hz1 hz2 _ _ _ (by rfl) ho0 (Lib.itoa z) (by rfl) (by unfold maxLen; omega) (by omega) (by omega) ?_
      intro v1 w1 ho1 hg1
      have hC1 := blk_grown hC0 hg1 (own_ne hod hC (by decide))
      have hb1 := hb0.grown hg1 hb0.size (fun j hj => (hod.lt j hj).1)
      have hs1 := hb1.size
      refine hK.out _ _ (fun _ => hC1) ?_
      clear hK K
      try simp only [Act.put, List.setIfInBounds_toArray, List.set_cons_zero, List.set_cons_succ]
      refine wpAnyT_ready (rs := [7]) (by kernel_rfl) (by simp) ?_
      refine AllT.cons rfl (fun K hK => ?_) AllT.nil
      go_simp
      (go_at_call 27; (with_reducible refine (SH.quote_any xa xc t _ (by omega) (hat.out _ hb1)).mono ?_); rintro e Y2 ⟨rfl, hy2⟩)
      have hC2 := hC1.below hy2
      have hb2' := bl_trans hb1 hy2
      have ho2 := own_blw ho1 hy2
      have hs2 := hb2'.size
      try simp only [go_sem]
      refine hK.out _ _ (fun _ => hC2) ?_
      clear hK K
      try simp only [Act.put, List.setIfInBounds_toArray, List.set_cons_zero, List.set_cons_succ]
      refine wpAnyT_ready (rs := [8]) (by kernel_rfl) (by simp) ?_
      refine AllT.cons rfl (fun K hK => ?_) AllT.nil
      rw [if_pos (by rfl)]
      refine wp_append_str (.tmp 78) (.tmp 81) 22 9 (by rfl) W1.heap.size 5 i0 Tryz.underlying22 Tryz.underlying9 hi hz0 hz1 hz2 _ _ _ (by rfl) ho2 (SH.quoteS t) (by rfl) (by unfold maxLen; omega) (by omega) (by omega) ?_
      intro v3 w3 ho3 hg3
      have hC3 := blk_grown hC2 hg3 (own_ne ho1 hC1 (by decide))
      have hb3 := hb2'.grown hg3 hb2'.size (fun j hj => (ho1.lt j hj).1)
      refine hK.out _ _ (fun _ => hC3) ?_
      clear hK K
      try simp only [Act.put, List.setIfInBounds_toArray, List.set_cons_zero, List.set_cons_succ]
      refine wpAnyT_ready (rs := [9]) (by kernel_rfl) (by simp) ?_
      refine AllT.cons rfl (fun K hK => ?_) AllT.nil
      go_simp
      refine hK.out _ _ (fun h => nomatch (Eq.trans (by kernel_rfl : true = _) h : true = false)) ?_
      clear hK K
      try simp only [Act.put, List.setIfInBounds_toArray, List.set_cons_zero, List.set_cons_succ]
      refine wpAnyT_done (by kernel_rfl) ⟨rfl, ?_⟩ _
      have hfin : w3.ownsRow W1.heap.size 5 1 v3 (FM.waitsT (vw.take (k + 1))).length ((FM.waitsT (vw.take (k + 1))).map bv) := by
        rw [hsn.out, List.map_append, List.map_append, List.length_append, List.length_append]
        exact ho3
      replace hfin := Lib.hid hfin
      clear hC hC0 hC1 hC2 hC3 hod ho0 ho1 ho2 ho3 hg1 hg3 hb0 hb1 hb2' hy0 hy2
      go_wp2_with fail
      all_goals go_roundw
      case measure => simp [intOf]; omega
      case rel => exact ⟨k + 1, by go_num, by omega, hfin.out, hb3⟩
    · obtain rfl : k = vw.length := by omega
      rw [List.take_length] at hown
      have hwT : (FM.waitsT vw).length ≤ 1000000 := hm.out.waitsT
      obtain ⟨TW, hTW⟩ : ∃ T, FM.waitsT vw = T := ⟨_, rfl⟩
      rw [hTW] at hown hwT
      replace hTW := Lib.hid hTW
      replace hown := Lib.hid hown
      obtain ⟨c24, c25⟩ := K3.out _ hbr
      clear c24
      obtain ⟨W3, hW3⟩ : ∃ X : World, X = wr := ⟨_, rfl⟩
      subst hW3
      go_wp2_with fail
      clear c25
      go_loopw [5, 87] (fun v i wr => ∃ k : Nat, i = .int .i64 (k : Int) ∧ k ≤ vf.length ∧ wr.ownsRow W3.heap.size 5 1 v (FM.filesT (vf.take k)).length ((FM.filesT (vf.take k)).map bv) ∧ Below W3.heap.size W3 wr) (fun _ i _ => vf.length - (intOf i).toNat)
      case atStart => exact ⟨0, rfl, by omega, by simpa [FM.filesT] using World.ownsRow_nil _ _ _ _, Below.refl _ _⟩
      case round =>
        replace hbr := Lib.hid hbr
        obtain ⟨k, rfl, hk, hown2, hbr3⟩ := hrel
        have hsr3 := hbr3.size
        have hbr1 := bl_trans hbr.out hbr3
        have hsr1 := hbr1.size
        by_cases h1 : k < vf.length
        · obtain ⟨b, q, ⟨xa, xn, xc⟩, ea, hbl, e0, e1, tx⟩ := pr_nth hF.out htop h1
          change fa = _ at ea
          subst ea
          replace e0 := (hbr1.cell (p := ⟨b, q + k * 2, none⟩) hbl).trans e0
          replace e1 := (hbr1.cell (p := ⟨b, q + k * 2 + 1, none⟩) hbl).trans e1
          have tl : (vf[k]).2.length ≤ 1000000 ∧ (vf[k]).1.length ≤ 1000000 := hm.out.file _ (List.getElem_mem h1)
          have hsn := files_snoc h1
          have hln : (FM.filesT (vf.take k)).length ≤ 1000000 := Nat.le_trans (files_take vf k) hm.out.filesT
          have hbrw : b < wr.heap.size := by omega
          obtain ⟨x, hx⟩ : ∃ x, vf[k] = x := ⟨_, rfl⟩
          rw [hx] at e0 tx tl hsn
          obtain ⟨z, t⟩ := x
          clear hx
          dsimp only at e0 tx tl hsn
          obtain rfl : xn = t.length := tx.1
          replace e1 : wr.cell? ⟨b, q + k * 2 + 1, none⟩ = some (.slice xa t.length xc) := e1
          obtain ⟨T, hT⟩ : ∃ T, FM.filesT (vf.take k) = T := ⟨_, rfl⟩
          rw [hT] at hown2 hsn hln
          have hTl : T.length ≤ 1000000 := hln
          replace hT := Lib.hid hT
          replace hsn := Lib.hid hsn
          clear hln
          have hqz := quoteS_len z
          have hqt := quoteS_len t
          have hat : ∀ X, Below W1.heap.size W1 X → SH.BytesAt X xa t := fun X hX h0 => (tx.keep (KeepI.below hX htop)).at (Nat.le_trans htop hX.size) h0
          replace hat := Lib.hid hat
          go_upto_region 11 with fail
          obtain ⟨Wd, hWd⟩ : ∃ X, wr.alloc (.cells #[strV z, .slice xa t.length xc] 50) = X := ⟨_, rfl⟩
          rw [hWd]
          have hC : Blk Wd.drew wr.heap.size 50 [strV z, .slice xa t.length xc] := by rw [← hWd]; exact Blk.new wr _ _
          have hbd : Below W3.heap.size W3 Wd.drew := by rw [← hWd]; exact bl_drew (bl_alloc hbr3 _)
          have hod : Wd.drew.ownsRow W3.heap.size 5 1 u5 T.length (T.map bv) := by rw [← hWd]; exact hown2.alloc _
          clear hWd hown2 e0 e1
          generalize wr.heap.size = g at *
          refine region_till (fun X => Blk X g 50 [strV z, .slice xa t.length xc]) 10 (by kernel_rfl) ?_
          refine wpAnyT_take (i := 0) (v := u5) (some 91) rfl (by kernel_rfl) (by kernel_rfl) (by kernel_rfl) (by kernel_rfl) (fun _ _ _ h => absurd h np_panic) [10] (by kernel_rfl) (by kernel_rfl) (by kernel_rfl) (Or.inl ⟨by rfl, ?_⟩) hC ?_
          · intro X hX
            (have x0 : X.cell? ⟨g, 0, none⟩ = _ := hX.cell 0; have x1 : X.cell? ⟨g, 1, none⟩ = _ := hX.cell 1; simp only [List.getElem?_cons_zero, List.getElem?_cons_succ] at x0 x1; go_simp)
          simp only [Act.put, List.setIfInBounds_toArray, List.set_cons_zero, List.set_cons_succ]
          refine wpAnyT_take (i := 1) (v := (.pointer (some ⟨g, 0, none⟩))) (some 92) rfl (by kernel_rfl) (by kernel_rfl) (by kernel_rfl) (by kernel_rfl) (fun _ _ _ h => absurd h np_panic) [10] (by kernel_rfl) (by kernel_rfl) (by kernel_rfl) (Or.inl ⟨by rfl, ?_⟩) hC ?_
          · intro X hX
            (have x0 : X.cell? ⟨g, 0, none⟩ = _ := hX.cell 0; have x1 : X.cell? ⟨g, 1, none⟩ = _ := hX.cell 1; simp only [List.getElem?_cons_zero, List.getElem?_cons_succ] at x0 x1; go_simp)
          simp only [Act.put, List.setIfInBounds_toArray, List.set_cons_zero, List.set_cons_succ]
          refine wpAnyT_take (i := 2) (v := (strV z)) (some 93) rfl (by kernel_rfl) (by kernel_rfl) (by kernel_rfl) (by kernel_rfl) (fun _ _ _ h => absurd h np_panic) [10] (by kernel_rfl) (by kernel_rfl) (by kernel_rfl) (Or.inl ⟨by rfl, ?_⟩) hC ?_
          · intro X hX
            (have x0 : X.cell? ⟨g, 0, none⟩ = _ := hX.cell 0; have x1 : X.cell? ⟨g, 1, none⟩ = _ := hX.cell 1; simp only [List.getElem?_cons_zero, List.getElem?_cons_succ] at x0 x1; go_simp)
          simp only [Act.put, List.setIfInBounds_toArray, List.set_cons_zero, List.set_cons_succ]
          refine wpAnyT_take (i := 6) (v := (.pointer (some ⟨g, 1, none⟩))) (some 97) rfl (by kernel_rfl) (by kernel_rfl) (by kernel_rfl) (by kernel_rfl) (fun _ _ _ h => absurd h np_panic) [10] (by kernel_rfl) (by kernel_rfl) (by kernel_rfl) (Or.inl ⟨by rfl, ?_⟩) hC ?_
          · intro X hX
            (have x0 : X.cell? ⟨g, 0, none⟩ = _ := hX.cell 0; have x1 : X.cell? ⟨g, 1, none⟩ = _ := hX.cell 1; simp only [List.getElem?_cons_zero, List.getElem?_cons_succ] at x0 x1; go_simp)
          simp only [Act.put, List.setIfInBounds_toArray, List.set_cons_zero, List.set_cons_succ]
          refine wpAnyT_take (i := 7) (v := (.slice xa t.length xc)) (some 98) rfl (by kernel_rfl) (by kernel_rfl) (by kernel_rfl) (by kernel_rfl) (fun _ _ _ h => absurd h np_panic) [10] (by kernel_rfl) (by kernel_rfl) (by kernel_rfl) (Or.inl ⟨by rfl, ?_⟩) hC ?_
          · intro X hX
            (have x0 : X.cell? ⟨g, 0, none⟩ = _ := hX.cell 0; have x1 : X.cell? ⟨g, 1, none⟩ = _ := hX.cell 1; simp only [List.getElem?_cons_zero, List.getElem?_cons_succ] at x0 x1; go_simp)
          simp only [Act.put, List.setIfInBounds_toArray, List.set_cons_zero, List.set_cons_succ]
          refine wpAnyT_ready (rs := [3]) (by kernel_rfl) (by simp) ?_
          refine AllT.cons rfl (fun K hK => ?_) AllT.nil
          obtain ⟨cv, Y0, hcv, hy0, hrow, hlt, hcap⟩ := conv_room (P := Tryz.prog) Wd.drew 9 22 5 z Tryz.underlying9 Tryz.underlying22 Tryz.underlying5
          have hC0 := hC.below hy0
          have hzb : SH.BytesAt Y0 (some ⟨Wd.heap.size, 0, none⟩) z := fun _ => ⟨_, 0, rfl, hlt, hrow⟩
          have hb0 := bl_trans hbd hy0
          have ho0 := own_blw hod hy0
          have hs0 := hb0.size
          go_simp
          try simp only [go_sem]
          refine hK.out _ _ (fun _ => hC0) ?_
          clear hK K
          try simp only [Act.put, List.setIfInBounds_toArray, List.set_cons_zero, List.set_cons_succ]
          refine wpAnyT_ready (rs := [4]) (by kernel_rfl) (by simp) ?_
          refine AllT.cons rfl (fun K hK => ?_) AllT.nil
          go_simp
          (go_at_call 27; (with_reducible refine (SH.quote_any (some ⟨Wd.heap.size, 0, none⟩) cv z _ (by omega) hzb).mono ?_); rintro e Y1 ⟨rfl, hy1⟩)
          have hC1 := hC0.below hy1
          have hb1 := bl_trans hb0 hy1
          have ho1 := own_blw ho0 hy1
          have hs1 := hb1.size
          try simp only [go_sem]
          refine hK.out _ _ (fun _ => hC1) ?_
          clear hK K
          try simp only [Act.put, List.setIfInBounds_toArray, List.set_cons_zero, List.set_cons_succ]
          refine wpAnyT_ready (rs := [5]) (by kernel_rfl) (by simp) ?_
          refine AllT.cons rfl (fun K hK => ?_) AllT.nil
          rw [if_pos (by rfl)]
          refine wp_append_str (.tmp 91) (.tmp 95) 22 9 (by rfl) W3.heap.size 5 i0 Tryz.underlying22 Tryz.underlying9 hi hz0 hz1 hz2 _ _ _ (by rfl) ho1 (SH.quoteS z) (by rfl) (by unfold maxLen; omega) (by omega) (by omega) ?_
          intro v2 w2 ho2 hg2
          have hC2 := blk_grown hC1 hg2 (own_ne hod hC (by decide))
          have hb2' := hb1.grown hg2 hb1.size (fun j hj => (hod.lt j hj).1)
          have hs2 := hb2'.size
          refine hK.out _ _ (fun _ => hC2) ?_
          clear hK K
          try simp only [Act.put, List.setIfInBounds_toArray, List.set_cons_zero, List.set_cons_succ]
          refine wpAnyT_ready (rs := [8]) (by kernel_rfl) (by simp) ?_
          refine AllT.cons rfl (fun K hK => ?_) AllT.nil
          go_simp
          (go_at_call 27; (with_reducible refine (SH.quote_any xa xc t _ (by omega) (hat.out _ (bl_trans hbr.out hb2'))).mono ?_); rintro e Y3 ⟨rfl, hy3⟩)
          have hC3 := hC2.below hy3
          have hb3 := bl_trans hb2' hy3
          have ho3 := own_blw ho2 hy3
          have hs3 := hb3.size
          try simp only [go_sem]
          refine hK.out _ _ (fun _ => hC3) ?_
          clear hK K
          try simp only [Act.put, List.setIfInBounds_toArray, List.set_cons_zero, List.set_cons_succ]
          refine wpAnyT_ready (rs := [9]) (by kernel_rfl) (by simp) ?_
          refine AllT.cons rfl (fun K hK => ?_) AllT.nil
          rw [if_pos (by rfl)]
          refine wp_append_str (.tmp 96) (.tmp 99) 22 9 (by rfl) W3.heap.size 5 i0 Tryz.underlying22 Tryz.underlying9 hi hz0 hz1 hz2 _ _ _ (by rfl) ho3 (SH.quoteS t) (by rfl) (by unfold maxLen; omega) (by omega) (by omega) ?_
          intro v4 w4 ho4 hg4
          have hC4 := blk_grown hC3 hg4 (own_ne ho2 hC2 (by decide))
          have hb4 := hb3.grown hg4 hb3.size (fun j hj => (ho2.lt j hj).1)
          refine hK.out _ _ (fun _ => hC4) ?_
          clear hK K
          try simp only [Act.put, List.setIfInBounds_toArray, List.set_cons_zero, List.set_cons_succ]
          refine wpAnyT_ready (rs := [10]) (by kernel_rfl) (by simp) ?_
          refine AllT.cons rfl (fun K hK => ?_) AllT.nil
          go_simp
          refine hK.out _ _ (fun h => nomatch (Eq.trans (by kernel_rfl : true = _) h : true = false)) ?_
          clear hK K
          try simp only [Act.put, List.setIfInBounds_toArray, List.set_cons_zero, List.set_cons_succ]
          refine wpAnyT_done (by kernel_rfl) ⟨rfl, ?_⟩ _
          have hfin : w4.ownsRow W3.heap.size 5 1 v4 (FM.filesT (vf.take (k + 1))).length ((FM.filesT (vf.take (k + 1))).map bv) := by
            rw [hsn.out, List.map_append, List.map_append, List.length_append, List.length_append]
            exact ho4
          replace hfin := Lib.hid hfin
          clear hC hC0 hC1 hC2 hC3 hC4 hod ho0 ho1 ho2 ho3 ho4 hg2 hg4 hb0 hb1 hb2' hb3 hy0 hy1 hy3 hcv hrow hlt hcap
          go_wp2_with fail
          all_goals go_roundw
          case measure => simp [intOf]; omega
          case rel => exact ⟨k + 1, by go_num, by omega, hfin.out, hb4⟩
        · obtain rfl : k = vf.length := by omega
          rw [List.take_length] at hown2
          have hfT : (FM.filesT vf).length ≤ 1000000 := hm.out.filesT
          obtain ⟨TF, hTF⟩ : ∃ T, FM.filesT vf = T := ⟨_, rfl⟩
          rw [hTF] at hown2 hfT
          replace hTF := Lib.hid hTF
          have hoW := Lib.hid (own_blw hown.out hbr3)
          have hoF := Lib.hid hown2
          clear hown2 hown
          obtain ⟨W4, hW4⟩ : ∃ X : World, X = wr := ⟨_, rfl⟩
          subst hW4
          replace hbr1 := Lib.hid hbr1
          clear hbr3
          go_upto_region 13 with fail
          obtain ⟨j0, j1, j10, j11, j13, j23, j26⟩ := K2.out _ hbr1.out
          obtain ⟨xs, hxs⟩ : ∃ xs : List (List UInt8), [vp, vh, vr, vo, vl, N, FM.bitsT va, FM.bitsT vk, TW, TF] = xs := ⟨_, rfl⟩
          have hbi := Lib.hid (fun X (hX : Below W4.heap.size W4 X) => bits_any aa va.length ac va X (by have : va.length ≤ 1000000 := hm.out.active; omega) (hS1.out.active.keep (KeepI.below (bl_trans hbr1.out hX) htop)) (Nat.le_trans htop (bl_trans hbr1.out hX).size))
          have hbk := Lib.hid (fun X (hX : Below W4.heap.size W4 X) => bits_any ka vk.length kc vk X (by have : vk.length ≤ 1000000 := hm.out.lacks; omega) (hS1.out.lacks.keep (KeepI.below (bl_trans hbr1.out hX) htop)) (Nat.le_trans htop (bl_trans hbr1.out hX).size))
          have hcell := Lib.hid (fun X (hX : Below W4.heap.size W4 X) => K2.out X (bl_trans hbr1.out hX))
          have hnew := Lib.hid (fun X (hX : Below W4.heap.size W4 X) (ca ba bb : Option Addr) (cc cd ce : Nat) (g1 : ByAt (fun _ => True) false X ca N) (g2 : ByAt (fun _ => True) false X ba (FM.bitsT va)) (g3 : ByAt (fun _ => True) false X bb (FM.bitsT vk)) (ua ub : Option Addr) (uc ud : Nat) (g4 : ByAt (fun _ => True) false W4 ua TW) (g5 : ByAt (fun _ => True) false W4 ub TF) => by
            have hY := bl_trans hbr1.out hX
            have q := fun {a n c t} (h : TxI lo hi_ W1 ⟨a, n, c⟩ t) => TxI.by (h.keep (KeepI.below hY htop)) (Nat.le_trans htop hY.size)
            exact fldcut_new (w := w) (hbW.out.trans (hY.mono hbW.out.size)) (c0 := pc) (q hS1.out.pat) (c1 := hc) (q hS1.out.hold) (c2 := rc) (q hS1.out.rest) (c3 := oc) (q hS1.out.out) (c4 := lc) (q hS1.out.place) (c5 := cc) g1 (c6 := cd) g2 (c7 := ce) g3 (c8 := uc) (g4.below hX) (c9 := ud) (g5.below hX))
          rw [hxs] at hnew
          obtain ⟨ua, uc, rfl, _, _, hU⟩ := ByAt.of_owns hoW.out rfl
          obtain ⟨ub, ud, rfl, _, _, hV⟩ := ByAt.of_owns hoF.out rfl
          replace hU := Lib.hid hU.any
          replace hV := Lib.hid hV.any
          clear hoW hoF
          go_cut [10] from 102 to 127 (fun s10 wx => FldCut w xs s10 wx)
          case first =>
            have hbX : Below W4.heap.size W4 W4.drew := bl_drew (Below.refl _ _)
            have hC := hcell.out _ hbX
            refine region_till (fun X => X.cell? ⟨w.heap.size, 0, none⟩ = some (.slice pa vp.length pc) ∧ X.cell? ⟨w.heap.size, 1, none⟩ = some (.slice ha vh.length hc) ∧ X.cell? ⟨w.heap.size, 10, none⟩ = some (.slice ra vr.length rc) ∧ X.cell? ⟨w.heap.size, 11, none⟩ = some (.slice oa vo.length oc) ∧ X.cell? ⟨w.heap.size, 13, none⟩ = some (.slice la vl.length lc) ∧ X.cell? ⟨w.heap.size, 23, none⟩ = some (.slice aa va.length ac) ∧ X.cell? ⟨w.heap.size, 26, none⟩ = some (.slice ka vk.length kc)) 26 (by kernel_rfl) ?_
            refine wpAnyT_take (i := 0) (v := (.pointer (some ⟨w.heap.size, 0, none⟩))) (some 102) rfl (by kernel_rfl) (by kernel_rfl) (by kernel_rfl) (by kernel_rfl) (fun _ _ _ h => absurd h np_panic) [26] (by kernel_rfl) (by kernel_rfl) (by kernel_rfl) (Or.inl ⟨by rfl, ?_⟩) hC ?_
            · intro X hX
              (obtain ⟨x0, x1, x2, x3, x4, x5, x6⟩ := hX; go_simp)
            simp only [Act.put, List.setIfInBounds_toArray, List.set_cons_zero, List.set_cons_succ]
            refine wpAnyT_take (i := 1) (v := (.pointer (some ⟨w.heap.size, 0, none⟩))) (some 103) rfl (by kernel_rfl) (by kernel_rfl) (by kernel_rfl) (by kernel_rfl) (fun _ _ _ h => absurd h np_panic) [26] (by kernel_rfl) (by kernel_rfl) (by kernel_rfl) (Or.inl ⟨by rfl, ?_⟩) hC ?_
            · intro X hX
              (obtain ⟨x0, x1, x2, x3, x4, x5, x6⟩ := hX; go_simp)
            simp only [Act.put, List.setIfInBounds_toArray, List.set_cons_zero, List.set_cons_succ]
            refine wpAnyT_take (i := 2) (v := (.slice pa vp.length pc)) (some 104) rfl (by kernel_rfl) (by kernel_rfl) (by kernel_rfl) (by kernel_rfl) (fun _ _ _ h => absurd h np_panic) [26] (by kernel_rfl) (by kernel_rfl) (by kernel_rfl) (Or.inl ⟨by rfl, ?_⟩) hC ?_
            · intro X hX
              (obtain ⟨x0, x1, x2, x3, x4, x5, x6⟩ := hX; go_simp)
            simp only [Act.put, List.setIfInBounds_toArray, List.set_cons_zero, List.set_cons_succ]
            refine wpAnyT_take (i := 3) (v := (.pointer (some ⟨w.heap.size, 0, none⟩))) (some 105) rfl (by kernel_rfl) (by kernel_rfl) (by kernel_rfl) (by kernel_rfl) (fun _ _ _ h => absurd h np_panic) [26] (by kernel_rfl) (by kernel_rfl) (by kernel_rfl) (Or.inl ⟨by rfl, ?_⟩) hC ?_
            · intro X hX
              (obtain ⟨x0, x1, x2, x3, x4, x5, x6⟩ := hX; go_simp)
            simp only [Act.put, List.setIfInBounds_toArray, List.set_cons_zero, List.set_cons_succ]
            refine wpAnyT_take (i := 4) (v := (.pointer (some ⟨w.heap.size, 1, none⟩))) (some 106) rfl (by kernel_rfl) (by kernel_rfl) (by kernel_rfl) (by kernel_rfl) (fun _ _ _ h => absurd h np_panic) [26] (by kernel_rfl) (by kernel_rfl) (by kernel_rfl) (Or.inl ⟨by rfl, ?_⟩) hC ?_
            · intro X hX
              (obtain ⟨x0, x1, x2, x3, x4, x5, x6⟩ := hX; go_simp)
            simp only [Act.put, List.setIfInBounds_toArray, List.set_cons_zero, List.set_cons_succ]
            refine wpAnyT_take (i := 5) (v := (.slice ha vh.length hc)) (some 107) rfl (by kernel_rfl) (by kernel_rfl) (by kernel_rfl) (by kernel_rfl) (fun _ _ _ h => absurd h np_panic) [26] (by kernel_rfl) (by kernel_rfl) (by kernel_rfl) (Or.inl ⟨by rfl, ?_⟩) hC ?_
            · intro X hX
              (obtain ⟨x0, x1, x2, x3, x4, x5, x6⟩ := hX; go_simp)
            simp only [Act.put, List.setIfInBounds_toArray, List.set_cons_zero, List.set_cons_succ]
            refine wpAnyT_take (i := 6) (v := (.pointer (some ⟨w.heap.size, 6, none⟩))) (some 108) rfl (by kernel_rfl) (by kernel_rfl) (by kernel_rfl) (by kernel_rfl) (fun _ _ _ h => absurd h np_panic) [26] (by kernel_rfl) (by kernel_rfl) (by kernel_rfl) (Or.inl ⟨by rfl, ?_⟩) hC ?_
            · intro X hX
              (obtain ⟨x0, x1, x2, x3, x4, x5, x6⟩ := hX; go_simp)
            simp only [Act.put, List.setIfInBounds_toArray, List.set_cons_zero, List.set_cons_succ]
            refine wpAnyT_take (i := 7) (v := (.pointer (some ⟨w.heap.size, 10, none⟩))) (some 109) rfl (by kernel_rfl) (by kernel_rfl) (by kernel_rfl) (by kernel_rfl) (fun _ _ _ h => absurd h np_panic) [26] (by kernel_rfl) (by kernel_rfl) (by kernel_rfl) (Or.inl ⟨by rfl, ?_⟩) hC ?_
            · intro X hX
              (obtain ⟨x0, x1, x2, x3, x4, x5, x6⟩ := hX; go_simp)
            simp only [Act.put, List.setIfInBounds_toArray, List.set_cons_zero, List.set_cons_succ]
            refine wpAnyT_take (i := 8) (v := (.slice ra vr.length rc)) (some 110) rfl (by kernel_rfl) (by kernel_rfl) (by kernel_rfl) (by kernel_rfl) (fun _ _ _ h => absurd h np_panic) [26] (by kernel_rfl) (by kernel_rfl) (by kernel_rfl) (Or.inl ⟨by rfl, ?_⟩) hC ?_
            · intro X hX
              (obtain ⟨x0, x1, x2, x3, x4, x5, x6⟩ := hX; go_simp)
            simp only [Act.put, List.setIfInBounds_toArray, List.set_cons_zero, List.set_cons_succ]
            refine wpAnyT_take (i := 9) (v := (.pointer (some ⟨w.heap.size, 11, none⟩))) (some 111) rfl (by kernel_rfl) (by kernel_rfl) (by kernel_rfl) (by kernel_rfl) (fun _ _ _ h => absurd h np_panic) [26] (by kernel_rfl) (by kernel_rfl) (by kernel_rfl) (Or.inl ⟨by rfl, ?_⟩) hC ?_
            · intro X hX
              (obtain ⟨x0, x1, x2, x3, x4, x5, x6⟩ := hX; go_simp)
            simp only [Act.put, List.setIfInBounds_toArray, List.set_cons_zero, List.set_cons_succ]
            refine wpAnyT_take (i := 10) (v := (.pointer (some ⟨w.heap.size, 11, none⟩))) (some 112) rfl (by kernel_rfl) (by kernel_rfl) (by kernel_rfl) (by kernel_rfl) (fun _ _ _ h => absurd h np_panic) [26] (by kernel_rfl) (by kernel_rfl) (by kernel_rfl) (Or.inl ⟨by rfl, ?_⟩) hC ?_
            · intro X hX
              (obtain ⟨x0, x1, x2, x3, x4, x5, x6⟩ := hX; go_simp)
            simp only [Act.put, List.setIfInBounds_toArray, List.set_cons_zero, List.set_cons_succ]
            refine wpAnyT_take (i := 11) (v := (.slice oa vo.length oc)) (some 113) rfl (by kernel_rfl) (by kernel_rfl) (by kernel_rfl) (by kernel_rfl) (fun _ _ _ h => absurd h np_panic) [26] (by kernel_rfl) (by kernel_rfl) (by kernel_rfl) (Or.inl ⟨by rfl, ?_⟩) hC ?_
            · intro X hX
              (obtain ⟨x0, x1, x2, x3, x4, x5, x6⟩ := hX; go_simp)
            simp only [Act.put, List.setIfInBounds_toArray, List.set_cons_zero, List.set_cons_succ]
            refine wpAnyT_take (i := 12) (v := (.pointer (some ⟨w.heap.size, 11, none⟩))) (some 114) rfl (by kernel_rfl) (by kernel_rfl) (by kernel_rfl) (by kernel_rfl) (fun _ _ _ h => absurd h np_panic) [26] (by kernel_rfl) (by kernel_rfl) (by kernel_rfl) (Or.inl ⟨by rfl, ?_⟩) hC ?_
            · intro X hX
              (obtain ⟨x0, x1, x2, x3, x4, x5, x6⟩ := hX; go_simp)
            simp only [Act.put, List.setIfInBounds_toArray, List.set_cons_zero, List.set_cons_succ]
            refine wpAnyT_take (i := 13) (v := (.pointer (some ⟨w.heap.size, 13, none⟩))) (some 115) rfl (by kernel_rfl) (by kernel_rfl) (by kernel_rfl) (by kernel_rfl) (fun _ _ _ h => absurd h np_panic) [26] (by kernel_rfl) (by kernel_rfl) (by kernel_rfl) (Or.inl ⟨by rfl, ?_⟩) hC ?_
            · intro X hX
              (obtain ⟨x0, x1, x2, x3, x4, x5, x6⟩ := hX; go_simp)
            simp only [Act.put, List.setIfInBounds_toArray, List.set_cons_zero, List.set_cons_succ]
            refine wpAnyT_take (i := 14) (v := (.slice la vl.length lc)) (some 116) rfl (by kernel_rfl) (by kernel_rfl) (by kernel_rfl) (by kernel_rfl) (fun _ _ _ h => absurd h np_panic) [26] (by kernel_rfl) (by kernel_rfl) (by kernel_rfl) (Or.inl ⟨by rfl, ?_⟩) hC ?_
            · intro X hX
              (obtain ⟨x0, x1, x2, x3, x4, x5, x6⟩ := hX; go_simp)
            simp only [Act.put, List.setIfInBounds_toArray, List.set_cons_zero, List.set_cons_succ]
            refine wpAnyT_take (i := 15) (v := (strV N)) (some 117) rfl (by kernel_rfl) (by kernel_rfl) (by kernel_rfl) (by kernel_rfl) (fun _ _ _ h => absurd h np_panic) [26] (by kernel_rfl) (by kernel_rfl) (by kernel_rfl) (Or.inl ⟨by rfl, ?_⟩) hC ?_
            · intro X hX
              (obtain ⟨x0, x1, x2, x3, x4, x5, x6⟩ := hX; go_simp)
            simp only [Act.put, List.setIfInBounds_toArray, List.set_cons_zero, List.set_cons_succ]
            refine wpAnyT_take (i := 17) (v := (.pointer (some ⟨w.heap.size, 23, none⟩))) (some 119) rfl (by kernel_rfl) (by kernel_rfl) (by kernel_rfl) (by kernel_rfl) (fun _ _ _ h => absurd h np_panic) [26] (by kernel_rfl) (by kernel_rfl) (by kernel_rfl) (Or.inl ⟨by rfl, ?_⟩) hC ?_
            · intro X hX
              (obtain ⟨x0, x1, x2, x3, x4, x5, x6⟩ := hX; go_simp)
            simp only [Act.put, List.setIfInBounds_toArray, List.set_cons_zero, List.set_cons_succ]
            refine wpAnyT_take (i := 18) (v := (.slice aa va.length ac)) (some 120) rfl (by kernel_rfl) (by kernel_rfl) (by kernel_rfl) (by kernel_rfl) (fun _ _ _ h => absurd h np_panic) [26] (by kernel_rfl) (by kernel_rfl) (by kernel_rfl) (Or.inl ⟨by rfl, ?_⟩) hC ?_
            · intro X hX
              (obtain ⟨x0, x1, x2, x3, x4, x5, x6⟩ := hX; go_simp)
            simp only [Act.put, List.setIfInBounds_toArray, List.set_cons_zero, List.set_cons_succ]
            refine wpAnyT_take (i := 20) (v := (.pointer (some ⟨w.heap.size, 26, none⟩))) (some 122) rfl (by kernel_rfl) (by kernel_rfl) (by kernel_rfl) (by kernel_rfl) (fun _ _ _ h => absurd h np_panic) [26] (by kernel_rfl) (by kernel_rfl) (by kernel_rfl) (Or.inl ⟨by rfl, ?_⟩) hC ?_
            · intro X hX
              (obtain ⟨x0, x1, x2, x3, x4, x5, x6⟩ := hX; go_simp)
            simp only [Act.put, List.setIfInBounds_toArray, List.set_cons_zero, List.set_cons_succ]
            refine wpAnyT_take (i := 21) (v := (.slice ka vk.length kc)) (some 123) rfl (by kernel_rfl) (by kernel_rfl) (by kernel_rfl) (by kernel_rfl) (fun _ _ _ h => absurd h np_panic) [26] (by kernel_rfl) (by kernel_rfl) (by kernel_rfl) (Or.inl ⟨by rfl, ?_⟩) hC ?_
            · intro X hX
              (obtain ⟨x0, x1, x2, x3, x4, x5, x6⟩ := hX; go_simp)
            simp only [Act.put, List.setIfInBounds_toArray, List.set_cons_zero, List.set_cons_succ]
            refine wpAnyT_take (i := 23) (v := (.slice ua TW.length uc)) (some 125) rfl (by kernel_rfl) (by kernel_rfl) (by kernel_rfl) (by kernel_rfl) (fun _ _ _ h => absurd h np_panic) [26] (by kernel_rfl) (by kernel_rfl) (by kernel_rfl) (Or.inl ⟨by rfl, ?_⟩) hC ?_
            · intro X hX
              (obtain ⟨x0, x1, x2, x3, x4, x5, x6⟩ := hX; go_simp)
            simp only [Act.put, List.setIfInBounds_toArray, List.set_cons_zero, List.set_cons_succ]
            refine wpAnyT_take (i := 24) (v := (.slice ub TF.length ud)) (some 126) rfl (by kernel_rfl) (by kernel_rfl) (by kernel_rfl) (by kernel_rfl) (fun _ _ _ h => absurd h np_panic) [26] (by kernel_rfl) (by kernel_rfl) (by kernel_rfl) (Or.inl ⟨by rfl, ?_⟩) hC ?_
            · intro X hX
              (obtain ⟨x0, x1, x2, x3, x4, x5, x6⟩ := hX; go_simp)
            simp only [Act.put, List.setIfInBounds_toArray, List.set_cons_zero, List.set_cons_succ]
            refine wpAnyT_ready (rs := [16, 19]) (by kernel_rfl) (by simp) ?_
            refine AllT.cons rfl (fun K hK => ?_) (AllT.cons rfl (fun K hK => ?_) AllT.nil)
            · obtain ⟨cv, Y1, hcv, hy1, hrow, hlt, hcap⟩ := conv_room (P := Tryz.prog) W4.drew 9 22 5 N Tryz.underlying9 Tryz.underlying22 Tryz.underlying5
              have hb1 := bl_trans hbX hy1
              have hN1 : ByAt (fun _ => True) false Y1 (some ⟨W4.drew.heap.size, 0, none⟩) N := fun _ => ⟨_, 0, rfl, trivial, hlt, (fun q => (Bool.false_ne_true q).elim), hrow⟩
              obtain ⟨gc, hgc⟩ : ∃ gc, W4.drew.heap.size = gc := ⟨_, rfl⟩
              rw [hgc] at hN1
              go_simp
              clear hrow hlt hcap hcv
              refine hK.out _ _ (fun _ => hcell.out _ hb1) ?_
              clear hK K
              try simp only [Act.put, List.setIfInBounds_toArray, List.set_cons_zero, List.set_cons_succ]
              refine wpAnyT_ready (rs := [19]) (by kernel_rfl) (by simp) ?_
              refine AllT.cons rfl (fun K hK => ?_) AllT.nil
              go_simp
              (go_at_call 28; (with_reducible refine (hbi.out _ hb1).mono ?_); rintro e Y2 ⟨vP, rfl, hoP, hy2⟩)
              obtain ⟨aP, cP, rfl, _, _, hBP⟩ := ByAt.of_owns hoP rfl
              replace hBP := hBP.any
              have hb2 := bl_trans hb1 hy2
              try simp only [go_sem]
              refine hK.out _ _ (fun _ => hcell.out _ hb2) ?_
              clear hK K
              try simp only [Act.put, List.setIfInBounds_toArray, List.set_cons_zero, List.set_cons_succ]
              refine wpAnyT_ready (rs := [22]) (by kernel_rfl) (by simp) ?_
              refine AllT.cons rfl (fun K hK => ?_) AllT.nil
              go_simp
              (go_at_call 28; (with_reducible refine (hbk.out _ hb2).mono ?_); rintro e Y3 ⟨vQ, rfl, hoQ, hy3⟩)
              obtain ⟨aQ, cQ, rfl, _, _, hBQ⟩ := ByAt.of_owns hoQ rfl
              replace hBQ := hBQ.any
              have hb3 := bl_trans hb2 hy3
              try simp only [go_sem]
              refine hK.out _ _ (fun _ => hcell.out _ hb3) ?_
              clear hK K
              try simp only [Act.put, List.setIfInBounds_toArray, List.set_cons_zero, List.set_cons_succ]
              refine wpAnyT_ready (rs := [25]) (by kernel_rfl) (by simp) ?_
              refine AllT.cons rfl (fun K hK => ?_) AllT.nil
              go_simp
              refine hK.out _ _ (fun _ => hcell.out _ (bl_alloc hb3 _)) ?_
              clear hK K
              try simp only [Act.put, List.setIfInBounds_toArray, List.set_cons_zero, List.set_cons_succ]
              refine wpAnyT_ready (rs := [26]) (by kernel_rfl) (by simp) ?_
              refine AllT.cons rfl (fun K hK => ?_) AllT.nil
              go_simp
              refine hK.out _ _ (fun h => nomatch (Eq.trans (by kernel_rfl : true = _) h : true = false)) ?_
              clear hK K
              try simp only [Act.put, List.setIfInBounds_toArray, List.set_cons_zero, List.set_cons_succ]
              refine wpAnyT_done (by kernel_rfl) ⟨rfl, ?_⟩ _
              go_wp2_with fail
              go_meet
              exact hnew.out _ hb3 _ _ _ _ _ _ (((hN1.below hy2)).below hy3) (hBP.below hy3) hBQ _ _ _ _ hU.out hV.out
            · go_simp
              (go_at_call 28; (with_reducible refine (hbi.out _ hbX).mono ?_); rintro e Y1 ⟨vP, rfl, hoP, hy1⟩)
              obtain ⟨aP, cP, rfl, _, _, hBP⟩ := ByAt.of_owns hoP rfl
              replace hBP := hBP.any
              have hb1 := bl_trans hbX hy1
              try simp only [go_sem]
              refine hK.out _ _ (fun _ => hcell.out _ hb1) ?_
              clear hK K
              try simp only [Act.put, List.setIfInBounds_toArray, List.set_cons_zero, List.set_cons_succ]
              refine wpAnyT_ready (rs := [16, 22]) (by kernel_rfl) (by simp) ?_
              refine AllT.cons rfl (fun K hK => ?_) (AllT.cons rfl (fun K hK => ?_) AllT.nil)
              · obtain ⟨cv, Y2, hcv, hy2, hrow, hlt, hcap⟩ := conv_room (P := Tryz.prog) Y1 9 22 5 N Tryz.underlying9 Tryz.underlying22 Tryz.underlying5
                have hb2 := bl_trans hb1 hy2
                have hN2 : ByAt (fun _ => True) false Y2 (some ⟨Y1.heap.size, 0, none⟩) N := fun _ => ⟨_, 0, rfl, trivial, hlt, (fun q => (Bool.false_ne_true q).elim), hrow⟩
                obtain ⟨gc, hgc⟩ : ∃ gc, Y1.heap.size = gc := ⟨_, rfl⟩
                rw [hgc] at hN2
                go_simp
                clear hrow hlt hcap hcv
                refine hK.out _ _ (fun _ => hcell.out _ hb2) ?_
                clear hK K
                try simp only [Act.put, List.setIfInBounds_toArray, List.set_cons_zero, List.set_cons_succ]
                refine wpAnyT_ready (rs := [22]) (by kernel_rfl) (by simp) ?_
                refine AllT.cons rfl (fun K hK => ?_) AllT.nil
                go_simp
                (go_at_call 28; (with_reducible refine (hbk.out _ hb2).mono ?_); rintro e Y3 ⟨vQ, rfl, hoQ, hy3⟩)
                obtain ⟨aQ, cQ, rfl, _, _, hBQ⟩ := ByAt.of_owns hoQ rfl
                replace hBQ := hBQ.any
                have hb3 := bl_trans hb2 hy3
                try simp only [go_sem]
                refine hK.out _ _ (fun _ => hcell.out _ hb3) ?_
                clear hK K
                try simp only [Act.put, List.setIfInBounds_toArray, List.set_cons_zero, List.set_cons_succ]
                refine wpAnyT_ready (rs := [25]) (by kernel_rfl) (by simp) ?_
                refine AllT.cons rfl (fun K hK => ?_) AllT.nil
                go_simp
                refine hK.out _ _ (fun _ => hcell.out _ (bl_alloc hb3 _)) ?_
                clear hK K
                try simp only [Act.put, List.setIfInBounds_toArray, List.set_cons_zero, List.set_cons_succ]
                refine wpAnyT_ready (rs := [26]) (by kernel_rfl) (by simp) ?_
                refine AllT.cons rfl (fun K hK => ?_) AllT.nil
                go_simp
                refine hK.out _ _ (fun h => nomatch (Eq.trans (by kernel_rfl : true = _) h : true = false)) ?_
                clear hK K
                try simp only [Act.put, List.setIfInBounds_toArray, List.set_cons_zero, List.set_cons_succ]
                refine wpAnyT_done (by kernel_rfl) ⟨rfl, ?_⟩ _
                go_wp2_with fail
                go_meet
                exact hnew.out _ hb3 _ _ _ _ _ _ (hN2.below hy3) ((hBP.below hy2).below hy3) hBQ _ _ _ _ hU.out hV.out
              · go_simp
                (go_at_call 28; (with_reducible refine (hbk.out _ hb1).mono ?_); rintro e Y2 ⟨vQ, rfl, hoQ, hy2⟩)
                obtain ⟨aQ, cQ, rfl, _, _, hBQ⟩ := ByAt.of_owns hoQ rfl
                replace hBQ := hBQ.any
                have hb2 := bl_trans hb1 hy2
                try simp only [go_sem]
                refine hK.out _ _ (fun _ => hcell.out _ hb2) ?_
                clear hK K
                try simp only [Act.put, List.setIfInBounds_toArray, List.set_cons_zero, List.set_cons_succ]
                refine wpAnyT_ready (rs := [16]) (by kernel_rfl) (by simp) ?_
                refine AllT.cons rfl (fun K hK => ?_) AllT.nil
                obtain ⟨cv, Y3, hcv, hy3, hrow, hlt, hcap⟩ := conv_room (P := Tryz.prog) Y2 9 22 5 N Tryz.underlying9 Tryz.underlying22 Tryz.underlying5
                have hb3 := bl_trans hb2 hy3
                have hN3 : ByAt (fun _ => True) false Y3 (some ⟨Y2.heap.size, 0, none⟩) N := fun _ => ⟨_, 0, rfl, trivial, hlt, (fun q => (Bool.false_ne_true q).elim), hrow⟩
                obtain ⟨gc, hgc⟩ : ∃ gc, Y2.heap.size = gc := ⟨_, rfl⟩
                rw [hgc] at hN3
                go_simp
                clear hrow hlt hcap hcv
                refine hK.out _ _ (fun _ => hcell.out _ hb3) ?_
                clear hK K
                try simp only [Act.put, List.setIfInBounds_toArray, List.set_cons_zero, List.set_cons_succ]
                refine wpAnyT_ready (rs := [25]) (by kernel_rfl) (by simp) ?_
                refine AllT.cons rfl (fun K hK => ?_) AllT.nil
                go_simp
                refine hK.out _ _ (fun _ => hcell.out _ (bl_alloc hb3 _)) ?_
                clear hK K
                try simp only [Act.put, List.setIfInBounds_toArray, List.set_cons_zero, List.set_cons_succ]
                refine wpAnyT_ready (rs := [26]) (by kernel_rfl) (by simp) ?_
                refine AllT.cons rfl (fun K hK => ?_) AllT.nil
                go_simp
                refine hK.out _ _ (fun h => nomatch (Eq.trans (by kernel_rfl : true = _) h : true = false)) ?_
                clear hK K
                try simp only [Act.put, List.setIfInBounds_toArray, List.set_cons_zero, List.set_cons_succ]
                refine wpAnyT_done (by kernel_rfl) ⟨rfl, ?_⟩ _
                go_wp2_with fail
                go_meet
                exact hnew.out _ hb3 _ _ _ _ _ _ hN3 ((hBP.below hy2).below hy3) (hBQ.below hy3) _ _ _ _ hU.out hV.out
          case rest =>
            obtain ⟨B, g, rfl, hM, hBw, hwB, hbw⟩ := hcut
            obtain ⟨W5, hW5⟩ : ∃ X : World, X = wc := ⟨_, rfl⟩
            subst hW5
            have hxl : xs.length = 10 := by rw [← hxs]; rfl
            have hxt : ∀ i (h : i < xs.length), xs[i].length ≤ 1000000 := by
              have q : ∀ x ∈ xs, x.length ≤ 1000000 := by
                have hNl := nums_le _ h64.out
                have e1 : (FM.scNums ⟨nl, line, subst, last, next, opn, cur, missing, short, pshort, phase, pcc, exit, stop, err, silent, quit, again⟩).length = 18 := rfl
                rw [e1, hN.out] at hNl
                have m := hm.out
                have m1 : vp.length ≤ 1000000 := m.pat
                have m2 : vh.length ≤ 1000000 := m.hold
                have m3 : vr.length ≤ 1000000 := m.rest
                have m4 : vo.length ≤ 1000000 := m.out
                have m5 : vl.length ≤ 1000000 := m.place
                have m6 : va.length ≤ 1000000 := m.active
                have m7 : vk.length ≤ 1000000 := m.lacks
                have m8 : (FM.bitsT va).length = va.length := by simp [FM.bitsT]
                have m9 : (FM.bitsT vk).length = vk.length := by simp [FM.bitsT]
                intro x hx
                rw [← hxs] at hx
                simp only [List.mem_cons, List.mem_nil_iff, or_false] at hx
                rcases hx with rfl | rfl | rfl | rfl | rfl | rfl | rfl | rfl | rfl | rfl <;> omega
              exact fun i h => q _ (List.getElem_mem h)
            have hxV : xs = FM.fieldsS ⟨⟨nl, line, subst, last, next, opn, cur, missing, short, pshort, phase, pcc, exit, stop, err, silent, quit, again⟩, vp, vh, vr, vo, vl, va, vk, vw, vf⟩ := by rw [← hxs]; unfold FM.fieldsS; dsimp only; rw [hN.out, hTW.out, hTF.out]
            replace hxV := Lib.hid hxV
            clear hxs hnew hcell hbi hbk hU hV j0 j1 j10 j11 j13 j23 j26 K2 K3 hS1 hp1 hW hF hm hw64 h64 hbr1 hN hTW hTF hbW hj
            replace hxt := Lib.hid hxt
            replace hM := Lib.hid hM
            go_wp2_with fail
            go_loopw [130] (fun i wr => ∃ k : Nat, i = .int .i64 (k : Int) ∧ k ≤ 10 ∧ MidG B k wr g xs ∧ B ≤ wr.heap.size ∧ Below w.heap.size w wr) (fun i _ => 10 - (intOf i).toNat)
            case atStart => exact ⟨0, rfl, by omega, hM.out, hBw, hbw⟩
            case round =>
              clear hM hBw hbw
              obtain ⟨k, rfl, hk, hM, hBr, hbr⟩ := hrel
              have hgl := hM.2.1
              have hgB : w.heap.size ≤ g := Nat.le_trans hwB hM.1
              replace hM := Lib.hid hM
              by_cases h1 : k < 10
              · have h1' : k < xs.length := by omega
                obtain ⟨xa, xc, c2, hB⟩ := hM.out.at h1'
                have f2 := hM.out.2.2.1 k h1'
                have hcc := Lib.hid (clone_any xa xc xs[k] wr (hxt.out k h1') hB.any)
                clear hB
                go_wp2_with (go_at_call 29; refine hcc.out.mono ?_; rintro e w2 ⟨v2, rfl, hown2, hb2⟩; obtain ⟨a2, c3, rfl, y1, y2, hB2⟩ := ByAt.of_owns hown2 rfl; have q1 := (hb2.cell (p := ⟨g, k, none⟩) hgl).trans c2; have q2 := (hb2.frozen (p := ⟨g, k, none⟩) hgl).trans f2; replace hB2 := Lib.hid hB2; clear hown2)
                all_goals go_roundw
                case measure => simp [intOf]; omega
                case rel => exact ⟨k + 1, by go_num, by omega, hM.out.put hBr hb2 h1' y1 y2 hB2.out, by simp only [World.size_setCell]; exact Nat.le_trans hBr hb2.size, (bl_trans hbr hb2).setCell hgB _⟩
              · obtain rfl : k = 10 := by omega
                go_wp2_with fail
                all_goals go_ret
                have hE := (hM.out.out (by omega)).mono (fun b hb => Nat.le_trans hwB hb)
                rw [hxV.out] at hE
                exact ⟨_, _, rfl, hE, hbr⟩
end Go.Proofs.YtepdfkgadigafaaGreatDoor