/-
  StopsPlay: the walk; of chapter 28.
  Conditions: as each theorem states them.
-/
import Derived.Test.YtcjcflmnghhbaaaGreatStoI
import Derived.Test.YtcjcflmnghhbaaaGreatGreatR
import Derived.Test.YtcjcflmnghhbaaaGreatStopJk
import Derived.Deep.RegionHeld3
namespace Go.Proofs.YtcjcflmnghhbaaaGreat
open Go.RowKit
set_option linter.unusedVariables false
set_option linter.unusedSimpArgs false
attribute [local go_sem ↓] load_st
/-- an operation -/
structure OpB where
  kind : Int
  k : Int
  n : Int
  s : List UInt8
def OpB.cells (o : OpB) : List Value := [.int .i64 o.kind, .int .i64 o.k, .int .i64 o.n, strV o.s]
def OpsB (W : World) (a : Option Addr) (l : Nat) : Prop := ∀ i, i < l → ∃ (b o : Nat) (x : OpB), a = some ⟨b, o, none⟩ ∧ x.s.length ≤ 140737488351232 ∧ b < W.heap.size ∧ ∀ j u, x.cells[j]? = some u → W.cell? ⟨b, o + i * 4 + j, none⟩ = some u
set_option maxHeartbeats 16000000 in
set_option maxRecDepth 100000 in
theorem stopsPlay_list (W : World) (a1 : Option Addr) (l1 c1 : Nat) (hlen : l1 ≤ 140737488351232) (hops : OpsB W a1 l1) (s1 s2 : StC) (b1 b2 : StB) (hr1 : RawAt W s1 b1) (hr2 : RawAt W s2 b2) (hm : MxAt W) :
    Calls Tryz.prog 3 #[.slice a1 l1 c1, .agg s1.cells.toArray, .agg s2.cells.toArray] W fun e w' => e = .returned (.bool true) ∧ Below W.heap.size W w' := by
  obtain ⟨W1, hW1⟩ : ∃ W1, W.alloc (.cells s1.cells.toArray 35) = W1 := ⟨_, rfl⟩
  obtain ⟨W2, hW2⟩ : ∃ W2, W1.alloc (.cells s2.cells.toArray 35) = W2 := ⟨_, rfl⟩
  have hB : Below W.heap.size W W2 := by rw [← hW2, ← hW1]; exact bl_alloc (bl_alloc (Below.refl _ _) _) _
  have hB1 : Blk W2 W.heap.size 35 s1.cells := by rw [← hW2, ← hW1]; exact (Blk.new W _ _).alloc _
  have hB2 : Blk W2 (W.heap.size + 1) 35 s2.cells := by
    rw [show W.heap.size + 1 = W1.heap.size by rw [← hW1]; simp, ← hW2]; exact Blk.new W1 _ _
  obtain ⟨C1, hC1⟩ : ∃ C, s1.cells.toArray = C := ⟨_, rfl⟩
  obtain ⟨C2, hC2⟩ : ∃ C, s2.cells.toArray = C := ⟨_, rfl⟩
  have hW : (W.alloc (.cells C1 35)).alloc (.cells C2 35) = W2 := by rw [← hC1, ← hC2, hW1, hW2]
  have hLd := Lib.hid (fun w' (hw : Below W2.heap.size W2 w') => (⟨hC1 ▸ stLoad_is s1 (hB1.below hw), hC2 ▸ stLoad_is s2 (hB2.below hw)⟩ : (stLoad ⟨W.heap.size, 0, none⟩).run Tryz.prog w' = .ok (.agg C1) w' ∧ (stLoad ⟨W.heap.size + 1, 0, none⟩).run Tryz.prog w' = .ok (.agg C2) w'))
  have hgr1 := Lib.hid (fun w' (hw : Below W2.heap.size W2 w') => (by have := great_any s1 b1 w' (hr1.below (bl_trans hB hw)); rw [hC1] at this; exact this : Calls Tryz.prog 4 #[.agg C1] w' fun e w2 => e = .returned (.bool (greatB s1 b1)) ∧ Below w'.heap.size w' w2))
  have hgr2 := Lib.hid (fun w' (hw : Below W2.heap.size W2 w') => (by have := great_any s2 b2 w' (hr2.below (bl_trans hB hw)); rw [hC2] at this; exact this : Calls Tryz.prog 4 #[.agg C2] w' fun e w2 => e = .returned (.bool (greatB s2 b2)) ∧ Below w'.heap.size w' w2))
  have hfin := Lib.hid (fun w' (hw : Below W2.heap.size W2 w') => (awake28 w' (hm.below (bl_trans hB hw))).mono (R' := fun e w2 => e = .returned (.bool true) ∧ Below W.heap.size W w2) (fun e w2 he => ⟨he.1, bl_trans hB (bl_trans hw he.2)⟩))
  have hsv := Lib.hid (fun (hg : greatB s1 b1 = false) (hg2 : greatB s2 b2 = false) w' (hw : Below W2.heap.size W2 w') => (⟨(hr1.sv hg).below (bl_trans hB hw), (hr2.sv hg2).below (bl_trans hB hw), hm.below (bl_trans hB hw)⟩ : StSv w' s1 (svOf s1 b1) ∧ StSv w' s2 (svOf s2 b2) ∧ MxAt w'))
  have hopc : ∀ i, i < l1 → ∃ (b o : Nat) (x : OpB), a1 = some ⟨b, o, none⟩ ∧ x.s.length ≤ 140737488351232 ∧ ∀ w', Below W2.heap.size W2 w' → b < w'.heap.size ∧ w'.cell? ⟨b, o + i * 4, none⟩ = some (.int .i64 x.kind) ∧ w'.cell? ⟨b, o + i * 4 + 1, none⟩ = some (.int .i64 x.k) ∧ w'.cell? ⟨b, o + i * 4 + 2, none⟩ = some (.int .i64 x.n) ∧ w'.cell? ⟨b, o + i * 4 + 3, none⟩ = some (strV x.s) := fun i hi => by
    obtain ⟨b, o, x, e, hl, hb, hc⟩ := hops i hi
    refine ⟨b, o, x, e, hl, fun w' hw => ?_⟩
    have h2 := bl_trans hB hw
    exact ⟨Nat.lt_of_lt_of_le hb h2.size, (h2.cell (p := ⟨b, _, none⟩) hb).trans (hc 0 _ rfl), (h2.cell (p := ⟨b, _, none⟩) hb).trans (hc 1 _ rfl), (h2.cell (p := ⟨b, _, none⟩) hb).trans (hc 2 _ rfl), (h2.cell (p := ⟨b, _, none⟩) hb).trans (hc 3 _ rfl)⟩
  have l1' : W.heap.size < W2.heap.size := hB1.lt
  have l2' : W.heap.size + 1 < W2.heap.size := hB2.lt
  have hBB : Below W2.heap.size W2 W2 := Below.refl _ _
  obtain ⟨L1, L2⟩ := hLd.out _ hBB
  replace hW := Lib.hid hW
  obtain ⟨G1, hG1⟩ : ∃ G, greatB s1 b1 = G := ⟨_, rfl⟩
  obtain ⟨G2, hG2⟩ : ∃ G, greatB s2 b2 = G := ⟨_, rfl⟩
  rw [hG1] at hgr1 hsv
  rw [hG2] at hgr2 hsv
  obtain ⟨v1, hv1⟩ : ∃ v, svOf s1 b1 = v := ⟨_, rfl⟩
  obtain ⟨v2, hv2⟩ : ∃ v, svOf s2 b2 = v := ⟨_, rfl⟩
  rw [hv1, hv2] at hsv
  rw [hC1, hC2]
  replace hC1 := Lib.hid hC1
  replace hC2 := Lib.hid hC2
  replace hopc := Lib.hid hopc
  clear hr1 hr2 hB1 hB2 hW1 hW2 hm hG1 hG2 hv1 hv2 hops
  obtain ⟨bw, hbw⟩ : ∃ bw, W.heap.size = bw := ⟨_, rfl⟩
  rw [hbw] at hLd L1 L2 l1' l2'
  by_cases hl30 : 30 < l1
  · have q2 : decide (30 < (l1 : Int)) = true := by simp; omega
    clear hgr1 hgr2 hsv hopc hLd
    go_enter Tryz.func3, Tryz.ntmps3
    go_upto_region 1 with fail
    rw [hW.out]
    go_wp2_with (go_at_call 5; (with_reducible refine (hfin.out _ hBB).mono ?_); rintro e w2 ⟨rfl, hb2⟩)
    go_ret
    exact ⟨rfl, hb2⟩
  have q2 : decide (30 < (l1 : Int)) = false := by simp; omega
  cases G1
  rotate_left
  · clear hgr2 hsv hopc hLd
    go_enter Tryz.func3, Tryz.ntmps3
    go_upto_region 1 with fail
    rw [hW.out]
    go_wp2_with (first
      | (go_at_call 4; (with_reducible refine (hgr1.out _ hBB).mono ?_); rintro e w2 ⟨rfl, hb2⟩)
      | (go_at_call 5; (with_reducible refine (hfin.out _ hb2).mono ?_); rintro e w3 ⟨rfl, hb3⟩))
    go_ret
    exact ⟨rfl, hb3⟩
  cases G2
  rotate_left
  · have hL2 := hLd
    clear hsv hopc
    go_enter Tryz.func3, Tryz.ntmps3
    go_upto_region 1 with fail
    rw [hW.out]
    go_wp2_with (first
      | (go_at_call 4; first
        | ((with_reducible refine (hgr1.out _ hBB).mono ?_); rintro e w2 ⟨rfl, hb2⟩; obtain ⟨M1, M2⟩ := hL2.out _ hb2; have hw2 := hb2.size)
        | ((with_reducible refine (hgr2.out _ hb2).mono ?_); rintro e w3 ⟨rfl, hb3⟩; have hb23 := bl_trans hb2 hb3))
      | (go_at_call 5; (with_reducible refine (hfin.out _ hb23).mono ?_); rintro e w4 ⟨rfl, hb4⟩))
    go_ret
    exact ⟨rfl, hb4⟩
  replace hsv := Lib.hid (hsv.out rfl rfl)
  go_enter Tryz.func3, Tryz.ntmps3
  go_upto_region 1 with fail
  rw [hW.out]
  go_upto_region 3 with (go_at_call 4; first
    | ((with_reducible refine (hgr1.out _ hBB).mono ?_); rintro e w2 ⟨rfl, hb2⟩; obtain ⟨M1, M2⟩ := hLd.out _ hb2; have hw2 := hb2.size)
    | ((with_reducible refine (hgr2.out _ hb2).mono ?_); rintro e w3 ⟨rfl, hb3⟩; have hb23 := bl_trans hb2 hb3))
  have hnew := Lib.hid (new_stops W2.heap.size w3 hb23.size)
  go_upto_region 4 with (go_at_call 6; (with_reducible refine hnew.out.mono ?_); rintro e w4 ⟨p, rfl, hS4, hb4⟩)
  obtain ⟨v0, hR4⟩ := hS4
  obtain ⟨xb, hxb⟩ : ∃ xb, w4.heap.size = xb := ⟨_, rfl⟩
  obtain ⟨w5, hw5⟩ : ∃ w5, w4.alloc (.cells #[.slice none 0 0, .int .i64 0] 43) = w5 := ⟨_, rfl⟩
  have hb45 : Below w4.heap.size w4 w5 := by rw [← hw5]; exact bl_alloc (Below.refl _ _) _
  have hX5 : Blk w5 xb 43 [.slice none 0 0, .int .i64 0] := by rw [← hw5, ← hxb]; exact Blk.new w4 _ _
  have hN4 : W2.heap.size ≤ xb := by rw [← hxb]; exact Nat.le_trans hb23.size hb4.size
  have hp4 : p < xb := by rw [← hxb]; exact hR4.blk.lt
  have hPI : PInv W2.heap.size p xb (10 * ((0 : Nat) : Int)) bw w5 := ⟨v0, .slice none 0 0, [], 0, ⟨hR4.below hb45, ⟨hX5, World.ownsRow_nil _ _ _ _, by simp [Value.ownBlock]⟩, by omega, by simp [Value.ownBlock], fun e => by have := (hR4.row.lt _ e).2; omega, fun r _ => by simp [Value.ownBlock], fun x hx => by cases hx⟩, ⟨List.Pairwise.nil, fun x hx => by cases hx⟩, fun x hx => (by cases hx), by simp, Int.le_refl _, by simp, hN4, fun r hr => by simp [Value.ownBlock] at hr, fun e => by have := (hR4.row.lt _ e).1; omega, by simp [Value.ownBlock]⟩
  have hb25 := Lib.hid (bl_trans hb23 (bl_trans hb4 hb45))
  have hxl5 := hX5.lt
  replace hPI := Lib.hid hPI
  clear hR4 hX5 hb4 hb45 hnew hgr1 hgr2 M1 M2 L1 L2 hb2
  go_wp2_with fail
  rw [hw5, hxb]
  clear hw5 hxb
  go_loopg [9] l1 (fun gh u wr => ∃ i : Nat, gh = l1 - i ∧ u = .int .i64 (i : Int) ∧ i ≤ l1 ∧ xb < wr.heap.size ∧ Hid (PInv W2.heap.size p xb (10 * (i : Int)) bw wr) ∧ Hid (Below W2.heap.size W2 wr))
  case atStart => exact ⟨0, rfl, rfl, Nat.zero_le _, hxl5, hPI, hb25⟩
  case round =>
    clear hPI hb25 hxl5
    obtain ⟨i, rfl, rfl, hi, hxr, hP, hbr⟩ := hrel
    by_cases hlt : i < l1
    rotate_left
    · obtain rfl : i = l1 := by omega
      clear hP hopc hLd
      go_wp2_with (go_at_call 5; (with_reducible refine (hfin.out _ hbr.out).mono ?_); rintro e w6 ⟨rfl, hb6⟩)
      go_ret
      exact ⟨rfl, hb6⟩
    obtain ⟨b, o, ⟨kd, xk, xn, xs⟩, rfl, hxl, hxc⟩ := hopc.out i hlt
    obtain ⟨hbl, c0, c1, c2, c3⟩ := hxc wr hbr.out
    have hit : (i : Int) < (l1 : Int) := by omega
    have hi0 : (0 : Int) ≤ (i : Int) := by omega
    obtain ⟨go, hgo⟩ : ∃ go, wr.heap.size = go := ⟨_, rfl⟩
    obtain ⟨wA, hwA⟩ : ∃ wA, wr.alloc (.cells #[.int .i64 kd, .int .i64 xk, .int .i64 xn, strV xs] 45) = wA := ⟨_, rfl⟩
    have hbA : Below wr.heap.size wr wA := by rw [← hwA]; exact bl_alloc (Below.refl _ _) _
    have hBo : Blk wA go 45 [.int .i64 kd, .int .i64 xk, .int .i64 xn, strV xs] := by rw [← hwA, ← hgo]; exact Blk.new wr _ _
    have hcell := Lib.hid (fun (X : World) (he : X.heap[go]? = wA.heap[go]?) => (⟨(hBo.of_eq he).cell 0, (hBo.of_eq he).cell 1, (hBo.of_eq he).cell 2, (hBo.of_eq he).cell 3, (hBo.of_eq he).lt⟩ : X.cell? ⟨go, 0, none⟩ = some (.int .i64 kd) ∧ X.cell? ⟨go, 1, none⟩ = some (.int .i64 xk) ∧ X.cell? ⟨go, 2, none⟩ = some (.int .i64 xn) ∧ X.cell? ⟨go, 3, none⟩ = some (strV xs) ∧ go < X.heap.size))
    have hgoA := hBo.lt
    have hbWA := Lib.hid (bl_trans hbr.out hbA)
    have hWr := hbr.out.size
    have hszA : W2.heap.size ≤ wA.heap.size := hbWA.out.size
    replace hbA := Lib.hid hbA
    clear hBo hxc
    go_upto_region 8 with fail
    replace hwA := Lib.hid hwA
    replace hgo := Lib.hid hgo
    obtain ⟨d0, d1, d2, d3, -⟩ := hcell.out wA rfl
    by_cases h100 : 100 < xs.length
    · have q0 : decide ((100 : Int) < xs.length) = true := by rw [decide_eq_true_eq]; omega
      clear hP
      go_wp2_with (go_at_call 5; (with_reducible refine (hfin.out _ hbWA.out).mono ?_); rintro e w6 ⟨rfl, hb6⟩)
      go_ret
      exact ⟨rfl, hb6⟩
    have q0 : decide ((100 : Int) < xs.length) = false := by rw [decide_eq_false_iff_not]; omega
    go_upto_block 2 with fail
    clear c0 c1 c2 c3
    obtain ⟨v, rv, l, last, hBo, hI, hok, hl, h0, hle, hNx, hNr, hvg, hrg⟩ := hP.out
    have hbo2 := hBo.below hbA.out
    have hgp : go ≠ p := by have := hBo.S.blk.lt; have := hgo.out; omega
    have hgx : go ≠ xb := by have := hgo.out; omega
    replace hvg : v.ownBlock ≠ some go := fun e => by have := (hBo.S.row.lt _ e).2; have := hgo.out; omega
    replace hrg : rv.ownBlock ≠ some go := fun e => by have := (hBo.R.row.lt _ e).2; have := hgo.out; omega
    replace hBo := Lib.hid hbo2
    have hbd : Below wA.heap.size wA wA.drew := bl_drew (Below.refl _ _)
    have hgK : ¬ OwnK p wA.drew.heap.size v go := by
      rintro (e | e | e)
      · exact hgp e
      · exact hvg e
      · exact absurd hgoA (Nat.not_lt.2 e)
    have hP0 := Lib.hid (⟨v, rv, l, last, hbo2, hI, hok, hl, h0, hle, hNx, hNr, hvg, hrg⟩ : PInv W2.heap.size p xb (10 * (i : Int)) go wA)
    replace hI := Lib.hid hI
    replace hok := Lib.hid hok
    replace hNr := Lib.hid hNr
    clear hbo2 hP
    go_cut [11, 12, 13, 14, 15, 16, 17, 18, 19, 20] from 56 to 130 (fun s11 s12 s13 s14 s15 s16 s17 s18 s19 s20 wx => ∃ E, s12 = .int .i64 E ∧ s13 = .int .i64 E ∧ Hid (PInv W2.heap.size p xb (10 * (i : Int) + 10) go wx) ∧ Hid (Below W2.heap.size W2 wx) ∧ wx.heap[go]? = wA.heap[go]?)
    case first =>
      have r1 := hBo.out.S.np
      by_cases k1 : kd = 1
      · subst k1
        have cD := Lib.hid (delete_own (W := wA.drew) (hBo.out.below hbd).S (by show _ ≤ wA.heap.size; omega) (by omega) xn)
        have cDr := Lib.hid (fun w5 (hO : Only (OwnK p wA.drew.heap.size v) wA.drew w5) => rdelete_any ((hBo.out.below hbd).mid hO) hI.out (by omega) xn)
        obtain ⟨E, hE⟩ : ∃ E : Int, (if (delS xn l).length = l.length then 6 else 0) = E := ⟨_, rfl⟩
        rw [hE] at cD cDr
        replace hE := Lib.hid hE
        have sI := hcell.out wA.drew rfl
        go_upto_region 13 with fail
        go_region_held3 (fun X => X.cell? ⟨go, 0, none⟩ = some (.int .i64 1) ∧ X.cell? ⟨go, 1, none⟩ = some (.int .i64 xk) ∧ X.cell? ⟨go, 2, none⟩ = some (.int .i64 xn) ∧ X.cell? ⟨go, 3, none⟩ = some (strV xs) ∧ go < X.heap.size) (first | with_reducible exact sI | with_reducible exact hI5 | with_reducible exact hI6) (first
          | (go_at_call 7; (with_reducible refine cD.out.mono ?_); rintro e w5 ⟨rfl, ⟨v', hS5, hv5⟩, hO5⟩; have hI5 := hcell.out w5 (hO5.block go hgoA hgK); have cE := Lib.hid (cDr.out w5 hO5))
          | (go_at_call 8; (with_reducible refine cE.out.mono ?_); rintro e w6 ⟨rfl, rv', hR6, hO6, hr6⟩; have hK6 := two_keep (hBo.out.below hbd) hgp hgx hvg hrg hgoA hO5 hO6; have hI6 := hcell.out w6 hK6; have hfin6 := Lib.hid (And.intro (PInv.del (B := 10 * (i : Int)) (hBo.out.below hbd) hI.out hok.out hl h0 hle hNx hNr.out hvg hrg hgoA hS5 hv5 hO5 hR6 hO6 hr6) (And.intro (bl_trans_N hbWA.out (two_below (hBo.out.below hbd) (Nat.le_refl _) hNx hNr.out hO5 hO6)) hK6))))
        go_wp2_with fail
        go_meet
        exact ⟨E, rfl, rfl, Lib.hid (PInv.up hfin6.out.1 (by omega)), Lib.hid hfin6.out.2.1, hfin6.out.2.2⟩
      have q1 : (kd == 1) = false := by simpa using k1
      by_cases k2 : kd = 2
      · subst k2
        have cD := Lib.hid (turn_own (W := wA.drew) (hBo.out.below hbd).S (by show _ ≤ wA.heap.size; omega) (by omega) xn true)
        have cDr := Lib.hid (fun w5 (hO : Only (OwnK p wA.drew.heap.size v) wA.drew w5) => rturn_any ((hBo.out.below hbd).mid hO) (by omega) xn true)
        obtain ⟨E, hE⟩ : ∃ E : Int, (if findP xn l < 0 then 6 else 0) = E := ⟨_, rfl⟩
        rw [hE] at cD cDr
        replace hE := Lib.hid hE
        have sI := hcell.out wA.drew rfl
        go_upto_region 16 with fail
        go_region_held3 (fun X => X.cell? ⟨go, 0, none⟩ = some (.int .i64 2) ∧ X.cell? ⟨go, 1, none⟩ = some (.int .i64 xk) ∧ X.cell? ⟨go, 2, none⟩ = some (.int .i64 xn) ∧ X.cell? ⟨go, 3, none⟩ = some (strV xs) ∧ go < X.heap.size) (first | with_reducible exact sI | with_reducible exact hI5 | with_reducible exact hI6) (first
          | (go_at_call 9; (with_reducible refine cD.out.mono ?_); rintro e w5 ⟨rfl, hS5, hO5⟩; have hI5 := hcell.out w5 (hO5.block go hgoA hgK); have cE := Lib.hid (cDr.out w5 hO5))
          | (go_at_call 10; (with_reducible refine cE.out.mono ?_); rintro e w6 ⟨rfl, hR6, hO6⟩; have hK6 := two_keep (hBo.out.below hbd) hgp hgx hvg hrg hgoA hO5 hO6; have hI6 := hcell.out w6 hK6; have hfin6 := Lib.hid (And.intro (PInv.turn (B := 10 * (i : Int)) (hBo.out.below hbd) hI.out hok.out hl h0 hle hNx hNr.out hvg hrg hgoA hS5 hO5 hR6 hO6) (And.intro (bl_trans_N hbWA.out (two_below (hBo.out.below hbd) (Nat.le_refl _) hNx hNr.out hO5 hO6)) hK6))))
        go_wp2_with fail
        go_meet
        exact ⟨E, rfl, rfl, Lib.hid (PInv.up hfin6.out.1 (by omega)), Lib.hid hfin6.out.2.1, hfin6.out.2.2⟩
      have q2' : (kd == 2) = false := by simpa using k2
      by_cases k3 : kd = 3
      · subst k3
        have cD := Lib.hid (turn_own (W := wA.drew) (hBo.out.below hbd).S (by show _ ≤ wA.heap.size; omega) (by omega) xn false)
        have cDr := Lib.hid (fun w5 (hO : Only (OwnK p wA.drew.heap.size v) wA.drew w5) => rturn_any ((hBo.out.below hbd).mid hO) (by omega) xn false)
        obtain ⟨E, hE⟩ : ∃ E : Int, (if findP xn l < 0 then 6 else 0) = E := ⟨_, rfl⟩
        rw [hE] at cD cDr
        replace hE := Lib.hid hE
        have sI := hcell.out wA.drew rfl
        go_upto_region 16 with fail
        go_region_held3 (fun X => X.cell? ⟨go, 0, none⟩ = some (.int .i64 3) ∧ X.cell? ⟨go, 1, none⟩ = some (.int .i64 xk) ∧ X.cell? ⟨go, 2, none⟩ = some (.int .i64 xn) ∧ X.cell? ⟨go, 3, none⟩ = some (strV xs) ∧ go < X.heap.size) (first | with_reducible exact sI | with_reducible exact hI5 | with_reducible exact hI6) (first
          | (go_at_call 9; (with_reducible refine cD.out.mono ?_); rintro e w5 ⟨rfl, hS5, hO5⟩; have hI5 := hcell.out w5 (hO5.block go hgoA hgK); have cE := Lib.hid (cDr.out w5 hO5))
          | (go_at_call 10; (with_reducible refine cE.out.mono ?_); rintro e w6 ⟨rfl, hR6, hO6⟩; have hK6 := two_keep (hBo.out.below hbd) hgp hgx hvg hrg hgoA hO5 hO6; have hI6 := hcell.out w6 hK6; have hfin6 := Lib.hid (And.intro (PInv.turn (B := 10 * (i : Int)) (hBo.out.below hbd) hI.out hok.out hl h0 hle hNx hNr.out hvg hrg hgoA hS5 hO5 hR6 hO6) (And.intro (bl_trans_N hbWA.out (two_below (hBo.out.below hbd) (Nat.le_refl _) hNx hNr.out hO5 hO6)) hK6))))
        go_wp2_with fail
        go_meet
        exact ⟨E, rfl, rfl, Lib.hid (PInv.up hfin6.out.1 (by omega)), Lib.hid hfin6.out.2.1, hfin6.out.2.2⟩
      have q3 : (kd == 3) = false := by simpa using k3
      by_cases k0 : kd = 0
      · subst k0
        obtain ⟨wo, rfl⟩ : ∃ wo : World, wo = wr := ⟨_, rfl⟩
        go_wp2_with fail
        clear d0 d1 d2 d3
        go_loopg [14] 1 (fun gh u wz => ∃ k : Nat, gh = 1 - k ∧ u = .int .i64 (k : Int) ∧ k ≤ 1 ∧ Hid (PInv W2.heap.size p xb (10 * (i : Int) + (k : Int)) go wz) ∧ Hid (Below W2.heap.size W2 wz) ∧ Hid (wz.heap[go]? = wA.heap[go]?))
        case atStart => exact ⟨0, rfl, rfl, Nat.zero_le _, Lib.hid (PInv.up hP0.out (by simp)), hbWA, Lib.hid rfl⟩
        case round =>
          obtain ⟨k, rfl, rfl, hk, hP2, hb2, hg2⟩ := hrel
          obtain ⟨m0, m1, m2, m3, m4⟩ := hcell.out wr hg2.out
          by_cases hkT : k < 1
          · obtain ⟨va, ra, la, lasta, hBa, hIa, hoka, hla, h0a, hlea, hNxa, hNra, hvga, hrga⟩ := hP2.out
            have qk : decide ((k : Int) < 1) = true := by simp; omega
            have hgoa : go < wr.heap.size := m4
            have hsza : W2.heap.size ≤ wr.heap.size := hb2.out.size
            obtain ⟨A, hA⟩ : ∃ A, ansA (addS (la.length == 32) xk xn xs) lasta = A := ⟨_, rfl⟩
            obtain ⟨B, hB⟩ : ∃ B, ansB (addS (la.length == 32) xk xn xs) = B := ⟨_, rfl⟩
            obtain ⟨C, hC⟩ : ∃ C, ansC (addS (la.length == 32) xk xn xs) = C := ⟨_, rfl⟩
            have hAns : ansE (addS (la.length == 32) xk xn xs) lasta = .returned (.tuple #[.int .i64 A, .int .i64 B, .int .i64 C]) := by unfold ansE; rw [hA, hB, hC]
            have cA := (add_own xk xn xs wr hBa.S hsza hla h0a (by omega)).mono (R' := fun e w' => e = .returned (.tuple #[.int .i64 A, .int .i64 B, .int .i64 C]) ∧ AddO W2.heap.size p wr.heap.size va la lasta xk xn xs e w' ∧ Only (OwnK p wr.heap.size va) wr w') (fun e w' h => ⟨h.1.ans.trans hAns, h.1, h.2⟩)
            have cR := Lib.hid (fun w5 (hO : Only (OwnK p wr.heap.size va) wr w5) => (radd_any (hBa.mid hO) hla h0a (by omega) xk xn xs (by omega)).mono (R' := fun e w' => e = .returned (.tuple #[.int .i64 A, .int .i64 B, .int .i64 C]) ∧ RAddIs w5 xb ra la lasta xk xn xs e w') (fun e w' h => ⟨h.ans.trans hAns, h⟩))
            have hgKa : ¬ OwnK p wr.heap.size va go := by
              rintro (e | e | e)
              · exact hgp e
              · exact hvga e
              · exact absurd hgoa (Nat.not_lt.2 e)
            have hstep := Lib.hid (fun w5 w6 e1 e2 (h5 : AddO W2.heap.size p wr.heap.size va la lasta xk xn xs e1 w5) (hO5 : Only (OwnK p wr.heap.size va) wr w5) (h6 : RAddIs w5 xb ra la lasta xk xn xs e2 w6) => (by
              have hO6 : Only (RefK xb ra) w5 w6 := by
                unfold RAddIs at h6
                split at h6
                · exact h6.2.2
                · obtain ⟨_, rv', _, h7, _⟩ := h6; exact h7
              exact ⟨PInv.add (B := 10 * (i : Int) + (k : Int)) hBa hIa hoka hla h0a hlea hNxa hNra hvga hrga hgoa (by omega) h5 hO5 h6, hb2.out.trans (two_below hBa (Nat.le_refl _) hNxa hNra hO5 hO6), (two_keep hBa hgp hgx hvga hrga hgoa hO5 hO6).trans hg2.out⟩ : PInv W2.heap.size p xb (10 * (i : Int) + (k : Int) + 1) go w6 ∧ Below W2.heap.size W2 w6 ∧ w6.heap[go]? = wA.heap[go]?))
            have qA : (A != A) = false := by simp
            have qB : (B != B) = false := by simp
            have qC : (C != C) = false := by simp
            have hcO := Lib.hid (fun w5 (hO : Only (OwnK p wr.heap.size va) wr w5) => hcell.out w5 ((hO.block go hgoa hgKa).trans hg2.out))
            replace cA := Lib.hid cA
            clear hBa hIa hoka hNra hA hB hC hAns hvga hrga hgKa hP2
            go_wp2_with (first
              | (go_at_call 11; (with_reducible refine cA.out.mono ?_); rintro e w5 ⟨rfl, hA5, hO5⟩; replace hA5 := Lib.hid hA5; obtain ⟨n0, n1, n2, n3, n4⟩ := hcO.out w5 hO5; have cR5 := Lib.hid (cR.out w5 hO5))
              | (go_at_call 12; (with_reducible refine cR5.out.mono ?_); rintro e w6 ⟨rfl, hR6⟩; have hst6 := Lib.hid (hstep.out w5 w6 _ _ hA5.out hO5 hR6); replace hR6 := Lib.hid hR6))
            go_roundg (1 - (k + 1))
            case measure => omega
            case rel => exact ⟨k + 1, rfl, by go_num, by omega, Lib.hid (PInv.up hst6.out.1 (by simp; omega)), Lib.hid hst6.out.2.1, Lib.hid hst6.out.2.2⟩
          · obtain rfl : k = 1 := by omega
            go_wp2_with fail
            go_meet
            exact ⟨0, rfl, rfl, Lib.hid (PInv.up hP2.out (by simp; try omega)), hb2, hg2.out⟩
      have q0' : (kd == 0) = false := by simpa using k0
      by_cases k4 : kd = 4
      · subst k4
        obtain ⟨wo, rfl⟩ : ∃ wo : World, wo = wr := ⟨_, rfl⟩
        go_wp2_with fail
        clear d0 d1 d2 d3
        go_loopg [14] 10 (fun gh u wz => ∃ k : Nat, gh = 10 - k ∧ u = .int .i64 (k : Int) ∧ k ≤ 10 ∧ Hid (PInv W2.heap.size p xb (10 * (i : Int) + (k : Int)) go wz) ∧ Hid (Below W2.heap.size W2 wz) ∧ Hid (wz.heap[go]? = wA.heap[go]?))
        case atStart => exact ⟨0, rfl, rfl, Nat.zero_le _, Lib.hid (PInv.up hP0.out (by simp)), hbWA, Lib.hid rfl⟩
        case round =>
          obtain ⟨k, rfl, rfl, hk, hP2, hb2, hg2⟩ := hrel
          obtain ⟨m0, m1, m2, m3, m4⟩ := hcell.out wr hg2.out
          by_cases hkT : k < 10
          · obtain ⟨va, ra, la, lasta, hBa, hIa, hoka, hla, h0a, hlea, hNxa, hNra, hvga, hrga⟩ := hP2.out
            have qk : decide ((k : Int) < 10) = true := by simp; omega
            have hgoa : go < wr.heap.size := m4
            have hsza : W2.heap.size ≤ wr.heap.size := hb2.out.size
            obtain ⟨A, hA⟩ : ∃ A, ansA (addS (la.length == 32) xk xn xs) lasta = A := ⟨_, rfl⟩
            obtain ⟨B, hB⟩ : ∃ B, ansB (addS (la.length == 32) xk xn xs) = B := ⟨_, rfl⟩
            obtain ⟨C, hC⟩ : ∃ C, ansC (addS (la.length == 32) xk xn xs) = C := ⟨_, rfl⟩
            have hAns : ansE (addS (la.length == 32) xk xn xs) lasta = .returned (.tuple #[.int .i64 A, .int .i64 B, .int .i64 C]) := by unfold ansE; rw [hA, hB, hC]
            have cA := (add_own xk xn xs wr hBa.S hsza hla h0a (by omega)).mono (R' := fun e w' => e = .returned (.tuple #[.int .i64 A, .int .i64 B, .int .i64 C]) ∧ AddO W2.heap.size p wr.heap.size va la lasta xk xn xs e w' ∧ Only (OwnK p wr.heap.size va) wr w') (fun e w' h => ⟨h.1.ans.trans hAns, h.1, h.2⟩)
            have cR := Lib.hid (fun w5 (hO : Only (OwnK p wr.heap.size va) wr w5) => (radd_any (hBa.mid hO) hla h0a (by omega) xk xn xs (by omega)).mono (R' := fun e w' => e = .returned (.tuple #[.int .i64 A, .int .i64 B, .int .i64 C]) ∧ RAddIs w5 xb ra la lasta xk xn xs e w') (fun e w' h => ⟨h.ans.trans hAns, h⟩))
            have hgKa : ¬ OwnK p wr.heap.size va go := by
              rintro (e | e | e)
              · exact hgp e
              · exact hvga e
              · exact absurd hgoa (Nat.not_lt.2 e)
            have hstep := Lib.hid (fun w5 w6 e1 e2 (h5 : AddO W2.heap.size p wr.heap.size va la lasta xk xn xs e1 w5) (hO5 : Only (OwnK p wr.heap.size va) wr w5) (h6 : RAddIs w5 xb ra la lasta xk xn xs e2 w6) => (by
              have hO6 : Only (RefK xb ra) w5 w6 := by
                unfold RAddIs at h6
                split at h6
                · exact h6.2.2
                · obtain ⟨_, rv', _, h7, _⟩ := h6; exact h7
              exact ⟨PInv.add (B := 10 * (i : Int) + (k : Int)) hBa hIa hoka hla h0a hlea hNxa hNra hvga hrga hgoa (by omega) h5 hO5 h6, hb2.out.trans (two_below hBa (Nat.le_refl _) hNxa hNra hO5 hO6), (two_keep hBa hgp hgx hvga hrga hgoa hO5 hO6).trans hg2.out⟩ : PInv W2.heap.size p xb (10 * (i : Int) + (k : Int) + 1) go w6 ∧ Below W2.heap.size W2 w6 ∧ w6.heap[go]? = wA.heap[go]?))
            have qA : (A != A) = false := by simp
            have qB : (B != B) = false := by simp
            have qC : (C != C) = false := by simp
            have hcO := Lib.hid (fun w5 (hO : Only (OwnK p wr.heap.size va) wr w5) => hcell.out w5 ((hO.block go hgoa hgKa).trans hg2.out))
            replace cA := Lib.hid cA
            clear hBa hIa hoka hNra hA hB hC hAns hvga hrga hgKa hP2
            go_wp2_with (first
              | (go_at_call 11; (with_reducible refine cA.out.mono ?_); rintro e w5 ⟨rfl, hA5, hO5⟩; replace hA5 := Lib.hid hA5; obtain ⟨n0, n1, n2, n3, n4⟩ := hcO.out w5 hO5; have cR5 := Lib.hid (cR.out w5 hO5))
              | (go_at_call 12; (with_reducible refine cR5.out.mono ?_); rintro e w6 ⟨rfl, hR6⟩; have hst6 := Lib.hid (hstep.out w5 w6 _ _ hA5.out hO5 hR6); replace hR6 := Lib.hid hR6))
            go_roundg (10 - (k + 1))
            case measure => omega
            case rel => exact ⟨k + 1, rfl, by go_num, by omega, Lib.hid (PInv.up hst6.out.1 (by simp; omega)), Lib.hid hst6.out.2.1, Lib.hid hst6.out.2.2⟩
          · obtain rfl : k = 10 := by omega
            go_wp2_with fail
            go_meet
            exact ⟨0, rfl, rfl, Lib.hid (PInv.up hP2.out (by simp; try omega)), hb2, hg2.out⟩
      have q4 : (kd == 4) = false := by simpa using k4
      go_wp2_with fail
      go_meet
      exact ⟨0, rfl, rfl, Lib.hid (PInv.up hP0.out (by omega)), hbWA, rfl⟩
    case rest =>
      obtain ⟨E, rfl, rfl, hPc, hbc, hkg⟩ := hcut
      clear hP0 hBo hI hok hNr hle h0 hl hvg hrg hgK hbd d0 d1 d2 d3
      obtain ⟨vb, rb, lb, lastb, hBb, hIb, hokb, hlb, -, -, -, -, -, -⟩ := hPc.out
      obtain ⟨ra, rc, rfl⟩ := own_slice hBb.R.row
      have hbd : Below wc.heap.size wc wc.drew := bl_drew (Below.refl _ _)
      have hS := Lib.hid (fun X (hb : Below wc.heap.size wc X) => (⟨(hBb.below hb).R.blk.cell 0, (hLd.out X (bl_trans hbc.out hb)).1, (hLd.out X (bl_trans hbc.out hb)).2, (hBb.below hb).R.blk.lt, by have := (bl_trans hbc.out hb).size; omega, by have := (bl_trans hbc.out hb).size; omega⟩ : X.cell? ⟨xb, 0, none⟩ = some (.slice ra lb.length rc) ∧ (stLoad ⟨bw, 0, none⟩).run Tryz.prog X = .ok (.agg C1) X ∧ (stLoad ⟨bw + 1, 0, none⟩).run Tryz.prog X = .ok (.agg C2) X ∧ xb < X.heap.size ∧ bw < X.heap.size ∧ bw + 1 < X.heap.size))
      have sI := hS.out wc.drew hbd
      have hop := Lib.hid (fun X (hb : Below wc.heap.size wc X) => (hcell.out wc hkg).2.2.1)
      have cAll := Lib.hid (all_any ⟨vb, (hBb.below hbd).S⟩ (by omega))
      have cSame := Lib.hid (fun X v5 (hb : Below wc.heap.size wc X) (hk : BrkRow X v5 lb) => rsame_any hk (BrkRow.of (hBb.below hb).R.row) (by omega))
      have cHits := Lib.hid (fun X (hb : Below wc.heap.size wc X) => hits_any (W := X) ⟨vb, (hBb.below hb).S⟩ (by omega) (hsv.out X (bl_trans hbc.out hb)).1 (hsv.out X (bl_trans hbc.out hb)).2.1 (hsv.out X (bl_trans hbc.out hb)).2.2)
      have cRH := Lib.hid (fun X (hb : Below wc.heap.size wc X) => rhits_any (W := X) (hBb.below hb).R (by omega) hokb (hsv.out X (bl_trans hbc.out hb)).1 (hsv.out X (bl_trans hbc.out hb)).2.1)
      have cInts := Lib.hid (fun X v7 v8 (h7 : IntsRow X v7 (hitsS lb v1 v2)) (h8 : IntsRow X v8 (hitsS lb v1 v2)) => rints_any h7 h8 (by have := hitsS_len lb v1 v2; omega))
      rw [hC1.out, hC2.out] at cHits cRH
      have hcellc := hcell.out wc hkg
      have hgoc : go < wc.heap.size := hcellc.2.2.2.2
      have hnn := Lib.hid (fun X (hb : Below wc.heap.size wc X) => (⟨(hb.cell (p := ⟨go, 2, none⟩) hgoc).trans hcellc.2.2.1, Nat.lt_of_lt_of_le hgoc hb.size⟩ : X.cell? ⟨go, 2, none⟩ = some (.int .i64 xn) ∧ go < X.heap.size))
      have hEE : (E != E) = false := by simp
      have cGet := Lib.hid (fun X (hb : Below wc.heap.size wc X) => get_any (W := X) ⟨vb, (hBb.below hb).S⟩ (by omega) xn)
      have cAt := Lib.hid (fun X (hb : Below wc.heap.size wc X) => rat_any (W := X) (hBb.below hb).R (by omega) xn)
      have hend := Lib.hid (fun X (hb : Below wc.heap.size wc X) => (⟨(PInv.below hPc.out hb).to (by omega), bl_trans hbc.out hb⟩ : PInv W2.heap.size p xb (10 * (i : Int) + 10) bw X ∧ Below W2.heap.size W2 X))
      have hrow := Lib.hid (fun X (hb : Below wc.heap.size wc X) => BrkRow.of (hBb.below hb).R.row)
      replace hBb := Lib.hid hBb
      replace hIb := Lib.hid hIb
      replace hokb := Lib.hid hokb
      clear hcellc hop hkg hcell
      go_upto_region 28 with fail
      go_region_held3 (fun X => X.cell? ⟨xb, 0, none⟩ = some (.slice ra lb.length rc) ∧ (stLoad ⟨bw, 0, none⟩).run Tryz.prog X = .ok (.agg C1) X ∧ (stLoad ⟨bw + 1, 0, none⟩).run Tryz.prog X = .ok (.agg C2) X ∧ xb < X.heap.size ∧ bw < X.heap.size ∧ bw + 1 < X.heap.size) (first | with_reducible exact sI | with_reducible exact hI5 | with_reducible exact hI6 | with_reducible exact hI7 | with_reducible exact hI8 | with_reducible exact hI9) (first
        | (go_at_call 14; (with_reducible refine cAll.out.mono ?_); rintro e w5 ⟨va, rfl, ho5, hb5⟩; have k5 := BrkRow.of ho5; obtain ⟨a5, c5, rfl⟩ := own_slice ho5; have hb5' := bl_trans hbd hb5; have hI5 := hS.out w5 hb5'; have cS5 := Lib.hid (cSame.out w5 _ hb5' k5))
        | (go_at_call 13; (with_reducible refine cS5.out.mono ?_); rintro e w6 ⟨rfl, hb6⟩; have hb6' := bl_trans hb5' hb6; have hI6 := hS.out w6 hb6'; have cH6 := Lib.hid (cHits.out w6 hb6'))
        | (go_at_call 16; (with_reducible refine cH6.out.mono ?_); rintro e w7 ⟨v7, rfl, ho7, hb7⟩; have k7 := IntsRow.of ho7; obtain ⟨a7, c7, rfl⟩ := own_slice ho7; have hb7' := bl_trans hb6' hb7; have hI7 := hS.out w7 hb7'; have cR7 := Lib.hid (cRH.out w7 hb7'))
        | (go_at_call 17; (with_reducible refine cR7.out.mono ?_); rintro e w8 ⟨v8, rfl, ho8, hb8⟩; have k8 := IntsRow.of ho8; obtain ⟨a8, c8, rfl⟩ := own_slice ho8; have hb8' := bl_trans hb7' hb8; have hI8 := hS.out w8 hb8'; have cI8 := Lib.hid (cInts.out w8 _ _ (k7.below hb8) k8))
        | (go_at_call 15; (with_reducible refine cI8.out.mono ?_); rintro e w9 ⟨rfl, hb9⟩; have hb9' := bl_trans hb8' hb9; have hI9 := hS.out w9 hb9'))
      obtain ⟨g2, g3⟩ := hnn.out w9 hb9'
      have cG9 := cGet.out w9 hb9'
      replace hb9' := Lib.hid hb9'
      clear hI5 hI6 hI7 hI8 k5 k7 k8 cS5 cH6 cR7 cI8 ho5 ho7 ho8 hb5 hb6 hb7 hb8 hb9 hb5' hb6' hb7' hb8' cAll cSame cHits cRH cInts sI
      cases hk : lb.findIdx? (fun x => x.id == xn) with
      | none =>
        have eP : findP xn lb = -1 := by unfold findP; rw [hk]
        rw [getS_no hk] at cG9
        unfold noBrk at cG9
        rw [eP] at cAt
        replace cG9 := Lib.hid cG9
        clear hk eP
        go_upto_region 32 with (first
          | (go_at_call 18; (with_reducible refine cG9.out.mono ?_); rintro e w10 ⟨rfl, hb10⟩; have hb10' := bl_trans hb9'.out hb10; obtain ⟨m2, m3⟩ := hnn.out w10 hb10'; obtain ⟨m4, -, -, m5, -, -⟩ := hS.out w10 hb10')
          | (go_at_call 19; (with_reducible refine (cAt.out _ (bl_alloc hb10' _)).mono ?_); rintro e w11 ⟨rfl, rfl⟩))
        have hE1 := Lib.hid (hend.out _ (bl_drew (bl_alloc hb10' (.cells #[.int .i64 0, .int .i64 0, .int .i64 0, .string ⟨#[]⟩, .bool false] 60))))
        have hxz : xb < ((w10.alloc (.cells #[.int .i64 0, .int .i64 0, .int .i64 0, .string ⟨#[]⟩, .bool false] 60)).drew).heap.size := by show xb < (w10.alloc _).heap.size; simp; omega
        replace hxz := Lib.hid hxz
        go_region
        all_goals go_wp2_with fail
        all_goals go_roundg (l1 - (i + 1))
        all_goals first | omega | exact ⟨i + 1, rfl, by go_num, by omega, hxz.out, Lib.hid (PInv.up hE1.out.1 (by omega)), Lib.hid hE1.out.2⟩
      | some k =>
        obtain ⟨eP, hkl⟩ := findP_at hk
        obtain ⟨hkl, e2⟩ := getS_at hk
        rw [e2] at cG9
        rw [eP] at cAt
        obtain ⟨x, hx⟩ : ∃ x, lb[k] = x := ⟨_, rfl⟩
        rw [hx] at cG9
        unfold Stp.brk at cG9
        have hrx := Lib.hid (fun X hb => by
          obtain ⟨a', c', e3, h3⟩ := hrow.out X hb
          obtain ⟨gx, e4, h4, h5⟩ := h3 k hkl
          rw [hx] at h5
          obtain ⟨rfl, _⟩ : ra = a' ∧ rc = c' := by simpa using e3
          exact (⟨gx, e4, h4, h5 0 _ rfl, h5 1 _ rfl, h5 2 _ rfl, h5 3 _ rfl, h5 4 _ rfl⟩ : ∃ gx, ra = some ⟨gx, 0, none⟩ ∧ gx < X.heap.size ∧ X.cell? ⟨gx, k * 5 + 0, none⟩ = some (.int .i64 x.id) ∧ X.cell? ⟨gx, k * 5 + 1, none⟩ = some (.int .i64 x.kind) ∧ X.cell? ⟨gx, k * 5 + 2, none⟩ = some (.int .i64 x.n) ∧ X.cell? ⟨gx, k * 5 + 3, none⟩ = some (strV x.cond) ∧ X.cell? ⟨gx, k * 5 + 4, none⟩ = some (.bool x.off)))
        have z0 : (0 : Int) ≤ (k : Int) := by omega
        have z1 : (k : Int) < (lb.length : Int) := by omega
        replace cG9 := Lib.hid cG9
        replace hx := Lib.hid hx
        clear hk eP e2
        go_upto_region 32 with (first
          | (go_at_call 18; (with_reducible refine cG9.out.mono ?_); rintro e w10 ⟨rfl, hb10⟩; have hb10' := bl_trans hb9'.out hb10; obtain ⟨m2, m3⟩ := hnn.out w10 hb10'; obtain ⟨m4, -, -, m5, -, -⟩ := hS.out w10 hb10'; obtain ⟨gx, rfl, m6, p0, p1, p2, p3, p4⟩ := hrx.out w10 hb10'; rw [Nat.add_zero] at p0)
          | (go_at_call 19; (with_reducible refine (cAt.out _ (bl_alloc hb10' _)).mono ?_); rintro e w11 ⟨rfl, rfl⟩))
        have hE1 := Lib.hid (hend.out _ (bl_drew (bl_alloc hb10' (.cells #[.int .i64 x.id, .int .i64 x.kind, .int .i64 x.n, strV x.cond, .bool x.off] 60))))
        have hxz : xb < ((w10.alloc (.cells #[.int .i64 x.id, .int .i64 x.kind, .int .i64 x.n, strV x.cond, .bool x.off] 60)).drew).heap.size := by show xb < (w10.alloc _).heap.size; simp; omega
        replace hxz := Lib.hid hxz
        go_region
        all_goals go_wp2_with fail
        all_goals go_roundg (l1 - (i + 1))
        all_goals first | omega | exact ⟨i + 1, rfl, by go_num, by omega, hxz.out, Lib.hid (PInv.up hE1.out.1 (by omega)), Lib.hid hE1.out.2⟩
end Go.Proofs.YtcjcflmnghhbaaaGreat
