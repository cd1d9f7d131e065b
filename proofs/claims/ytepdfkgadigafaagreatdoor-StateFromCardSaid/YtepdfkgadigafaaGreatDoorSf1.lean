/-
  StateFrom, of chapter 20: the walk.
  Conditions: as each theorem states them.
-/
import Derived.Test.YtepdfkgadigafaaGreatDoorSf0
import Derived.Deep.LoopGhost
namespace Go.Proofs.YtepdfkgadigafaaGreatDoor
open Go.RowKit Go.Sort
set_option linter.unusedVariables false
set_option linter.unusedSimpArgs false
attribute [local go_sem ↓] load_st store_st
/-- Fields, with the row's own memory told -/
theorem fields_own {w : World} {s : StC} {V : StV} {lo hi_ : Nat} (hs : SIn lo hi_ s V w) (hp : Pow w) (h : LookV V) :
    Calls Tryz.prog 11 #[.agg s.cells.toArray] w fun e w' => ∃ g c, e = .returned (.slice (some ⟨g, 0, none⟩) 10 c) ∧ OutAt (fun b => w.heap.size ≤ b) true w' (some ⟨g, 0, none⟩) (FM.fieldsS V) ∧ Below w.heap.size w w' := by
  refine (fields_any w s V hs hp h.sc h.w64 h.fit).mono ?_
  rintro e w' ⟨a, c, rfl, h1, h2⟩
  obtain ⟨g, rfl, _⟩ := h1 (show 0 < 10 by omega)
  exact ⟨g, c, rfl, h1, h2⟩
set_option maxHeartbeats 8000000 in
set_option maxRecDepth 100000 in
theorem stateFrom_main (w : World) (s s' : StC) (V V' : StV) {lo hi_ lo' hi' : Nat} (h : SIn lo hi_ s V w) (h' : SIn lo' hi' s' V' w) (hp : Pow w) (hE : ErrAt w) (hk : ScOk V.sc) (hk' : ScOk V'.sc)
    (hfn : ∀ x ∈ V.files, x.1.length ≤ 140737488351232) (hfn' : ∀ x ∈ V'.files, x.1.length ≤ 140737488351232) (hl : LookV V) (hl' : LookV V')
    (la : Option Addr) (lc : Nat) (l : List (List UInt8)) (hT : TxAt (fun _ => True) false w la l) (hl20 : l.length ≤ 20) (hl300 : ∀ i (h : i < l.length), l[i].length ≤ 300) (at_ : Nat) (hat : at_ ≤ 255) :
    Calls Tryz.prog 6 #[.slice la l.length lc, .agg s.cells.toArray, .agg s'.cells.toArray, .int .u8 (at_ : Int)] w fun e w' => e = .returned (.bool true) ∧ Below w.heap.size w w' := by
  obtain ⟨xs, hxs⟩ : ∃ xs, FM.fieldsS V = xs := ⟨_, rfl⟩
  obtain ⟨ys, hys⟩ : ∃ ys, FM.fieldsS V' = ys := ⟨_, rfl⟩
  have hx10 : xs.length = 10 := by rw [← hxs]; rfl
  have hy10 : ys.length = 10 := by rw [← hys]; rfl
  have lx := hl.len
  have ly := hl'.len
  have g1 := fun X (hX : Below w.heap.size w X) => great_sin (h.below hX) hk hfn
  have g2 := fun X (hX : Below w.heap.size w X) => great_sin (h'.below hX) hk' hfn'
  rw [hl.gr] at g1
  rw [hl'.gr] at g2
  have hF1 := fun X (hX : Below w.heap.size w X) => fields_own (h.below hX) (hp.below hX) hl
  have hF2 := fun X (hX : Below w.heap.size w X) => fields_own (h'.below hX) (hp.below hX) hl'
  rw [hxs] at lx
  rw [hys] at ly
  simp only [hxs] at hF1
  simp only [hys] at hF2
  have hR := fun X (hX : Below w.heap.size w X) (a : Option Addr) (c : Nat) (q : List (List UInt8)) (q1 : q.length ≤ 1000000) (q2 : ∀ z ∈ q, z.length ≤ 20000) (c1 : TxAt (fun _ => True) false X a q) => from_any a c q X (hp.below hX) (hE.below hX) q1 q2 c1
  have hFU := fun X (hX : Below w.heap.size w X) (U : StV) (q : StC) (l1 l2 : Nat) (c1 : SIn l1 l2 q U X) (k1 : FM.ScI U.sc) (k2 : ∀ x ∈ U.waits, FM.I64 x.1) (k3 : FitV U) => fields_any X q U c1 (hp.below hX) k1 k2 k3
  have hZZ := fun X (q : StC) (l1 l2 : Nat) (c1 : SIn l1 l2 q zeroV X) => same_dec X q zeroC zeroV zeroV c1 (zero_sin 0 X.heap.size X (Nat.le_refl _)) (by simp [zeroV]) (by simp [zeroV]) (by simp [zeroV]) (by simp [zeroV]) (by simp [zeroV]) (by simp [zeroV]) (by simp [zeroV]) (by simp [zeroV])
  rw [decide_eq_true rfl] at hZZ
  have haw := fun X => awake20 X
  obtain ⟨W1, hW1⟩ : ∃ W1, (w.alloc (.cells s.cells.toArray 34)).alloc (.cells s'.cells.toArray 34) = W1 := ⟨_, rfl⟩
  have bA : Blk W1 w.heap.size 34 s.cells := by rw [← hW1]; exact (Blk.new w _ _).alloc _
  have bB : Blk W1 (w.heap.size + 1) 34 s'.cells := by rw [← hW1]; simpa using Blk.new (w.alloc (.cells s.cells.toArray 34)) 34 s'.cells
  have hbW : Below w.heap.size w W1 := by rw [← hW1]; exact bl_alloc (bl_alloc (Below.refl _ _) _) _
  have hst := fun X (hX : Below W1.heap.size W1 X) => (⟨stLoad_is s (bA.below hX), stLoad_is s' (bB.below hX)⟩ : (stLoad ⟨w.heap.size, 0, none⟩).run Tryz.prog X = .ok (.agg s.cells.toArray) X ∧ (stLoad ⟨w.heap.size + 1, 0, none⟩).run Tryz.prog X = .ok (.agg s'.cells.toArray) X)
  obtain ⟨C, hC⟩ : ∃ C, s.cells = C := ⟨_, rfl⟩
  obtain ⟨C', hC'⟩ : ∃ C, s'.cells = C := ⟨_, rfl⟩
  rw [hC] at g1 hF1 hst hW1 ⊢
  rw [hC'] at g2 hF2 hst hW1 ⊢
  have hT' := fun X (hX : Below w.heap.size w X) => hT.below hX
  clear h h' hp hE hk hk' hfn hfn' hl hl' hC hC' bA bB hxs hys hT
  replace g1 := Lib.hid g1
  replace g2 := Lib.hid g2
  replace hF1 := Lib.hid hF1
  replace hF2 := Lib.hid hF2
  replace hR := Lib.hid hR
  replace hFU := Lib.hid hFU
  replace hZZ := Lib.hid hZZ
  replace hst := Lib.hid hst
  replace haw := Lib.hid haw
  replace hW1 := Lib.hid hW1
  replace hbW := Lib.hid hbW
  replace hT' := Lib.hid hT'
  replace hl300 := Lib.hid hl300
  replace hx10 := Lib.hid hx10
  replace hy10 := Lib.hid hy10
  replace lx := Lib.hid lx
  replace ly := Lib.hid ly
  have q0 : decide ((20 : Int) < (l.length : Int)) = false := by rw [decide_eq_false_iff_not]; omega
  go_enter Tryz.func6, Tryz.ntmps6
  go_upto_region 1 with fail
  rw [hW1.out]
  clear hW1
  have hb := Below.refl W1.heap.size W1
  obtain ⟨L1, L2⟩ := hst.out _ hb
  go_upto_region 3 with (go_at_call 7; first
    | ((with_reducible refine (g1.out _ (bl_trans hbW.out hb)).mono ?_); rintro e X1 ⟨rfl, hy⟩; replace hb := bl_trans hb hy; clear hy; obtain ⟨L1, L2⟩ := hst.out _ hb)
    | ((with_reducible refine (g2.out _ (bl_trans hbW.out hb)).mono ?_); rintro e X1 ⟨rfl, hy⟩; replace hb := bl_trans hb hy; clear hy; obtain ⟨L1, L2⟩ := hst.out _ hb))
  clear L1 L2 g1 g2 q0
  rename World => X2
  go_wp2_with fail
  go_loopg [9] l.length (fun gh v wr => ∃ k : Nat, gh = l.length - k ∧ v = .int .i64 (k : Int) ∧ k ≤ l.length ∧ wr = X2)
  case atStart => exact ⟨0, rfl, rfl, Nat.zero_le _, rfl⟩
  case round =>
    obtain ⟨k, rfl, rfl, hk, rfl⟩ := hrel
    by_cases hlt : k < l.length
    · obtain ⟨b, o, rfl, _, hbl, hrow⟩ := hT'.out _ (bl_trans hbW.out hb) (by omega)
      obtain ⟨ca, cc, hc, _⟩ := hrow k hlt
      have h3 := hl300.out k hlt
      have q1 : decide ((k : Int) < (l.length : Int)) = true := by rw [decide_eq_true_eq]; omega
      have q2 : (k : Int) < (l.length : Int) := by omega
      have q3 : decide ((300 : Int) < (l[k].length : Int)) = false := by rw [decide_eq_false_iff_not]; omega
      generalize l[k].length = n at *
      replace hrow := Lib.hid hrow
      go_wp2_with fail
      go_roundg (l.length - (k + 1))
      case measure => omega
      case rel => exact ⟨k + 1, rfl, by go_num, by omega, rfl⟩
    · go_upto_region 8 with fail
      clear hlt hk
      have hbd : Below wr.heap.size wr wr.drew := bl_drew (Below.refl _ _)
      replace hb := bl_trans hb hbd
      clear hbd
      have hC0 := hst.out _ hb
      refine region_till (fun X => (stLoad ⟨w.heap.size, 0, none⟩).run Tryz.prog X = .ok (.agg C.toArray) X ∧ (stLoad ⟨w.heap.size + 1, 0, none⟩).run Tryz.prog X = .ok (.agg C'.toArray) X) 5 (by kernel_rfl) ?_
      obtain ⟨X4, hX4⟩ : ∃ x, wr.drew = x := ⟨_, rfl⟩
      rw [hX4] at hb hC0 ⊢
      clear hX4
      have hs4 : w.heap.size ≤ X4.heap.size := (bl_trans hbW.out hb).size
      have hb4 := hb
      refine wpAnyT_take (i := 0) (v := (.agg C.toArray)) (some 42) rfl (by kernel_rfl) (by kernel_rfl) (by kernel_rfl) (by kernel_rfl) (fun _ _ _ h => absurd h np_panic) [5] (by kernel_rfl) (by kernel_rfl) (by kernel_rfl) (Or.inl ⟨by rfl, ?_⟩) hC0 ?_
      · intro X hX
        (obtain ⟨x0, x1⟩ := hX; go_simp)
      simp only [Act.put, List.setIfInBounds_toArray, List.set_cons_zero, List.set_cons_succ]
      refine wpAnyT_take (i := 2) (v := (.agg C'.toArray)) (some 44) rfl (by kernel_rfl) (by kernel_rfl) (by kernel_rfl) (by kernel_rfl) (fun _ _ _ h => absurd h np_panic) [5] (by kernel_rfl) (by kernel_rfl) (by kernel_rfl) (Or.inl ⟨by rfl, ?_⟩) hC0 ?_
      · intro X hX
        (obtain ⟨x0, x1⟩ := hX; go_simp)
      simp only [Act.put, List.setIfInBounds_toArray, List.set_cons_zero, List.set_cons_succ]
      refine wpAnyT_ready (rs := [1]) (by kernel_rfl) (by simp) ?_
      refine AllT.cons rfl (fun K hK => ?_) AllT.nil
      go_simp
      (go_at_call 11; (with_reducible refine (hF1.out _ (bl_trans hbW.out hb)).mono ?_); rintro e X6 ⟨gx, xc, rfl, hf6, hy⟩)
      replace hb := bl_trans hb hy
      have hs46 := hy.size
      clear hy
      have hC6 := hst.out _ hb
      try simp only [go_sem]
      refine hK.out _ _ (fun _ => hC6) ?_
      clear hK K
      try simp only [Act.put, List.setIfInBounds_toArray, List.set_cons_zero, List.set_cons_succ]
      refine wpAnyT_ready (rs := [3]) (by kernel_rfl) (by simp) ?_
      refine AllT.cons rfl (fun K hK => ?_) AllT.nil
      go_simp
      (go_at_call 11; (with_reducible refine (hF2.out _ (bl_trans hbW.out hb)).mono ?_); rintro e X7 ⟨gy, yc, rfl, hf7, hy⟩)
      have hg67 := hy.size
      replace hb := bl_trans hb hy
      have hf67 := hf6.below hy
      clear hy
      have hC7 := hst.out _ hb
      try simp only [go_sem]
      refine hK.out _ _ (fun _ => hC7) ?_
      clear hK K
      try simp only [Act.put, List.setIfInBounds_toArray, List.set_cons_zero, List.set_cons_succ]
      refine wpAnyT_ready (rs := [4]) (by kernel_rfl) (by simp) ?_
      refine AllT.cons rfl (fun K hK => ?_) AllT.nil
      go_simp
      refine hK.out _ _ (fun _ => hC7) ?_
      clear hK K
      try simp only [Act.put, List.setIfInBounds_toArray, List.set_cons_zero, List.set_cons_succ]
      refine wpAnyT_ready (rs := [5]) (by kernel_rfl) (by simp) ?_
      refine AllT.cons rfl (fun K hK => ?_) AllT.nil
      go_simp
      refine hK.out _ _ (fun h => nomatch (Eq.trans (by kernel_rfl : true = _) h : true = false)) ?_
      clear hK K
      refine wpAnyT_done (by kernel_rfl) ⟨rfl, ?_⟩ _
      clear hC0 hC6 hC7 hst
      obtain ⟨kk, hkk⟩ : ∃ kk : Nat, kk = at_ % 10 := ⟨_, rfl⟩
      have hk10 : kk < 10 := by omega
      have hkI : (at_ : Int) % 10 = (kk : Int) := by omega
      have hat2 : (at_ : Int) ≤ 255 := by omega
      obtain ⟨_, ey, _, hgyl, _, hcy⟩ := hf7 (by rw [hy10.out]; omega)
      injection ey with ey
      injection ey with ey _ _
      subst ey
      obtain ⟨ya, yac, hcyk, hyk1, hyk2, hyk3⟩ := hcy kk (by rw [hy10.out]; omega)
      obtain ⟨_, ex, hgx, hgxl, hfx, hcx⟩ := hf67 (by rw [hx10.out]; omega)
      injection ex with ex
      injection ex with ex _ _
      subst ex
      have hcp := Lib.hid (rcopy_any ya yac (ys[kk]'(by rw [hy10.out]; omega)) X7 (by have := ly.out kk (by rw [hy10.out]; omega); omega) hyk3.any)
      have q1 : (kk : Int) < 10 := by omega
      have q2 : kk < 10 := hk10
      replace hkk := Lib.hid hkk
      go_upto_region 13 with (go_at_call 19; (with_reducible refine hcp.out.mono ?_); rintro e X8 ⟨v, rfl, ho, hy⟩; obtain ⟨va, vc, rfl, hv1, hv2, hv3⟩ := ByAt.of_owns ho rfl; have hfx8 := (hy.frozen (p := ⟨gx, kk, none⟩) hgxl).trans (hfx kk (by rw [hx10.out]; omega)); have hlx8 := Nat.lt_of_lt_of_le hgxl hy.size; have hcx8 : ∃ u, X8.cell? ⟨gx, kk, none⟩ = some u := (by obtain ⟨xa', xc', e9, _⟩ := hcx kk (by rw [hx10.out]; omega); exact ⟨_, (hy.cell (p := ⟨gx, kk, none⟩) hgxl).trans e9⟩); obtain ⟨u8, hcx8⟩ := hcx8; clear ho)
      have hs47 : X4.heap.size ≤ X7.heap.size := by have := hg67; have := hs46; omega
      have hput := hf67.put hy (i := kk) (by rw [hx10.out]; omega) (a := va) (c := vc) (x := ys[kk]'(by rw [hy10.out]; omega)) hv1 hv2 (hv3.mono (fun b hb' => ⟨Nat.le_trans hs47 hb', by omega⟩))
      have hbX : Below w.heap.size w (X8.setCell ⟨gx, kk, none⟩ (.slice va (ys[kk]'(by rw [hy10.out]; omega)).length vc)) := bl_setCell (bl_trans (bl_trans hbW.out hb) hy) (Nat.le_trans hs4 hgx) _
      have hzl : (xs.set kk (ys[kk]'(by rw [hy10.out]; omega))).length = 10 := by rw [List.length_set]; exact hx10.out
      have hzs : ∀ z ∈ xs.set kk (ys[kk]'(by rw [hy10.out]; omega)), z.length ≤ 20000 := fun z hz => by
        rcases List.mem_or_eq_of_mem_set hz with h1 | h1
        · obtain ⟨j, hj, rfl⟩ := List.mem_iff_getElem.1 h1
          have := lx.out j hj
          omega
        · rw [h1]
          have := ly.out kk (by rw [hy10.out]; omega)
          omega
      generalize xs.set kk (ys[kk]'(by rw [hy10.out]; omega)) = zs at *
      generalize X8.setCell ⟨gx, kk, none⟩ (.slice va (ys[kk]'(by rw [hy10.out]; omega)).length vc) = X9 at *
      have hput' := Lib.hid hput.tx.any
      replace hbX := Lib.hid hbX
      replace hzs := Lib.hid hzs
      replace hzl := Lib.hid hzl
      clear hput hv1 hv2 hv3 hfx8 hlx8 hcx8 hcp hy hf67 hf6 hf7 hb hb4 hs4 hs46 hs47 hg67
      clear hkI hat2 hgyl hcy hcyk hyk1 hyk2 hyk3 hgx hgxl hfx hcx q1 q2
      obtain ⟨M, hM⟩ : ∃ x, X9.alloc (.cells #[.slice la l.length lc, .slice (some ⟨gx, 0, none⟩) 10 xc] 40) = x := ⟨_, rfl⟩
      have hbM : Below X9.heap.size X9 M := by rw [← hM]; exact bl_alloc (Below.refl _ _) _
      have hBM : Blk M X9.heap.size 40 [.slice la l.length lc, .slice (some ⟨gx, 0, none⟩) 10 xc] := by rw [← hM]; exact Blk.new X9 _ _
      have hTl := Lib.hid (hT'.out M (bl_trans hbX.out hbM))
      have hTz := Lib.hid (hput'.out.below hbM)
      have hbwM := Lib.hid (bl_trans hbX.out hbM)
      replace hBM := Lib.hid hBM
      obtain ⟨mb, hmb⟩ : ∃ mb, X9.heap.size = mb := ⟨_, rfl⟩
      go_upto_region 14 with fail

      rw [hmb] at hBM
      clear hM hbM
      replace hmb := Lib.hid hmb
      go_wp2_with fail
      go_loopg [14] 2 (fun gh v wr => ∃ i : Nat, gh = 2 - i ∧ v = .int .i64 (i : Int) ∧ i ≤ 2 ∧ Hid (Below M.heap.size M wr))
      case atStart => exact ⟨0, rfl, rfl, Nat.zero_le _, Lib.hid (Below.refl _ _)⟩
      case round =>
        obtain ⟨i, rfl, rfl, hi, hbr⟩ := hrel
        by_cases hlt : i < 2
        · obtain ⟨q, qa, qc, hcell, hTq, hq1, hq2⟩ : ∃ (q : List (List UInt8)) (qa : Option Addr) (qc : Nat), [Value.slice la l.length lc, .slice (some ⟨gx, 0, none⟩) 10 xc][i]? = some (.slice qa q.length qc) ∧ TxAt (fun _ => True) false M qa q ∧ q.length ≤ 1000000 ∧ ∀ z ∈ q, z.length ≤ 20000 := by
            rcases (by omega : i = 0 ∨ i = 1) with rfl | rfl
            · exact ⟨l, la, lc, rfl, hTl.out, by omega, fun z hz => by obtain ⟨j, hj, rfl⟩ := List.mem_iff_getElem.1 hz; have := hl300.out j hj; omega⟩
            · exact ⟨zs, some ⟨gx, 0, none⟩, xc, by rw [hzl.out]; rfl, hTz.out, by rw [hzl.out]; omega, hzs.out⟩
          have hBr := hBM.out.below hbr.out
          have hmc : wr.cell? ⟨mb, i, none⟩ = some (.slice qa q.length qc) := (hBr.cell i).trans hcell
          have hml := hBr.lt
          have hfr := hR.out wr (bl_trans hbwM.out hbr.out) qa qc q hq1 hq2 (hTq.below hbr.out)
          have q0 : decide ((i : Int) < 2) = true := by rw [decide_eq_true_eq]; omega
          have q1 : (i : Int) < 2 := by omega
          cases hr : FM.fromS q with
          | none =>
            rw [hr] at hfr
            unfold FromIs at hfr
            simp only [Option.isSome_none, Option.getD_none] at hfr
            replace hfr := Lib.hid hfr
            go_upto_region 18 with (go_at_call 13; (with_reducible refine hfr.out.mono ?_); rintro e Y0 ⟨s1, rfl, hs1, hy⟩; obtain ⟨Z1, S1, hZ1, hbZ1⟩ := st_new9 Y0 s1; have hbr2 := Lib.hid (bl_trans hbr.out (bl_trans hy hbZ1)); have hsi := Lib.hid (hs1.below hbZ1); obtain ⟨D1, hD1⟩ : ∃ D, s1.cells.toArray = D := ⟨_, rfl⟩; rw [hD1] at S1 ⊢; clear hs1 hy hbZ1; replace hZ1 := Lib.hid hZ1; replace hD1 := Lib.hid hD1)
            have hLL := Lib.hid (fun X (hX : Below Z1.heap.size Z1 X) => (⟨by rw [← hD1.out]; exact stLoad_is s1 (hZ1.out.below hX), ((hBM.out.below (bl_trans hbr2.out hX)).cell i).trans hcell⟩ : (stLoad ⟨Y0.heap.size, 0, none⟩).run Tryz.prog X = .ok (.agg D1) X ∧ X.cell? ⟨mb, i, none⟩ = some (.slice qa q.length qc)))
            have hd := bl_drew (Below.refl Z1.heap.size Z1)
            have hC0 := hLL.out _ hd
            clear S1 hmc
            refine region_till (fun X => (stLoad ⟨Y0.heap.size, 0, none⟩).run Tryz.prog X = .ok (.agg D1) X ∧ X.cell? ⟨mb, i, none⟩ = some (.slice qa q.length qc)) 20 (by kernel_rfl) ?_
            obtain ⟨Z2, hZ2⟩ : ∃ x, Z1.drew = x := ⟨_, rfl⟩
            rw [hZ2] at hd hC0 ⊢
            clear hZ2
            refine wpAnyT_take (i := 0) (v := (.bool false)) (some 86) rfl (by kernel_rfl) (by kernel_rfl) (by kernel_rfl) (by kernel_rfl) (fun _ _ _ h => absurd h np_panic) [20, 11, 10, 1] (by kernel_rfl) (by kernel_rfl) (by kernel_rfl) (Or.inl ⟨by rfl, ?_⟩) hC0 ?_
            · intro X hX
              (obtain ⟨x0, x1⟩ := hX; go_simp)
            simp only [Act.put, List.setIfInBounds_toArray, List.set_cons_zero, List.set_cons_succ]
            refine wpAnyT_take (i := 1) (v := (.bool false)) (some 87) rfl (by kernel_rfl) (by kernel_rfl) (by kernel_rfl) (by kernel_rfl) (fun _ _ _ h => absurd h np_panic) [20, 11, 10] (by kernel_rfl) (by kernel_rfl) (by kernel_rfl) (Or.inl ⟨by rfl, ?_⟩) hC0 ?_
            · intro X hX
              (obtain ⟨x0, x1⟩ := hX; go_simp)
            simp only [Act.put, List.setIfInBounds_toArray, List.set_cons_zero, List.set_cons_succ]
            refine wpAnyT_take (i := 2) (v := undef) (some 88) rfl (by kernel_rfl) (by kernel_rfl) (by kernel_rfl) (by kernel_rfl) (fun _ _ _ h => absurd h np_panic) [20, 11, 10, 9, 8, 3] (by kernel_rfl) (by kernel_rfl) (by kernel_rfl) (Or.inr ⟨by rfl, rfl⟩) hC0 ?_
            simp only [Act.put, List.setIfInBounds_toArray, List.set_cons_zero, List.set_cons_succ]
            refine wpAnyT_take (i := 3) (v := undef) (some 89) rfl (by kernel_rfl) (by kernel_rfl) (by kernel_rfl) (by kernel_rfl) (fun _ _ _ h => absurd h np_panic) [20, 11, 10, 9, 8] (by kernel_rfl) (by kernel_rfl) (by kernel_rfl) (Or.inr ⟨by rfl, rfl⟩) hC0 ?_
            simp only [Act.put, List.setIfInBounds_toArray, List.set_cons_zero, List.set_cons_succ]
            refine wpAnyT_take (i := 4) (v := undef) (some 90) rfl (by kernel_rfl) (by kernel_rfl) (by kernel_rfl) (by kernel_rfl) (fun _ _ _ h => absurd h np_panic) [20, 11, 10, 9, 8, 7, 6] (by kernel_rfl) (by kernel_rfl) (by kernel_rfl) (Or.inr ⟨by rfl, rfl⟩) hC0 ?_
            simp only [Act.put, List.setIfInBounds_toArray, List.set_cons_zero, List.set_cons_succ]
            refine wpAnyT_take (i := 5) (v := undef) (some 91) rfl (by kernel_rfl) (by kernel_rfl) (by kernel_rfl) (by kernel_rfl) (fun _ _ _ h => absurd h np_panic) [20, 11, 10, 9, 8, 7, 6] (by kernel_rfl) (by kernel_rfl) (by kernel_rfl) (Or.inr ⟨by rfl, rfl⟩) hC0 ?_
            simp only [Act.put, List.setIfInBounds_toArray, List.set_cons_zero, List.set_cons_succ]
            refine wpAnyT_take (i := 6) (v := undef) (some 92) rfl (by kernel_rfl) (by kernel_rfl) (by kernel_rfl) (by kernel_rfl) (fun _ _ _ h => absurd h np_panic) [20, 11, 10, 9, 8, 7] (by kernel_rfl) (by kernel_rfl) (by kernel_rfl) (Or.inr ⟨by rfl, rfl⟩) hC0 ?_
            simp only [Act.put, List.setIfInBounds_toArray, List.set_cons_zero, List.set_cons_succ]
            refine wpAnyT_take (i := 7) (v := undef) (some 93) rfl (by kernel_rfl) (by kernel_rfl) (by kernel_rfl) (by kernel_rfl) (fun _ _ _ h => absurd h np_panic) [20, 11, 10, 9, 8] (by kernel_rfl) (by kernel_rfl) (by kernel_rfl) (Or.inr ⟨by rfl, rfl⟩) hC0 ?_
            simp only [Act.put, List.setIfInBounds_toArray, List.set_cons_zero, List.set_cons_succ]
            refine wpAnyT_take (i := 8) (v := undef) (some 94) rfl (by kernel_rfl) (by kernel_rfl) (by kernel_rfl) (by kernel_rfl) (fun _ _ _ h => absurd h np_panic) [20, 11, 10, 9] (by kernel_rfl) (by kernel_rfl) (by kernel_rfl) (Or.inr ⟨by rfl, rfl⟩) hC0 ?_
            simp only [Act.put, List.setIfInBounds_toArray, List.set_cons_zero, List.set_cons_succ]
            refine wpAnyT_take (i := 9) (v := undef) (some 95) rfl (by kernel_rfl) (by kernel_rfl) (by kernel_rfl) (by kernel_rfl) (fun _ _ _ h => absurd h np_panic) [20, 11, 10] (by kernel_rfl) (by kernel_rfl) (by kernel_rfl) (Or.inr ⟨by rfl, rfl⟩) hC0 ?_
            simp only [Act.put, List.setIfInBounds_toArray, List.set_cons_zero, List.set_cons_succ]
            try simp only [Act.put, List.setIfInBounds_toArray, List.set_cons_zero, List.set_cons_succ]
            refine wpAnyT_ready (rs := [10]) (by kernel_rfl) (by simp) ?_
            refine AllT.cons rfl (fun K hK => ?_) AllT.nil
            go_simp
            refine hK.out _ _ (fun _ => hC0) ?_
            clear hK K
            try simp only [Act.put, List.setIfInBounds_toArray, List.set_cons_zero, List.set_cons_succ]
            refine wpAnyT_ready (rs := [11]) (by kernel_rfl) (by simp) ?_
            refine AllT.cons rfl (fun K hK => ?_) AllT.nil
            go_simp
            refine hK.out _ _ (fun _ => hC0) ?_
            clear hK K
            try simp only [Act.put, List.setIfInBounds_toArray, List.set_cons_zero, List.set_cons_succ]
            refine wpAnyT_ready (rs := [12]) (by kernel_rfl) (by simp) ?_
            refine AllT.cons rfl (fun K hK => ?_) AllT.nil
            go_simp
            refine hK.out _ _ (fun _ => hC0) ?_
            clear hK K
            try simp only [Act.put, List.setIfInBounds_toArray, List.set_cons_zero, List.set_cons_succ]
            refine wpAnyT_ready (rs := [13]) (by kernel_rfl) (by simp) ?_
            refine AllT.cons rfl (fun K hK => ?_) AllT.nil
            go_simp
            refine hK.out _ _ (fun _ => hC0) ?_
            clear hK K
            try simp only [Act.put, List.setIfInBounds_toArray, List.set_cons_zero, List.set_cons_succ]
            refine wpAnyT_ready (rs := [14]) (by kernel_rfl) (by simp) ?_
            refine AllT.cons rfl (fun K hK => ?_) AllT.nil
            go_simp
            refine hK.out _ _ (fun _ => hC0) ?_
            clear hK K
            try simp only [Act.put, List.setIfInBounds_toArray, List.set_cons_zero, List.set_cons_succ]
            refine wpAnyT_take (i := 15) (v := (.agg D1)) (some 101) rfl (by kernel_rfl) (by kernel_rfl) (by kernel_rfl) (by kernel_rfl) (fun _ _ _ h => absurd h np_panic) [20, 19, 18, 17] (by kernel_rfl) (by kernel_rfl) (by kernel_rfl) (Or.inl ⟨by rfl, ?_⟩) hC0 ?_
            · intro X hX
              (obtain ⟨x0, x1⟩ := hX; go_simp)
            simp only [Act.put, List.setIfInBounds_toArray, List.set_cons_zero, List.set_cons_succ]
            refine wpAnyT_take (i := 16) (v := (.agg zeroC.cells.toArray)) (some 102) rfl (by kernel_rfl) (by kernel_rfl) (by kernel_rfl) (by kernel_rfl) (fun _ _ _ h => absurd h np_panic) [20, 19, 18, 17] (by kernel_rfl) (by kernel_rfl) (by kernel_rfl) (Or.inl ⟨by rfl, ?_⟩) hC0 ?_
            · intro X hX
              (obtain ⟨x0, x1⟩ := hX; go_simp; rfl)
            simp only [Act.put, List.setIfInBounds_toArray, List.set_cons_zero, List.set_cons_succ]
            have hzz := hZZ.out Z2 s1 _ _ (hsi.out.below hd)
            rw [hD1.out] at hzz
            replace hzz := Lib.hid hzz
            try simp only [Act.put, List.setIfInBounds_toArray, List.set_cons_zero, List.set_cons_succ]
            refine wpAnyT_ready (rs := [17]) (by kernel_rfl) (by simp) ?_
            refine AllT.cons rfl (fun K hK => ?_) AllT.nil
            go_simp
            (go_at_call 14; (with_reducible refine (hzz.out).mono ?_); rintro e Z3 ⟨rfl, hy⟩)
            replace hd := bl_trans hd hy
            clear hy
            have hC3 := hLL.out _ hd
            try simp only [go_sem]
            refine hK.out _ _ (fun _ => hC3) ?_
            clear hK K
            try simp only [Act.put, List.setIfInBounds_toArray, List.set_cons_zero, List.set_cons_succ]
            refine wpAnyT_ready (rs := [18]) (by kernel_rfl) (by simp) ?_
            refine AllT.cons rfl (fun K hK => ?_) AllT.nil
            go_simp
            refine hK.out _ _ (fun _ => hC3) ?_
            clear hK K
            try simp only [Act.put, List.setIfInBounds_toArray, List.set_cons_zero, List.set_cons_succ]
            refine wpAnyT_ready (rs := [19]) (by kernel_rfl) (by simp) ?_
            refine AllT.cons rfl (fun K hK => ?_) AllT.nil
            go_simp
            refine hK.out _ _ (fun _ => hC3) ?_
            clear hK K
            try simp only [Act.put, List.setIfInBounds_toArray, List.set_cons_zero, List.set_cons_succ]
            refine wpAnyT_ready (rs := [20]) (by kernel_rfl) (by simp) ?_
            refine AllT.cons rfl (fun K hK => ?_) AllT.nil
            go_simp
            refine hK.out _ _ (fun h => nomatch (Eq.trans (by kernel_rfl : true = _) h : true = false)) ?_
            clear hK K
            refine wpAnyT_done (by kernel_rfl) ⟨rfl, ?_⟩ _
            clear hC0 hLL
            go_wp2_with fail
            go_roundg (2 - (i + 1))
            case measure => omega
            case rel => exact ⟨i + 1, rfl, by go_num, by omega, Lib.hid (bl_trans hbr2.out hd)⟩
          | some U =>
            have hqs := FM.from_sound hr
            obtain ⟨k1, k2, k3⟩ := from_look hr hq2
            have hq10 : q.length = 10 := by rw [← hqs]; rfl
            have hTx := fun X (a b : Option Addr) (c d : Nat) (z1 : TxAt (fun _ => True) false X a q) (z2 : TxAt (fun _ => True) false X b q) => texts_any a b q q c d X hq1 hq1 (fun j hj => Nat.le_trans (hq2 _ (List.getElem_mem hj)) (by decide)) (fun j hj => Nat.le_trans (hq2 _ (List.getElem_mem hj)) (by decide)) z1 z2
            rw [show txB q q = true by simp [txB], hq10] at hTx
            rw [hq10] at hmc hcell hfr
            replace hTx := Lib.hid hTx
            replace hqs := Lib.hid hqs
            replace hq10 := Lib.hid hq10
            rw [hr] at hfr
            unfold FromIs at hfr
            simp only [Option.isSome_some, Option.getD_some] at hfr
            replace hfr := Lib.hid hfr
            go_upto_region 18 with (go_at_call 13; (with_reducible refine hfr.out.mono ?_); rintro e Y0 ⟨s1, rfl, hs1, hy⟩; obtain ⟨Z1, S1, hZ1, hbZ1⟩ := st_new9 Y0 s1; have hbr2 := Lib.hid (bl_trans hbr.out (bl_trans hy hbZ1)); have hsi := Lib.hid (hs1.below hbZ1); obtain ⟨D1, hD1⟩ : ∃ D, s1.cells.toArray = D := ⟨_, rfl⟩; rw [hD1] at S1 ⊢; clear hs1 hy hbZ1; replace hZ1 := Lib.hid hZ1; replace hD1 := Lib.hid hD1)
            have hLL := Lib.hid (fun X (hX : Below Z1.heap.size Z1 X) => (⟨by rw [← hD1.out]; exact stLoad_is s1 (hZ1.out.below hX), ((hBM.out.below (bl_trans hbr2.out hX)).cell i).trans hcell⟩ : (stLoad ⟨Y0.heap.size, 0, none⟩).run Tryz.prog X = .ok (.agg D1) X ∧ X.cell? ⟨mb, i, none⟩ = some (.slice qa 10 qc)))
            have hd := bl_drew (Below.refl Z1.heap.size Z1)
            have hC0 := hLL.out _ hd
            clear S1 hmc
            refine region_till (fun X => (stLoad ⟨Y0.heap.size, 0, none⟩).run Tryz.prog X = .ok (.agg D1) X ∧ X.cell? ⟨mb, i, none⟩ = some (.slice qa 10 qc)) 20 (by kernel_rfl) ?_
            obtain ⟨Z2, hZ2⟩ : ∃ x, Z1.drew = x := ⟨_, rfl⟩
            rw [hZ2] at hd hC0 ⊢
            clear hZ2
            refine wpAnyT_take (i := 0) (v := (.bool true)) (some 86) rfl (by kernel_rfl) (by kernel_rfl) (by kernel_rfl) (by kernel_rfl) (fun _ _ _ h => absurd h np_panic) [20, 11, 10, 1] (by kernel_rfl) (by kernel_rfl) (by kernel_rfl) (Or.inl ⟨by rfl, ?_⟩) hC0 ?_
            · intro X hX
              (obtain ⟨x0, x1⟩ := hX; go_simp)
            simp only [Act.put, List.setIfInBounds_toArray, List.set_cons_zero, List.set_cons_succ]
            refine wpAnyT_take (i := 1) (v := (.bool true)) (some 87) rfl (by kernel_rfl) (by kernel_rfl) (by kernel_rfl) (by kernel_rfl) (fun _ _ _ h => absurd h np_panic) [20, 11, 10] (by kernel_rfl) (by kernel_rfl) (by kernel_rfl) (Or.inl ⟨by rfl, ?_⟩) hC0 ?_
            · intro X hX
              (obtain ⟨x0, x1⟩ := hX; go_simp)
            simp only [Act.put, List.setIfInBounds_toArray, List.set_cons_zero, List.set_cons_succ]
            refine wpAnyT_take (i := 2) (v := (.agg D1)) (some 88) rfl (by kernel_rfl) (by kernel_rfl) (by kernel_rfl) (by kernel_rfl) (fun _ _ _ h => absurd h np_panic) [20, 11, 10, 9, 8, 3] (by kernel_rfl) (by kernel_rfl) (by kernel_rfl) (Or.inl ⟨by rfl, ?_⟩) hC0 ?_
            · intro X hX
              (obtain ⟨x0, x1⟩ := hX; go_simp)
            simp only [Act.put, List.setIfInBounds_toArray, List.set_cons_zero, List.set_cons_succ]
            refine wpAnyT_take (i := 4) (v := (.slice (some ⟨mb, 0, none⟩) 2 2)) (some 90) rfl (by kernel_rfl) (by kernel_rfl) (by kernel_rfl) (by kernel_rfl) (fun _ _ _ h => absurd h np_panic) [20, 11, 10, 9, 8, 7, 6] (by kernel_rfl) (by kernel_rfl) (by kernel_rfl) (Or.inl ⟨by rfl, ?_⟩) hC0 ?_
            · intro X hX
              (obtain ⟨x0, x1⟩ := hX; go_simp)
            simp only [Act.put, List.setIfInBounds_toArray, List.set_cons_zero, List.set_cons_succ]
            refine wpAnyT_take (i := 5) (v := (.int .i64 (i : Int))) (some 91) rfl (by kernel_rfl) (by kernel_rfl) (by kernel_rfl) (by kernel_rfl) (fun _ _ _ h => absurd h np_panic) [20, 11, 10, 9, 8, 7, 6] (by kernel_rfl) (by kernel_rfl) (by kernel_rfl) (Or.inl ⟨by rfl, ?_⟩) hC0 ?_
            · intro X hX
              (obtain ⟨x0, x1⟩ := hX; go_simp)
            simp only [Act.put, List.setIfInBounds_toArray, List.set_cons_zero, List.set_cons_succ]
            refine wpAnyT_take (i := 6) (v := (.pointer (some ⟨mb, i, none⟩))) (some 92) rfl (by kernel_rfl) (by kernel_rfl) (by kernel_rfl) (by kernel_rfl) (fun _ _ _ h => absurd h np_panic) [20, 11, 10, 9, 8, 7] (by kernel_rfl) (by kernel_rfl) (by kernel_rfl) (Or.inl ⟨by rfl, ?_⟩) hC0 ?_
            · intro X hX
              (obtain ⟨x0, x1⟩ := hX; go_simp)
            simp only [Act.put, List.setIfInBounds_toArray, List.set_cons_zero, List.set_cons_succ]
            refine wpAnyT_take (i := 7) (v := (.slice qa 10 qc)) (some 93) rfl (by kernel_rfl) (by kernel_rfl) (by kernel_rfl) (by kernel_rfl) (fun _ _ _ h => absurd h np_panic) [20, 11, 10, 9, 8] (by kernel_rfl) (by kernel_rfl) (by kernel_rfl) (Or.inl ⟨by rfl, ?_⟩) hC0 ?_
            · intro X hX
              (obtain ⟨x0, x1⟩ := hX; go_simp)
            simp only [Act.put, List.setIfInBounds_toArray, List.set_cons_zero, List.set_cons_succ]
            have hfu := hFU.out Z2 (bl_trans hbwM.out (bl_trans hbr2.out hd)) U s1 _ _ (hsi.out.below hd) k1 k2 k3
            rw [hD1.out, hqs.out] at hfu
            replace hfu := Lib.hid hfu
            try simp only [Act.put, List.setIfInBounds_toArray, List.set_cons_zero, List.set_cons_succ]
            refine wpAnyT_ready (rs := [3]) (by kernel_rfl) (by simp) ?_
            refine AllT.cons rfl (fun K hK => ?_) AllT.nil
            go_simp
            (go_at_call 11; (with_reducible refine (hfu.out).mono ?_); rintro e Z3 ⟨ga, gc, rfl, hf3, hy⟩)
            replace hd := bl_trans hd hy
            clear hy
            replace hf3 := Lib.hid hf3.tx.any
            have hC3 := hLL.out _ hd
            try simp only [go_sem]
            refine hK.out _ _ (fun _ => hC3) ?_
            clear hK K
            try simp only [Act.put, List.setIfInBounds_toArray, List.set_cons_zero, List.set_cons_succ]
            refine wpAnyT_ready (rs := [8]) (by kernel_rfl) (by simp) ?_
            refine AllT.cons rfl (fun K hK => ?_) AllT.nil
            go_simp
            (go_at_call 17; (with_reducible refine (hTx.out _ _ _ gc qc hf3.out (hTq.below (bl_trans hbr2.out hd))).mono ?_); rintro e Z4 ⟨rfl, m4, rfl⟩)
            replace hd := bl_drewN hd m4
            have hC4 := hLL.out _ hd
            try simp only [go_sem]
            refine hK.out _ _ (fun _ => hC4) ?_
            clear hK K
            try simp only [Act.put, List.setIfInBounds_toArray, List.set_cons_zero, List.set_cons_succ]
            refine wpAnyT_ready (rs := [9]) (by kernel_rfl) (by simp) ?_
            refine AllT.cons rfl (fun K hK => ?_) AllT.nil
            go_simp
            refine hK.out _ _ (fun _ => hC4) ?_
            clear hK K
            try simp only [Act.put, List.setIfInBounds_toArray, List.set_cons_zero, List.set_cons_succ]
            refine wpAnyT_ready (rs := [10]) (by kernel_rfl) (by simp) ?_
            refine AllT.cons rfl (fun K hK => ?_) AllT.nil
            go_simp
            refine hK.out _ _ (fun _ => hC4) ?_
            clear hK K
            try simp only [Act.put, List.setIfInBounds_toArray, List.set_cons_zero, List.set_cons_succ]
            refine wpAnyT_ready (rs := [11]) (by kernel_rfl) (by simp) ?_
            refine AllT.cons rfl (fun K hK => ?_) AllT.nil
            go_simp
            refine hK.out _ _ (fun _ => hC4) ?_
            clear hK K
            try simp only [Act.put, List.setIfInBounds_toArray, List.set_cons_zero, List.set_cons_succ]
            refine wpAnyT_ready (rs := [12]) (by kernel_rfl) (by simp) ?_
            refine AllT.cons rfl (fun K hK => ?_) AllT.nil
            go_simp
            refine hK.out _ _ (fun _ => hC4) ?_
            clear hK K
            try simp only [Act.put, List.setIfInBounds_toArray, List.set_cons_zero, List.set_cons_succ]
            refine wpAnyT_ready (rs := [13]) (by kernel_rfl) (by simp) ?_
            refine AllT.cons rfl (fun K hK => ?_) AllT.nil
            go_simp
            refine hK.out _ _ (fun _ => hC4) ?_
            clear hK K
            try simp only [Act.put, List.setIfInBounds_toArray, List.set_cons_zero, List.set_cons_succ]
            refine wpAnyT_ready (rs := [14]) (by kernel_rfl) (by simp) ?_
            refine AllT.cons rfl (fun K hK => ?_) AllT.nil
            go_simp
            refine hK.out _ _ (fun _ => hC4) ?_
            clear hK K
            try simp only [Act.put, List.setIfInBounds_toArray, List.set_cons_zero, List.set_cons_succ]
            refine wpAnyT_take (i := 15) (v := undef) (some 101) rfl (by kernel_rfl) (by kernel_rfl) (by kernel_rfl) (by kernel_rfl) (fun _ _ _ h => absurd h np_panic) [20, 19, 18, 17] (by kernel_rfl) (by kernel_rfl) (by kernel_rfl) (Or.inr ⟨by rfl, rfl⟩) hC4 ?_
            simp only [Act.put, List.setIfInBounds_toArray, List.set_cons_zero, List.set_cons_succ]
            refine wpAnyT_take (i := 16) (v := undef) (some 102) rfl (by kernel_rfl) (by kernel_rfl) (by kernel_rfl) (by kernel_rfl) (fun _ _ _ h => absurd h np_panic) [20, 19, 18, 17] (by kernel_rfl) (by kernel_rfl) (by kernel_rfl) (Or.inr ⟨by rfl, rfl⟩) hC4 ?_
            simp only [Act.put, List.setIfInBounds_toArray, List.set_cons_zero, List.set_cons_succ]
            refine wpAnyT_take (i := 17) (v := undef) (some 103) rfl (by kernel_rfl) (by kernel_rfl) (by kernel_rfl) (by kernel_rfl) (fun _ _ _ h => absurd h np_panic) [20, 19, 18] (by kernel_rfl) (by kernel_rfl) (by kernel_rfl) (Or.inr ⟨by rfl, rfl⟩) hC4 ?_
            simp only [Act.put, List.setIfInBounds_toArray, List.set_cons_zero, List.set_cons_succ]
            refine wpAnyT_take (i := 18) (v := undef) (some 104) rfl (by kernel_rfl) (by kernel_rfl) (by kernel_rfl) (by kernel_rfl) (fun _ _ _ h => absurd h np_panic) [20, 19] (by kernel_rfl) (by kernel_rfl) (by kernel_rfl) (Or.inr ⟨by rfl, rfl⟩) hC4 ?_
            simp only [Act.put, List.setIfInBounds_toArray, List.set_cons_zero, List.set_cons_succ]
            try simp only [Act.put, List.setIfInBounds_toArray, List.set_cons_zero, List.set_cons_succ]
            refine wpAnyT_ready (rs := [19]) (by kernel_rfl) (by simp) ?_
            refine AllT.cons rfl (fun K hK => ?_) AllT.nil
            go_simp
            refine hK.out _ _ (fun _ => hC4) ?_
            clear hK K
            try simp only [Act.put, List.setIfInBounds_toArray, List.set_cons_zero, List.set_cons_succ]
            refine wpAnyT_ready (rs := [20]) (by kernel_rfl) (by simp) ?_
            refine AllT.cons rfl (fun K hK => ?_) AllT.nil
            go_simp
            refine hK.out _ _ (fun h => nomatch (Eq.trans (by kernel_rfl : true = _) h : true = false)) ?_
            clear hK K
            refine wpAnyT_done (by kernel_rfl) ⟨rfl, ?_⟩ _
            clear hC0 hLL
            go_wp2_with fail
            go_roundg (2 - (i + 1))
            case measure => omega
            case rel => exact ⟨i + 1, rfl, by go_num, by omega, Lib.hid (bl_trans hbr2.out hd)⟩
        · obtain rfl : i = 2 := by omega
          go_wp2_with (go_at_call 15; (with_reducible refine (haw.out _).mono ?_); rintro e Y5 ⟨rfl, hy⟩; replace hbr := Lib.hid (bl_trans hbr.out hy); clear hy)
          all_goals go_ret
          all_goals exact ⟨rfl, bl_trans hbwM.out hbr.out⟩
end Go.Proofs.YtepdfkgadigafaaGreatDoor
