/-
  The reference's Copy of a state; of chapter 21. (Printed by gen_cpy2.py.)
  Conditions: as each theorem states them.
-/
import Derived.Test.YtepdfkgadigafaaGreatDoorCpA
import Derived.Deep.LoopGhost
import Derived.Deep.CutBlock
import Derived.Test.YtepdfkgadigafaaGreatDoorCpB
namespace Go.Proofs.YtepdfkgadigafaaGreatDoor
open Go.RowKit
set_option linter.unusedVariables false
set_option linter.unusedSimpArgs false
attribute [local go_sem ↓] load_st store_st
/-- rows that fit into memory -/
structure MidV (V : StV) : Prop where
  pat : V.pat.length ≤ 1000000000000
  hold : V.hold.length ≤ 1000000000000
  rest : V.rest.length ≤ 1000000000000
  out : V.out.length ≤ 1000000000000
  place : V.place.length ≤ 1000000000000
  active : V.active.length ≤ 1000000000000
  lacks : V.lacks.length ≤ 1000000000000
  waits : V.waits.length ≤ 1000000000000
  files : V.files.length ≤ 1000000000000
  wait : ∀ (i : Nat) (h : i < V.waits.length), (V.waits[i]).2.length ≤ 1000000000000
  file : ∀ (i : Nat) (h : i < V.files.length), (V.files[i]).2.length ≤ 1000000000000
theorem SmallV.mid {V : StV} (h : SmallV V) : MidV V :=
  ⟨Nat.le_trans h.pat (by decide), Nat.le_trans h.hold (by decide), Nat.le_trans h.rest (by decide), Nat.le_trans h.out (by decide), Nat.le_trans h.place (by decide), Nat.le_trans h.active (by decide), Nat.le_trans h.lacks (by decide), Nat.le_trans h.waits (by decide), Nat.le_trans h.files (by decide),
    fun i hi => Nat.le_trans (h.wait _ (List.getElem_mem hi)) (by decide), fun i hi => Nat.le_trans (h.file _ (List.getElem_mem hi)).1 (by decide)⟩
end Go.Proofs.YtepdfkgadigafaaGreatDoor
/-
  state's copyFiles; of chapter 20.
  Conditions: as each theorem states them.
-/
namespace Go.Proofs.YtepdfkgadigafaaGreatDoor
open Go.RowKit
set_option linter.unusedVariables false
set_option linter.unusedSimpArgs false
set_option maxHeartbeats 4000000 in
set_option maxRecDepth 100000 in
theorem copyFiles_any (w : World) {lo hi_ : Nat} {a : Option Addr} {n c : Nat} {l : List (List UInt8 × List UInt8)} (h : PrI strV lo hi_ w ⟨a, n, c⟩ l) (hW : hi_ ≤ w.heap.size) (hs : l.length ≤ 1000000000000) (hm : ∀ (i : Nat) (h : i < l.length), (l[i]).2.length ≤ 1000000000000) :
    Calls Tryz.prog 47 #[.slice a n c] w fun e w' => ∃ a' n' c', e = .returned (.slice a' n' c') ∧ PrI strV w.heap.size w'.heap.size w' ⟨a', n', c'⟩ l ∧ Below w.heap.size w w' := by
  go_enter Tryz.func47, Tryz.ntmps47
  obtain ⟨L, hL⟩ : ∃ L, l.length = L := ⟨_, rfl⟩
  have hc0 := clone_pr_files w h hW hs
  rw [hL] at hc0
  replace hc0 := Lib.hid hc0
  go_wp2_with (go_at_call 72; (with_reducible refine hc0.out.mono ?_); rintro e X ⟨a2, c2, rfl, p0, b0⟩; replace p0 := Lib.hid p0; replace b0 := Lib.hid b0)
  obtain ⟨N, hN⟩ : ∃ N, X.heap.size = N := ⟨_, rfl⟩
  rw [hN] at p0
  clear hN hc0
  go_loopg [9] L (fun gh v wr => ∃ m : Nat, gh = L - m ∧ v = .int .i64 (m : Int) ∧ m ≤ L ∧ Hid (PrL strV l 50 w.heap.size N lo hi_ (.slice a2 L c2) m wr) ∧ Hid (Below w.heap.size w wr))
  case atStart => exact ⟨0, rfl, rfl, Nat.zero_le _, p0, b0⟩
  case round =>
    obtain ⟨m, hgm, rfl, hmL, hp, hb⟩ := hrel
    replace hgm := hgm.symm
    subst hgm
    clear p0 b0
    rcases Nat.lt_or_ge m L with hlt | hlt
    · have hlt' : m < l.length := by omega
      obtain ⟨g, x, rfl, hg1, hg2, kx, fx, tx⟩ := hp.out.at' hlt'
      obtain ⟨xa, xn, xc⟩ := x
      have q1 : (0 : Int) ≤ (m : Int) := by omega
      have q2 : (m : Int) < (L : Int) := by omega
      have lt2 : g < wr.heap.size := Nat.lt_of_lt_of_le hg2 hp.out.top
      replace tx := Lib.hid tx
      have hl := Lib.hid (hm m hlt')
      go_wp2_with (go_at_call 29; (with_reducible refine (clone_tx _ tx.out hl.out).mono ?_); rintro e Y ⟨a5, n5, c5, rfl, t5, hb5⟩; have k5 := (hb5.cell (p := ⟨g, m * 2 + 1, none⟩) lt2).trans kx; have f5 := (hb5.frozen (p := ⟨g, m * 2 + 1, none⟩) lt2).trans fx; have lt5 : g < Y.heap.size := Nat.lt_of_lt_of_le lt2 hb5.size; have hpY := PrL.put' (s := ⟨a5, n5, c5⟩) hL hp.out hlt' hb5 t5; have hbY := Lib.hid (bl_setCell (hb.out.trans (hb5.mono hb.out.size)) (p := ⟨g, m * 2 + 1, none⟩) hg1 (.slice a5 n5 c5)); replace hpY := Lib.hid hpY; replace hb5 := Lib.hid hb5; replace t5 := Lib.hid t5)
      go_roundg (L - (m + 1))
      case measure => omega
      case rel => exact ⟨m + 1, rfl, by push_cast; rfl, by omega, hpY, hbY⟩
    · obtain rfl : m = L := Nat.le_antisymm hmL hlt
      have hdone := Lib.hid (hp.out.done' hL hs)
      have q1 : ¬ ((m : Int) < (m : Int)) := by omega
      clear hp
      go_wp2_with fail
      go_ret
      exact ⟨_, _, _, rfl, hdone.out, hb.out⟩
end Go.Proofs.YtepdfkgadigafaaGreatDoor
/-
  state.Copy of any state; of chapter 20. (Printed by gen_cpy4.py.)
  Conditions: as each theorem states them.
-/
namespace Go.Proofs.YtepdfkgadigafaaGreatDoor
open Go.RowKit
set_option linter.unusedVariables false
set_option linter.unusedSimpArgs false
attribute [local go_sem ↓] load_st store_st
set_option maxHeartbeats 8000000 in
set_option maxRecDepth 100000 in
theorem copy_any (w : World) (s : StC) (V : StV) {lo hi_ : Nat} (hs : SIn lo hi_ s V w) (hm : MidV V) :
    Calls Tryz.prog 18 #[.agg s.cells.toArray] w fun e w' => ∃ s' : StC, e = .returned (.agg s'.cells.toArray) ∧ SIn w.heap.size w'.heap.size s' V w' ∧ Below w.heap.size w w' := by
  obtain ⟨C, hC⟩ : ∃ C, s.cells.toArray = C := ⟨_, rfl⟩
  have g0 := CF.start hs
  rw [hC] at g0 ⊢
  replace hC := Lib.hid hC
  obtain ⟨W1, hW1⟩ : ∃ W1, (w.alloc (.cells C 34)).alloc (.cells zeroC.cells.toArray 34) = W1 := ⟨_, rfl⟩
  rw [hW1] at g0
  replace hW1 := Lib.hid hW1
  unfold zeroC StC.cells at hW1
  go_enter Tryz.func18, Tryz.ntmps18
  go_upto_region 1 with fail
  rw [hW1.out]
  clear hW1
  obtain ⟨cur1, h1⟩ : ∃ c, CF w lo hi_ V false false false false false false false (some false) (some false) (w.heap.size + 2) c W1 := ⟨_, g0⟩
  clear g0
  replace h1 := Lib.hid h1
  obtain ⟨a0, n0, c0, k0, f0, tx0⟩ := h1.out.ld_pat
  replace tx0 := Lib.hid (TxI.keep (show TxI lo hi_ W1 ⟨a0, n0, c0⟩ V.pat from tx0) (KeepI.below (bl_drew (Below.refl W1.heap.size W1)) (Nat.le_trans h1.out.hw h1.out.o.size)))
  obtain ⟨a1, n1, c1, k1, f1, tx1⟩ := h1.out.ld_hold
  replace tx1 := Lib.hid (TxI.keep (show TxI lo hi_ W1 ⟨a1, n1, c1⟩ V.hold from tx1) (KeepI.below (bl_drew (Below.refl W1.heap.size W1)) (Nat.le_trans h1.out.hw h1.out.o.size)))
  obtain ⟨a2, n2, c2, k2, f2, tx2⟩ := h1.out.ld_rest
  replace tx2 := Lib.hid (TxI.keep (show TxI lo hi_ W1 ⟨a2, n2, c2⟩ V.rest from tx2) (KeepI.below (bl_drew (Below.refl W1.heap.size W1)) (Nat.le_trans h1.out.hw h1.out.o.size)))
  have lt1 : w.heap.size < W1.heap.size := h1.out.b0.lt
  have hC : (W1.drew.cell? ⟨w.heap.size, 0, none⟩ = some (.slice a0 n0 c0) ∧ W1.drew.cell? ⟨w.heap.size, 1, none⟩ = some (.slice a1 n1 c1) ∧ W1.drew.cell? ⟨w.heap.size, 10, none⟩ = some (.slice a2 n2 c2)) := ⟨k0, k1, k2⟩
  have kC : Hid (∀ X Y : World, (X.cell? ⟨w.heap.size, 0, none⟩ = some (.slice a0 n0 c0) ∧ X.cell? ⟨w.heap.size, 1, none⟩ = some (.slice a1 n1 c1) ∧ X.cell? ⟨w.heap.size, 10, none⟩ = some (.slice a2 n2 c2)) → w.heap.size < X.heap.size → Below X.heap.size X Y → (Y.cell? ⟨w.heap.size, 0, none⟩ = some (.slice a0 n0 c0) ∧ Y.cell? ⟨w.heap.size, 1, none⟩ = some (.slice a1 n1 c1) ∧ Y.cell? ⟨w.heap.size, 10, none⟩ = some (.slice a2 n2 c2))) := Lib.hid (fun X Y h hl hb => ⟨(hb.cell (p := ⟨w.heap.size, 0, none⟩) hl).trans h.1, (hb.cell (p := ⟨w.heap.size, 1, none⟩) hl).trans h.2.1, (hb.cell (p := ⟨w.heap.size, 10, none⟩) hl).trans h.2.2⟩)
  refine region_till (fun X => (X.cell? ⟨w.heap.size, 0, none⟩ = some (.slice a0 n0 c0) ∧ X.cell? ⟨w.heap.size, 1, none⟩ = some (.slice a1 n1 c1) ∧ X.cell? ⟨w.heap.size, 10, none⟩ = some (.slice a2 n2 c2))) 14 (by kernel_rfl) ?_
  refine wpAnyT_take (i := 0) (v := (.pointer (some ⟨w.heap.size, 0, none⟩))) (some 4) rfl (by kernel_rfl) (by kernel_rfl) (by kernel_rfl) (by kernel_rfl) (fun _ _ _ h => absurd h np_panic) [14] (by kernel_rfl) (by kernel_rfl) (by kernel_rfl) (Or.inl ⟨by rfl, ?_⟩) hC ?_
  · intro X hX
    (obtain ⟨x0, x1, x2⟩ := hX; go_simp)
  simp only [Act.put, List.setIfInBounds_toArray, List.set_cons_zero, List.set_cons_succ]
  refine wpAnyT_take (i := 1) (v := (.pointer (some ⟨w.heap.size, 0, none⟩))) (some 5) rfl (by kernel_rfl) (by kernel_rfl) (by kernel_rfl) (by kernel_rfl) (fun _ _ _ h => absurd h np_panic) [14] (by kernel_rfl) (by kernel_rfl) (by kernel_rfl) (Or.inl ⟨by rfl, ?_⟩) hC ?_
  · intro X hX
    (obtain ⟨x0, x1, x2⟩ := hX; go_simp)
  simp only [Act.put, List.setIfInBounds_toArray, List.set_cons_zero, List.set_cons_succ]
  refine wpAnyT_take (i := 2) (v := (.slice a0 n0 c0)) (some 6) rfl (by kernel_rfl) (by kernel_rfl) (by kernel_rfl) (by kernel_rfl) (fun _ _ _ h => absurd h np_panic) [14] (by kernel_rfl) (by kernel_rfl) (by kernel_rfl) (Or.inl ⟨by rfl, ?_⟩) hC ?_
  · intro X hX
    (obtain ⟨x0, x1, x2⟩ := hX; go_simp)
  simp only [Act.put, List.setIfInBounds_toArray, List.set_cons_zero, List.set_cons_succ]
  refine wpAnyT_take (i := 4) (v := (.pointer (some ⟨w.heap.size, 0, none⟩))) (some 8) rfl (by kernel_rfl) (by kernel_rfl) (by kernel_rfl) (by kernel_rfl) (fun _ _ _ h => absurd h np_panic) [14] (by kernel_rfl) (by kernel_rfl) (by kernel_rfl) (Or.inl ⟨by rfl, ?_⟩) hC ?_
  · intro X hX
    (obtain ⟨x0, x1, x2⟩ := hX; go_simp)
  simp only [Act.put, List.setIfInBounds_toArray, List.set_cons_zero, List.set_cons_succ]
  refine wpAnyT_take (i := 5) (v := (.pointer (some ⟨w.heap.size, 1, none⟩))) (some 9) rfl (by kernel_rfl) (by kernel_rfl) (by kernel_rfl) (by kernel_rfl) (fun _ _ _ h => absurd h np_panic) [14] (by kernel_rfl) (by kernel_rfl) (by kernel_rfl) (Or.inl ⟨by rfl, ?_⟩) hC ?_
  · intro X hX
    (obtain ⟨x0, x1, x2⟩ := hX; go_simp)
  simp only [Act.put, List.setIfInBounds_toArray, List.set_cons_zero, List.set_cons_succ]
  refine wpAnyT_take (i := 6) (v := (.slice a1 n1 c1)) (some 10) rfl (by kernel_rfl) (by kernel_rfl) (by kernel_rfl) (by kernel_rfl) (fun _ _ _ h => absurd h np_panic) [14] (by kernel_rfl) (by kernel_rfl) (by kernel_rfl) (Or.inl ⟨by rfl, ?_⟩) hC ?_
  · intro X hX
    (obtain ⟨x0, x1, x2⟩ := hX; go_simp)
  simp only [Act.put, List.setIfInBounds_toArray, List.set_cons_zero, List.set_cons_succ]
  refine wpAnyT_take (i := 8) (v := (.pointer (some ⟨w.heap.size, 6, none⟩))) (some 12) rfl (by kernel_rfl) (by kernel_rfl) (by kernel_rfl) (by kernel_rfl) (fun _ _ _ h => absurd h np_panic) [14] (by kernel_rfl) (by kernel_rfl) (by kernel_rfl) (Or.inl ⟨by rfl, ?_⟩) hC ?_
  · intro X hX
    (obtain ⟨x0, x1, x2⟩ := hX; go_simp)
  simp only [Act.put, List.setIfInBounds_toArray, List.set_cons_zero, List.set_cons_succ]
  refine wpAnyT_take (i := 9) (v := (.pointer (some ⟨w.heap.size, 10, none⟩))) (some 13) rfl (by kernel_rfl) (by kernel_rfl) (by kernel_rfl) (by kernel_rfl) (fun _ _ _ h => absurd h np_panic) [14] (by kernel_rfl) (by kernel_rfl) (by kernel_rfl) (Or.inl ⟨by rfl, ?_⟩) hC ?_
  · intro X hX
    (obtain ⟨x0, x1, x2⟩ := hX; go_simp)
  simp only [Act.put, List.setIfInBounds_toArray, List.set_cons_zero, List.set_cons_succ]
  refine wpAnyT_take (i := 10) (v := (.slice a2 n2 c2)) (some 14) rfl (by kernel_rfl) (by kernel_rfl) (by kernel_rfl) (by kernel_rfl) (fun _ _ _ h => absurd h np_panic) [14] (by kernel_rfl) (by kernel_rfl) (by kernel_rfl) (Or.inl ⟨by rfl, ?_⟩) hC ?_
  · intro X hX
    (obtain ⟨x0, x1, x2⟩ := hX; go_simp)
  simp only [Act.put, List.setIfInBounds_toArray, List.set_cons_zero, List.set_cons_succ]
  have bl0 : Below W1.heap.size W1 W1.drew := bl_drew (Below.refl W1.heap.size W1)
  have ltY : w.heap.size < W1.drew.heap.size := lt1
  refine wpAnyT_ready (rs := [3]) (by kernel_rfl) (by simp) ?_
  refine AllT.cons rfl (fun K hK => ?_) AllT.nil
  go_simp
  (go_at_call 29; (with_reducible refine (clone_tx _ tx0.out hm.pat).mono ?_); rintro e Y0 ⟨a0x, n0x, c0x, rfl, t0, hb0⟩)
  have hC0 := kC.out _ Y0 hC ltY hb0
  have ltY0 : w.heap.size < Y0.heap.size := Nat.lt_of_lt_of_le ltY hb0.size
  replace tx1 := Lib.hid (tx1.out.keep (KeepI.below hb0 (by have := h1.out.hw; omega)))
  replace tx2 := Lib.hid (tx2.out.keep (KeepI.below hb0 (by have := h1.out.hw; omega)))
  replace t0 := Lib.hid t0
  replace hb0 := Lib.hid hb0
  go_simp
  refine hK.out _ _ (fun _ => hC0) ?_
  clear hK K
  try simp only [Act.put, List.setIfInBounds_toArray, List.set_cons_zero, List.set_cons_succ]
  refine wpAnyT_take (i := 12) (v := (.pointer (some ⟨w.heap.size, 0, none⟩))) (some 16) rfl (by kernel_rfl) (by kernel_rfl) (by kernel_rfl) (by kernel_rfl) (fun _ _ _ h => absurd h np_panic) [13, 14] (by kernel_rfl) (by kernel_rfl) (by kernel_rfl) (Or.inl ⟨by rfl, ?_⟩) hC0 ?_
  · intro X hX
    (obtain ⟨x0, x1, x2⟩ := hX; go_simp)
  simp only [Act.put, List.setIfInBounds_toArray, List.set_cons_zero, List.set_cons_succ]
  try simp only [Act.put, List.setIfInBounds_toArray, List.set_cons_zero, List.set_cons_succ]
  refine wpAnyT_take (i := 13) (v := (.pointer (some ⟨w.heap.size, 0, none⟩))) (some 17) rfl (by kernel_rfl) (by kernel_rfl) (by kernel_rfl) (by kernel_rfl) (fun _ _ _ h => absurd h np_panic) [14] (by kernel_rfl) (by kernel_rfl) (by kernel_rfl) (Or.inl ⟨by rfl, ?_⟩) hC0 ?_
  · intro X hX
    (obtain ⟨x0, x1, x2⟩ := hX; go_simp)
  simp only [Act.put, List.setIfInBounds_toArray, List.set_cons_zero, List.set_cons_succ]
  refine wpAnyT_ready (rs := [7]) (by kernel_rfl) (by simp) ?_
  refine AllT.cons rfl (fun K hK => ?_) AllT.nil
  go_simp
  (go_at_call 29; (with_reducible refine (clone_tx _ tx1.out hm.hold).mono ?_); rintro e Y1 ⟨a1x, n1x, c1x, rfl, t1, hb1⟩)
  have hC1 := kC.out _ Y1 hC0 ltY0 hb1
  have ltY1 : w.heap.size < Y1.heap.size := Nat.lt_of_lt_of_le ltY0 hb1.size
  replace tx2 := Lib.hid (tx2.out.keep (KeepI.below hb1 (by have := h1.out.hw; omega)))
  replace t1 := Lib.hid t1
  replace hb1 := Lib.hid hb1
  go_simp
  refine hK.out _ _ (fun _ => hC1) ?_
  clear hK K
  refine wpAnyT_ready (rs := [11]) (by kernel_rfl) (by simp) ?_
  refine AllT.cons rfl (fun K hK => ?_) AllT.nil
  go_simp
  (go_at_call 29; (with_reducible refine (clone_tx _ tx2.out hm.rest).mono ?_); rintro e Y2 ⟨a2x, n2x, c2x, rfl, t2, hb2⟩)
  have hC2 := kC.out _ Y2 hC1 ltY1 hb2
  have ltY2 : w.heap.size < Y2.heap.size := Nat.lt_of_lt_of_le ltY1 hb2.size
  replace t2 := Lib.hid t2
  replace hb2 := Lib.hid hb2
  go_simp
  refine hK.out _ _ (fun _ => hC2) ?_
  clear hK K
  have hbA := Lib.hid (((bl0.trans (hb0.out.mono (by have := bl0.size; omega))).trans (hb1.out.mono (by have := bl0.size; have := hb0.out.size; omega))).trans (hb2.out.mono (by have := bl0.size; have := hb0.out.size; have := hb1.out.size; omega)))
  have hY := (h1.out.below hbA.out).raise
  have t0Y := t0.out.keep (KeepI.below ((hb1.out.trans (hb2.out.mono (by have := hb1.out.size; omega)))) (Nat.le_refl _))
  replace t0Y := t0Y.wide (lo' := w.heap.size + 2) (hi' := Y2.heap.size) (by have := h1.out.bT; have := h1.out.top; have := bl0.size; omega) (by have := hb1.out.size; have := hb2.out.size; omega)
  have t1Y := t1.out.keep (KeepI.below (hb2.out) (Nat.le_refl _))
  replace t1Y := t1Y.wide (lo' := w.heap.size + 2) (hi' := Y2.heap.size) (by have := h1.out.bT; have := h1.out.top; have := bl0.size; have := hb0.out.size; omega) (by have := hb2.out.size; omega)
  have t2Y := t2.out
  replace t2Y := t2Y.wide (lo' := w.heap.size + 2) (hi' := Y2.heap.size) (by have := h1.out.bT; have := h1.out.top; have := bl0.size; have := hb0.out.size; have := hb1.out.size; omega) (by omega)
  obtain ⟨_, _, _, kk0, ff0, _⟩ := hY.ld_pat
  have lp0 : w.heap.size < Y2.heap.size := hY.b0.lt
  refine wpAnyT_ready (rs := [14]) (by kernel_rfl) (by simp) ?_
  refine AllT.cons rfl (fun K hK => ?_) AllT.nil
  go_simp
  refine hK.out _ _ (fun h => nomatch (Eq.trans (by kernel_rfl : true = _) h : true = false)) ?_
  clear hK K
  replace t1Y := t1Y.keep (hY.keep0 0 (.slice a0x n0x c0x)).1
  replace t2Y := t2Y.keep (hY.keep0 0 (.slice a0x n0x c0x)).1
  have hP0 := hY.put_pat ⟨a0x, n0x, c0x⟩ t0Y
  obtain ⟨P0, eP0⟩ : ∃ P, Y2.setCell ⟨w.heap.size, 0, none⟩ (.slice a0x n0x c0x) = P := ⟨_, rfl⟩
  replace hP0 : CF w lo hi_ V true false false false false false false (some false) (some false) _ _ (Y2.setCell ⟨w.heap.size, 0, none⟩ (.slice a0x n0x c0x)) := hP0
  replace t1Y : TxI (w.heap.size + 2) Y2.heap.size (Y2.setCell ⟨w.heap.size, 0, none⟩ (.slice a0x n0x c0x)) ⟨a1x, n1x, c1x⟩ V.hold := t1Y
  replace t2Y : TxI (w.heap.size + 2) Y2.heap.size (Y2.setCell ⟨w.heap.size, 0, none⟩ (.slice a0x n0x c0x)) ⟨a2x, n2x, c2x⟩ V.rest := t2Y
  rw [eP0] at hP0 t1Y t2Y ⊢
  clear eP0
  refine wpAnyT_ready (rs := [15]) (by kernel_rfl) (by simp) ?_
  refine AllT.cons rfl (fun K hK => ?_) AllT.nil
  go_simp
  refine hK.out _ _ (fun h => nomatch (Eq.trans (by kernel_rfl : true = _) h : true = false)) ?_
  clear hK K
  refine wpAnyT_ready (rs := [16]) (by kernel_rfl) (by simp) ?_
  refine AllT.cons rfl (fun K hK => ?_) AllT.nil
  go_simp
  refine hK.out _ _ (fun h => nomatch (Eq.trans (by kernel_rfl : true = _) h : true = false)) ?_
  clear hK K
  obtain ⟨_, _, _, kk1, ff1, _⟩ := hP0.ld_hold
  have lp1 : w.heap.size < P0.heap.size := hP0.b0.lt
  refine wpAnyT_ready (rs := [17]) (by kernel_rfl) (by simp) ?_
  refine AllT.cons rfl (fun K hK => ?_) AllT.nil
  go_simp
  refine hK.out _ _ (fun h => nomatch (Eq.trans (by kernel_rfl : true = _) h : true = false)) ?_
  clear hK K
  replace t2Y := t2Y.keep (hP0.keep0 1 (.slice a1x n1x c1x)).1
  have hP1 := hP0.put_hold ⟨a1x, n1x, c1x⟩ t1Y
  obtain ⟨P1, eP1⟩ : ∃ P, P0.setCell ⟨w.heap.size, 1, none⟩ (.slice a1x n1x c1x) = P := ⟨_, rfl⟩
  replace hP1 : CF w lo hi_ V true true false false false false false (some false) (some false) _ _ (P0.setCell ⟨w.heap.size, 1, none⟩ (.slice a1x n1x c1x)) := hP1
  replace t2Y : TxI (w.heap.size + 2) Y2.heap.size (P0.setCell ⟨w.heap.size, 1, none⟩ (.slice a1x n1x c1x)) ⟨a2x, n2x, c2x⟩ V.rest := t2Y
  rw [eP1] at hP1 t2Y ⊢
  clear eP1
  refine wpAnyT_ready (rs := [18]) (by kernel_rfl) (by simp) ?_
  refine AllT.cons rfl (fun K hK => ?_) AllT.nil
  go_simp
  refine hK.out _ _ (fun h => nomatch (Eq.trans (by kernel_rfl : true = _) h : true = false)) ?_
  clear hK K
  refine wpAnyT_ready (rs := [19]) (by kernel_rfl) (by simp) ?_
  refine AllT.cons rfl (fun K hK => ?_) AllT.nil
  go_simp
  refine hK.out _ _ (fun h => nomatch (Eq.trans (by kernel_rfl : true = _) h : true = false)) ?_
  clear hK K
  obtain ⟨_, _, _, kk2, ff2, _⟩ := hP1.ld_rest
  have lp2 : w.heap.size < P1.heap.size := hP1.b0.lt
  refine wpAnyT_ready (rs := [20]) (by kernel_rfl) (by simp) ?_
  refine AllT.cons rfl (fun K hK => ?_) AllT.nil
  go_simp
  refine hK.out _ _ (fun h => nomatch (Eq.trans (by kernel_rfl : true = _) h : true = false)) ?_
  clear hK K
  have hP2 := hP1.put_rest ⟨a2x, n2x, c2x⟩ t2Y
  obtain ⟨P2, eP2⟩ : ∃ P, P1.setCell ⟨w.heap.size, 10, none⟩ (.slice a2x n2x c2x) = P := ⟨_, rfl⟩
  replace hP2 : CF w lo hi_ V true true true false false false false (some false) (some false) _ _ (P1.setCell ⟨w.heap.size, 10, none⟩ (.slice a2x n2x c2x)) := hP2
  rw [eP2] at hP2  ⊢
  clear eP2
  refine wpAnyT_done (by kernel_rfl) ⟨rfl, ?_⟩ _
  obtain ⟨T2, cur2, h2⟩ : ∃ T c, CF w lo hi_ V true true true false false false false (some false) (some false) T c P2 := ⟨_, _, hP2⟩
  clear hP0 hP1 hP2 hY
  obtain ⟨W2, eW⟩ : ∃ W, P2 = W := ⟨_, rfl⟩
  rw [eW] at h2 ⊢
  clear eW
  replace h2 := Lib.hid h2
  clear hC kC lt1 ltY bl0 hbA k0 f0 tx0 hC0 ltY0 t0 hb0 t0Y kk0 ff0 lp0 k1 f1 tx1 hC1 ltY1 t1 hb1 t1Y kk1 ff1 lp1 k2 f2 tx2 hC2 ltY2 t2 hb2 t2Y kk2 ff2 lp2 h1
  go_upto_region 2 with fail
  obtain ⟨a0, n0, c0, k0, f0, tx0⟩ := h2.out.ld_out
  replace tx0 := Lib.hid (TxI.keep (show TxI lo hi_ W2 ⟨a0, n0, c0⟩ V.out from tx0) (KeepI.below (bl_drew (Below.refl W2.heap.size W2)) (Nat.le_trans h2.out.hw h2.out.o.size)))
  obtain ⟨a1, n1, c1, k1, f1, tx1⟩ := h2.out.ld_place
  replace tx1 := Lib.hid (TxI.keep (show TxI lo hi_ W2 ⟨a1, n1, c1⟩ V.place from tx1) (KeepI.below (bl_drew (Below.refl W2.heap.size W2)) (Nat.le_trans h2.out.hw h2.out.o.size)))
  have lt2 : w.heap.size < W2.heap.size := h2.out.b0.lt
  have hC : (W2.drew.cell? ⟨w.heap.size, 11, none⟩ = some (.slice a0 n0 c0) ∧ W2.drew.cell? ⟨w.heap.size, 13, none⟩ = some (.slice a1 n1 c1)) := ⟨k0, k1⟩
  have kC : Hid (∀ X Y : World, (X.cell? ⟨w.heap.size, 11, none⟩ = some (.slice a0 n0 c0) ∧ X.cell? ⟨w.heap.size, 13, none⟩ = some (.slice a1 n1 c1)) → w.heap.size < X.heap.size → Below X.heap.size X Y → (Y.cell? ⟨w.heap.size, 11, none⟩ = some (.slice a0 n0 c0) ∧ Y.cell? ⟨w.heap.size, 13, none⟩ = some (.slice a1 n1 c1))) := Lib.hid (fun X Y h hl hb => ⟨(hb.cell (p := ⟨w.heap.size, 11, none⟩) hl).trans h.1, (hb.cell (p := ⟨w.heap.size, 13, none⟩) hl).trans h.2⟩)
  refine region_till (fun X => (X.cell? ⟨w.heap.size, 11, none⟩ = some (.slice a0 n0 c0) ∧ X.cell? ⟨w.heap.size, 13, none⟩ = some (.slice a1 n1 c1))) 10 (by kernel_rfl) ?_
  refine wpAnyT_take (i := 0) (v := (.pointer (some ⟨w.heap.size, 11, none⟩))) (some 22) rfl (by kernel_rfl) (by kernel_rfl) (by kernel_rfl) (by kernel_rfl) (fun _ _ _ h => absurd h np_panic) [10] (by kernel_rfl) (by kernel_rfl) (by kernel_rfl) (Or.inl ⟨by rfl, ?_⟩) hC ?_
  · intro X hX
    (obtain ⟨x0, x1⟩ := hX; go_simp)
  simp only [Act.put, List.setIfInBounds_toArray, List.set_cons_zero, List.set_cons_succ]
  refine wpAnyT_take (i := 1) (v := (.pointer (some ⟨w.heap.size, 11, none⟩))) (some 23) rfl (by kernel_rfl) (by kernel_rfl) (by kernel_rfl) (by kernel_rfl) (fun _ _ _ h => absurd h np_panic) [10] (by kernel_rfl) (by kernel_rfl) (by kernel_rfl) (Or.inl ⟨by rfl, ?_⟩) hC ?_
  · intro X hX
    (obtain ⟨x0, x1⟩ := hX; go_simp)
  simp only [Act.put, List.setIfInBounds_toArray, List.set_cons_zero, List.set_cons_succ]
  refine wpAnyT_take (i := 2) (v := (.slice a0 n0 c0)) (some 24) rfl (by kernel_rfl) (by kernel_rfl) (by kernel_rfl) (by kernel_rfl) (fun _ _ _ h => absurd h np_panic) [10] (by kernel_rfl) (by kernel_rfl) (by kernel_rfl) (Or.inl ⟨by rfl, ?_⟩) hC ?_
  · intro X hX
    (obtain ⟨x0, x1⟩ := hX; go_simp)
  simp only [Act.put, List.setIfInBounds_toArray, List.set_cons_zero, List.set_cons_succ]
  refine wpAnyT_take (i := 4) (v := (.pointer (some ⟨w.heap.size, 11, none⟩))) (some 26) rfl (by kernel_rfl) (by kernel_rfl) (by kernel_rfl) (by kernel_rfl) (fun _ _ _ h => absurd h np_panic) [10] (by kernel_rfl) (by kernel_rfl) (by kernel_rfl) (Or.inl ⟨by rfl, ?_⟩) hC ?_
  · intro X hX
    (obtain ⟨x0, x1⟩ := hX; go_simp)
  simp only [Act.put, List.setIfInBounds_toArray, List.set_cons_zero, List.set_cons_succ]
  refine wpAnyT_take (i := 5) (v := (.pointer (some ⟨w.heap.size, 13, none⟩))) (some 27) rfl (by kernel_rfl) (by kernel_rfl) (by kernel_rfl) (by kernel_rfl) (fun _ _ _ h => absurd h np_panic) [10] (by kernel_rfl) (by kernel_rfl) (by kernel_rfl) (Or.inl ⟨by rfl, ?_⟩) hC ?_
  · intro X hX
    (obtain ⟨x0, x1⟩ := hX; go_simp)
  simp only [Act.put, List.setIfInBounds_toArray, List.set_cons_zero, List.set_cons_succ]
  refine wpAnyT_take (i := 6) (v := (.slice a1 n1 c1)) (some 28) rfl (by kernel_rfl) (by kernel_rfl) (by kernel_rfl) (by kernel_rfl) (fun _ _ _ h => absurd h np_panic) [10] (by kernel_rfl) (by kernel_rfl) (by kernel_rfl) (Or.inl ⟨by rfl, ?_⟩) hC ?_
  · intro X hX
    (obtain ⟨x0, x1⟩ := hX; go_simp)
  simp only [Act.put, List.setIfInBounds_toArray, List.set_cons_zero, List.set_cons_succ]
  have bl0 : Below W2.heap.size W2 W2.drew := bl_drew (Below.refl W2.heap.size W2)
  have ltY : w.heap.size < W2.drew.heap.size := lt2
  refine wpAnyT_ready (rs := [3]) (by kernel_rfl) (by simp) ?_
  refine AllT.cons rfl (fun K hK => ?_) AllT.nil
  go_simp
  (go_at_call 29; (with_reducible refine (clone_tx _ tx0.out hm.out).mono ?_); rintro e Y0 ⟨a0x, n0x, c0x, rfl, t0, hb0⟩)
  have hC0 := kC.out _ Y0 hC ltY hb0
  have ltY0 : w.heap.size < Y0.heap.size := Nat.lt_of_lt_of_le ltY hb0.size
  replace tx1 := Lib.hid (tx1.out.keep (KeepI.below hb0 (by have := h2.out.hw; omega)))
  replace t0 := Lib.hid t0
  replace hb0 := Lib.hid hb0
  go_simp
  refine hK.out _ _ (fun _ => hC0) ?_
  clear hK K
  try simp only [Act.put, List.setIfInBounds_toArray, List.set_cons_zero, List.set_cons_succ]
  refine wpAnyT_take (i := 8) (v := (.pointer (some ⟨w.heap.size, 11, none⟩))) (some 30) rfl (by kernel_rfl) (by kernel_rfl) (by kernel_rfl) (by kernel_rfl) (fun _ _ _ h => absurd h np_panic) [9, 10] (by kernel_rfl) (by kernel_rfl) (by kernel_rfl) (Or.inl ⟨by rfl, ?_⟩) hC0 ?_
  · intro X hX
    (obtain ⟨x0, x1⟩ := hX; go_simp)
  simp only [Act.put, List.setIfInBounds_toArray, List.set_cons_zero, List.set_cons_succ]
  try simp only [Act.put, List.setIfInBounds_toArray, List.set_cons_zero, List.set_cons_succ]
  refine wpAnyT_take (i := 9) (v := (.pointer (some ⟨w.heap.size, 11, none⟩))) (some 31) rfl (by kernel_rfl) (by kernel_rfl) (by kernel_rfl) (by kernel_rfl) (fun _ _ _ h => absurd h np_panic) [10] (by kernel_rfl) (by kernel_rfl) (by kernel_rfl) (Or.inl ⟨by rfl, ?_⟩) hC0 ?_
  · intro X hX
    (obtain ⟨x0, x1⟩ := hX; go_simp)
  simp only [Act.put, List.setIfInBounds_toArray, List.set_cons_zero, List.set_cons_succ]
  refine wpAnyT_ready (rs := [7]) (by kernel_rfl) (by simp) ?_
  refine AllT.cons rfl (fun K hK => ?_) AllT.nil
  go_simp
  (go_at_call 29; (with_reducible refine (clone_tx _ tx1.out hm.place).mono ?_); rintro e Y1 ⟨a1x, n1x, c1x, rfl, t1, hb1⟩)
  have hC1 := kC.out _ Y1 hC0 ltY0 hb1
  have ltY1 : w.heap.size < Y1.heap.size := Nat.lt_of_lt_of_le ltY0 hb1.size
  replace t1 := Lib.hid t1
  replace hb1 := Lib.hid hb1
  go_simp
  refine hK.out _ _ (fun _ => hC1) ?_
  clear hK K
  have hbA := Lib.hid ((bl0.trans (hb0.out.mono (by have := bl0.size; omega))).trans (hb1.out.mono (by have := bl0.size; have := hb0.out.size; omega)))
  have hY := (h2.out.below hbA.out).raise
  have t0Y := t0.out.keep (KeepI.below (hb1.out) (Nat.le_refl _))
  replace t0Y := t0Y.wide (lo' := w.heap.size + 2) (hi' := Y1.heap.size) (by have := h2.out.bT; have := h2.out.top; have := bl0.size; omega) (by have := hb1.out.size; omega)
  have t1Y := t1.out
  replace t1Y := t1Y.wide (lo' := w.heap.size + 2) (hi' := Y1.heap.size) (by have := h2.out.bT; have := h2.out.top; have := bl0.size; have := hb0.out.size; omega) (by omega)
  obtain ⟨_, _, _, kk0, ff0, _⟩ := hY.ld_out
  have lp0 : w.heap.size < Y1.heap.size := hY.b0.lt
  refine wpAnyT_ready (rs := [10]) (by kernel_rfl) (by simp) ?_
  refine AllT.cons rfl (fun K hK => ?_) AllT.nil
  go_simp
  refine hK.out _ _ (fun h => nomatch (Eq.trans (by kernel_rfl : true = _) h : true = false)) ?_
  clear hK K
  replace t1Y := t1Y.keep (hY.keep0 11 (.slice a0x n0x c0x)).1
  have hP0 := hY.put_out ⟨a0x, n0x, c0x⟩ t0Y
  obtain ⟨P0, eP0⟩ : ∃ P, Y1.setCell ⟨w.heap.size, 11, none⟩ (.slice a0x n0x c0x) = P := ⟨_, rfl⟩
  replace hP0 : CF w lo hi_ V true true true true false false false (some false) (some false) _ _ (Y1.setCell ⟨w.heap.size, 11, none⟩ (.slice a0x n0x c0x)) := hP0
  replace t1Y : TxI (w.heap.size + 2) Y1.heap.size (Y1.setCell ⟨w.heap.size, 11, none⟩ (.slice a0x n0x c0x)) ⟨a1x, n1x, c1x⟩ V.place := t1Y
  rw [eP0] at hP0 t1Y ⊢
  clear eP0
  refine wpAnyT_ready (rs := [11]) (by kernel_rfl) (by simp) ?_
  refine AllT.cons rfl (fun K hK => ?_) AllT.nil
  go_simp
  refine hK.out _ _ (fun h => nomatch (Eq.trans (by kernel_rfl : true = _) h : true = false)) ?_
  clear hK K
  refine wpAnyT_ready (rs := [12]) (by kernel_rfl) (by simp) ?_
  refine AllT.cons rfl (fun K hK => ?_) AllT.nil
  go_simp
  refine hK.out _ _ (fun h => nomatch (Eq.trans (by kernel_rfl : true = _) h : true = false)) ?_
  clear hK K
  obtain ⟨_, _, _, kk1, ff1, _⟩ := hP0.ld_place
  have lp1 : w.heap.size < P0.heap.size := hP0.b0.lt
  refine wpAnyT_ready (rs := [13]) (by kernel_rfl) (by simp) ?_
  refine AllT.cons rfl (fun K hK => ?_) AllT.nil
  go_simp
  refine hK.out _ _ (fun h => nomatch (Eq.trans (by kernel_rfl : true = _) h : true = false)) ?_
  clear hK K
  have hP1 := hP0.put_place ⟨a1x, n1x, c1x⟩ t1Y
  obtain ⟨P1, eP1⟩ : ∃ P, P0.setCell ⟨w.heap.size, 13, none⟩ (.slice a1x n1x c1x) = P := ⟨_, rfl⟩
  replace hP1 : CF w lo hi_ V true true true true true false false (some false) (some false) _ _ (P0.setCell ⟨w.heap.size, 13, none⟩ (.slice a1x n1x c1x)) := hP1
  rw [eP1] at hP1  ⊢
  clear eP1
  refine wpAnyT_done (by kernel_rfl) ⟨rfl, ?_⟩ _
  obtain ⟨T3, cur3, h3⟩ : ∃ T c, CF w lo hi_ V true true true true true false false (some false) (some false) T c P1 := ⟨_, _, hP1⟩
  clear hP0 hP1 hY
  obtain ⟨W3, eW⟩ : ∃ W, P1 = W := ⟨_, rfl⟩
  rw [eW] at h3 ⊢
  clear eW
  replace h3 := Lib.hid h3
  clear hC kC lt2 ltY bl0 hbA k0 f0 tx0 hC0 ltY0 t0 hb0 t0Y kk0 ff0 lp0 k1 f1 tx1 hC1 ltY1 t1 hb1 t1Y kk1 ff1 lp1 h2
  go_upto_region 3 with fail
  obtain ⟨a0, n0, c0, k0, f0, tx0⟩ := h3.out.ld_active
  replace tx0 := Lib.hid (BlI.keep (show BlI lo hi_ W3 ⟨a0, n0, c0⟩ V.active from tx0) (KeepI.below (bl_drew (Below.refl W3.heap.size W3)) (Nat.le_trans h3.out.hw h3.out.o.size)))
  obtain ⟨a1, n1, c1, k1, f1, tx1⟩ := h3.out.ld_lacks
  replace tx1 := Lib.hid (BlI.keep (show BlI lo hi_ W3 ⟨a1, n1, c1⟩ V.lacks from tx1) (KeepI.below (bl_drew (Below.refl W3.heap.size W3)) (Nat.le_trans h3.out.hw h3.out.o.size)))
  have lt3 : w.heap.size < W3.heap.size := h3.out.b0.lt
  have hC : (W3.drew.cell? ⟨w.heap.size, 23, none⟩ = some (.slice a0 n0 c0) ∧ W3.drew.cell? ⟨w.heap.size, 26, none⟩ = some (.slice a1 n1 c1)) := ⟨k0, k1⟩
  have kC : Hid (∀ X Y : World, (X.cell? ⟨w.heap.size, 23, none⟩ = some (.slice a0 n0 c0) ∧ X.cell? ⟨w.heap.size, 26, none⟩ = some (.slice a1 n1 c1)) → w.heap.size < X.heap.size → Below X.heap.size X Y → (Y.cell? ⟨w.heap.size, 23, none⟩ = some (.slice a0 n0 c0) ∧ Y.cell? ⟨w.heap.size, 26, none⟩ = some (.slice a1 n1 c1))) := Lib.hid (fun X Y h hl hb => ⟨(hb.cell (p := ⟨w.heap.size, 23, none⟩) hl).trans h.1, (hb.cell (p := ⟨w.heap.size, 26, none⟩) hl).trans h.2⟩)
  refine region_till (fun X => (X.cell? ⟨w.heap.size, 23, none⟩ = some (.slice a0 n0 c0) ∧ X.cell? ⟨w.heap.size, 26, none⟩ = some (.slice a1 n1 c1))) 7 (by kernel_rfl) ?_
  refine wpAnyT_take (i := 0) (v := (.pointer (some ⟨w.heap.size, 23, none⟩))) (some 34) rfl (by kernel_rfl) (by kernel_rfl) (by kernel_rfl) (by kernel_rfl) (fun _ _ _ h => absurd h np_panic) [7] (by kernel_rfl) (by kernel_rfl) (by kernel_rfl) (Or.inl ⟨by rfl, ?_⟩) hC ?_
  · intro X hX
    (obtain ⟨x0, x1⟩ := hX; go_simp)
  simp only [Act.put, List.setIfInBounds_toArray, List.set_cons_zero, List.set_cons_succ]
  refine wpAnyT_take (i := 1) (v := (.slice a0 n0 c0)) (some 35) rfl (by kernel_rfl) (by kernel_rfl) (by kernel_rfl) (by kernel_rfl) (fun _ _ _ h => absurd h np_panic) [7] (by kernel_rfl) (by kernel_rfl) (by kernel_rfl) (Or.inl ⟨by rfl, ?_⟩) hC ?_
  · intro X hX
    (obtain ⟨x0, x1⟩ := hX; go_simp)
  simp only [Act.put, List.setIfInBounds_toArray, List.set_cons_zero, List.set_cons_succ]
  refine wpAnyT_take (i := 3) (v := (.pointer (some ⟨w.heap.size, 26, none⟩))) (some 37) rfl (by kernel_rfl) (by kernel_rfl) (by kernel_rfl) (by kernel_rfl) (fun _ _ _ h => absurd h np_panic) [7] (by kernel_rfl) (by kernel_rfl) (by kernel_rfl) (Or.inl ⟨by rfl, ?_⟩) hC ?_
  · intro X hX
    (obtain ⟨x0, x1⟩ := hX; go_simp)
  simp only [Act.put, List.setIfInBounds_toArray, List.set_cons_zero, List.set_cons_succ]
  refine wpAnyT_take (i := 4) (v := (.slice a1 n1 c1)) (some 38) rfl (by kernel_rfl) (by kernel_rfl) (by kernel_rfl) (by kernel_rfl) (fun _ _ _ h => absurd h np_panic) [7] (by kernel_rfl) (by kernel_rfl) (by kernel_rfl) (Or.inl ⟨by rfl, ?_⟩) hC ?_
  · intro X hX
    (obtain ⟨x0, x1⟩ := hX; go_simp)
  simp only [Act.put, List.setIfInBounds_toArray, List.set_cons_zero, List.set_cons_succ]
  have bl0 : Below W3.heap.size W3 W3.drew := bl_drew (Below.refl W3.heap.size W3)
  have ltY : w.heap.size < W3.drew.heap.size := lt3
  refine wpAnyT_ready (rs := [2]) (by kernel_rfl) (by simp) ?_
  refine AllT.cons rfl (fun K hK => ?_) AllT.nil
  go_simp
  (go_at_call 45; (with_reducible refine (clone_bl _ tx0.out hm.active).mono ?_); rintro e Y0 ⟨a0x, n0x, c0x, rfl, t0, hb0⟩)
  have hC0 := kC.out _ Y0 hC ltY hb0
  have ltY0 : w.heap.size < Y0.heap.size := Nat.lt_of_lt_of_le ltY hb0.size
  replace tx1 := Lib.hid (tx1.out.keep (KeepI.below hb0 (by have := h3.out.hw; omega)))
  replace t0 := Lib.hid t0
  replace hb0 := Lib.hid hb0
  go_simp
  refine hK.out _ _ (fun _ => hC0) ?_
  clear hK K
  try simp only [Act.put, List.setIfInBounds_toArray, List.set_cons_zero, List.set_cons_succ]
  refine wpAnyT_take (i := 6) (v := (.pointer (some ⟨w.heap.size, 23, none⟩))) (some 40) rfl (by kernel_rfl) (by kernel_rfl) (by kernel_rfl) (by kernel_rfl) (fun _ _ _ h => absurd h np_panic) [7] (by kernel_rfl) (by kernel_rfl) (by kernel_rfl) (Or.inl ⟨by rfl, ?_⟩) hC0 ?_
  · intro X hX
    (obtain ⟨x0, x1⟩ := hX; go_simp)
  simp only [Act.put, List.setIfInBounds_toArray, List.set_cons_zero, List.set_cons_succ]
  refine wpAnyT_ready (rs := [5]) (by kernel_rfl) (by simp) ?_
  refine AllT.cons rfl (fun K hK => ?_) AllT.nil
  go_simp
  (go_at_call 45; (with_reducible refine (clone_bl _ tx1.out hm.lacks).mono ?_); rintro e Y1 ⟨a1x, n1x, c1x, rfl, t1, hb1⟩)
  have hC1 := kC.out _ Y1 hC0 ltY0 hb1
  have ltY1 : w.heap.size < Y1.heap.size := Nat.lt_of_lt_of_le ltY0 hb1.size
  replace t1 := Lib.hid t1
  replace hb1 := Lib.hid hb1
  go_simp
  refine hK.out _ _ (fun _ => hC1) ?_
  clear hK K
  have hbA := Lib.hid ((bl0.trans (hb0.out.mono (by have := bl0.size; omega))).trans (hb1.out.mono (by have := bl0.size; have := hb0.out.size; omega)))
  have hY := (h3.out.below hbA.out).raise
  have t0Y := t0.out.keep (KeepI.below (hb1.out) (Nat.le_refl _))
  replace t0Y := t0Y.wide (lo' := w.heap.size + 2) (hi' := Y1.heap.size) (by have := h3.out.bT; have := h3.out.top; have := bl0.size; omega) (by have := hb1.out.size; omega)
  have t1Y := t1.out
  replace t1Y := t1Y.wide (lo' := w.heap.size + 2) (hi' := Y1.heap.size) (by have := h3.out.bT; have := h3.out.top; have := bl0.size; have := hb0.out.size; omega) (by omega)
  obtain ⟨_, _, _, kk0, ff0, _⟩ := hY.ld_active
  have lp0 : w.heap.size < Y1.heap.size := hY.b0.lt
  refine wpAnyT_ready (rs := [7]) (by kernel_rfl) (by simp) ?_
  refine AllT.cons rfl (fun K hK => ?_) AllT.nil
  go_simp
  refine hK.out _ _ (fun h => nomatch (Eq.trans (by kernel_rfl : true = _) h : true = false)) ?_
  clear hK K
  replace t1Y := t1Y.keep (hY.keep0 23 (.slice a0x n0x c0x)).1
  have hP0 := hY.put_active ⟨a0x, n0x, c0x⟩ t0Y
  obtain ⟨P0, eP0⟩ : ∃ P, Y1.setCell ⟨w.heap.size, 23, none⟩ (.slice a0x n0x c0x) = P := ⟨_, rfl⟩
  replace hP0 : CF w lo hi_ V true true true true true true false (some false) (some false) _ _ (Y1.setCell ⟨w.heap.size, 23, none⟩ (.slice a0x n0x c0x)) := hP0
  replace t1Y : BlI (w.heap.size + 2) Y1.heap.size (Y1.setCell ⟨w.heap.size, 23, none⟩ (.slice a0x n0x c0x)) ⟨a1x, n1x, c1x⟩ V.lacks := t1Y
  rw [eP0] at hP0 t1Y ⊢
  clear eP0
  refine wpAnyT_ready (rs := [8]) (by kernel_rfl) (by simp) ?_
  refine AllT.cons rfl (fun K hK => ?_) AllT.nil
  go_simp
  refine hK.out _ _ (fun h => nomatch (Eq.trans (by kernel_rfl : true = _) h : true = false)) ?_
  clear hK K
  obtain ⟨_, _, _, kk1, ff1, _⟩ := hP0.ld_lacks
  have lp1 : w.heap.size < P0.heap.size := hP0.b0.lt
  refine wpAnyT_ready (rs := [9]) (by kernel_rfl) (by simp) ?_
  refine AllT.cons rfl (fun K hK => ?_) AllT.nil
  go_simp
  refine hK.out _ _ (fun h => nomatch (Eq.trans (by kernel_rfl : true = _) h : true = false)) ?_
  clear hK K
  have hP1 := hP0.put_lacks ⟨a1x, n1x, c1x⟩ t1Y
  obtain ⟨P1, eP1⟩ : ∃ P, P0.setCell ⟨w.heap.size, 26, none⟩ (.slice a1x n1x c1x) = P := ⟨_, rfl⟩
  replace hP1 : CF w lo hi_ V true true true true true true true (some false) (some false) _ _ (P0.setCell ⟨w.heap.size, 26, none⟩ (.slice a1x n1x c1x)) := hP1
  rw [eP1] at hP1  ⊢
  clear eP1
  refine wpAnyT_done (by kernel_rfl) ⟨rfl, ?_⟩ _
  obtain ⟨T4, cur4, h4⟩ : ∃ T c, CF w lo hi_ V true true true true true true true (some false) (some false) T c P1 := ⟨_, _, hP1⟩
  clear hP0 hP1 hY
  obtain ⟨W4, eW⟩ : ∃ W, P1 = W := ⟨_, rfl⟩
  rw [eW] at h4 ⊢
  clear eW
  replace h4 := Lib.hid h4
  clear hC kC lt3 ltY bl0 hbA k0 f0 tx0 hC0 ltY0 t0 hb0 t0Y kk0 ff0 lp0 k1 f1 tx1 hC1 ltY1 t1 hb1 t1Y kk1 ff1 lp1 h3
  go_upto_region 4 with fail
  obtain ⟨a, n, c, k0, f0, tx⟩ := h4.out.ld_waits
  have lt1 : w.heap.size < W4.heap.size := h4.out.b0.lt
  have hW := Lib.hid (Nat.le_trans h4.out.hw h4.out.o.size)
  have hc0 := Lib.hid (clone_pr_waits W4 (show PrI kindV lo hi_ W4 ⟨a, n, c⟩ V.waits from tx) hW.out hm.waits)
  clear tx
  go_upto_region 5 with (go_at_call 46; (with_reducible refine hc0.out.mono ?_); rintro e X ⟨a2, c2, rfl, t2, hb2⟩; replace t2 := Lib.hid t2; have g2 := h4.out.below hb2; have lt2 : w.heap.size < X.heap.size := g2.b0.lt; obtain ⟨_, _, _, k2, f2, _⟩ := g2.ld_waits; have g3 := g2.hole_waits ⟨a2, V.waits.length, c2⟩; replace g3 := Lib.hid g3; replace hb2 := Lib.hid hb2; clear g2)
  have g4 := Lib.hid (t2.out.box (b := w.heap.size) (lt1) h4.out.hw 24 (.slice a2 V.waits.length c2))
  obtain ⟨B, hB⟩ : ∃ B, W4.heap.size = B := ⟨_, rfl⟩
  obtain ⟨N, hN⟩ : ∃ N, X.heap.size = N := ⟨_, rfl⟩
  obtain ⟨T5, cur5, hT5, he, h5⟩ : ∃ T c, T ≤ W4.heap.size ∧ c.waits = ⟨a2, V.waits.length, c2⟩ ∧ CF w lo hi_ V true true true true true true true none (some false) T c (X.setCell ⟨w.heap.size, 24, none⟩ (.slice a2 V.waits.length c2)) := ⟨_, _, h4.out.top, rfl, g3.out⟩
  clear k2 f2 lt2 k0 f0 hb2 g3 hW hc0
  have lt0 : w.heap.size < B := hB ▸ lt1
  rw [hB] at hT5 g4
  rw [hN] at g4
  clear t2 h4 lt1
  obtain ⟨Y, hY⟩ : ∃ W3, X.setCell ⟨w.heap.size, 24, none⟩ (.slice a2 V.waits.length c2) = W3 := ⟨_, rfl⟩
  rw [hY] at h5 g4 ⊢
  clear hY hB hN
  obtain ⟨L, hL⟩ : ∃ L, V.waits.length = L := ⟨_, rfl⟩
  rw [hL] at he g4
  try rw [hL]
  have qL : L ≤ 1000000000000 := by have := hm.waits; omega
  replace g4 := Lib.hid g4
  replace he := Lib.hid he
  replace h5 := Lib.hid h5
  have kY : Y.cell? ⟨w.heap.size, 24, none⟩ = some (.slice a2 L c2) := by rw [h5.out.b0.cell]; show some cur5.waits.v = _; rw [he.out]
  have ltY : w.heap.size < Y.heap.size := h5.out.b0.lt
  go_wp2_with fail
  go_loopg [3, 49] L (fun gh iv v wr => ∃ m : Nat, gh = L - m ∧ v = .int .i64 (m : Int) ∧ m ≤ L ∧ Hid (PrL kindV V.waits 52 B N lo hi_ (.slice a2 L c2) m wr) ∧ Hid (CF w lo hi_ V true true true true true true true none (some false) T5 cur5 wr))
  case atStart => exact ⟨0, rfl, rfl, Nat.zero_le _, g4, h5⟩
  obtain ⟨m, hgm, rfl, hmL, hp, hcf⟩ := hrel
  replace hgm := hgm.symm
  subst hgm
  clear g4 h5 kY ltY
  have k24 : wr.cell? ⟨w.heap.size, 24, none⟩ = some (.slice a2 L c2) := by rw [hcf.out.b0.cell]; show some cur5.waits.v = _; rw [he.out]
  have lt1 : w.heap.size < wr.heap.size := hcf.out.b0.lt
  rcases Nat.lt_or_ge m L with hlt | hlt
  · have hlt' : m < V.waits.length := by omega
    obtain ⟨g, x, rfl, hg1, hg2, kx, fx, tx⟩ := hp.out.at' hlt'
    obtain ⟨xa, xn, xc⟩ := x
    have q1 : (0 : Int) ≤ (m : Int) := by omega
    have q2 : (m : Int) < (L : Int) := by omega
    have lt2 : g < wr.heap.size := Nat.lt_of_lt_of_le hg2 hp.out.top
    have hne : w.heap.size ≠ g := by omega
    have tx' := Lib.hid (tx.keep (KeepI.below (bl_drew (Below.refl wr.heap.size wr)) (Nat.le_trans hcf.out.hw hcf.out.o.size)))
    have hl := Lib.hid (hm.wait m hlt')
    go_upto_region 8 with fail
    have hC : wr.drew.cell? ⟨w.heap.size, 24, none⟩ = some (.slice (some ⟨g, 0, none⟩) L c2) ∧ wr.drew.cell? ⟨g, m * 2 + 1, none⟩ = some (.slice xa xn xc) := ⟨k24, kx⟩
    refine region_till (fun X => X.cell? ⟨w.heap.size, 24, none⟩ = some (.slice (some ⟨g, 0, none⟩) L c2) ∧ X.cell? ⟨g, m * 2 + 1, none⟩ = some (.slice xa xn xc)) 12 (by kernel_rfl) ?_
    refine wpAnyT_take (i := 0) (v := (.pointer (some ⟨w.heap.size, 24, none⟩))) (some 52) rfl (by kernel_rfl) (by kernel_rfl) (by kernel_rfl) (by kernel_rfl) (fun _ _ _ h => absurd h np_panic) [12] (by kernel_rfl) (by kernel_rfl) (by kernel_rfl) (Or.inl ⟨by rfl, ?_⟩) hC ?_
    · intro X hX
      (obtain ⟨x1, x2⟩ := hX; go_simp)
    simp only [Act.put, List.setIfInBounds_toArray, List.set_cons_zero, List.set_cons_succ]
    refine wpAnyT_take (i := 1) (v := (.slice (some ⟨g, 0, none⟩) L c2)) (some 53) rfl (by kernel_rfl) (by kernel_rfl) (by kernel_rfl) (by kernel_rfl) (fun _ _ _ h => absurd h np_panic) [12] (by kernel_rfl) (by kernel_rfl) (by kernel_rfl) (Or.inl ⟨by rfl, ?_⟩) hC ?_
    · intro X hX
      (obtain ⟨x1, x2⟩ := hX; go_simp)
    simp only [Act.put, List.setIfInBounds_toArray, List.set_cons_zero, List.set_cons_succ]
    refine wpAnyT_take (i := 2) (v := (.int .i64 (m : Int))) (some 54) rfl (by kernel_rfl) (by kernel_rfl) (by kernel_rfl) (by kernel_rfl) (fun _ _ _ h => absurd h np_panic) [12] (by kernel_rfl) (by kernel_rfl) (by kernel_rfl) (Or.inl ⟨by rfl, ?_⟩) hC ?_
    · intro X hX
      (obtain ⟨x1, x2⟩ := hX; go_simp)
    simp only [Act.put, List.setIfInBounds_toArray, List.set_cons_zero, List.set_cons_succ]
    refine wpAnyT_take (i := 3) (v := (.pointer (some ⟨w.heap.size, 24, none⟩))) (some 55) rfl (by kernel_rfl) (by kernel_rfl) (by kernel_rfl) (by kernel_rfl) (fun _ _ _ h => absurd h np_panic) [12] (by kernel_rfl) (by kernel_rfl) (by kernel_rfl) (Or.inl ⟨by rfl, ?_⟩) hC ?_
    · intro X hX
      (obtain ⟨x1, x2⟩ := hX; go_simp)
    simp only [Act.put, List.setIfInBounds_toArray, List.set_cons_zero, List.set_cons_succ]
    refine wpAnyT_take (i := 4) (v := (.slice (some ⟨g, 0, none⟩) L c2)) (some 56) rfl (by kernel_rfl) (by kernel_rfl) (by kernel_rfl) (by kernel_rfl) (fun _ _ _ h => absurd h np_panic) [12] (by kernel_rfl) (by kernel_rfl) (by kernel_rfl) (Or.inl ⟨by rfl, ?_⟩) hC ?_
    · intro X hX
      (obtain ⟨x1, x2⟩ := hX; go_simp)
    simp only [Act.put, List.setIfInBounds_toArray, List.set_cons_zero, List.set_cons_succ]
    refine wpAnyT_take (i := 5) (v := (.int .i64 (m : Int))) (some 57) rfl (by kernel_rfl) (by kernel_rfl) (by kernel_rfl) (by kernel_rfl) (fun _ _ _ h => absurd h np_panic) [12] (by kernel_rfl) (by kernel_rfl) (by kernel_rfl) (Or.inl ⟨by rfl, ?_⟩) hC ?_
    · intro X hX
      (obtain ⟨x1, x2⟩ := hX; go_simp)
    simp only [Act.put, List.setIfInBounds_toArray, List.set_cons_zero, List.set_cons_succ]
    refine wpAnyT_take (i := 6) (v := (.pointer (some ⟨g, m * 2, none⟩))) (some 58) rfl (by kernel_rfl) (by kernel_rfl) (by kernel_rfl) (by kernel_rfl) (fun _ _ _ h => absurd h np_panic) [12] (by kernel_rfl) (by kernel_rfl) (by kernel_rfl) (Or.inl ⟨by rfl, ?_⟩) hC ?_
    · intro X hX
      (obtain ⟨x1, x2⟩ := hX; go_simp)
    simp only [Act.put, List.setIfInBounds_toArray, List.set_cons_zero, List.set_cons_succ]
    refine wpAnyT_take (i := 7) (v := (.pointer (some ⟨g, m * 2 + 1, none⟩))) (some 59) rfl (by kernel_rfl) (by kernel_rfl) (by kernel_rfl) (by kernel_rfl) (fun _ _ _ h => absurd h np_panic) [12] (by kernel_rfl) (by kernel_rfl) (by kernel_rfl) (Or.inl ⟨by rfl, ?_⟩) hC ?_
    · intro X hX
      (obtain ⟨x1, x2⟩ := hX; go_simp)
    simp only [Act.put, List.setIfInBounds_toArray, List.set_cons_zero, List.set_cons_succ]
    refine wpAnyT_take (i := 8) (v := (.slice xa xn xc)) (some 60) rfl (by kernel_rfl) (by kernel_rfl) (by kernel_rfl) (by kernel_rfl) (fun _ _ _ h => absurd h np_panic) [12] (by kernel_rfl) (by kernel_rfl) (by kernel_rfl) (Or.inl ⟨by rfl, ?_⟩) hC ?_
    · intro X hX
      (obtain ⟨x1, x2⟩ := hX; go_simp)
    simp only [Act.put, List.setIfInBounds_toArray, List.set_cons_zero, List.set_cons_succ]
    refine wpAnyT_ready (rs := [9]) (by kernel_rfl) (by simp) ?_
    refine AllT.cons rfl (fun K hK => ?_) AllT.nil
    go_simp
    (go_at_call 29; (with_reducible refine (clone_tx _ tx'.out hl.out).mono ?_); rintro e Y ⟨a5, n5, c5, rfl, t5, hb5⟩)
    have k5 := (hb5.cell (p := ⟨g, m * 2 + 1, none⟩) lt2).trans kx
    have f5 := (hb5.frozen (p := ⟨g, m * 2 + 1, none⟩) lt2).trans fx
    have k25 := (hb5.cell (p := ⟨w.heap.size, 24, none⟩) lt1).trans k24
    have lt5 : g < Y.heap.size := Nat.lt_of_lt_of_le lt2 hb5.size
    have hcY := Lib.hid ((hcf.out.below (bl_drew (Below.refl wr.heap.size wr) |>.trans hb5)).other (g := g) (Nat.le_trans hT5 hg1) (m * 2 + 1) (.slice a5 n5 c5))
    have hpY := Lib.hid (PrL.put' (s := ⟨a5, n5, c5⟩) hL hp.out hlt' (bl_drew (Below.refl wr.heap.size wr) |>.trans hb5) t5)
    replace hb5 := Lib.hid hb5
    replace t5 := Lib.hid t5
    go_simp
    refine hK.out _ _ (fun _ => ⟨k25, k5⟩) ?_
    clear hK K
    refine wpAnyT_ready (rs := [10]) (by kernel_rfl) (by simp) ?_
    refine AllT.cons rfl (fun K hK => ?_) AllT.nil
    go_simp
    refine hK.out _ _ (fun _ => ⟨k25, k5⟩) ?_
    clear hK K
    refine wpAnyT_ready (rs := [11]) (by kernel_rfl) (by simp) ?_
    refine AllT.cons rfl (fun K hK => ?_) AllT.nil
    go_simp
    refine hK.out _ _ (fun _ => ⟨k25, k5⟩) ?_
    clear hK K
    refine wpAnyT_ready (rs := [12]) (by kernel_rfl) (by simp) ?_
    refine AllT.cons rfl (fun K hK => ?_) AllT.nil
    go_simp
    refine hK.out _ _ (fun h => nomatch (Eq.trans (by kernel_rfl : true = _) h : true = false)) ?_
    clear hK K
    refine wpAnyT_done (by kernel_rfl) ⟨rfl, ?_⟩ _
    go_wp2_with fail
    go_roundg (L - (m + 1))
    case measure => omega
    case rel => exact ⟨m + 1, rfl, by push_cast; rfl, by omega, hpY, hcY⟩
  obtain rfl : m = L := Nat.le_antisymm hmL hlt
  have hdone := hp.out.done' hL hm.waits
  obtain ⟨T6, h6⟩ : ∃ T, CF w lo hi_ V true true true true true true true (some true) (some false) T cur5 wr := ⟨_, hcf.out.fill_waits (by rw [he.out]; exact hdone.wide (Nat.le_trans hcf.out.bT hT5) (Nat.le_refl _))⟩
  have q1 : ¬ ((m : Int) < (m : Int)) := by omega
  clear hp hcf he hdone hT5 hlt hmL
  rename World => W6
  obtain ⟨a, n, c, k0, f0, tx⟩ := h6.ld_files
  have tx : PrI strV lo hi_ W6 ⟨a, n, c⟩ V.files := tx
  have hc0 := Lib.hid (copyFiles_any W6 tx (Nat.le_trans h6.hw h6.o.size) hm.files hm.file)
  replace h6 := Lib.hid h6
  clear tx
  go_upto_region 11 with (go_at_call 47; (with_reducible refine hc0.out.mono ?_); rintro e X ⟨a2, n2, c2, rfl, t2, hb2⟩; have g2 := h6.out.below hb2; have lt2 : w.heap.size < X.heap.size := g2.b0.lt; obtain ⟨_, _, _, k2, f2, _⟩ := g2.ld_files; have g3 := g2.raise.put_files ⟨a2, n2, c2⟩ (t2.wide (Nat.le_trans h6.out.bT h6.out.top) (Nat.le_refl _)); replace g3 := Lib.hid g3; clear g2 t2 hb2)
  obtain ⟨T7, cur7, h7⟩ : ∃ T c, CF w lo hi_ V true true true true true true true (some true) (some true) T c (X.setCell ⟨w.heap.size, 25, none⟩ (.slice a2 n2 c2)) := ⟨_, _, g3.out⟩
  clear g3 k2 f2 lt2 k0 f0 h6 hc0
  obtain ⟨W7, eW⟩ : ∃ W, X.setCell ⟨w.heap.size, 25, none⟩ (.slice a2 n2 c2) = W := ⟨_, rfl⟩
  rw [eW] at h7 ⊢
  clear eW
  obtain ⟨D, hD⟩ : ∃ D, cur7.cells.toArray = D := ⟨_, rfl⟩
  have L1 := stLoad_is cur7 h7.b0
  obtain ⟨Z, S1, hBZ, hOZ⟩ := stStore_is cur7 h7.b1 rfl
  have L2 := stLoad_is cur7 hBZ
  rw [hD] at L1 S1 L2
  have hbT := h7.bT
  have hkeep : KeepI (w.heap.size + 2) T7 W7 Z := KeepI.only hOZ h7.top (fun k _ _ => by omega)
  have hfin := (h7.end.keep hkeep).wide (lo' := w.heap.size) (hi' := Z.heap.size) (Nat.le_add_right _ _) (Nat.le_trans h7.top hOZ.size) (Nat.le_refl _)
  have hbZ := h7.o.trans (Only.below hOZ (N := w.heap.size) h7.o.size (fun k hk => by rw [hk]; omega))
  replace hfin := Lib.hid hfin
  replace hbZ := Lib.hid hbZ
  replace hD := Lib.hid hD
  clear h7 hBZ hOZ hkeep hbT
  go_wp2_with fail
  exact bodyPost_ret (v := .agg D) (by simp [results, Tryz.results18, ↓load_st, asAddr, L2, Result.andThen]) rfl ⟨cur7, by rw [hD.out], hfin.out, hbZ.out⟩
end Go.Proofs.YtepdfkgadigafaaGreatDoor
