/-
  The reference's Copy of a state; of chapter 21. (Printed by gen_cpy2.py.)
  Conditions: as each theorem states them.
-/
import Derived.Test.YtfidmpkblmebeaaCpy1
import Derived.Deep.LoopGhost
import Derived.Deep.CutBlock
import Derived.Test.YtfidmpkblmebeaaRegT
namespace Go.Proofs.Ytfidmpkblmebeaa
open Go.RowKit
set_option linter.unusedVariables false
set_option linter.unusedSimpArgs false
attribute [local go_sem ↓] load_st store_st
/-- rows that fit into memory -/
structure MidV (V : StV) : Prop where
  pat : V.pat.length ≤ 1000000000000
  hold : V.hold.length ≤ 1000000000000
  rest : V.rest.length ≤ 1000000000000
  out : V.out.length ≤ 1000000000000
  place : V.place.length ≤ 1000000000000
  active : V.active.length ≤ 1000000000000
  lacks : V.lacks.length ≤ 1000000000000
  waits : V.waits.length ≤ 1000000000000
  files : V.files.length ≤ 1000000000000
  wait : ∀ (i : Nat) (h : i < V.waits.length), (V.waits[i]).2.length ≤ 1000000000000
  file : ∀ (i : Nat) (h : i < V.files.length), (V.files[i]).2.length ≤ 1000000000000
theorem SmallV.mid {V : StV} (h : SmallV V) : MidV V :=
  ⟨Nat.le_trans h.pat (by decide), Nat.le_trans h.hold (by decide), Nat.le_trans h.rest (by decide), Nat.le_trans h.out (by decide), Nat.le_trans h.place (by decide), Nat.le_trans h.active (by decide), Nat.le_trans h.lacks (by decide), Nat.le_trans h.waits (by decide), Nat.le_trans h.files (by decide),
    fun i hi => Nat.le_trans (h.wait _ (List.getElem_mem hi)) (by decide), fun i hi => Nat.le_trans (h.file _ (List.getElem_mem hi)).1 (by decide)⟩
set_option maxHeartbeats 8000000 in
set_option maxRecDepth 100000 in
theorem rcopy_any (w : World) (s : StC) (V : StV) {lo hi_ : Nat} (hs : SIn lo hi_ s V w) (hm : MidV V) :
    Calls Try.prog 8 #[.agg s.cells.toArray] w fun e w' => ∃ s' : StC, e = .returned (.agg s'.cells.toArray) ∧ SIn w.heap.size w'.heap.size s' V w' ∧ Below w.heap.size w w' := by
  obtain ⟨C, hC⟩ : ∃ C, s.cells.toArray = C := ⟨_, rfl⟩
  have h0 := CF.start hs
  rw [hC] at h0 ⊢
  replace hC := Lib.hid hC
  obtain ⟨W1, hW1⟩ : ∃ W1, (w.alloc (.cells C 43)).alloc (.cells zeroC.cells.toArray 43) = W1 := ⟨_, rfl⟩
  rw [hW1] at h0
  replace hW1 := Lib.hid hW1
  unfold zeroC StC.cells at hW1
  go_enter Try.func8, Try.ntmps8
  go_upto_region 1 with fail
  rw [hW1.out]
  clear hW1
  obtain ⟨cur1, h1⟩ : ∃ c, CF w lo hi_ V false false false false false false false (some false) (some false) (w.heap.size + 2) c W1 := ⟨_, h0⟩
  clear h0
  replace h1 := Lib.hid h1
  obtain ⟨a, n, c, k0, f0, tx⟩ := h1.out.ld_pat
  replace tx := Lib.hid (show TxI lo hi_ W1 ⟨a, n, c⟩ V.pat from tx)
  have lt1 : w.heap.size < W1.heap.size := h1.out.b0.lt
  have hl := Lib.hid hm.pat
  go_upto_region 2 with (go_at_call 17; (with_reducible refine (rcopy_tx _ tx.out hl.out).mono ?_); rintro e X ⟨a2, n2, c2, rfl, t2, hb2⟩; have g2 := h1.out.below hb2; have lt2 : w.heap.size < X.heap.size := g2.b0.lt; obtain ⟨_, _, _, k2, f2, _⟩ := g2.ld_pat; have g3 := g2.raise.put_pat ⟨a2, n2, c2⟩ (t2.wide (Nat.le_trans h1.out.bT h1.out.top) (Nat.le_refl _)); replace g3 := Lib.hid g3; clear g2 t2 hb2)
  obtain ⟨T2, cur2, h2⟩ : ∃ T c, CF w lo hi_ V true false false false false false false (some false) (some false) T c (X.setCell ⟨w.heap.size, 0, none⟩ (.slice a2 n2 c2)) := ⟨_, _, g3.out⟩
  clear g3 k2 f2 lt2 k0 f0 lt1 h1 tx hl
  obtain ⟨W2, hW⟩ : ∃ W3, X.setCell ⟨w.heap.size, 0, none⟩ (.slice a2 n2 c2) = W3 := ⟨_, rfl⟩
  rw [hW] at h2 ⊢
  clear hW
  replace h2 := Lib.hid h2
  obtain ⟨a, n, c, k0, f0, tx⟩ := h2.out.ld_hold
  replace tx := Lib.hid (show TxI lo hi_ W2 ⟨a, n, c⟩ V.hold from tx)
  have lt1 : w.heap.size < W2.heap.size := h2.out.b0.lt
  have hl := Lib.hid hm.hold
  go_upto_region 3 with (go_at_call 17; (with_reducible refine (rcopy_tx _ tx.out hl.out).mono ?_); rintro e X ⟨a2, n2, c2, rfl, t2, hb2⟩; have g2 := h2.out.below hb2; have lt2 : w.heap.size < X.heap.size := g2.b0.lt; obtain ⟨_, _, _, k2, f2, _⟩ := g2.ld_hold; have g3 := g2.raise.put_hold ⟨a2, n2, c2⟩ (t2.wide (Nat.le_trans h2.out.bT h2.out.top) (Nat.le_refl _)); replace g3 := Lib.hid g3; clear g2 t2 hb2)
  obtain ⟨T3, cur3, h3⟩ : ∃ T c, CF w lo hi_ V true true false false false false false (some false) (some false) T c (X.setCell ⟨w.heap.size, 1, none⟩ (.slice a2 n2 c2)) := ⟨_, _, g3.out⟩
  clear g3 k2 f2 lt2 k0 f0 lt1 h2 tx hl
  obtain ⟨W3, hW⟩ : ∃ W3, X.setCell ⟨w.heap.size, 1, none⟩ (.slice a2 n2 c2) = W3 := ⟨_, rfl⟩
  rw [hW] at h3 ⊢
  clear hW
  replace h3 := Lib.hid h3
  obtain ⟨a, n, c, k0, f0, tx⟩ := h3.out.ld_rest
  replace tx := Lib.hid (show TxI lo hi_ W3 ⟨a, n, c⟩ V.rest from tx)
  have lt1 : w.heap.size < W3.heap.size := h3.out.b0.lt
  have hl := Lib.hid hm.rest
  go_upto_region 4 with (go_at_call 17; (with_reducible refine (rcopy_tx _ tx.out hl.out).mono ?_); rintro e X ⟨a2, n2, c2, rfl, t2, hb2⟩; have g2 := h3.out.below hb2; have lt2 : w.heap.size < X.heap.size := g2.b0.lt; obtain ⟨_, _, _, k2, f2, _⟩ := g2.ld_rest; have g3 := g2.raise.put_rest ⟨a2, n2, c2⟩ (t2.wide (Nat.le_trans h3.out.bT h3.out.top) (Nat.le_refl _)); replace g3 := Lib.hid g3; clear g2 t2 hb2)
  obtain ⟨T4, cur4, h4⟩ : ∃ T c, CF w lo hi_ V true true true false false false false (some false) (some false) T c (X.setCell ⟨w.heap.size, 10, none⟩ (.slice a2 n2 c2)) := ⟨_, _, g3.out⟩
  clear g3 k2 f2 lt2 k0 f0 lt1 h3 tx hl
  obtain ⟨W4, hW⟩ : ∃ W3, X.setCell ⟨w.heap.size, 10, none⟩ (.slice a2 n2 c2) = W3 := ⟨_, rfl⟩
  rw [hW] at h4 ⊢
  clear hW
  replace h4 := Lib.hid h4
  obtain ⟨a, n, c, k0, f0, tx⟩ := h4.out.ld_out
  replace tx := Lib.hid (show TxI lo hi_ W4 ⟨a, n, c⟩ V.out from tx)
  have lt1 : w.heap.size < W4.heap.size := h4.out.b0.lt
  have hl := Lib.hid hm.out
  go_upto_region 5 with (go_at_call 17; (with_reducible refine (rcopy_tx _ tx.out hl.out).mono ?_); rintro e X ⟨a2, n2, c2, rfl, t2, hb2⟩; have g2 := h4.out.below hb2; have lt2 : w.heap.size < X.heap.size := g2.b0.lt; obtain ⟨_, _, _, k2, f2, _⟩ := g2.ld_out; have g3 := g2.raise.put_out ⟨a2, n2, c2⟩ (t2.wide (Nat.le_trans h4.out.bT h4.out.top) (Nat.le_refl _)); replace g3 := Lib.hid g3; clear g2 t2 hb2)
  obtain ⟨T5, cur5, h5⟩ : ∃ T c, CF w lo hi_ V true true true true false false false (some false) (some false) T c (X.setCell ⟨w.heap.size, 11, none⟩ (.slice a2 n2 c2)) := ⟨_, _, g3.out⟩
  clear g3 k2 f2 lt2 k0 f0 lt1 h4 tx hl
  obtain ⟨W5, hW⟩ : ∃ W3, X.setCell ⟨w.heap.size, 11, none⟩ (.slice a2 n2 c2) = W3 := ⟨_, rfl⟩
  rw [hW] at h5 ⊢
  clear hW
  replace h5 := Lib.hid h5
  obtain ⟨a, n, c, k0, f0, tx⟩ := h5.out.ld_place
  replace tx := Lib.hid (show TxI lo hi_ W5 ⟨a, n, c⟩ V.place from tx)
  have lt1 : w.heap.size < W5.heap.size := h5.out.b0.lt
  have hl := Lib.hid hm.place
  go_upto_region 6 with (go_at_call 17; (with_reducible refine (rcopy_tx _ tx.out hl.out).mono ?_); rintro e X ⟨a2, n2, c2, rfl, t2, hb2⟩; have g2 := h5.out.below hb2; have lt2 : w.heap.size < X.heap.size := g2.b0.lt; obtain ⟨_, _, _, k2, f2, _⟩ := g2.ld_place; have g3 := g2.raise.put_place ⟨a2, n2, c2⟩ (t2.wide (Nat.le_trans h5.out.bT h5.out.top) (Nat.le_refl _)); replace g3 := Lib.hid g3; clear g2 t2 hb2)
  obtain ⟨T6, cur6, h6⟩ : ∃ T c, CF w lo hi_ V true true true true true false false (some false) (some false) T c (X.setCell ⟨w.heap.size, 13, none⟩ (.slice a2 n2 c2)) := ⟨_, _, g3.out⟩
  clear g3 k2 f2 lt2 k0 f0 lt1 h5 tx hl
  obtain ⟨W6, hW⟩ : ∃ W3, X.setCell ⟨w.heap.size, 13, none⟩ (.slice a2 n2 c2) = W3 := ⟨_, rfl⟩
  rw [hW] at h6 ⊢
  clear hW
  replace h6 := Lib.hid h6
  obtain ⟨a, n, c, k0, f0, tx⟩ := h6.out.ld_active
  have lt1 : w.heap.size < W6.heap.size := h6.out.b0.lt
  have lt1b : w.heap.size < W6.heap.size + 1 := Nat.lt_succ_of_lt lt1
  obtain ⟨i0, hi, hz0, hz1, hz2⟩ := info_parts' info_bools
  have hA := Lib.hid (bl_alloc (Below.refl W6.heap.size W6) (.cells #[] 4))
  have hown := Lib.hid (World.ownsRow_made (base := W6.heap.size) (e := 4) (size := 1) W6 #[] 0 (Nat.le_refl _) (by decide) rfl)
  have hsr := src_bl (show BlI lo hi_ W6 ⟨a, n, c⟩ V.active from tx) hm.active
  have hsrc := Lib.hid (hsr.src.below hA.out)
  have hlen := Lib.hid hsr.len
  have hone := Lib.hid hsr.one
  have hsm : n ≤ 1000000000000 := hsr.small
  have hnn : n = V.active.length := tx.1
  have hl := Lib.hid hm.active
  replace hnn := Lib.hid hnn
  clear hsr tx
  go_upto_region 7 with (at_builtin; refine wpList_append_src _ rfl (.tmp 35) (.tmp 37) 39 rfl W6.heap.size 4 i0 (.bool false) 1 1 Try.underlying39 hi hz0 hz1 hz2 rfl (by decide) _ _ _ rfl hown.out _ n _ rfl hsrc.out hlen.out hone.out (by unfold maxLen; omega) (by omega) (by simp) ?_; intro v2 X hown2 hgrow2; have hb2 : Below W6.heap.size W6 X := hA.out.grown hgrow2 (by simp) (fun j hj => (hown.out.lt j hj).1); rw [Nat.zero_add, List.nil_append, hnn.out] at hown2; obtain ⟨⟨a2, n2, c2⟩, rfl, t2⟩ := bl_own hown2 hl.out; have g2 := h6.out.below hb2; have lt2 : w.heap.size < X.heap.size := g2.b0.lt; obtain ⟨_, _, _, k2, f2, _⟩ := g2.ld_active; have g3 := g2.raise.put_active ⟨a2, n2, c2⟩ (t2.wide (Nat.le_trans h6.out.bT h6.out.top) (Nat.le_refl _)); replace g3 := Lib.hid g3; clear g2 t2 hb2 hown2 hgrow2)
  obtain ⟨T7, cur7, h7⟩ : ∃ T c, CF w lo hi_ V true true true true true true false (some false) (some false) T c (X.setCell ⟨w.heap.size, 23, none⟩ (.slice a2 n2 c2)) := ⟨_, _, g3.out⟩
  clear g3 k2 f2 lt2 k0 f0 lt1 h6 hnn hsm hone hlen hsrc hown hA lt1b hi hz0 hz1 hz2 i0 hl
  obtain ⟨W7, hW⟩ : ∃ W3, X.setCell ⟨w.heap.size, 23, none⟩ (.slice a2 n2 c2) = W3 := ⟨_, rfl⟩
  rw [hW] at h7 ⊢
  clear hW
  replace h7 := Lib.hid h7
  obtain ⟨a, n, c, k0, f0, tx⟩ := h7.out.ld_lacks
  have lt1 : w.heap.size < W7.heap.size := h7.out.b0.lt
  have lt1b : w.heap.size < W7.heap.size + 1 := Nat.lt_succ_of_lt lt1
  obtain ⟨i0, hi, hz0, hz1, hz2⟩ := info_parts' info_bools
  have hA := Lib.hid (bl_alloc (Below.refl W7.heap.size W7) (.cells #[] 4))
  have hown := Lib.hid (World.ownsRow_made (base := W7.heap.size) (e := 4) (size := 1) W7 #[] 0 (Nat.le_refl _) (by decide) rfl)
  have hsr := src_bl (show BlI lo hi_ W7 ⟨a, n, c⟩ V.lacks from tx) hm.lacks
  have hsrc := Lib.hid (hsr.src.below hA.out)
  have hlen := Lib.hid hsr.len
  have hone := Lib.hid hsr.one
  have hsm : n ≤ 1000000000000 := hsr.small
  have hnn : n = V.lacks.length := tx.1
  have hl := Lib.hid hm.lacks
  replace hnn := Lib.hid hnn
  clear hsr tx
  go_upto_region 8 with (at_builtin; refine wpList_append_src _ rfl (.tmp 40) (.tmp 42) 39 rfl W7.heap.size 4 i0 (.bool false) 1 1 Try.underlying39 hi hz0 hz1 hz2 rfl (by decide) _ _ _ rfl hown.out _ n _ rfl hsrc.out hlen.out hone.out (by unfold maxLen; omega) (by omega) (by simp) ?_; intro v2 X hown2 hgrow2; have hb2 : Below W7.heap.size W7 X := hA.out.grown hgrow2 (by simp) (fun j hj => (hown.out.lt j hj).1); rw [Nat.zero_add, List.nil_append, hnn.out] at hown2; obtain ⟨⟨a2, n2, c2⟩, rfl, t2⟩ := bl_own hown2 hl.out; have g2 := h7.out.below hb2; have lt2 : w.heap.size < X.heap.size := g2.b0.lt; obtain ⟨_, _, _, k2, f2, _⟩ := g2.ld_lacks; have g3 := g2.raise.put_lacks ⟨a2, n2, c2⟩ (t2.wide (Nat.le_trans h7.out.bT h7.out.top) (Nat.le_refl _)); replace g3 := Lib.hid g3; clear g2 t2 hb2 hown2 hgrow2)
  obtain ⟨T8, cur8, h8⟩ : ∃ T c, CF w lo hi_ V true true true true true true true (some false) (some false) T c (X.setCell ⟨w.heap.size, 26, none⟩ (.slice a2 n2 c2)) := ⟨_, _, g3.out⟩
  clear g3 k2 f2 lt2 k0 f0 lt1 h7 hnn hsm hone hlen hsrc hown hA lt1b hi hz0 hz1 hz2 i0 hl
  obtain ⟨W8, hW⟩ : ∃ W3, X.setCell ⟨w.heap.size, 26, none⟩ (.slice a2 n2 c2) = W3 := ⟨_, rfl⟩
  rw [hW] at h8 ⊢
  clear hW
  replace h8 := Lib.hid h8
  obtain ⟨a, n, c, k0, f0, tx⟩ := h8.out.ld_waits
  have tx : PrI kindV lo hi_ W8 ⟨a, n, c⟩ V.waits := tx
  have lt1 : w.heap.size < W8.heap.size := h8.out.b0.lt
  have lt1b : w.heap.size < W8.heap.size + 1 := Nat.lt_succ_of_lt lt1
  obtain ⟨i0, hi, hz0, hz1, hz2⟩ := info_parts' info_waits
  have hA := Lib.hid (bl_alloc (Below.refl W8.heap.size W8) (.cells #[] 63))
  have hown := Lib.hid (World.ownsRow_made (base := W8.heap.size) (e := 63) (size := 2) W8 #[] 0 (Nat.le_refl _) (by decide) rfl)
  have hW := Lib.hid (Nat.le_trans h8.out.hw h8.out.o.size)
  obtain ⟨hnn, _, _, ss, q4, q5, q6⟩ := tx
  have hsr := src_pr (s := ⟨a, n, c⟩) kinds_one hnn hm.waits q4 q5
  have hnn : n = V.waits.length := hnn
  have hsrc := Lib.hid (hsr.src.below hA.out)
  have hlen := Lib.hid hsr.len
  have hone := Lib.hid hsr.one
  have hsm : n ≤ 1000000000000 := hsr.small
  have hl := Lib.hid hm.waits
  replace hnn := Lib.hid hnn
  replace q4 := Lib.hid q4
  replace q5 := Lib.hid q5
  replace q6 := Lib.hid q6
  clear hsr
  go_upto_region 9 with (at_builtin; refine wpList_append_src _ rfl (.tmp 45) (.tmp 47) 40 rfl W8.heap.size 63 i0 (.agg #[.int .i64 0, .slice none 0 0]) 2 32 Try.underlying40 hi hz0 hz1 hz2 rfl (by decide) _ _ _ rfl hown.out _ n _ rfl hsrc.out hlen.out hone.out (by unfold maxLen; omega) (by omega) (by simp) ?_; intro v2 X hown2 hgrow2; have hb2 : Below W8.heap.size W8 X := hA.out.grown hgrow2 (by simp) (fun j hj => (hown.out.lt j hj).1); rw [Nat.zero_add, List.nil_append, hnn.out] at hown2; obtain ⟨⟨a2, n2, c2⟩, rfl, hn2, hn3, hn4⟩ := cells_own hown2; clear hn3 hn4; replace hn2 : n2 = V.waits.length := hn2; subst hn2; have t2 : PrL kindV V.waits 63 W8.heap.size X.heap.size lo hi_ (.slice a2 V.waits.length c2) 0 X := ⟨Nat.le_refl _, hb2.size, hW.out, ss, q4.out, hown2, fun k hk => (hown2.lt k hk).2, fun i a b c => (by omega), fun i a b _ => (q6.out i a b).keep (KeepI.below hb2 hW.out)⟩; replace t2 := Lib.hid t2; have g2 := h8.out.below hb2; have lt2 : w.heap.size < X.heap.size := g2.b0.lt; obtain ⟨_, _, _, k2, f2, _⟩ := g2.ld_waits; have g3 := g2.hole_waits ⟨a2, V.waits.length, c2⟩; replace g3 := Lib.hid g3; replace hb2 := Lib.hid hb2; clear g2 hown2 hgrow2)
  all_goals
    have g4 := Lib.hid (t2.out.box (b := w.heap.size) (lt1) h8.out.hw 24 (.slice a2 V.waits.length c2))
    obtain ⟨B, hB⟩ : ∃ B, W8.heap.size = B := ⟨_, rfl⟩
    obtain ⟨N, hN⟩ : ∃ N, X.heap.size = N := ⟨_, rfl⟩
    obtain ⟨T9, cur9, hT9, he, h9⟩ : ∃ T c, T ≤ W8.heap.size ∧ c.waits = ⟨a2, V.waits.length, c2⟩ ∧ CF w lo hi_ V true true true true true true true none (some false) T c (X.setCell ⟨w.heap.size, 24, none⟩ (.slice a2 V.waits.length c2)) := ⟨_, _, h8.out.top, rfl, g3.out⟩
    clear k2 f2 lt2 k0 f0 hsm hone hlen hsrc hown hA lt1b hi hz0 hz1 hz2 i0 hb2 q4 q5 q6 g3 hW
    have lt0 : w.heap.size < B := hB ▸ lt1
    rw [hB] at hT9 g4
    rw [hN] at g4
    clear t2 h8 lt1
    obtain ⟨Y, hY⟩ : ∃ W3, X.setCell ⟨w.heap.size, 24, none⟩ (.slice a2 V.waits.length c2) = W3 := ⟨_, rfl⟩
    rw [hY] at h9 g4 ⊢
    clear hY hB hN
    obtain ⟨L, hL⟩ : ∃ L, V.waits.length = L := ⟨_, rfl⟩
    rw [hL] at he g4
    replace g4 := Lib.hid g4
    replace he := Lib.hid he
    replace h9 := Lib.hid h9
  go_wp2_with fail
  go_loopg [3] L (fun gh v wr => ∃ m : Nat, gh = L - m ∧ v = .int .i64 (m : Int) ∧ m ≤ L ∧ Hid (PrL kindV V.waits 63 B N lo hi_ (.slice a2 L c2) m wr) ∧ Hid (CF w lo hi_ V true true true true true true true none (some false) T9 cur9 wr))
  case atStart => exact ⟨0, rfl, rfl, Nat.zero_le _, g4, h9⟩
  obtain ⟨m, hgm, rfl, hmL, hp, hcf⟩ := hrel
  replace hgm := hgm.symm
  subst hgm
  clear g4 h9
  have k24 : wr.cell? ⟨w.heap.size, 24, none⟩ = some (.slice a2 L c2) := by rw [hcf.out.b0.cell]; show some cur9.waits.v = _; rw [he.out]
  have lt1 : w.heap.size < wr.heap.size := hcf.out.b0.lt
  rcases Nat.lt_or_ge m L with hlt | hlt
  · have hlt' : m < V.waits.length := by omega
    obtain ⟨g, x, rfl, hg1, hg2, kx, fx, tx⟩ := hp.out.at' hlt'
    obtain ⟨xa, xn, xc⟩ := x
    have q1 : (0 : Int) ≤ (m : Int) := by omega
    have q2 : (m : Int) < (L : Int) := by omega
    have lt2 : g < wr.heap.size := Nat.lt_of_lt_of_le hg2 hp.out.top
    have hne : w.heap.size ≠ g := by omega
    have tx' := Lib.hid (tx.keep (KeepI.below (bl_drew (Below.refl wr.heap.size wr)) (Nat.le_trans hcf.out.hw hcf.out.o.size)))
    have hl := Lib.hid (hm.wait m hlt')
    go_upto_region 12 with fail
    have hC : wr.drew.cell? ⟨w.heap.size, 24, none⟩ = some (.slice (some ⟨g, 0, none⟩) L c2) ∧ wr.drew.cell? ⟨g, m * 2 + 1, none⟩ = some (.slice xa xn xc) := ⟨k24, kx⟩
    refine region_till (fun X => X.cell? ⟨w.heap.size, 24, none⟩ = some (.slice (some ⟨g, 0, none⟩) L c2) ∧ X.cell? ⟨g, m * 2 + 1, none⟩ = some (.slice xa xn xc)) 12 (by kernel_rfl) ?_
    refine wpAnyT_take (i := 0) (v := (.pointer (some ⟨w.heap.size, 24, none⟩))) (some 57) rfl (by kernel_rfl) (by kernel_rfl) (by kernel_rfl) (by kernel_rfl) (fun _ _ _ h => absurd h np_panic) [12] (by kernel_rfl) (by kernel_rfl) (by kernel_rfl) (Or.inl ⟨by rfl, ?_⟩) hC ?_
    · intro X hX
      (obtain ⟨x1, x2⟩ := hX; go_simp)
    simp only [Act.put, List.setIfInBounds_toArray, List.set_cons_zero, List.set_cons_succ]
    refine wpAnyT_take (i := 1) (v := (.slice (some ⟨g, 0, none⟩) L c2)) (some 58) rfl (by kernel_rfl) (by kernel_rfl) (by kernel_rfl) (by kernel_rfl) (fun _ _ _ h => absurd h np_panic) [12] (by kernel_rfl) (by kernel_rfl) (by kernel_rfl) (Or.inl ⟨by rfl, ?_⟩) hC ?_
    · intro X hX
      (obtain ⟨x1, x2⟩ := hX; go_simp)
    simp only [Act.put, List.setIfInBounds_toArray, List.set_cons_zero, List.set_cons_succ]
    refine wpAnyT_take (i := 2) (v := (.int .i64 (m : Int))) (some 59) rfl (by kernel_rfl) (by kernel_rfl) (by kernel_rfl) (by kernel_rfl) (fun _ _ _ h => absurd h np_panic) [12] (by kernel_rfl) (by kernel_rfl) (by kernel_rfl) (Or.inl ⟨by rfl, ?_⟩) hC ?_
    · intro X hX
      (obtain ⟨x1, x2⟩ := hX; go_simp)
    simp only [Act.put, List.setIfInBounds_toArray, List.set_cons_zero, List.set_cons_succ]
    refine wpAnyT_take (i := 3) (v := (.pointer (some ⟨w.heap.size, 24, none⟩))) (some 60) rfl (by kernel_rfl) (by kernel_rfl) (by kernel_rfl) (by kernel_rfl) (fun _ _ _ h => absurd h np_panic) [12] (by kernel_rfl) (by kernel_rfl) (by kernel_rfl) (Or.inl ⟨by rfl, ?_⟩) hC ?_
    · intro X hX
      (obtain ⟨x1, x2⟩ := hX; go_simp)
    simp only [Act.put, List.setIfInBounds_toArray, List.set_cons_zero, List.set_cons_succ]
    refine wpAnyT_take (i := 4) (v := (.slice (some ⟨g, 0, none⟩) L c2)) (some 61) rfl (by kernel_rfl) (by kernel_rfl) (by kernel_rfl) (by kernel_rfl) (fun _ _ _ h => absurd h np_panic) [12] (by kernel_rfl) (by kernel_rfl) (by kernel_rfl) (Or.inl ⟨by rfl, ?_⟩) hC ?_
    · intro X hX
      (obtain ⟨x1, x2⟩ := hX; go_simp)
    simp only [Act.put, List.setIfInBounds_toArray, List.set_cons_zero, List.set_cons_succ]
    refine wpAnyT_take (i := 5) (v := (.int .i64 (m : Int))) (some 62) rfl (by kernel_rfl) (by kernel_rfl) (by kernel_rfl) (by kernel_rfl) (fun _ _ _ h => absurd h np_panic) [12] (by kernel_rfl) (by kernel_rfl) (by kernel_rfl) (Or.inl ⟨by rfl, ?_⟩) hC ?_
    · intro X hX
      (obtain ⟨x1, x2⟩ := hX; go_simp)
    simp only [Act.put, List.setIfInBounds_toArray, List.set_cons_zero, List.set_cons_succ]
    refine wpAnyT_take (i := 6) (v := (.pointer (some ⟨g, m * 2, none⟩))) (some 63) rfl (by kernel_rfl) (by kernel_rfl) (by kernel_rfl) (by kernel_rfl) (fun _ _ _ h => absurd h np_panic) [12] (by kernel_rfl) (by kernel_rfl) (by kernel_rfl) (Or.inl ⟨by rfl, ?_⟩) hC ?_
    · intro X hX
      (obtain ⟨x1, x2⟩ := hX; go_simp)
    simp only [Act.put, List.setIfInBounds_toArray, List.set_cons_zero, List.set_cons_succ]
    refine wpAnyT_take (i := 7) (v := (.pointer (some ⟨g, m * 2 + 1, none⟩))) (some 64) rfl (by kernel_rfl) (by kernel_rfl) (by kernel_rfl) (by kernel_rfl) (fun _ _ _ h => absurd h np_panic) [12] (by kernel_rfl) (by kernel_rfl) (by kernel_rfl) (Or.inl ⟨by rfl, ?_⟩) hC ?_
    · intro X hX
      (obtain ⟨x1, x2⟩ := hX; go_simp)
    simp only [Act.put, List.setIfInBounds_toArray, List.set_cons_zero, List.set_cons_succ]
    refine wpAnyT_take (i := 8) (v := (.slice xa xn xc)) (some 65) rfl (by kernel_rfl) (by kernel_rfl) (by kernel_rfl) (by kernel_rfl) (fun _ _ _ h => absurd h np_panic) [12] (by kernel_rfl) (by kernel_rfl) (by kernel_rfl) (Or.inl ⟨by rfl, ?_⟩) hC ?_
    · intro X hX
      (obtain ⟨x1, x2⟩ := hX; go_simp)
    simp only [Act.put, List.setIfInBounds_toArray, List.set_cons_zero, List.set_cons_succ]
    refine wpAnyT_ready (rs := [9]) (by kernel_rfl) (by simp) ?_
    refine AllT.cons rfl (fun K hK => ?_) AllT.nil
    go_simp
    (go_at_call 17; (with_reducible refine (rcopy_tx _ tx'.out hl.out).mono ?_); rintro e Y ⟨a5, n5, c5, rfl, t5, hb5⟩)
    have k5 := (hb5.cell (p := ⟨g, m * 2 + 1, none⟩) lt2).trans kx
    have f5 := (hb5.frozen (p := ⟨g, m * 2 + 1, none⟩) lt2).trans fx
    have k25 := (hb5.cell (p := ⟨w.heap.size, 24, none⟩) lt1).trans k24
    have lt5 : g < Y.heap.size := Nat.lt_of_lt_of_le lt2 hb5.size
    have hcY := Lib.hid ((hcf.out.below (bl_drew (Below.refl wr.heap.size wr) |>.trans hb5)).other (g := g) (Nat.le_trans hT9 hg1) (m * 2 + 1) (.slice a5 n5 c5))
    have hpY := Lib.hid (PrL.put' (s := ⟨a5, n5, c5⟩) hL hp.out hlt' (bl_drew (Below.refl wr.heap.size wr) |>.trans hb5) t5)
    replace hb5 := Lib.hid hb5
    replace t5 := Lib.hid t5
    go_simp
    refine hK.out _ _ (fun _ => ⟨k25, k5⟩) ?_
    clear hK K
    refine wpAnyT_ready (rs := [10]) (by kernel_rfl) (by simp) ?_
    refine AllT.cons rfl (fun K hK => ?_) AllT.nil
    go_simp
    refine hK.out _ _ (fun _ => ⟨k25, k5⟩) ?_
    clear hK K
    refine wpAnyT_ready (rs := [11]) (by kernel_rfl) (by simp) ?_
    refine AllT.cons rfl (fun K hK => ?_) AllT.nil
    go_simp
    refine hK.out _ _ (fun _ => ⟨k25, k5⟩) ?_
    clear hK K
    refine wpAnyT_ready (rs := [12]) (by kernel_rfl) (by simp) ?_
    refine AllT.cons rfl (fun K hK => ?_) AllT.nil
    go_simp
    refine hK.out _ _ (fun h => nomatch (Eq.trans (by kernel_rfl : true = _) h : true = false)) ?_
    clear hK K
    refine wpAnyT_done (by kernel_rfl) ⟨rfl, ?_⟩ _
    go_wp2_with fail
    go_roundg (L - (m + 1))
    case measure => omega
    case rel => exact ⟨m + 1, rfl, by push_cast; rfl, by omega, hpY, hcY⟩
  obtain rfl : m = L := Nat.le_antisymm hmL hlt
  have hdone := hp.out.done' hL hm.waits
  obtain ⟨T10, h10⟩ : ∃ T, CF w lo hi_ V true true true true true true true (some true) (some false) T cur9 wr := ⟨_, hcf.out.fill_waits (by rw [he.out]; exact hdone.wide (Nat.le_trans hcf.out.bT hT9) (Nat.le_refl _))⟩
  replace h10 := Lib.hid h10
  have q1 : ¬ ((m : Int) < (m : Int)) := by omega
  clear hp hcf he hdone hT9 hlt hmL
  rename World => W10

  obtain ⟨a, n, c, k0, f0, tx⟩ := h10.out.ld_files
  have tx : PrI strV lo hi_ W10 ⟨a, n, c⟩ V.files := tx
  have lt1 : w.heap.size < W10.heap.size := h10.out.b0.lt
  have lt1b : w.heap.size < W10.heap.size + 1 := Nat.lt_succ_of_lt lt1
  obtain ⟨i0, hi, hz0, hz1, hz2⟩ := info_parts' info_files
  have hA := Lib.hid (bl_alloc (Below.refl W10.heap.size W10) (.cells #[] 65))
  have hown := Lib.hid (World.ownsRow_made (base := W10.heap.size) (e := 65) (size := 2) W10 #[] 0 (Nat.le_refl _) (by decide) rfl)
  have hW := Lib.hid (Nat.le_trans h10.out.hw h10.out.o.size)
  obtain ⟨hnn, _, _, ss, q4, q5, q6⟩ := tx
  have hsr := src_pr (s := ⟨a, n, c⟩) strs_one' hnn hm.files q4 q5
  have hnn : n = V.files.length := hnn
  have hsrc := Lib.hid (hsr.src.below hA.out)
  have hlen := Lib.hid hsr.len
  have hone := Lib.hid hsr.one
  have hsm : n ≤ 1000000000000 := hsr.small
  have hl := Lib.hid hm.files
  replace hnn := Lib.hid hnn
  replace q4 := Lib.hid q4
  replace q5 := Lib.hid q5
  replace q6 := Lib.hid q6
  clear hsr
  go_upto_region 14 with (at_builtin; refine wpList_append_src _ rfl (.tmp 69) (.tmp 71) 41 rfl W10.heap.size 65 i0 (.agg #[.string ⟨#[]⟩, .slice none 0 0]) 2 40 Try.underlying41 hi hz0 hz1 hz2 rfl (by decide) _ _ _ rfl hown.out _ n _ rfl hsrc.out hlen.out hone.out (by unfold maxLen; omega) (by omega) (by simp) ?_; intro v2 X hown2 hgrow2; have hb2 : Below W10.heap.size W10 X := hA.out.grown hgrow2 (by simp) (fun j hj => (hown.out.lt j hj).1); rw [Nat.zero_add, List.nil_append, hnn.out] at hown2; obtain ⟨⟨a2, n2, c2⟩, rfl, hn2, hn3, hn4⟩ := cells_own hown2; clear hn3 hn4; replace hn2 : n2 = V.files.length := hn2; subst hn2; have t2 : PrL strV V.files 65 W10.heap.size X.heap.size lo hi_ (.slice a2 V.files.length c2) 0 X := ⟨Nat.le_refl _, hb2.size, hW.out, ss, q4.out, hown2, fun k hk => (hown2.lt k hk).2, fun i a b c => (by omega), fun i a b _ => (q6.out i a b).keep (KeepI.below hb2 hW.out)⟩; replace t2 := Lib.hid t2; have g2 := h10.out.below hb2; have lt2 : w.heap.size < X.heap.size := g2.b0.lt; obtain ⟨_, _, _, k2, f2, _⟩ := g2.ld_files; have g3 := g2.hole_files ⟨a2, V.files.length, c2⟩; replace g3 := Lib.hid g3; replace hb2 := Lib.hid hb2; clear g2 hown2 hgrow2)
  all_goals
    have g4 := Lib.hid (t2.out.box (b := w.heap.size) (lt1) h10.out.hw 25 (.slice a2 V.files.length c2))
    obtain ⟨B, hB⟩ : ∃ B, W10.heap.size = B := ⟨_, rfl⟩
    obtain ⟨N, hN⟩ : ∃ N, X.heap.size = N := ⟨_, rfl⟩
    obtain ⟨T11, cur11, hT11, he, h11⟩ : ∃ T c, T ≤ W10.heap.size ∧ c.files = ⟨a2, V.files.length, c2⟩ ∧ CF w lo hi_ V true true true true true true true (some true) none T c (X.setCell ⟨w.heap.size, 25, none⟩ (.slice a2 V.files.length c2)) := ⟨_, _, h10.out.top, rfl, g3.out⟩
    clear k2 f2 lt2 k0 f0 hsm hone hlen hsrc hown hA lt1b hi hz0 hz1 hz2 i0 hb2 q4 q5 q6 g3 hW
    have lt0 : w.heap.size < B := hB ▸ lt1
    rw [hB] at hT11 g4
    rw [hN] at g4
    clear t2 h10 lt1
    obtain ⟨Y, hY⟩ : ∃ W3, X.setCell ⟨w.heap.size, 25, none⟩ (.slice a2 V.files.length c2) = W3 := ⟨_, rfl⟩
    rw [hY] at h11 g4 ⊢
    clear hY hB hN
    obtain ⟨L, hL⟩ : ∃ L, V.files.length = L := ⟨_, rfl⟩
    rw [hL] at he g4
    replace g4 := Lib.hid g4
    replace he := Lib.hid he
    replace h11 := Lib.hid h11
  go_wp2_with fail
  go_loopg [4] L (fun gh v wr => ∃ m : Nat, gh = L - m ∧ v = .int .i64 (m : Int) ∧ m ≤ L ∧ Hid (PrL strV V.files 65 B N lo hi_ (.slice a2 L c2) m wr) ∧ Hid (CF w lo hi_ V true true true true true true true (some true) none T11 cur11 wr))
  case atStart => exact ⟨0, rfl, rfl, Nat.zero_le _, g4, h11⟩
  obtain ⟨m, hgm, rfl, hmL, hp, hcf⟩ := hrel
  replace hgm := hgm.symm
  subst hgm
  clear g4 h11
  have k24 : wr.cell? ⟨w.heap.size, 25, none⟩ = some (.slice a2 L c2) := by rw [hcf.out.b0.cell]; show some cur11.files.v = _; rw [he.out]
  have lt1 : w.heap.size < wr.heap.size := hcf.out.b0.lt
  rcases Nat.lt_or_ge m L with hlt | hlt
  · have hlt' : m < V.files.length := by omega
    obtain ⟨g, x, rfl, hg1, hg2, kx, fx, tx⟩ := hp.out.at' hlt'
    obtain ⟨xa, xn, xc⟩ := x
    have q1 : (0 : Int) ≤ (m : Int) := by omega
    have q2 : (m : Int) < (L : Int) := by omega
    have lt2 : g < wr.heap.size := Nat.lt_of_lt_of_le hg2 hp.out.top
    have hne : w.heap.size ≠ g := by omega
    have tx' := Lib.hid (tx.keep (KeepI.below (bl_drew (Below.refl wr.heap.size wr)) (Nat.le_trans hcf.out.hw hcf.out.o.size)))
    have hl := Lib.hid (hm.file m hlt')
    go_upto_region 17 with fail
    have hC : wr.drew.cell? ⟨w.heap.size, 25, none⟩ = some (.slice (some ⟨g, 0, none⟩) L c2) ∧ wr.drew.cell? ⟨g, m * 2 + 1, none⟩ = some (.slice xa xn xc) := ⟨k24, kx⟩
    refine region_till (fun X => X.cell? ⟨w.heap.size, 25, none⟩ = some (.slice (some ⟨g, 0, none⟩) L c2) ∧ X.cell? ⟨g, m * 2 + 1, none⟩ = some (.slice xa xn xc)) 12 (by kernel_rfl) ?_
    refine wpAnyT_take (i := 0) (v := (.pointer (some ⟨w.heap.size, 25, none⟩))) (some 81) rfl (by kernel_rfl) (by kernel_rfl) (by kernel_rfl) (by kernel_rfl) (fun _ _ _ h => absurd h np_panic) [12] (by kernel_rfl) (by kernel_rfl) (by kernel_rfl) (Or.inl ⟨by rfl, ?_⟩) hC ?_
    · intro X hX
      (obtain ⟨x1, x2⟩ := hX; go_simp)
    simp only [Act.put, List.setIfInBounds_toArray, List.set_cons_zero, List.set_cons_succ]
    refine wpAnyT_take (i := 1) (v := (.slice (some ⟨g, 0, none⟩) L c2)) (some 82) rfl (by kernel_rfl) (by kernel_rfl) (by kernel_rfl) (by kernel_rfl) (fun _ _ _ h => absurd h np_panic) [12] (by kernel_rfl) (by kernel_rfl) (by kernel_rfl) (Or.inl ⟨by rfl, ?_⟩) hC ?_
    · intro X hX
      (obtain ⟨x1, x2⟩ := hX; go_simp)
    simp only [Act.put, List.setIfInBounds_toArray, List.set_cons_zero, List.set_cons_succ]
    refine wpAnyT_take (i := 2) (v := (.int .i64 (m : Int))) (some 83) rfl (by kernel_rfl) (by kernel_rfl) (by kernel_rfl) (by kernel_rfl) (fun _ _ _ h => absurd h np_panic) [12] (by kernel_rfl) (by kernel_rfl) (by kernel_rfl) (Or.inl ⟨by rfl, ?_⟩) hC ?_
    · intro X hX
      (obtain ⟨x1, x2⟩ := hX; go_simp)
    simp only [Act.put, List.setIfInBounds_toArray, List.set_cons_zero, List.set_cons_succ]
    refine wpAnyT_take (i := 3) (v := (.pointer (some ⟨w.heap.size, 25, none⟩))) (some 84) rfl (by kernel_rfl) (by kernel_rfl) (by kernel_rfl) (by kernel_rfl) (fun _ _ _ h => absurd h np_panic) [12] (by kernel_rfl) (by kernel_rfl) (by kernel_rfl) (Or.inl ⟨by rfl, ?_⟩) hC ?_
    · intro X hX
      (obtain ⟨x1, x2⟩ := hX; go_simp)
    simp only [Act.put, List.setIfInBounds_toArray, List.set_cons_zero, List.set_cons_succ]
    refine wpAnyT_take (i := 4) (v := (.slice (some ⟨g, 0, none⟩) L c2)) (some 85) rfl (by kernel_rfl) (by kernel_rfl) (by kernel_rfl) (by kernel_rfl) (fun _ _ _ h => absurd h np_panic) [12] (by kernel_rfl) (by kernel_rfl) (by kernel_rfl) (Or.inl ⟨by rfl, ?_⟩) hC ?_
    · intro X hX
      (obtain ⟨x1, x2⟩ := hX; go_simp)
    simp only [Act.put, List.setIfInBounds_toArray, List.set_cons_zero, List.set_cons_succ]
    refine wpAnyT_take (i := 5) (v := (.int .i64 (m : Int))) (some 86) rfl (by kernel_rfl) (by kernel_rfl) (by kernel_rfl) (by kernel_rfl) (fun _ _ _ h => absurd h np_panic) [12] (by kernel_rfl) (by kernel_rfl) (by kernel_rfl) (Or.inl ⟨by rfl, ?_⟩) hC ?_
    · intro X hX
      (obtain ⟨x1, x2⟩ := hX; go_simp)
    simp only [Act.put, List.setIfInBounds_toArray, List.set_cons_zero, List.set_cons_succ]
    refine wpAnyT_take (i := 6) (v := (.pointer (some ⟨g, m * 2, none⟩))) (some 87) rfl (by kernel_rfl) (by kernel_rfl) (by kernel_rfl) (by kernel_rfl) (fun _ _ _ h => absurd h np_panic) [12] (by kernel_rfl) (by kernel_rfl) (by kernel_rfl) (Or.inl ⟨by rfl, ?_⟩) hC ?_
    · intro X hX
      (obtain ⟨x1, x2⟩ := hX; go_simp)
    simp only [Act.put, List.setIfInBounds_toArray, List.set_cons_zero, List.set_cons_succ]
    refine wpAnyT_take (i := 7) (v := (.pointer (some ⟨g, m * 2 + 1, none⟩))) (some 88) rfl (by kernel_rfl) (by kernel_rfl) (by kernel_rfl) (by kernel_rfl) (fun _ _ _ h => absurd h np_panic) [12] (by kernel_rfl) (by kernel_rfl) (by kernel_rfl) (Or.inl ⟨by rfl, ?_⟩) hC ?_
    · intro X hX
      (obtain ⟨x1, x2⟩ := hX; go_simp)
    simp only [Act.put, List.setIfInBounds_toArray, List.set_cons_zero, List.set_cons_succ]
    refine wpAnyT_take (i := 8) (v := (.slice xa xn xc)) (some 89) rfl (by kernel_rfl) (by kernel_rfl) (by kernel_rfl) (by kernel_rfl) (fun _ _ _ h => absurd h np_panic) [12] (by kernel_rfl) (by kernel_rfl) (by kernel_rfl) (Or.inl ⟨by rfl, ?_⟩) hC ?_
    · intro X hX
      (obtain ⟨x1, x2⟩ := hX; go_simp)
    simp only [Act.put, List.setIfInBounds_toArray, List.set_cons_zero, List.set_cons_succ]
    refine wpAnyT_ready (rs := [9]) (by kernel_rfl) (by simp) ?_
    refine AllT.cons rfl (fun K hK => ?_) AllT.nil
    go_simp
    (go_at_call 17; (with_reducible refine (rcopy_tx _ tx'.out hl.out).mono ?_); rintro e Y ⟨a5, n5, c5, rfl, t5, hb5⟩)
    have k5 := (hb5.cell (p := ⟨g, m * 2 + 1, none⟩) lt2).trans kx
    have f5 := (hb5.frozen (p := ⟨g, m * 2 + 1, none⟩) lt2).trans fx
    have k25 := (hb5.cell (p := ⟨w.heap.size, 25, none⟩) lt1).trans k24
    have lt5 : g < Y.heap.size := Nat.lt_of_lt_of_le lt2 hb5.size
    have hcY := Lib.hid ((hcf.out.below (bl_drew (Below.refl wr.heap.size wr) |>.trans hb5)).other (g := g) (Nat.le_trans hT11 hg1) (m * 2 + 1) (.slice a5 n5 c5))
    have hpY := Lib.hid (PrL.put' (s := ⟨a5, n5, c5⟩) hL hp.out hlt' (bl_drew (Below.refl wr.heap.size wr) |>.trans hb5) t5)
    replace hb5 := Lib.hid hb5
    replace t5 := Lib.hid t5
    go_simp
    refine hK.out _ _ (fun _ => ⟨k25, k5⟩) ?_
    clear hK K
    refine wpAnyT_ready (rs := [10]) (by kernel_rfl) (by simp) ?_
    refine AllT.cons rfl (fun K hK => ?_) AllT.nil
    go_simp
    refine hK.out _ _ (fun _ => ⟨k25, k5⟩) ?_
    clear hK K
    refine wpAnyT_ready (rs := [11]) (by kernel_rfl) (by simp) ?_
    refine AllT.cons rfl (fun K hK => ?_) AllT.nil
    go_simp
    refine hK.out _ _ (fun _ => ⟨k25, k5⟩) ?_
    clear hK K
    refine wpAnyT_ready (rs := [12]) (by kernel_rfl) (by simp) ?_
    refine AllT.cons rfl (fun K hK => ?_) AllT.nil
    go_simp
    refine hK.out _ _ (fun h => nomatch (Eq.trans (by kernel_rfl : true = _) h : true = false)) ?_
    clear hK K
    refine wpAnyT_done (by kernel_rfl) ⟨rfl, ?_⟩ _
    go_wp2_with fail
    go_roundg (L - (m + 1))
    case measure => omega
    case rel => exact ⟨m + 1, rfl, by push_cast; rfl, by omega, hpY, hcY⟩
  obtain rfl : m = L := Nat.le_antisymm hmL hlt
  have hdone := hp.out.done' hL hm.files
  obtain ⟨T12, h12⟩ : ∃ T, CF w lo hi_ V true true true true true true true (some true) (some true) T cur11 wr := ⟨_, hcf.out.fill_files (by rw [he.out]; exact hdone.wide (Nat.le_trans hcf.out.bT hT11) (Nat.le_refl _))⟩
  replace h12 := Lib.hid h12
  have q1 : ¬ ((m : Int) < (m : Int)) := by omega
  clear hp hcf he hdone hT11 hlt hmL
  rename World => W12

  obtain ⟨D, hD⟩ : ∃ D, cur11.cells.toArray = D := ⟨_, rfl⟩
  have L1 := stLoad_is cur11 h12.out.b0
  obtain ⟨Z, S1, hBZ, hOZ⟩ := stStore_is cur11 h12.out.b1 rfl
  have L2 := stLoad_is cur11 hBZ
  rw [hD] at L1 S1 L2
  have hbT := h12.out.bT
  have hkeep : KeepI (w.heap.size + 2) T12 W12 Z := KeepI.only hOZ h12.out.top (fun k _ _ => by omega)
  have hfin := (h12.out.end.keep hkeep).wide (lo' := w.heap.size) (hi' := Z.heap.size) (Nat.le_add_right _ _) (Nat.le_trans h12.out.top hOZ.size) (Nat.le_refl _)
  have hbZ := h12.out.o.trans (Only.below hOZ (N := w.heap.size) h12.out.o.size (fun k hk => by rw [hk]; omega))
  replace hfin := Lib.hid hfin
  replace hbZ := Lib.hid hbZ
  replace hD := Lib.hid hD
  clear h12 hBZ hOZ hkeep hbT
  go_wp2_with fail
  exact bodyPost_ret (v := .agg D) (by simp [results, Try.results8, ↓load_st, asAddr, L2, Result.andThen]) rfl ⟨cur11, by rw [hD.out], hfin.out, hbZ.out⟩
end Go.Proofs.Ytfidmpkblmebeaa
