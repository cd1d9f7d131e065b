/-
  palinoderef20.Same of any two states: whether they say the same; of chapter 20.
  Conditions: as each theorem states them.
-/
import Derived.Test.YtepdfkgadigafaaGreatDoorSmA
import Derived.Deep.CutBlock
namespace Go.Proofs.YtepdfkgadigafaaGreatDoor
open Go.RowKit
set_option linter.unusedVariables false
set_option linter.unusedSimpArgs false
theorem sd_tx {X : World} {lo hi lo' hi' : Nat} {a a' : Option Addr} {n c n' c' : Nat} {t t' : List UInt8} (h : TxI lo hi X ⟨a, n, c⟩ t) (h' : TxI lo' hi' X ⟨a', n', c'⟩ t') (hX : hi ≤ X.heap.size) (hX' : hi' ≤ X.heap.size) :
    Calls Tryz.prog 38 #[.slice a n c, .slice a' n' c'] X fun e w' => e = .returned (.bool (decide (t = t'))) ∧ Below X.heap.size X w' := by
  obtain rfl : n = t.length := h.1
  obtain rfl : n' = t'.length := h'.1
  refine (same_bytes a a' c c' t t' X h.2.2.1 h'.2.2.1 (h.at hX) (h'.at hX')).mono ?_
  rintro e w' ⟨rfl, m, rfl⟩
  exact ⟨rfl, bl_drewN (Below.refl _ _) _⟩
theorem sd_bl {X : World} {lo hi lo' hi' : Nat} {a a' : Option Addr} {n c n' c' : Nat} {t t' : List Bool} (h : BlI lo hi X ⟨a, n, c⟩ t) (h' : BlI lo' hi' X ⟨a', n', c'⟩ t') (hX : hi ≤ X.heap.size) (hX' : hi' ≤ X.heap.size) :
    Calls Tryz.prog 40 #[.slice a n c, .slice a' n' c'] X fun e w' => e = .returned (.bool (decide (t = t'))) ∧ Below X.heap.size X w' := by
  obtain rfl : n = t.length := h.1
  obtain rfl : n' = t'.length := h'.1
  refine (same_bools a a' c c' t t' X h.2.2.1 h'.2.2.1 (h.at hX) (h'.at hX')).mono ?_
  rintro e w' ⟨rfl, m, rfl⟩
  exact ⟨rfl, bl_drewN (Below.refl _ _) _⟩
theorem sd_fi {X : World} {lo hi lo' hi' : Nat} {a a' : Option Addr} {n c n' c' : Nat} {t t' : List (List UInt8 × List UInt8)} (h : PrI strV lo hi X ⟨a, n, c⟩ t) (h' : PrI strV lo' hi' X ⟨a', n', c'⟩ t') (hX : hi ≤ X.heap.size) (hX' : hi' ≤ X.heap.size) (hl : t.length ≤ 1000000) (ht : ∀ p ∈ t, p.2.length ≤ 1000000) (hl' : t'.length ≤ 1000000) (ht' : ∀ p ∈ t', p.2.length ≤ 1000000) :
    Calls Tryz.prog 42 #[.slice a n c, .slice a' n' c'] X fun e w' => e = .returned (.bool (decide (t = t'))) ∧ Below X.heap.size X w' := by
  obtain rfl : n = t.length := h.1
  obtain rfl : n' = t'.length := h'.1
  refine (same_files a a' c c' t t' X hl hl' ht ht' (h.at hX) (h'.at hX')).mono ?_
  rintro e w' ⟨rfl, m, rfl⟩
  exact ⟨rfl, bl_drewN (Below.refl _ _) _⟩
theorem sd_wa {X : World} {lo hi lo' hi' : Nat} {a a' : Option Addr} {n c n' c' : Nat} {t t' : List (Int × List UInt8)} (h : PrI kindV lo hi X ⟨a, n, c⟩ t) (h' : PrI kindV lo' hi' X ⟨a', n', c'⟩ t') (hX : hi ≤ X.heap.size) (hX' : hi' ≤ X.heap.size) (hl : t.length ≤ 1000000) (ht : ∀ p ∈ t, p.2.length ≤ 1000000) (hl' : t'.length ≤ 1000000) (ht' : ∀ p ∈ t', p.2.length ≤ 1000000) :
    Calls Tryz.prog 41 #[.slice a n c, .slice a' n' c'] X fun e w' => e = .returned (.bool (decide (t = t'))) ∧ Below X.heap.size X w' := by
  obtain rfl : n = t.length := h.1
  obtain rfl : n' = t'.length := h'.1
  refine (same_waits a a' c c' t t' X hl hl' ht ht' (h.at hX) (h'.at hX')).mono ?_
  rintro e w' ⟨rfl, m, rfl⟩
  exact ⟨rfl, bl_drewN (Below.refl _ _) _⟩
set_option maxHeartbeats 2000000 in
set_option maxRecDepth 100000 in
theorem sd_in (X : World) (x0 x1 x2 x3 y0 y1 y2 y3 : Int) {lo hi lo' hi' : Nat} {a b : Option Addr} {n c m d : Nat} {t u : List UInt8} (h : TxI lo hi X ⟨a, n, c⟩ t) (h' : TxI lo' hi' X ⟨b, m, d⟩ u) (hX : hi ≤ X.heap.size) (hX' : hi' ≤ X.heap.size) :
    Calls Tryz.prog 39 #[.agg #[.int .i64 x0, .int .i64 x1, .int .i64 x2, .int .i64 x3, .slice a n c], .agg #[.int .i64 y0, .int .i64 y1, .int .i64 y2, .int .i64 y3, .slice b m d]] X fun e w' => e = .returned (.bool (decide (x0 = y0 ∧ x1 = y1 ∧ x2 = y2 ∧ x3 = y3 ∧ t = u))) ∧ Below X.heap.size X w' := by
  have hs := fun w' (hb : Below X.heap.size X w') => sd_tx (h.keep (KeepI.below hb hX)) (h'.keep (KeepI.below hb hX')) (Nat.le_trans hX hb.size) (Nat.le_trans hX' hb.size)
  obtain ⟨B, hB⟩ : ∃ B, decide (t = u) = B := ⟨_, rfl⟩
  obtain ⟨C, hC⟩ : ∃ C, decide (x0 = y0 ∧ x1 = y1 ∧ x2 = y2 ∧ x3 = y3 ∧ t = u) = C := ⟨_, rfl⟩
  rw [hB] at hs
  rw [hC]
  replace hs := Lib.hid hs
  clear h h' hX hX'
  by_cases e0 : x0 = y0
  · by_cases e1 : x1 = y1
    · by_cases e2 : x2 = y2
      · by_cases e3 : x3 = y3
        · have hf : B = C := by rw [← hB, ← hC]; simp [e0, e1, e2, e3]
          subst e0 e1 e2 e3
          replace hB := Lib.hid hB
          replace hC := Lib.hid hC
          go_enter Tryz.func39, Tryz.ntmps39
          go_wp2_with (go_at_call 38; (with_reducible refine (hs.out _ (by repeat (first | exact Below.refl _ _ | refine bl_alloc ?_ _))).mono ?_); rintro e w2 ⟨rfl, hb2⟩)
          all_goals go_ret
          all_goals exact ⟨(by first | rfl | (rw [hf]; rfl) | rw [hf]), Below.trans (bl_alloc (bl_alloc (Below.refl _ _) _) _) (hb2.mono (by simp; omega))⟩
        · have q : (x3 == y3) = false := by simp [e3]
          have hf : C = false := by rw [← hC]; exact decide_eq_false (by simp [e3])
          replace hB := Lib.hid hB
          replace hC := Lib.hid hC
          subst e0
          subst e1
          subst e2
          clear e3
          go_enter Tryz.func39, Tryz.ntmps39
          go_wp2_with fail
          all_goals go_ret
          all_goals exact ⟨(by first | rfl | (rw [hf]; rfl) | rw [hf]), bl_alloc (bl_alloc (Below.refl _ _) _) _⟩
      · have q : (x2 == y2) = false := by simp [e2]
        have hf : C = false := by rw [← hC]; exact decide_eq_false (by simp [e2])
        replace hB := Lib.hid hB
        replace hC := Lib.hid hC
        subst e0
        subst e1
        clear e2
        go_enter Tryz.func39, Tryz.ntmps39
        go_wp2_with fail
        all_goals go_ret
        all_goals exact ⟨(by first | rfl | (rw [hf]; rfl) | rw [hf]), bl_alloc (bl_alloc (Below.refl _ _) _) _⟩
    · have q : (x1 == y1) = false := by simp [e1]
      have hf : C = false := by rw [← hC]; exact decide_eq_false (by simp [e1])
      replace hB := Lib.hid hB
      replace hC := Lib.hid hC
      subst e0
      clear e1
      go_enter Tryz.func39, Tryz.ntmps39
      go_wp2_with fail
      all_goals go_ret
      all_goals exact ⟨(by first | rfl | (rw [hf]; rfl) | rw [hf]), bl_alloc (bl_alloc (Below.refl _ _) _) _⟩
  · have q : (x0 == y0) = false := by simp [e0]
    have hf : C = false := by rw [← hC]; exact decide_eq_false (by simp [e0])
    replace hB := Lib.hid hB
    replace hC := Lib.hid hC
    clear e0
    go_enter Tryz.func39, Tryz.ntmps39
    go_wp2_with fail
    all_goals go_ret
    all_goals exact ⟨(by first | rfl | (rw [hf]; rfl) | rw [hf]), bl_alloc (bl_alloc (Below.refl _ _) _) _⟩

theorem bool_ne {a b : Bool} (h : ¬ a = b) : b = !a := by cases a <;> cases b <;> simp_all
noncomputable instance : DecidableEq StV := fun a b => Classical.propDecidable (a = b)
set_option maxHeartbeats 8000000 in
set_option maxRecDepth 100000 in
theorem same_dec (w : World) (s s' : StC) (V V' : StV) {lo hi lo' hi' : Nat} (h : SIn lo hi s V w) (h' : SIn lo' hi' s' V' w) (hw : V.waits.length ≤ 1000000) (hwt : ∀ p ∈ V.waits, p.2.length ≤ 1000000) (hf : V.files.length ≤ 1000000) (hft : ∀ p ∈ V.files, p.2.length ≤ 1000000)
    (hw' : V'.waits.length ≤ 1000000) (hwt' : ∀ p ∈ V'.waits, p.2.length ≤ 1000000) (hf' : V'.files.length ≤ 1000000) (hft' : ∀ p ∈ V'.files, p.2.length ≤ 1000000) :
    Calls Tryz.prog 14 #[.agg s.cells.toArray, .agg s'.cells.toArray] w fun e w' => e = .returned (.bool (decide (V = V'))) ∧ Below w.heap.size w w' := by
  obtain ⟨C, hC⟩ : ∃ C, decide (V = V') = C := ⟨_, rfl⟩
  rw [hC]
  have B0 := fun X (hb : Below w.heap.size w X) => h.below hb
  have B1 := fun X (hb : Below w.heap.size w X) => h'.below hb
  have esc := h.sc
  have esc' := h'.sc
  obtain ⟨sc, vp, vh, vr, vo, vl, va, vk, vw, vf⟩ := V
  obtain ⟨sc', vp', vh', vr', vo', vl', va', vk', vw', vf'⟩ := V'
  obtain ⟨⟨pa, pn, pc⟩, ⟨ha, hn, hc⟩, nl, line, subst, last, next, opn, cur, missing, ⟨ra, rn, rc⟩, ⟨oa, on, oc⟩, short, ⟨la, ln, lc⟩, pshort, phase, pcc, exit, stop, err, silent, quit, again, ⟨aa, an, ac⟩, ⟨wa, wn, wc⟩, ⟨fa, fn, fc⟩, ⟨ka, kn, kc⟩⟩ := s
  obtain ⟨⟨pa', pn', pc'⟩, ⟨ha', hn', hc'⟩, nl', line', subst', last', next', opn', cur', missing', ⟨ra', rn', rc'⟩, ⟨oa', on', oc'⟩, short', ⟨la', ln', lc'⟩, pshort', phase', pcc', exit', stop', err', silent', quit', again', ⟨aa', an', ac'⟩, ⟨wa', wn', wc'⟩, ⟨fa', fn', fc'⟩, ⟨ka', kn', kc'⟩⟩ := s'
  dsimp only at esc esc' hw hwt hf hft hw' hwt' hf' hft'
  unfold StC.sc at esc esc'
  subst esc esc'
  have c1 := fun X (hb : Below w.heap.size w X) => sd_tx (B0 X hb).pat (B1 X hb).pat (B0 X hb).top (B1 X hb).top
  have c2 := fun X (hb : Below w.heap.size w X) => sd_tx (B0 X hb).hold (B1 X hb).hold (B0 X hb).top (B1 X hb).top
  have c3 := fun X (hb : Below w.heap.size w X) => sd_tx (B0 X hb).out (B1 X hb).out (B0 X hb).top (B1 X hb).top
  have c4 := fun X (hb : Below w.heap.size w X) => sd_tx (B0 X hb).place (B1 X hb).place (B0 X hb).top (B1 X hb).top
  have c5 := fun X (hb : Below w.heap.size w X) => sd_in X next opn cur missing next' opn' cur' missing' (B0 X hb).rest (B1 X hb).rest (B0 X hb).top (B1 X hb).top
  have c6 := fun X (hb : Below w.heap.size w X) => sd_bl (B0 X hb).active (B1 X hb).active (B0 X hb).top (B1 X hb).top
  have c7 := fun X (hb : Below w.heap.size w X) => sd_bl (B0 X hb).lacks (B1 X hb).lacks (B0 X hb).top (B1 X hb).top
  have c8 := fun X (hb : Below w.heap.size w X) => sd_wa (B0 X hb).waits (B1 X hb).waits (B0 X hb).top (B1 X hb).top hw hwt hw' hwt'
  have c9 := fun X (hb : Below w.heap.size w X) => sd_fi (B0 X hb).files (B1 X hb).files (B0 X hb).top (B1 X hb).top hf hft hf' hft'
  dsimp only at c1 c2 c3 c4 c5 c6 c7 c8 c9
  obtain ⟨CA, hCA⟩ : ∃ CA : List Value, [.slice pa pn pc, .slice ha hn hc, .bool nl, .int .i64 line, .bool subst, .int .i64 last, .int .i64 next, .int .i64 opn, .int .i64 cur, .int .i64 missing, .slice ra rn rc, .slice oa on oc, .bool short, .slice la ln lc, .bool pshort, .int .i64 phase, .int .i64 pcc, .int .i64 exit, .int .i64 stop, .int .i64 err, .bool silent, .bool quit, .bool again, .slice aa an ac, .slice wa wn wc, .slice fa fn fc, .slice ka kn kc] = CA := ⟨_, rfl⟩
  obtain ⟨CB, hCB⟩ : ∃ CB : List Value, [.slice pa' pn' pc', .slice ha' hn' hc', .bool nl', .int .i64 line', .bool subst', .int .i64 last', .int .i64 next', .int .i64 opn', .int .i64 cur', .int .i64 missing', .slice ra' rn' rc', .slice oa' on' oc', .bool short', .slice la' ln' lc', .bool pshort', .int .i64 phase', .int .i64 pcc', .int .i64 exit', .int .i64 stop', .int .i64 err', .bool silent', .bool quit', .bool again', .slice aa' an' ac', .slice wa' wn' wc', .slice fa' fn' fc', .slice ka' kn' kc'] = CB := ⟨_, rfl⟩
  show Calls _ _ #[.agg (List.toArray [.slice pa pn pc, .slice ha hn hc, .bool nl, .int .i64 line, .bool subst, .int .i64 last, .int .i64 next, .int .i64 opn, .int .i64 cur, .int .i64 missing, .slice ra rn rc, .slice oa on oc, .bool short, .slice la ln lc, .bool pshort, .int .i64 phase, .int .i64 pcc, .int .i64 exit, .int .i64 stop, .int .i64 err, .bool silent, .bool quit, .bool again, .slice aa an ac, .slice wa wn wc, .slice fa fn fc, .slice ka kn kc]), .agg (List.toArray [.slice pa' pn' pc', .slice ha' hn' hc', .bool nl', .int .i64 line', .bool subst', .int .i64 last', .int .i64 next', .int .i64 opn', .int .i64 cur', .int .i64 missing', .slice ra' rn' rc', .slice oa' on' oc', .bool short', .slice la' ln' lc', .bool pshort', .int .i64 phase', .int .i64 pcc', .int .i64 exit', .int .i64 stop', .int .i64 err', .bool silent', .bool quit', .bool again', .slice aa' an' ac', .slice wa' wn' wc', .slice fa' fn' fc', .slice ka' kn' kc'])] _ _
  rw [hCA, hCB]
  obtain ⟨W1, hW1⟩ : ∃ W1, (w.alloc (.cells CA.toArray 34)).alloc (.cells CB.toArray 34) = W1 := ⟨_, rfl⟩
  have bA : Blk W1 w.heap.size 34 CA := by rw [← hW1]; exact (Blk.new w _ _).alloc _
  have bB : Blk W1 (w.heap.size + 1) 34 CB := by rw [← hW1]; simpa using Blk.new (w.alloc (.cells CA.toArray 34)) 34 CB
  have hbW : Below w.heap.size w W1 := by rw [← hW1]; exact bl_alloc (bl_alloc (Below.refl _ _) _) _
  have ltA := bA.lt
  have ltB := bB.lt
  have K1 : Hid (∀ X, Below W1.heap.size W1 X → X.cell? ⟨w.heap.size, 0, none⟩ = some (.slice pa pn pc) ∧ X.cell? ⟨w.heap.size + 1, 0, none⟩ = some (.slice pa' pn' pc') ∧ X.cell? ⟨w.heap.size, 1, none⟩ = some (.slice ha hn hc) ∧ X.cell? ⟨w.heap.size + 1, 1, none⟩ = some (.slice ha' hn' hc') ∧ X.cell? ⟨w.heap.size, 2, none⟩ = some (.bool nl) ∧ X.cell? ⟨w.heap.size + 1, 2, none⟩ = some (.bool nl') ∧ X.cell? ⟨w.heap.size, 3, none⟩ = some (.int .i64 line) ∧ X.cell? ⟨w.heap.size + 1, 3, none⟩ = some (.int .i64 line') ∧ X.cell? ⟨w.heap.size, 4, none⟩ = some (.bool subst) ∧ X.cell? ⟨w.heap.size + 1, 4, none⟩ = some (.bool subst') ∧ X.cell? ⟨w.heap.size, 5, none⟩ = some (.int .i64 last) ∧ X.cell? ⟨w.heap.size + 1, 5, none⟩ = some (.int .i64 last') ∧ X.cell? ⟨w.heap.size, 6, none⟩ = some (.int .i64 next) ∧ X.cell? ⟨w.heap.size + 1, 6, none⟩ = some (.int .i64 next') ∧ X.cell? ⟨w.heap.size, 7, none⟩ = some (.int .i64 opn) ∧ X.cell? ⟨w.heap.size + 1, 7, none⟩ = some (.int .i64 opn') ∧ X.cell? ⟨w.heap.size, 8, none⟩ = some (.int .i64 cur) ∧ X.cell? ⟨w.heap.size + 1, 8, none⟩ = some (.int .i64 cur') ∧ X.cell? ⟨w.heap.size, 9, none⟩ = some (.int .i64 missing) ∧ X.cell? ⟨w.heap.size + 1, 9, none⟩ = some (.int .i64 missing') ∧ X.cell? ⟨w.heap.size, 10, none⟩ = some (.slice ra rn rc) ∧ X.cell? ⟨w.heap.size + 1, 10, none⟩ = some (.slice ra' rn' rc')) := Lib.hid (fun X hb => ⟨(hb.cell (p := ⟨w.heap.size, 0, none⟩) ltA).trans (by rw [bA.cell, ← hCA]; rfl), (hb.cell (p := ⟨w.heap.size + 1, 0, none⟩) ltB).trans (by rw [bB.cell, ← hCB]; rfl), (hb.cell (p := ⟨w.heap.size, 1, none⟩) ltA).trans (by rw [bA.cell, ← hCA]; rfl), (hb.cell (p := ⟨w.heap.size + 1, 1, none⟩) ltB).trans (by rw [bB.cell, ← hCB]; rfl), (hb.cell (p := ⟨w.heap.size, 2, none⟩) ltA).trans (by rw [bA.cell, ← hCA]; rfl), (hb.cell (p := ⟨w.heap.size + 1, 2, none⟩) ltB).trans (by rw [bB.cell, ← hCB]; rfl), (hb.cell (p := ⟨w.heap.size, 3, none⟩) ltA).trans (by rw [bA.cell, ← hCA]; rfl), (hb.cell (p := ⟨w.heap.size + 1, 3, none⟩) ltB).trans (by rw [bB.cell, ← hCB]; rfl), (hb.cell (p := ⟨w.heap.size, 4, none⟩) ltA).trans (by rw [bA.cell, ← hCA]; rfl), (hb.cell (p := ⟨w.heap.size + 1, 4, none⟩) ltB).trans (by rw [bB.cell, ← hCB]; rfl), (hb.cell (p := ⟨w.heap.size, 5, none⟩) ltA).trans (by rw [bA.cell, ← hCA]; rfl), (hb.cell (p := ⟨w.heap.size + 1, 5, none⟩) ltB).trans (by rw [bB.cell, ← hCB]; rfl), (hb.cell (p := ⟨w.heap.size, 6, none⟩) ltA).trans (by rw [bA.cell, ← hCA]; rfl), (hb.cell (p := ⟨w.heap.size + 1, 6, none⟩) ltB).trans (by rw [bB.cell, ← hCB]; rfl), (hb.cell (p := ⟨w.heap.size, 7, none⟩) ltA).trans (by rw [bA.cell, ← hCA]; rfl), (hb.cell (p := ⟨w.heap.size + 1, 7, none⟩) ltB).trans (by rw [bB.cell, ← hCB]; rfl), (hb.cell (p := ⟨w.heap.size, 8, none⟩) ltA).trans (by rw [bA.cell, ← hCA]; rfl), (hb.cell (p := ⟨w.heap.size + 1, 8, none⟩) ltB).trans (by rw [bB.cell, ← hCB]; rfl), (hb.cell (p := ⟨w.heap.size, 9, none⟩) ltA).trans (by rw [bA.cell, ← hCA]; rfl), (hb.cell (p := ⟨w.heap.size + 1, 9, none⟩) ltB).trans (by rw [bB.cell, ← hCB]; rfl), (hb.cell (p := ⟨w.heap.size, 10, none⟩) ltA).trans (by rw [bA.cell, ← hCA]; rfl), (hb.cell (p := ⟨w.heap.size + 1, 10, none⟩) ltB).trans (by rw [bB.cell, ← hCB]; rfl)⟩)
  have K3 : Hid (∀ X, Below W1.heap.size W1 X → X.cell? ⟨w.heap.size, 11, none⟩ = some (.slice oa on oc) ∧ X.cell? ⟨w.heap.size + 1, 11, none⟩ = some (.slice oa' on' oc') ∧ X.cell? ⟨w.heap.size, 12, none⟩ = some (.bool short) ∧ X.cell? ⟨w.heap.size + 1, 12, none⟩ = some (.bool short') ∧ X.cell? ⟨w.heap.size, 13, none⟩ = some (.slice la ln lc) ∧ X.cell? ⟨w.heap.size + 1, 13, none⟩ = some (.slice la' ln' lc') ∧ X.cell? ⟨w.heap.size, 14, none⟩ = some (.bool pshort) ∧ X.cell? ⟨w.heap.size + 1, 14, none⟩ = some (.bool pshort')) := Lib.hid (fun X hb => ⟨(hb.cell (p := ⟨w.heap.size, 11, none⟩) ltA).trans (by rw [bA.cell, ← hCA]; rfl), (hb.cell (p := ⟨w.heap.size + 1, 11, none⟩) ltB).trans (by rw [bB.cell, ← hCB]; rfl), (hb.cell (p := ⟨w.heap.size, 12, none⟩) ltA).trans (by rw [bA.cell, ← hCA]; rfl), (hb.cell (p := ⟨w.heap.size + 1, 12, none⟩) ltB).trans (by rw [bB.cell, ← hCB]; rfl), (hb.cell (p := ⟨w.heap.size, 13, none⟩) ltA).trans (by rw [bA.cell, ← hCA]; rfl), (hb.cell (p := ⟨w.heap.size + 1, 13, none⟩) ltB).trans (by rw [bB.cell, ← hCB]; rfl), (hb.cell (p := ⟨w.heap.size, 14, none⟩) ltA).trans (by rw [bA.cell, ← hCA]; rfl), (hb.cell (p := ⟨w.heap.size + 1, 14, none⟩) ltB).trans (by rw [bB.cell, ← hCB]; rfl)⟩)
  have K5 : Hid (∀ X, Below W1.heap.size W1 X → X.cell? ⟨w.heap.size, 15, none⟩ = some (.int .i64 phase) ∧ X.cell? ⟨w.heap.size + 1, 15, none⟩ = some (.int .i64 phase') ∧ X.cell? ⟨w.heap.size, 16, none⟩ = some (.int .i64 pcc) ∧ X.cell? ⟨w.heap.size + 1, 16, none⟩ = some (.int .i64 pcc') ∧ X.cell? ⟨w.heap.size, 17, none⟩ = some (.int .i64 exit) ∧ X.cell? ⟨w.heap.size + 1, 17, none⟩ = some (.int .i64 exit') ∧ X.cell? ⟨w.heap.size, 18, none⟩ = some (.int .i64 stop) ∧ X.cell? ⟨w.heap.size + 1, 18, none⟩ = some (.int .i64 stop') ∧ X.cell? ⟨w.heap.size, 19, none⟩ = some (.int .i64 err) ∧ X.cell? ⟨w.heap.size + 1, 19, none⟩ = some (.int .i64 err') ∧ X.cell? ⟨w.heap.size, 20, none⟩ = some (.bool silent) ∧ X.cell? ⟨w.heap.size + 1, 20, none⟩ = some (.bool silent') ∧ X.cell? ⟨w.heap.size, 21, none⟩ = some (.bool quit) ∧ X.cell? ⟨w.heap.size + 1, 21, none⟩ = some (.bool quit') ∧ X.cell? ⟨w.heap.size, 22, none⟩ = some (.bool again) ∧ X.cell? ⟨w.heap.size + 1, 22, none⟩ = some (.bool again')) := Lib.hid (fun X hb => ⟨(hb.cell (p := ⟨w.heap.size, 15, none⟩) ltA).trans (by rw [bA.cell, ← hCA]; rfl), (hb.cell (p := ⟨w.heap.size + 1, 15, none⟩) ltB).trans (by rw [bB.cell, ← hCB]; rfl), (hb.cell (p := ⟨w.heap.size, 16, none⟩) ltA).trans (by rw [bA.cell, ← hCA]; rfl), (hb.cell (p := ⟨w.heap.size + 1, 16, none⟩) ltB).trans (by rw [bB.cell, ← hCB]; rfl), (hb.cell (p := ⟨w.heap.size, 17, none⟩) ltA).trans (by rw [bA.cell, ← hCA]; rfl), (hb.cell (p := ⟨w.heap.size + 1, 17, none⟩) ltB).trans (by rw [bB.cell, ← hCB]; rfl), (hb.cell (p := ⟨w.heap.size, 18, none⟩) ltA).trans (by rw [bA.cell, ← hCA]; rfl), (hb.cell (p := ⟨w.heap.size + 1, 18, none⟩) ltB).trans (by rw [bB.cell, ← hCB]; rfl), (hb.cell (p := ⟨w.heap.size, 19, none⟩) ltA).trans (by rw [bA.cell, ← hCA]; rfl), (hb.cell (p := ⟨w.heap.size + 1, 19, none⟩) ltB).trans (by rw [bB.cell, ← hCB]; rfl), (hb.cell (p := ⟨w.heap.size, 20, none⟩) ltA).trans (by rw [bA.cell, ← hCA]; rfl), (hb.cell (p := ⟨w.heap.size + 1, 20, none⟩) ltB).trans (by rw [bB.cell, ← hCB]; rfl), (hb.cell (p := ⟨w.heap.size, 21, none⟩) ltA).trans (by rw [bA.cell, ← hCA]; rfl), (hb.cell (p := ⟨w.heap.size + 1, 21, none⟩) ltB).trans (by rw [bB.cell, ← hCB]; rfl), (hb.cell (p := ⟨w.heap.size, 22, none⟩) ltA).trans (by rw [bA.cell, ← hCA]; rfl), (hb.cell (p := ⟨w.heap.size + 1, 22, none⟩) ltB).trans (by rw [bB.cell, ← hCB]; rfl)⟩)
  have K7 : Hid (∀ X, Below W1.heap.size W1 X → X.cell? ⟨w.heap.size, 23, none⟩ = some (.slice aa an ac) ∧ X.cell? ⟨w.heap.size + 1, 23, none⟩ = some (.slice aa' an' ac') ∧ X.cell? ⟨w.heap.size, 24, none⟩ = some (.slice wa wn wc) ∧ X.cell? ⟨w.heap.size + 1, 24, none⟩ = some (.slice wa' wn' wc') ∧ X.cell? ⟨w.heap.size, 25, none⟩ = some (.slice fa fn fc) ∧ X.cell? ⟨w.heap.size + 1, 25, none⟩ = some (.slice fa' fn' fc') ∧ X.cell? ⟨w.heap.size, 26, none⟩ = some (.slice ka kn kc) ∧ X.cell? ⟨w.heap.size + 1, 26, none⟩ = some (.slice ka' kn' kc')) := Lib.hid (fun X hb => ⟨(hb.cell (p := ⟨w.heap.size, 23, none⟩) ltA).trans (by rw [bA.cell, ← hCA]; rfl), (hb.cell (p := ⟨w.heap.size + 1, 23, none⟩) ltB).trans (by rw [bB.cell, ← hCB]; rfl), (hb.cell (p := ⟨w.heap.size, 24, none⟩) ltA).trans (by rw [bA.cell, ← hCA]; rfl), (hb.cell (p := ⟨w.heap.size + 1, 24, none⟩) ltB).trans (by rw [bB.cell, ← hCB]; rfl), (hb.cell (p := ⟨w.heap.size, 25, none⟩) ltA).trans (by rw [bA.cell, ← hCA]; rfl), (hb.cell (p := ⟨w.heap.size + 1, 25, none⟩) ltB).trans (by rw [bB.cell, ← hCB]; rfl), (hb.cell (p := ⟨w.heap.size, 26, none⟩) ltA).trans (by rw [bA.cell, ← hCA]; rfl), (hb.cell (p := ⟨w.heap.size + 1, 26, none⟩) ltB).trans (by rw [bB.cell, ← hCB]; rfl)⟩)
  have d1 : Hid (∀ X, Below W1.heap.size W1 X → Calls Tryz.prog 38 #[.slice pa pn pc, .slice pa' pn' pc'] X fun e w' => e = .returned (.bool (decide (vp = vp'))) ∧ Below W1.heap.size W1 w') := Lib.hid (fun X hb => (c1 X (hbW.trans (hb.mono hbW.size))).mono (by rintro e w' ⟨rfl, h⟩; exact ⟨rfl, hb.trans (h.mono hb.size)⟩))
  have d2 : Hid (∀ X, Below W1.heap.size W1 X → Calls Tryz.prog 38 #[.slice ha hn hc, .slice ha' hn' hc'] X fun e w' => e = .returned (.bool (decide (vh = vh'))) ∧ Below W1.heap.size W1 w') := Lib.hid (fun X hb => (c2 X (hbW.trans (hb.mono hbW.size))).mono (by rintro e w' ⟨rfl, h⟩; exact ⟨rfl, hb.trans (h.mono hb.size)⟩))
  have d3 : Hid (∀ X, Below W1.heap.size W1 X → Calls Tryz.prog 38 #[.slice oa on oc, .slice oa' on' oc'] X fun e w' => e = .returned (.bool (decide (vo = vo'))) ∧ Below W1.heap.size W1 w') := Lib.hid (fun X hb => (c3 X (hbW.trans (hb.mono hbW.size))).mono (by rintro e w' ⟨rfl, h⟩; exact ⟨rfl, hb.trans (h.mono hb.size)⟩))
  have d4 : Hid (∀ X, Below W1.heap.size W1 X → Calls Tryz.prog 38 #[.slice la ln lc, .slice la' ln' lc'] X fun e w' => e = .returned (.bool (decide (vl = vl'))) ∧ Below W1.heap.size W1 w') := Lib.hid (fun X hb => (c4 X (hbW.trans (hb.mono hbW.size))).mono (by rintro e w' ⟨rfl, h⟩; exact ⟨rfl, hb.trans (h.mono hb.size)⟩))
  have d5 : Hid (∀ X, Below W1.heap.size W1 X → Calls Tryz.prog 39 #[.agg #[.int .i64 next, .int .i64 opn, .int .i64 cur, .int .i64 missing, .slice ra rn rc], .agg #[.int .i64 next', .int .i64 opn', .int .i64 cur', .int .i64 missing', .slice ra' rn' rc']] X fun e w' => e = .returned (.bool (decide (next = next' ∧ opn = opn' ∧ cur = cur' ∧ missing = missing' ∧ vr = vr'))) ∧ Below W1.heap.size W1 w') := Lib.hid (fun X hb => (c5 X (hbW.trans (hb.mono hbW.size))).mono (by rintro e w' ⟨rfl, h⟩; exact ⟨rfl, hb.trans (h.mono hb.size)⟩))
  have d6 : Hid (∀ X, Below W1.heap.size W1 X → Calls Tryz.prog 40 #[.slice aa an ac, .slice aa' an' ac'] X fun e w' => e = .returned (.bool (decide (va = va'))) ∧ Below W1.heap.size W1 w') := Lib.hid (fun X hb => (c6 X (hbW.trans (hb.mono hbW.size))).mono (by rintro e w' ⟨rfl, h⟩; exact ⟨rfl, hb.trans (h.mono hb.size)⟩))
  have d7 : Hid (∀ X, Below W1.heap.size W1 X → Calls Tryz.prog 40 #[.slice ka kn kc, .slice ka' kn' kc'] X fun e w' => e = .returned (.bool (decide (vk = vk'))) ∧ Below W1.heap.size W1 w') := Lib.hid (fun X hb => (c7 X (hbW.trans (hb.mono hbW.size))).mono (by rintro e w' ⟨rfl, h⟩; exact ⟨rfl, hb.trans (h.mono hb.size)⟩))
  have d8 : Hid (∀ X, Below W1.heap.size W1 X → Calls Tryz.prog 41 #[.slice wa wn wc, .slice wa' wn' wc'] X fun e w' => e = .returned (.bool (decide (vw = vw'))) ∧ Below W1.heap.size W1 w') := Lib.hid (fun X hb => (c8 X (hbW.trans (hb.mono hbW.size))).mono (by rintro e w' ⟨rfl, h⟩; exact ⟨rfl, hb.trans (h.mono hb.size)⟩))
  have d9 : Hid (∀ X, Below W1.heap.size W1 X → Calls Tryz.prog 42 #[.slice fa fn fc, .slice fa' fn' fc'] X fun e w' => e = .returned (.bool (decide (vf = vf'))) ∧ Below W1.heap.size W1 w') := Lib.hid (fun X hb => (c9 X (hbW.trans (hb.mono hbW.size))).mono (by rintro e w' ⟨rfl, h⟩; exact ⟨rfl, hb.trans (h.mono hb.size)⟩))
  clear c1 c2 c3 c4 c5 c6 c7 c8 c9 B0 B1 h h' bA bB hwt hft hwt' hft' hw hf hw' hf'
  replace hbW := Lib.hid hbW
  replace hW1 := Lib.hid hW1
  replace hCA := Lib.hid hCA
  replace hCB := Lib.hid hCB
  replace hC := Lib.hid hC
  have close : Hid (∀ b w', b = C → Below W1.heap.size W1 w' → Ending.returned (.bool b) = .returned (.bool C) ∧ Below w.heap.size w w') := Lib.hid (fun b w' e hb => ⟨by rw [e], hbW.out.trans (hb.mono hbW.out.size)⟩)
  go_enter Tryz.func14, Tryz.ntmps14
  go_upto_region 1 with fail
  rw [hW1.out]
  clear hW1
  have hb : Below W1.heap.size W1 W1 := Below.refl _ _
  obtain ⟨w2, hw2⟩ : ∃ X, W1 = X := ⟨_, rfl⟩
  have hb2 : Below W1.heap.size W1 w2 := hw2 ▸ hb
  have ltA2 : w.heap.size < w2.heap.size := hw2 ▸ ltA
  have ltB2 : w.heap.size + 1 < w2.heap.size := hw2 ▸ ltB
  rw [hw2]
  clear hw2 hb
  obtain ⟨A1_0, B1_0, A1_1, B1_1, A1_2, B1_2, A1_3, B1_3, A1_4, B1_4, A1_5, B1_5, A1_6, B1_6, A1_7, B1_7, A1_8, B1_8, A1_9, B1_9, A1_10, B1_10⟩ := K1.out _ hb2
  by_cases e1_0 : vp = vp'
  case neg =>
    have hf : false = C := by rw [← hC.out]; exact (decide_eq_false (fun e => e1_0 (congrArg (fun v : StV => v.pat) e))).symm
    replace hf := Lib.hid hf
    rw [decide_eq_false e1_0] at d1
    go_wp2_with (first | (go_at_call 38; first | ((with_reducible refine (d1.out _ hb2).mono ?_); rintro e w2 ⟨rfl, hb2⟩; obtain ⟨A1_0, B1_0, A1_1, B1_1, A1_2, B1_2, A1_3, B1_3, A1_4, B1_4, A1_5, B1_5, A1_6, B1_6, A1_7, B1_7, A1_8, B1_8, A1_9, B1_9, A1_10, B1_10⟩ := K1.out _ hb2) | ((with_reducible refine (d2.out _ hb2).mono ?_); rintro e w2 ⟨rfl, hb2⟩; obtain ⟨A1_0, B1_0, A1_1, B1_1, A1_2, B1_2, A1_3, B1_3, A1_4, B1_4, A1_5, B1_5, A1_6, B1_6, A1_7, B1_7, A1_8, B1_8, A1_9, B1_9, A1_10, B1_10⟩ := K1.out _ hb2)) | (go_at_call 39; first | ((with_reducible refine (d5.out _ hb2).mono ?_); rintro e w2 ⟨rfl, hb2⟩; obtain ⟨A1_0, B1_0, A1_1, B1_1, A1_2, B1_2, A1_3, B1_3, A1_4, B1_4, A1_5, B1_5, A1_6, B1_6, A1_7, B1_7, A1_8, B1_8, A1_9, B1_9, A1_10, B1_10⟩ := K1.out _ hb2)))
    all_goals go_ret
    all_goals exact close.out _ _ hf.out hb2
  rw [decide_eq_true e1_0] at d1
  replace e1_0 := Lib.hid e1_0
  by_cases e1_1 : vh = vh'
  case neg =>
    have hf : false = C := by rw [← hC.out]; exact (decide_eq_false (fun e => e1_1 (congrArg (fun v : StV => v.hold) e))).symm
    replace hf := Lib.hid hf
    rw [decide_eq_false e1_1] at d2
    go_wp2_with (first | (go_at_call 38; first | ((with_reducible refine (d1.out _ hb2).mono ?_); rintro e w2 ⟨rfl, hb2⟩; obtain ⟨A1_0, B1_0, A1_1, B1_1, A1_2, B1_2, A1_3, B1_3, A1_4, B1_4, A1_5, B1_5, A1_6, B1_6, A1_7, B1_7, A1_8, B1_8, A1_9, B1_9, A1_10, B1_10⟩ := K1.out _ hb2) | ((with_reducible refine (d2.out _ hb2).mono ?_); rintro e w2 ⟨rfl, hb2⟩; obtain ⟨A1_0, B1_0, A1_1, B1_1, A1_2, B1_2, A1_3, B1_3, A1_4, B1_4, A1_5, B1_5, A1_6, B1_6, A1_7, B1_7, A1_8, B1_8, A1_9, B1_9, A1_10, B1_10⟩ := K1.out _ hb2)) | (go_at_call 39; first | ((with_reducible refine (d5.out _ hb2).mono ?_); rintro e w2 ⟨rfl, hb2⟩; obtain ⟨A1_0, B1_0, A1_1, B1_1, A1_2, B1_2, A1_3, B1_3, A1_4, B1_4, A1_5, B1_5, A1_6, B1_6, A1_7, B1_7, A1_8, B1_8, A1_9, B1_9, A1_10, B1_10⟩ := K1.out _ hb2)))
    all_goals go_ret
    all_goals exact close.out _ _ hf.out hb2
  rw [decide_eq_true e1_1] at d2
  replace e1_1 := Lib.hid e1_1
  by_cases e1_2 : nl = nl'
  case neg =>
    have hf : false = C := by rw [← hC.out]; exact (decide_eq_false (fun e => e1_2 (congrArg (fun v : StV => v.sc.nl) e))).symm
    replace hf := Lib.hid hf
    obtain rfl := bool_ne e1_2
    clear e1_2
    go_wp2_with (first | (go_at_call 38; first | ((with_reducible refine (d1.out _ hb2).mono ?_); rintro e w2 ⟨rfl, hb2⟩; obtain ⟨A1_0, B1_0, A1_1, B1_1, A1_2, B1_2, A1_3, B1_3, A1_4, B1_4, A1_5, B1_5, A1_6, B1_6, A1_7, B1_7, A1_8, B1_8, A1_9, B1_9, A1_10, B1_10⟩ := K1.out _ hb2) | ((with_reducible refine (d2.out _ hb2).mono ?_); rintro e w2 ⟨rfl, hb2⟩; obtain ⟨A1_0, B1_0, A1_1, B1_1, A1_2, B1_2, A1_3, B1_3, A1_4, B1_4, A1_5, B1_5, A1_6, B1_6, A1_7, B1_7, A1_8, B1_8, A1_9, B1_9, A1_10, B1_10⟩ := K1.out _ hb2)) | (go_at_call 39; first | ((with_reducible refine (d5.out _ hb2).mono ?_); rintro e w2 ⟨rfl, hb2⟩; obtain ⟨A1_0, B1_0, A1_1, B1_1, A1_2, B1_2, A1_3, B1_3, A1_4, B1_4, A1_5, B1_5, A1_6, B1_6, A1_7, B1_7, A1_8, B1_8, A1_9, B1_9, A1_10, B1_10⟩ := K1.out _ hb2)))
    all_goals go_ret
    all_goals exact close.out _ _ hf.out hb2
  subst e1_2
  by_cases e1_3 : line = line'
  case neg =>
    have hf : false = C := by rw [← hC.out]; exact (decide_eq_false (fun e => e1_3 (congrArg (fun v : StV => v.sc.line) e))).symm
    replace hf := Lib.hid hf
    have q : (line != line') = true := by simp [e1_3]
    clear e1_3
    go_wp2_with (first | (go_at_call 38; first | ((with_reducible refine (d1.out _ hb2).mono ?_); rintro e w2 ⟨rfl, hb2⟩; obtain ⟨A1_0, B1_0, A1_1, B1_1, A1_2, B1_2, A1_3, B1_3, A1_4, B1_4, A1_5, B1_5, A1_6, B1_6, A1_7, B1_7, A1_8, B1_8, A1_9, B1_9, A1_10, B1_10⟩ := K1.out _ hb2) | ((with_reducible refine (d2.out _ hb2).mono ?_); rintro e w2 ⟨rfl, hb2⟩; obtain ⟨A1_0, B1_0, A1_1, B1_1, A1_2, B1_2, A1_3, B1_3, A1_4, B1_4, A1_5, B1_5, A1_6, B1_6, A1_7, B1_7, A1_8, B1_8, A1_9, B1_9, A1_10, B1_10⟩ := K1.out _ hb2)) | (go_at_call 39; first | ((with_reducible refine (d5.out _ hb2).mono ?_); rintro e w2 ⟨rfl, hb2⟩; obtain ⟨A1_0, B1_0, A1_1, B1_1, A1_2, B1_2, A1_3, B1_3, A1_4, B1_4, A1_5, B1_5, A1_6, B1_6, A1_7, B1_7, A1_8, B1_8, A1_9, B1_9, A1_10, B1_10⟩ := K1.out _ hb2)))
    all_goals go_ret
    all_goals exact close.out _ _ hf.out hb2
  subst e1_3
  by_cases e1_4 : subst = subst'
  case neg =>
    have hf : false = C := by rw [← hC.out]; exact (decide_eq_false (fun e => e1_4 (congrArg (fun v : StV => v.sc.subst) e))).symm
    replace hf := Lib.hid hf
    obtain rfl := bool_ne e1_4
    clear e1_4
    go_wp2_with (first | (go_at_call 38; first | ((with_reducible refine (d1.out _ hb2).mono ?_); rintro e w2 ⟨rfl, hb2⟩; obtain ⟨A1_0, B1_0, A1_1, B1_1, A1_2, B1_2, A1_3, B1_3, A1_4, B1_4, A1_5, B1_5, A1_6, B1_6, A1_7, B1_7, A1_8, B1_8, A1_9, B1_9, A1_10, B1_10⟩ := K1.out _ hb2) | ((with_reducible refine (d2.out _ hb2).mono ?_); rintro e w2 ⟨rfl, hb2⟩; obtain ⟨A1_0, B1_0, A1_1, B1_1, A1_2, B1_2, A1_3, B1_3, A1_4, B1_4, A1_5, B1_5, A1_6, B1_6, A1_7, B1_7, A1_8, B1_8, A1_9, B1_9, A1_10, B1_10⟩ := K1.out _ hb2)) | (go_at_call 39; first | ((with_reducible refine (d5.out _ hb2).mono ?_); rintro e w2 ⟨rfl, hb2⟩; obtain ⟨A1_0, B1_0, A1_1, B1_1, A1_2, B1_2, A1_3, B1_3, A1_4, B1_4, A1_5, B1_5, A1_6, B1_6, A1_7, B1_7, A1_8, B1_8, A1_9, B1_9, A1_10, B1_10⟩ := K1.out _ hb2)))
    all_goals go_ret
    all_goals exact close.out _ _ hf.out hb2
  subst e1_4
  by_cases e1_5 : last = last'
  case neg =>
    have hf : false = C := by rw [← hC.out]; exact (decide_eq_false (fun e => e1_5 (congrArg (fun v : StV => v.sc.last) e))).symm
    replace hf := Lib.hid hf
    have q : (last != last') = true := by simp [e1_5]
    clear e1_5
    go_wp2_with (first | (go_at_call 38; first | ((with_reducible refine (d1.out _ hb2).mono ?_); rintro e w2 ⟨rfl, hb2⟩; obtain ⟨A1_0, B1_0, A1_1, B1_1, A1_2, B1_2, A1_3, B1_3, A1_4, B1_4, A1_5, B1_5, A1_6, B1_6, A1_7, B1_7, A1_8, B1_8, A1_9, B1_9, A1_10, B1_10⟩ := K1.out _ hb2) | ((with_reducible refine (d2.out _ hb2).mono ?_); rintro e w2 ⟨rfl, hb2⟩; obtain ⟨A1_0, B1_0, A1_1, B1_1, A1_2, B1_2, A1_3, B1_3, A1_4, B1_4, A1_5, B1_5, A1_6, B1_6, A1_7, B1_7, A1_8, B1_8, A1_9, B1_9, A1_10, B1_10⟩ := K1.out _ hb2)) | (go_at_call 39; first | ((with_reducible refine (d5.out _ hb2).mono ?_); rintro e w2 ⟨rfl, hb2⟩; obtain ⟨A1_0, B1_0, A1_1, B1_1, A1_2, B1_2, A1_3, B1_3, A1_4, B1_4, A1_5, B1_5, A1_6, B1_6, A1_7, B1_7, A1_8, B1_8, A1_9, B1_9, A1_10, B1_10⟩ := K1.out _ hb2)))
    all_goals go_ret
    all_goals exact close.out _ _ hf.out hb2
  subst e1_5
  by_cases e1_6 : next = next' ∧ opn = opn' ∧ cur = cur' ∧ missing = missing' ∧ vr = vr'
  case neg =>
    have hf : false = C := by rw [← hC.out]; exact (decide_eq_false (fun e => e1_6 (⟨congrArg (fun v : StV => v.sc.next) e, congrArg (fun v : StV => v.sc.opn) e, congrArg (fun v : StV => v.sc.cur) e, congrArg (fun v : StV => v.sc.missing) e, congrArg (fun v : StV => v.rest) e⟩))).symm
    replace hf := Lib.hid hf
    rw [decide_eq_false e1_6] at d5
    go_wp2_with (first | (go_at_call 38; first | ((with_reducible refine (d1.out _ hb2).mono ?_); rintro e w2 ⟨rfl, hb2⟩; obtain ⟨A1_0, B1_0, A1_1, B1_1, A1_2, B1_2, A1_3, B1_3, A1_4, B1_4, A1_5, B1_5, A1_6, B1_6, A1_7, B1_7, A1_8, B1_8, A1_9, B1_9, A1_10, B1_10⟩ := K1.out _ hb2) | ((with_reducible refine (d2.out _ hb2).mono ?_); rintro e w2 ⟨rfl, hb2⟩; obtain ⟨A1_0, B1_0, A1_1, B1_1, A1_2, B1_2, A1_3, B1_3, A1_4, B1_4, A1_5, B1_5, A1_6, B1_6, A1_7, B1_7, A1_8, B1_8, A1_9, B1_9, A1_10, B1_10⟩ := K1.out _ hb2)) | (go_at_call 39; first | ((with_reducible refine (d5.out _ hb2).mono ?_); rintro e w2 ⟨rfl, hb2⟩; obtain ⟨A1_0, B1_0, A1_1, B1_1, A1_2, B1_2, A1_3, B1_3, A1_4, B1_4, A1_5, B1_5, A1_6, B1_6, A1_7, B1_7, A1_8, B1_8, A1_9, B1_9, A1_10, B1_10⟩ := K1.out _ hb2)))
    all_goals go_ret
    all_goals exact close.out _ _ hf.out hb2
  rw [decide_eq_true e1_6] at d5
  replace e1_6 := Lib.hid e1_6
  go_upto_region 3 with (first | (go_at_call 38; first | ((with_reducible refine (d1.out _ hb2).mono ?_); rintro e w2 ⟨rfl, hb2⟩; obtain ⟨A1_0, B1_0, A1_1, B1_1, A1_2, B1_2, A1_3, B1_3, A1_4, B1_4, A1_5, B1_5, A1_6, B1_6, A1_7, B1_7, A1_8, B1_8, A1_9, B1_9, A1_10, B1_10⟩ := K1.out _ hb2) | ((with_reducible refine (d2.out _ hb2).mono ?_); rintro e w2 ⟨rfl, hb2⟩; obtain ⟨A1_0, B1_0, A1_1, B1_1, A1_2, B1_2, A1_3, B1_3, A1_4, B1_4, A1_5, B1_5, A1_6, B1_6, A1_7, B1_7, A1_8, B1_8, A1_9, B1_9, A1_10, B1_10⟩ := K1.out _ hb2)) | (go_at_call 39; first | ((with_reducible refine (d5.out _ hb2).mono ?_); rintro e w2 ⟨rfl, hb2⟩; obtain ⟨A1_0, B1_0, A1_1, B1_1, A1_2, B1_2, A1_3, B1_3, A1_4, B1_4, A1_5, B1_5, A1_6, B1_6, A1_7, B1_7, A1_8, B1_8, A1_9, B1_9, A1_10, B1_10⟩ := K1.out _ hb2)))
  clear A1_0 B1_0 A1_1 B1_1 A1_2 B1_2 A1_3 B1_3 A1_4 B1_4 A1_5 B1_5 A1_6 B1_6 A1_7 B1_7 A1_8 B1_8 A1_9 B1_9 A1_10 B1_10
  obtain ⟨A3_11, B3_11, A3_12, B3_12, A3_13, B3_13, A3_14, B3_14⟩ := K3.out _ hb2
  by_cases e3_0 : vo = vo'
  case neg =>
    have hf : false = C := by rw [← hC.out]; exact (decide_eq_false (fun e => e3_0 (congrArg (fun v : StV => v.out) e))).symm
    replace hf := Lib.hid hf
    rw [decide_eq_false e3_0] at d3
    go_wp2_with (first | (go_at_call 38; first | ((with_reducible refine (d3.out _ hb2).mono ?_); rintro e w2 ⟨rfl, hb2⟩; obtain ⟨A3_11, B3_11, A3_12, B3_12, A3_13, B3_13, A3_14, B3_14⟩ := K3.out _ hb2) | ((with_reducible refine (d4.out _ hb2).mono ?_); rintro e w2 ⟨rfl, hb2⟩; obtain ⟨A3_11, B3_11, A3_12, B3_12, A3_13, B3_13, A3_14, B3_14⟩ := K3.out _ hb2)))
    all_goals go_ret
    all_goals exact close.out _ _ hf.out hb2
  rw [decide_eq_true e3_0] at d3
  replace e3_0 := Lib.hid e3_0
  by_cases e3_1 : short = short'
  case neg =>
    have hf : false = C := by rw [← hC.out]; exact (decide_eq_false (fun e => e3_1 (congrArg (fun v : StV => v.sc.short) e))).symm
    replace hf := Lib.hid hf
    obtain rfl := bool_ne e3_1
    clear e3_1
    go_wp2_with (first | (go_at_call 38; first | ((with_reducible refine (d3.out _ hb2).mono ?_); rintro e w2 ⟨rfl, hb2⟩; obtain ⟨A3_11, B3_11, A3_12, B3_12, A3_13, B3_13, A3_14, B3_14⟩ := K3.out _ hb2) | ((with_reducible refine (d4.out _ hb2).mono ?_); rintro e w2 ⟨rfl, hb2⟩; obtain ⟨A3_11, B3_11, A3_12, B3_12, A3_13, B3_13, A3_14, B3_14⟩ := K3.out _ hb2)))
    all_goals go_ret
    all_goals exact close.out _ _ hf.out hb2
  subst e3_1
  by_cases e3_2 : vl = vl'
  case neg =>
    have hf : false = C := by rw [← hC.out]; exact (decide_eq_false (fun e => e3_2 (congrArg (fun v : StV => v.place) e))).symm
    replace hf := Lib.hid hf
    rw [decide_eq_false e3_2] at d4
    go_wp2_with (first | (go_at_call 38; first | ((with_reducible refine (d3.out _ hb2).mono ?_); rintro e w2 ⟨rfl, hb2⟩; obtain ⟨A3_11, B3_11, A3_12, B3_12, A3_13, B3_13, A3_14, B3_14⟩ := K3.out _ hb2) | ((with_reducible refine (d4.out _ hb2).mono ?_); rintro e w2 ⟨rfl, hb2⟩; obtain ⟨A3_11, B3_11, A3_12, B3_12, A3_13, B3_13, A3_14, B3_14⟩ := K3.out _ hb2)))
    all_goals go_ret
    all_goals exact close.out _ _ hf.out hb2
  rw [decide_eq_true e3_2] at d4
  replace e3_2 := Lib.hid e3_2
  by_cases e3_3 : pshort = pshort'
  case neg =>
    have hf : false = C := by rw [← hC.out]; exact (decide_eq_false (fun e => e3_3 (congrArg (fun v : StV => v.sc.pshort) e))).symm
    replace hf := Lib.hid hf
    obtain rfl := bool_ne e3_3
    clear e3_3
    go_wp2_with (first | (go_at_call 38; first | ((with_reducible refine (d3.out _ hb2).mono ?_); rintro e w2 ⟨rfl, hb2⟩; obtain ⟨A3_11, B3_11, A3_12, B3_12, A3_13, B3_13, A3_14, B3_14⟩ := K3.out _ hb2) | ((with_reducible refine (d4.out _ hb2).mono ?_); rintro e w2 ⟨rfl, hb2⟩; obtain ⟨A3_11, B3_11, A3_12, B3_12, A3_13, B3_13, A3_14, B3_14⟩ := K3.out _ hb2)))
    all_goals go_ret
    all_goals exact close.out _ _ hf.out hb2
  subst e3_3
  go_upto_region 5 with (first | (go_at_call 38; first | ((with_reducible refine (d3.out _ hb2).mono ?_); rintro e w2 ⟨rfl, hb2⟩; obtain ⟨A3_11, B3_11, A3_12, B3_12, A3_13, B3_13, A3_14, B3_14⟩ := K3.out _ hb2) | ((with_reducible refine (d4.out _ hb2).mono ?_); rintro e w2 ⟨rfl, hb2⟩; obtain ⟨A3_11, B3_11, A3_12, B3_12, A3_13, B3_13, A3_14, B3_14⟩ := K3.out _ hb2)))
  clear A3_11 B3_11 A3_12 B3_12 A3_13 B3_13 A3_14 B3_14
  obtain ⟨A5_15, B5_15, A5_16, B5_16, A5_17, B5_17, A5_18, B5_18, A5_19, B5_19, A5_20, B5_20, A5_21, B5_21, A5_22, B5_22⟩ := K5.out _ hb2
  by_cases e5_0 : phase = phase'
  case neg =>
    have hf : false = C := by rw [← hC.out]; exact (decide_eq_false (fun e => e5_0 (congrArg (fun v : StV => v.sc.phase) e))).symm
    replace hf := Lib.hid hf
    have q : (phase != phase') = true := by simp [e5_0]
    clear e5_0
    go_wp2_with fail
    all_goals go_ret
    all_goals exact close.out _ _ hf.out hb2
  subst e5_0
  by_cases e5_1 : pcc = pcc'
  case neg =>
    have hf : false = C := by rw [← hC.out]; exact (decide_eq_false (fun e => e5_1 (congrArg (fun v : StV => v.sc.pc) e))).symm
    replace hf := Lib.hid hf
    have q : (pcc != pcc') = true := by simp [e5_1]
    clear e5_1
    go_wp2_with fail
    all_goals go_ret
    all_goals exact close.out _ _ hf.out hb2
  subst e5_1
  by_cases e5_2 : exit = exit'
  case neg =>
    have hf : false = C := by rw [← hC.out]; exact (decide_eq_false (fun e => e5_2 (congrArg (fun v : StV => v.sc.exit) e))).symm
    replace hf := Lib.hid hf
    have q : (exit != exit') = true := by simp [e5_2]
    clear e5_2
    go_wp2_with fail
    all_goals go_ret
    all_goals exact close.out _ _ hf.out hb2
  subst e5_2
  by_cases e5_3 : stop = stop'
  case neg =>
    have hf : false = C := by rw [← hC.out]; exact (decide_eq_false (fun e => e5_3 (congrArg (fun v : StV => v.sc.stop) e))).symm
    replace hf := Lib.hid hf
    have q : (stop != stop') = true := by simp [e5_3]
    clear e5_3
    go_wp2_with fail
    all_goals go_ret
    all_goals exact close.out _ _ hf.out hb2
  subst e5_3
  by_cases e5_4 : err = err'
  case neg =>
    have hf : false = C := by rw [← hC.out]; exact (decide_eq_false (fun e => e5_4 (congrArg (fun v : StV => v.sc.err) e))).symm
    replace hf := Lib.hid hf
    have q : (err != err') = true := by simp [e5_4]
    clear e5_4
    go_wp2_with fail
    all_goals go_ret
    all_goals exact close.out _ _ hf.out hb2
  subst e5_4
  by_cases e5_5 : silent = silent'
  case neg =>
    have hf : false = C := by rw [← hC.out]; exact (decide_eq_false (fun e => e5_5 (congrArg (fun v : StV => v.sc.silent) e))).symm
    replace hf := Lib.hid hf
    obtain rfl := bool_ne e5_5
    clear e5_5
    go_wp2_with fail
    all_goals go_ret
    all_goals exact close.out _ _ hf.out hb2
  subst e5_5
  by_cases e5_6 : quit = quit'
  case neg =>
    have hf : false = C := by rw [← hC.out]; exact (decide_eq_false (fun e => e5_6 (congrArg (fun v : StV => v.sc.quit) e))).symm
    replace hf := Lib.hid hf
    obtain rfl := bool_ne e5_6
    clear e5_6
    go_wp2_with fail
    all_goals go_ret
    all_goals exact close.out _ _ hf.out hb2
  subst e5_6
  by_cases e5_7 : again = again'
  case neg =>
    have hf : false = C := by rw [← hC.out]; exact (decide_eq_false (fun e => e5_7 (congrArg (fun v : StV => v.sc.again) e))).symm
    replace hf := Lib.hid hf
    obtain rfl := bool_ne e5_7
    clear e5_7
    go_wp2_with fail
    all_goals go_ret
    all_goals exact close.out _ _ hf.out hb2
  subst e5_7
  go_upto_region 7 with fail
  clear A5_15 B5_15 A5_16 B5_16 A5_17 B5_17 A5_18 B5_18 A5_19 B5_19 A5_20 B5_20 A5_21 B5_21 A5_22 B5_22
  obtain ⟨A7_23, B7_23, A7_24, B7_24, A7_25, B7_25, A7_26, B7_26⟩ := K7.out _ hb2
  by_cases e7_0 : va = va'
  case neg =>
    have hf : false = C := by rw [← hC.out]; exact (decide_eq_false (fun e => e7_0 (congrArg (fun v : StV => v.active) e))).symm
    replace hf := Lib.hid hf
    rw [decide_eq_false e7_0] at d6
    go_wp2_with (first | (go_at_call 40; first | ((with_reducible refine (d6.out _ hb2).mono ?_); rintro e w2 ⟨rfl, hb2⟩; obtain ⟨A7_23, B7_23, A7_24, B7_24, A7_25, B7_25, A7_26, B7_26⟩ := K7.out _ hb2) | ((with_reducible refine (d7.out _ hb2).mono ?_); rintro e w2 ⟨rfl, hb2⟩; obtain ⟨A7_23, B7_23, A7_24, B7_24, A7_25, B7_25, A7_26, B7_26⟩ := K7.out _ hb2)) | (go_at_call 41; first | ((with_reducible refine (d8.out _ hb2).mono ?_); rintro e w2 ⟨rfl, hb2⟩; obtain ⟨A7_23, B7_23, A7_24, B7_24, A7_25, B7_25, A7_26, B7_26⟩ := K7.out _ hb2)) | (go_at_call 42; first | ((with_reducible refine (d9.out _ hb2).mono ?_); rintro e w2 ⟨rfl, hb2⟩; obtain ⟨A7_23, B7_23, A7_24, B7_24, A7_25, B7_25, A7_26, B7_26⟩ := K7.out _ hb2)))
    all_goals go_ret
    all_goals exact close.out _ _ hf.out hb2
  rw [decide_eq_true e7_0] at d6
  replace e7_0 := Lib.hid e7_0
  by_cases e7_1 : vk = vk'
  case neg =>
    have hf : false = C := by rw [← hC.out]; exact (decide_eq_false (fun e => e7_1 (congrArg (fun v : StV => v.lacks) e))).symm
    replace hf := Lib.hid hf
    rw [decide_eq_false e7_1] at d7
    go_wp2_with (first | (go_at_call 40; first | ((with_reducible refine (d6.out _ hb2).mono ?_); rintro e w2 ⟨rfl, hb2⟩; obtain ⟨A7_23, B7_23, A7_24, B7_24, A7_25, B7_25, A7_26, B7_26⟩ := K7.out _ hb2) | ((with_reducible refine (d7.out _ hb2).mono ?_); rintro e w2 ⟨rfl, hb2⟩; obtain ⟨A7_23, B7_23, A7_24, B7_24, A7_25, B7_25, A7_26, B7_26⟩ := K7.out _ hb2)) | (go_at_call 41; first | ((with_reducible refine (d8.out _ hb2).mono ?_); rintro e w2 ⟨rfl, hb2⟩; obtain ⟨A7_23, B7_23, A7_24, B7_24, A7_25, B7_25, A7_26, B7_26⟩ := K7.out _ hb2)) | (go_at_call 42; first | ((with_reducible refine (d9.out _ hb2).mono ?_); rintro e w2 ⟨rfl, hb2⟩; obtain ⟨A7_23, B7_23, A7_24, B7_24, A7_25, B7_25, A7_26, B7_26⟩ := K7.out _ hb2)))
    all_goals go_ret
    all_goals exact close.out _ _ hf.out hb2
  rw [decide_eq_true e7_1] at d7
  replace e7_1 := Lib.hid e7_1
  by_cases e7_2 : vw = vw'
  case neg =>
    have hf : false = C := by rw [← hC.out]; exact (decide_eq_false (fun e => e7_2 (congrArg (fun v : StV => v.waits) e))).symm
    replace hf := Lib.hid hf
    rw [decide_eq_false e7_2] at d8
    go_wp2_with (first | (go_at_call 40; first | ((with_reducible refine (d6.out _ hb2).mono ?_); rintro e w2 ⟨rfl, hb2⟩; obtain ⟨A7_23, B7_23, A7_24, B7_24, A7_25, B7_25, A7_26, B7_26⟩ := K7.out _ hb2) | ((with_reducible refine (d7.out _ hb2).mono ?_); rintro e w2 ⟨rfl, hb2⟩; obtain ⟨A7_23, B7_23, A7_24, B7_24, A7_25, B7_25, A7_26, B7_26⟩ := K7.out _ hb2)) | (go_at_call 41; first | ((with_reducible refine (d8.out _ hb2).mono ?_); rintro e w2 ⟨rfl, hb2⟩; obtain ⟨A7_23, B7_23, A7_24, B7_24, A7_25, B7_25, A7_26, B7_26⟩ := K7.out _ hb2)) | (go_at_call 42; first | ((with_reducible refine (d9.out _ hb2).mono ?_); rintro e w2 ⟨rfl, hb2⟩; obtain ⟨A7_23, B7_23, A7_24, B7_24, A7_25, B7_25, A7_26, B7_26⟩ := K7.out _ hb2)))
    all_goals go_ret
    all_goals exact close.out _ _ hf.out hb2
  rw [decide_eq_true e7_2] at d8
  replace e7_2 := Lib.hid e7_2
  by_cases e7_3 : vf = vf'
  case neg =>
    have hf : false = C := by rw [← hC.out]; exact (decide_eq_false (fun e => e7_3 (congrArg (fun v : StV => v.files) e))).symm
    replace hf := Lib.hid hf
    rw [decide_eq_false e7_3] at d9
    go_wp2_with (first | (go_at_call 40; first | ((with_reducible refine (d6.out _ hb2).mono ?_); rintro e w2 ⟨rfl, hb2⟩; obtain ⟨A7_23, B7_23, A7_24, B7_24, A7_25, B7_25, A7_26, B7_26⟩ := K7.out _ hb2) | ((with_reducible refine (d7.out _ hb2).mono ?_); rintro e w2 ⟨rfl, hb2⟩; obtain ⟨A7_23, B7_23, A7_24, B7_24, A7_25, B7_25, A7_26, B7_26⟩ := K7.out _ hb2)) | (go_at_call 41; first | ((with_reducible refine (d8.out _ hb2).mono ?_); rintro e w2 ⟨rfl, hb2⟩; obtain ⟨A7_23, B7_23, A7_24, B7_24, A7_25, B7_25, A7_26, B7_26⟩ := K7.out _ hb2)) | (go_at_call 42; first | ((with_reducible refine (d9.out _ hb2).mono ?_); rintro e w2 ⟨rfl, hb2⟩; obtain ⟨A7_23, B7_23, A7_24, B7_24, A7_25, B7_25, A7_26, B7_26⟩ := K7.out _ hb2)))
    all_goals go_ret
    all_goals exact close.out _ _ hf.out hb2
  rw [decide_eq_true e7_3] at d9
  replace e7_3 := Lib.hid e7_3
  have hf : true = C := by
    rw [← hC.out]
    obtain ⟨rfl, rfl, rfl, rfl, rfl⟩ := e1_6.out
    obtain rfl := e1_0.out
    obtain rfl := e1_1.out
    obtain rfl := e3_0.out
    obtain rfl := e3_2.out
    obtain rfl := e7_0.out
    obtain rfl := e7_1.out
    obtain rfl := e7_2.out
    obtain rfl := e7_3.out
    exact (decide_eq_true rfl).symm
  replace hf := Lib.hid hf
  go_wp2_with (first | (go_at_call 40; first | ((with_reducible refine (d6.out _ hb2).mono ?_); rintro e w2 ⟨rfl, hb2⟩; obtain ⟨A7_23, B7_23, A7_24, B7_24, A7_25, B7_25, A7_26, B7_26⟩ := K7.out _ hb2) | ((with_reducible refine (d7.out _ hb2).mono ?_); rintro e w2 ⟨rfl, hb2⟩; obtain ⟨A7_23, B7_23, A7_24, B7_24, A7_25, B7_25, A7_26, B7_26⟩ := K7.out _ hb2)) | (go_at_call 41; first | ((with_reducible refine (d8.out _ hb2).mono ?_); rintro e w2 ⟨rfl, hb2⟩; obtain ⟨A7_23, B7_23, A7_24, B7_24, A7_25, B7_25, A7_26, B7_26⟩ := K7.out _ hb2)) | (go_at_call 42; first | ((with_reducible refine (d9.out _ hb2).mono ?_); rintro e w2 ⟨rfl, hb2⟩; obtain ⟨A7_23, B7_23, A7_24, B7_24, A7_25, B7_25, A7_26, B7_26⟩ := K7.out _ hb2)))
  all_goals go_ret
  all_goals exact close.out _ _ hf.out hb2
end Go.Proofs.YtepdfkgadigafaaGreatDoor
