/-
  palinoderef20.Same of two states that say the same; of chapter 20.
  Conditions: as each theorem states them.
-/
import Derived.Test.YtfidmpkblmebeaaSame18
import Derived.Deep.CutBlock
namespace Go.Proofs.Ytfidmpkblmebeaa
open Go.RowKit
set_option linter.unusedVariables false
set_option linter.unusedSimpArgs false
theorem same_tx {X : World} {lo hi lo' hi' : Nat} {a a' : Option Addr} {n c n' c' : Nat} {t : List UInt8} (h : TxI lo hi X ⟨a, n, c⟩ t) (h' : TxI lo' hi' X ⟨a', n', c'⟩ t) (hX : hi ≤ X.heap.size) (hX' : hi' ≤ X.heap.size) :
    Calls Try.prog 36 #[.slice a n c, .slice a' n' c'] X fun e w' => e = .returned (.bool true) ∧ Below X.heap.size X w' := by
  obtain rfl : n = t.length := h.1
  obtain rfl : n' = t.length := h'.1
  refine (same_bytes a a' c c' t t X h.2.2.1 h.2.2.1 (h.at hX) (h'.at hX')).mono ?_
  rintro e w' ⟨rfl, m, rfl⟩
  exact ⟨by simp, bl_drewN (Below.refl _ _) _⟩
theorem same_bl {X : World} {lo hi lo' hi' : Nat} {a a' : Option Addr} {n c n' c' : Nat} {t : List Bool} (h : BlI lo hi X ⟨a, n, c⟩ t) (h' : BlI lo' hi' X ⟨a', n', c'⟩ t) (hX : hi ≤ X.heap.size) (hX' : hi' ≤ X.heap.size) :
    Calls Try.prog 38 #[.slice a n c, .slice a' n' c'] X fun e w' => e = .returned (.bool true) ∧ Below X.heap.size X w' := by
  obtain rfl : n = t.length := h.1
  obtain rfl : n' = t.length := h'.1
  refine (same_bools a a' c c' t t X h.2.2.1 h.2.2.1 (h.at hX) (h'.at hX')).mono ?_
  rintro e w' ⟨rfl, m, rfl⟩
  exact ⟨by simp, bl_drewN (Below.refl _ _) _⟩
theorem same_18 {X : World} {lo hi lo' hi' : Nat} {a a' : Option Addr} {n c n' c' : Nat} {t : List UInt8} (x0 x1 x2 x3 : Int) (h : TxI lo hi X ⟨a, n, c⟩ t) (h' : TxI lo' hi' X ⟨a', n', c'⟩ t) (hX : hi ≤ X.heap.size) (hX' : hi' ≤ X.heap.size) :
    Calls Try.prog 37 #[.agg #[.int .i64 x0, .int .i64 x1, .int .i64 x2, .int .i64 x3, .slice a n c], .agg #[.int .i64 x0, .int .i64 x1, .int .i64 x2, .int .i64 x3, .slice a' n' c']] X fun e w' => e = .returned (.bool true) ∧ Below X.heap.size X w' := by
  obtain rfl : n = t.length := h.1
  obtain rfl : n' = t.length := h'.1
  exact same_in X x0 x1 x2 x3 a a' c c' t h.2.2.1 (h.at hX) (h'.at hX')
theorem same_fi {X : World} {lo hi lo' hi' : Nat} {a a' : Option Addr} {n c n' c' : Nat} {t : List (List UInt8 × List UInt8)} (h : PrI strV lo hi X ⟨a, n, c⟩ t) (h' : PrI strV lo' hi' X ⟨a', n', c'⟩ t) (hX : hi ≤ X.heap.size) (hX' : hi' ≤ X.heap.size) (hl : t.length ≤ 1000000) (ht : ∀ p ∈ t, p.2.length ≤ 1000000) :
    Calls Try.prog 40 #[.slice a n c, .slice a' n' c'] X fun e w' => e = .returned (.bool true) ∧ Below X.heap.size X w' := by
  obtain rfl : n = t.length := h.1
  obtain rfl : n' = t.length := h'.1
  refine (same_files a a' c c' t t X hl hl ht ht (h.at hX) (h'.at hX')).mono ?_
  rintro e w' ⟨rfl, m, rfl⟩
  exact ⟨by simp, bl_drewN (Below.refl _ _) _⟩
theorem same_wa {X : World} {lo hi lo' hi' : Nat} {a a' : Option Addr} {n c n' c' : Nat} {t : List (Int × List UInt8)} (h : PrI kindV lo hi X ⟨a, n, c⟩ t) (h' : PrI kindV lo' hi' X ⟨a', n', c'⟩ t) (hX : hi ≤ X.heap.size) (hX' : hi' ≤ X.heap.size) (hl : t.length ≤ 1000000) (ht : ∀ p ∈ t, p.2.length ≤ 1000000) :
    Calls Try.prog 39 #[.slice a n c, .slice a' n' c'] X fun e w' => e = .returned (.bool true) ∧ Below X.heap.size X w' := by
  obtain rfl : n = t.length := h.1
  obtain rfl : n' = t.length := h'.1
  refine (same_waits a a' c c' t t X hl hl ht ht (h.at hX) (h'.at hX')).mono ?_
  rintro e w' ⟨rfl, m, rfl⟩
  exact ⟨by simp, bl_drewN (Below.refl _ _) _⟩
set_option maxHeartbeats 4000000 in
set_option maxRecDepth 100000 in
theorem same_st (w : World) (s s' : StC) (V : StV) {lo hi lo' hi' : Nat} (h : SIn lo hi s V w) (h' : SIn lo' hi' s' V w) (hw : V.waits.length ≤ 1000000) (hwt : ∀ p ∈ V.waits, p.2.length ≤ 1000000) (hf : V.files.length ≤ 1000000) (hft : ∀ p ∈ V.files, p.2.length ≤ 1000000) :
    Calls Try.prog 23 #[.agg s.cells.toArray, .agg s'.cells.toArray] w fun e w' => e = .returned (.bool true) ∧ Below w.heap.size w w' := by
  have esc : s.sc = s'.sc := h.sc.trans h'.sc.symm
  have B0 := fun X (hb : Below w.heap.size w X) => h.below hb
  have B1 := fun X (hb : Below w.heap.size w X) => h'.below hb
  obtain ⟨⟨pa, pn, pc⟩, ⟨ha, hn, hc⟩, nl, line, subst, last, next, opn, cur, missing, ⟨ra, rn, rc⟩, ⟨oa, on, oc⟩, short, ⟨la, ln, lc⟩, pshort, phase, pcc, exit, stop, err, silent, quit, again, ⟨aa, an, ac⟩, ⟨wa, wn, wc⟩, ⟨fa, fn, fc⟩, ⟨ka, kn, kc⟩⟩ := s
  obtain ⟨⟨pa', pn', pc'⟩, ⟨ha', hn', hc'⟩, nl', line', subst', last', next', opn', cur', missing', ⟨ra', rn', rc'⟩, ⟨oa', on', oc'⟩, short', ⟨la', ln', lc'⟩, pshort', phase', pcc', exit', stop', err', silent', quit', again', ⟨aa', an', ac'⟩, ⟨wa', wn', wc'⟩, ⟨fa', fn', fc'⟩, ⟨ka', kn', kc'⟩⟩ := s'
  unfold StC.sc at esc
  injection esc with e1 e2 e3 e4 e5 e6 e7 e8 e9 e10 e11 e12 e13 e14 e15 e16 e17 e18
  subst e1 e2 e3 e4 e5 e6 e7 e8 e9 e10 e11 e12 e13 e14 e15 e16 e17 e18
  have c1 := fun X (hb : Below w.heap.size w X) => same_tx (B0 X hb).pat (B1 X hb).pat (B0 X hb).top (B1 X hb).top
  have c2 := fun X (hb : Below w.heap.size w X) => same_tx (B0 X hb).hold (B1 X hb).hold (B0 X hb).top (B1 X hb).top
  have c3 := fun X (hb : Below w.heap.size w X) => same_tx (B0 X hb).out (B1 X hb).out (B0 X hb).top (B1 X hb).top
  have c4 := fun X (hb : Below w.heap.size w X) => same_tx (B0 X hb).place (B1 X hb).place (B0 X hb).top (B1 X hb).top
  have c5 := fun X (hb : Below w.heap.size w X) => same_18 next opn cur missing (B0 X hb).rest (B1 X hb).rest (B0 X hb).top (B1 X hb).top
  have c6 := fun X (hb : Below w.heap.size w X) => same_bl (B0 X hb).active (B1 X hb).active (B0 X hb).top (B1 X hb).top
  have c7 := fun X (hb : Below w.heap.size w X) => same_bl (B0 X hb).lacks (B1 X hb).lacks (B0 X hb).top (B1 X hb).top
  have c8 := fun X (hb : Below w.heap.size w X) => same_wa (B0 X hb).waits (B1 X hb).waits (B0 X hb).top (B1 X hb).top hw hwt
  have c9 := fun X (hb : Below w.heap.size w X) => same_fi (B0 X hb).files (B1 X hb).files (B0 X hb).top (B1 X hb).top hf hft
  obtain ⟨CA, hCA⟩ : ∃ CA : List Value, [.slice pa pn pc, .slice ha hn hc, .bool nl, .int .i64 line, .bool subst, .int .i64 last, .int .i64 next, .int .i64 opn, .int .i64 cur, .int .i64 missing, .slice ra rn rc, .slice oa on oc, .bool short, .slice la ln lc, .bool pshort, .int .i64 phase, .int .i64 pcc, .int .i64 exit, .int .i64 stop, .int .i64 err, .bool silent, .bool quit, .bool again, .slice aa an ac, .slice wa wn wc, .slice fa fn fc, .slice ka kn kc] = CA := ⟨_, rfl⟩
  obtain ⟨CB, hCB⟩ : ∃ CB : List Value, [.slice pa' pn' pc', .slice ha' hn' hc', .bool nl, .int .i64 line, .bool subst, .int .i64 last, .int .i64 next, .int .i64 opn, .int .i64 cur, .int .i64 missing, .slice ra' rn' rc', .slice oa' on' oc', .bool short, .slice la' ln' lc', .bool pshort, .int .i64 phase, .int .i64 pcc, .int .i64 exit, .int .i64 stop, .int .i64 err, .bool silent, .bool quit, .bool again, .slice aa' an' ac', .slice wa' wn' wc', .slice fa' fn' fc', .slice ka' kn' kc'] = CB := ⟨_, rfl⟩
  show Calls _ _ #[.agg (List.toArray [.slice pa pn pc, .slice ha hn hc, .bool nl, .int .i64 line, .bool subst, .int .i64 last, .int .i64 next, .int .i64 opn, .int .i64 cur, .int .i64 missing, .slice ra rn rc, .slice oa on oc, .bool short, .slice la ln lc, .bool pshort, .int .i64 phase, .int .i64 pcc, .int .i64 exit, .int .i64 stop, .int .i64 err, .bool silent, .bool quit, .bool again, .slice aa an ac, .slice wa wn wc, .slice fa fn fc, .slice ka kn kc]), .agg (List.toArray [.slice pa' pn' pc', .slice ha' hn' hc', .bool nl, .int .i64 line, .bool subst, .int .i64 last, .int .i64 next, .int .i64 opn, .int .i64 cur, .int .i64 missing, .slice ra' rn' rc', .slice oa' on' oc', .bool short, .slice la' ln' lc', .bool pshort, .int .i64 phase, .int .i64 pcc, .int .i64 exit, .int .i64 stop, .int .i64 err, .bool silent, .bool quit, .bool again, .slice aa' an' ac', .slice wa' wn' wc', .slice fa' fn' fc', .slice ka' kn' kc'])] _ _
  rw [hCA, hCB]
  obtain ⟨W1, hW1⟩ : ∃ W1, (w.alloc (.cells CA.toArray 43)).alloc (.cells CB.toArray 43) = W1 := ⟨_, rfl⟩
  have bA : Blk W1 w.heap.size 43 CA := by rw [← hW1]; exact (Blk.new w _ _).alloc _
  have bB : Blk W1 (w.heap.size + 1) 43 CB := by rw [← hW1]; simpa using Blk.new (w.alloc (.cells CA.toArray 43)) 43 CB
  have hbW : Below w.heap.size w W1 := by rw [← hW1]; exact bl_alloc (bl_alloc (Below.refl _ _) _) _
  have ltA := bA.lt
  have ltB := bB.lt
  have K1 : Hid (∀ X, Below W1.heap.size W1 X → X.cell? ⟨w.heap.size, 0, none⟩ = some (.slice pa pn pc) ∧ X.cell? ⟨w.heap.size + 1, 0, none⟩ = some (.slice pa' pn' pc') ∧ X.cell? ⟨w.heap.size, 1, none⟩ = some (.slice ha hn hc) ∧ X.cell? ⟨w.heap.size + 1, 1, none⟩ = some (.slice ha' hn' hc') ∧ X.cell? ⟨w.heap.size, 2, none⟩ = some (.bool nl) ∧ X.cell? ⟨w.heap.size + 1, 2, none⟩ = some (.bool nl) ∧ X.cell? ⟨w.heap.size, 3, none⟩ = some (.int .i64 line) ∧ X.cell? ⟨w.heap.size + 1, 3, none⟩ = some (.int .i64 line) ∧ X.cell? ⟨w.heap.size, 4, none⟩ = some (.bool subst) ∧ X.cell? ⟨w.heap.size + 1, 4, none⟩ = some (.bool subst) ∧ X.cell? ⟨w.heap.size, 5, none⟩ = some (.int .i64 last) ∧ X.cell? ⟨w.heap.size + 1, 5, none⟩ = some (.int .i64 last) ∧ X.cell? ⟨w.heap.size, 6, none⟩ = some (.int .i64 next) ∧ X.cell? ⟨w.heap.size + 1, 6, none⟩ = some (.int .i64 next) ∧ X.cell? ⟨w.heap.size, 7, none⟩ = some (.int .i64 opn) ∧ X.cell? ⟨w.heap.size + 1, 7, none⟩ = some (.int .i64 opn) ∧ X.cell? ⟨w.heap.size, 8, none⟩ = some (.int .i64 cur) ∧ X.cell? ⟨w.heap.size + 1, 8, none⟩ = some (.int .i64 cur) ∧ X.cell? ⟨w.heap.size, 9, none⟩ = some (.int .i64 missing) ∧ X.cell? ⟨w.heap.size + 1, 9, none⟩ = some (.int .i64 missing) ∧ X.cell? ⟨w.heap.size, 10, none⟩ = some (.slice ra rn rc) ∧ X.cell? ⟨w.heap.size + 1, 10, none⟩ = some (.slice ra' rn' rc')) := Lib.hid (fun X hb => ⟨(hb.cell (p := ⟨w.heap.size, 0, none⟩) ltA).trans (by rw [bA.cell, ← hCA]; rfl), (hb.cell (p := ⟨w.heap.size + 1, 0, none⟩) ltB).trans (by rw [bB.cell, ← hCB]; rfl), (hb.cell (p := ⟨w.heap.size, 1, none⟩) ltA).trans (by rw [bA.cell, ← hCA]; rfl), (hb.cell (p := ⟨w.heap.size + 1, 1, none⟩) ltB).trans (by rw [bB.cell, ← hCB]; rfl), (hb.cell (p := ⟨w.heap.size, 2, none⟩) ltA).trans (by rw [bA.cell, ← hCA]; rfl), (hb.cell (p := ⟨w.heap.size + 1, 2, none⟩) ltB).trans (by rw [bB.cell, ← hCB]; rfl), (hb.cell (p := ⟨w.heap.size, 3, none⟩) ltA).trans (by rw [bA.cell, ← hCA]; rfl), (hb.cell (p := ⟨w.heap.size + 1, 3, none⟩) ltB).trans (by rw [bB.cell, ← hCB]; rfl), (hb.cell (p := ⟨w.heap.size, 4, none⟩) ltA).trans (by rw [bA.cell, ← hCA]; rfl), (hb.cell (p := ⟨w.heap.size + 1, 4, none⟩) ltB).trans (by rw [bB.cell, ← hCB]; rfl), (hb.cell (p := ⟨w.heap.size, 5, none⟩) ltA).trans (by rw [bA.cell, ← hCA]; rfl), (hb.cell (p := ⟨w.heap.size + 1, 5, none⟩) ltB).trans (by rw [bB.cell, ← hCB]; rfl), (hb.cell (p := ⟨w.heap.size, 6, none⟩) ltA).trans (by rw [bA.cell, ← hCA]; rfl), (hb.cell (p := ⟨w.heap.size + 1, 6, none⟩) ltB).trans (by rw [bB.cell, ← hCB]; rfl), (hb.cell (p := ⟨w.heap.size, 7, none⟩) ltA).trans (by rw [bA.cell, ← hCA]; rfl), (hb.cell (p := ⟨w.heap.size + 1, 7, none⟩) ltB).trans (by rw [bB.cell, ← hCB]; rfl), (hb.cell (p := ⟨w.heap.size, 8, none⟩) ltA).trans (by rw [bA.cell, ← hCA]; rfl), (hb.cell (p := ⟨w.heap.size + 1, 8, none⟩) ltB).trans (by rw [bB.cell, ← hCB]; rfl), (hb.cell (p := ⟨w.heap.size, 9, none⟩) ltA).trans (by rw [bA.cell, ← hCA]; rfl), (hb.cell (p := ⟨w.heap.size + 1, 9, none⟩) ltB).trans (by rw [bB.cell, ← hCB]; rfl), (hb.cell (p := ⟨w.heap.size, 10, none⟩) ltA).trans (by rw [bA.cell, ← hCA]; rfl), (hb.cell (p := ⟨w.heap.size + 1, 10, none⟩) ltB).trans (by rw [bB.cell, ← hCB]; rfl)⟩)
  have K3 : Hid (∀ X, Below W1.heap.size W1 X → X.cell? ⟨w.heap.size, 11, none⟩ = some (.slice oa on oc) ∧ X.cell? ⟨w.heap.size + 1, 11, none⟩ = some (.slice oa' on' oc') ∧ X.cell? ⟨w.heap.size, 12, none⟩ = some (.bool short) ∧ X.cell? ⟨w.heap.size + 1, 12, none⟩ = some (.bool short) ∧ X.cell? ⟨w.heap.size, 13, none⟩ = some (.slice la ln lc) ∧ X.cell? ⟨w.heap.size + 1, 13, none⟩ = some (.slice la' ln' lc') ∧ X.cell? ⟨w.heap.size, 14, none⟩ = some (.bool pshort) ∧ X.cell? ⟨w.heap.size + 1, 14, none⟩ = some (.bool pshort)) := Lib.hid (fun X hb => ⟨(hb.cell (p := ⟨w.heap.size, 11, none⟩) ltA).trans (by rw [bA.cell, ← hCA]; rfl), (hb.cell (p := ⟨w.heap.size + 1, 11, none⟩) ltB).trans (by rw [bB.cell, ← hCB]; rfl), (hb.cell (p := ⟨w.heap.size, 12, none⟩) ltA).trans (by rw [bA.cell, ← hCA]; rfl), (hb.cell (p := ⟨w.heap.size + 1, 12, none⟩) ltB).trans (by rw [bB.cell, ← hCB]; rfl), (hb.cell (p := ⟨w.heap.size, 13, none⟩) ltA).trans (by rw [bA.cell, ← hCA]; rfl), (hb.cell (p := ⟨w.heap.size + 1, 13, none⟩) ltB).trans (by rw [bB.cell, ← hCB]; rfl), (hb.cell (p := ⟨w.heap.size, 14, none⟩) ltA).trans (by rw [bA.cell, ← hCA]; rfl), (hb.cell (p := ⟨w.heap.size + 1, 14, none⟩) ltB).trans (by rw [bB.cell, ← hCB]; rfl)⟩)
  have K5 : Hid (∀ X, Below W1.heap.size W1 X → X.cell? ⟨w.heap.size, 15, none⟩ = some (.int .i64 phase) ∧ X.cell? ⟨w.heap.size + 1, 15, none⟩ = some (.int .i64 phase) ∧ X.cell? ⟨w.heap.size, 16, none⟩ = some (.int .i64 pcc) ∧ X.cell? ⟨w.heap.size + 1, 16, none⟩ = some (.int .i64 pcc) ∧ X.cell? ⟨w.heap.size, 17, none⟩ = some (.int .i64 exit) ∧ X.cell? ⟨w.heap.size + 1, 17, none⟩ = some (.int .i64 exit) ∧ X.cell? ⟨w.heap.size, 18, none⟩ = some (.int .i64 stop) ∧ X.cell? ⟨w.heap.size + 1, 18, none⟩ = some (.int .i64 stop) ∧ X.cell? ⟨w.heap.size, 19, none⟩ = some (.int .i64 err) ∧ X.cell? ⟨w.heap.size + 1, 19, none⟩ = some (.int .i64 err) ∧ X.cell? ⟨w.heap.size, 20, none⟩ = some (.bool silent) ∧ X.cell? ⟨w.heap.size + 1, 20, none⟩ = some (.bool silent) ∧ X.cell? ⟨w.heap.size, 21, none⟩ = some (.bool quit) ∧ X.cell? ⟨w.heap.size + 1, 21, none⟩ = some (.bool quit) ∧ X.cell? ⟨w.heap.size, 22, none⟩ = some (.bool again) ∧ X.cell? ⟨w.heap.size + 1, 22, none⟩ = some (.bool again)) := Lib.hid (fun X hb => ⟨(hb.cell (p := ⟨w.heap.size, 15, none⟩) ltA).trans (by rw [bA.cell, ← hCA]; rfl), (hb.cell (p := ⟨w.heap.size + 1, 15, none⟩) ltB).trans (by rw [bB.cell, ← hCB]; rfl), (hb.cell (p := ⟨w.heap.size, 16, none⟩) ltA).trans (by rw [bA.cell, ← hCA]; rfl), (hb.cell (p := ⟨w.heap.size + 1, 16, none⟩) ltB).trans (by rw [bB.cell, ← hCB]; rfl), (hb.cell (p := ⟨w.heap.size, 17, none⟩) ltA).trans (by rw [bA.cell, ← hCA]; rfl), (hb.cell (p := ⟨w.heap.size + 1, 17, none⟩) ltB).trans (by rw [bB.cell, ← hCB]; rfl), (hb.cell (p := ⟨w.heap.size, 18, none⟩) ltA).trans (by rw [bA.cell, ← hCA]; rfl), (hb.cell (p := ⟨w.heap.size + 1, 18, none⟩) ltB).trans (by rw [bB.cell, ← hCB]; rfl), (hb.cell (p := ⟨w.heap.size, 19, none⟩) ltA).trans (by rw [bA.cell, ← hCA]; rfl), (hb.cell (p := ⟨w.heap.size + 1, 19, none⟩) ltB).trans (by rw [bB.cell, ← hCB]; rfl), (hb.cell (p := ⟨w.heap.size, 20, none⟩) ltA).trans (by rw [bA.cell, ← hCA]; rfl), (hb.cell (p := ⟨w.heap.size + 1, 20, none⟩) ltB).trans (by rw [bB.cell, ← hCB]; rfl), (hb.cell (p := ⟨w.heap.size, 21, none⟩) ltA).trans (by rw [bA.cell, ← hCA]; rfl), (hb.cell (p := ⟨w.heap.size + 1, 21, none⟩) ltB).trans (by rw [bB.cell, ← hCB]; rfl), (hb.cell (p := ⟨w.heap.size, 22, none⟩) ltA).trans (by rw [bA.cell, ← hCA]; rfl), (hb.cell (p := ⟨w.heap.size + 1, 22, none⟩) ltB).trans (by rw [bB.cell, ← hCB]; rfl)⟩)
  have K7 : Hid (∀ X, Below W1.heap.size W1 X → X.cell? ⟨w.heap.size, 23, none⟩ = some (.slice aa an ac) ∧ X.cell? ⟨w.heap.size + 1, 23, none⟩ = some (.slice aa' an' ac') ∧ X.cell? ⟨w.heap.size, 24, none⟩ = some (.slice wa wn wc) ∧ X.cell? ⟨w.heap.size + 1, 24, none⟩ = some (.slice wa' wn' wc') ∧ X.cell? ⟨w.heap.size, 25, none⟩ = some (.slice fa fn fc) ∧ X.cell? ⟨w.heap.size + 1, 25, none⟩ = some (.slice fa' fn' fc') ∧ X.cell? ⟨w.heap.size, 26, none⟩ = some (.slice ka kn kc) ∧ X.cell? ⟨w.heap.size + 1, 26, none⟩ = some (.slice ka' kn' kc')) := Lib.hid (fun X hb => ⟨(hb.cell (p := ⟨w.heap.size, 23, none⟩) ltA).trans (by rw [bA.cell, ← hCA]; rfl), (hb.cell (p := ⟨w.heap.size + 1, 23, none⟩) ltB).trans (by rw [bB.cell, ← hCB]; rfl), (hb.cell (p := ⟨w.heap.size, 24, none⟩) ltA).trans (by rw [bA.cell, ← hCA]; rfl), (hb.cell (p := ⟨w.heap.size + 1, 24, none⟩) ltB).trans (by rw [bB.cell, ← hCB]; rfl), (hb.cell (p := ⟨w.heap.size, 25, none⟩) ltA).trans (by rw [bA.cell, ← hCA]; rfl), (hb.cell (p := ⟨w.heap.size + 1, 25, none⟩) ltB).trans (by rw [bB.cell, ← hCB]; rfl), (hb.cell (p := ⟨w.heap.size, 26, none⟩) ltA).trans (by rw [bA.cell, ← hCA]; rfl), (hb.cell (p := ⟨w.heap.size + 1, 26, none⟩) ltB).trans (by rw [bB.cell, ← hCB]; rfl)⟩)
  have d1 : Hid (∀ X, Below W1.heap.size W1 X → Calls Try.prog 36 #[.slice pa pn pc, .slice pa' pn' pc'] X fun e w' => e = .returned (.bool true) ∧ Below W1.heap.size W1 w') := Lib.hid (fun X hb => (c1 X (hbW.trans (hb.mono hbW.size))).mono (by rintro e w' ⟨rfl, h⟩; exact ⟨rfl, hb.trans (h.mono hb.size)⟩))
  have d2 : Hid (∀ X, Below W1.heap.size W1 X → Calls Try.prog 36 #[.slice ha hn hc, .slice ha' hn' hc'] X fun e w' => e = .returned (.bool true) ∧ Below W1.heap.size W1 w') := Lib.hid (fun X hb => (c2 X (hbW.trans (hb.mono hbW.size))).mono (by rintro e w' ⟨rfl, h⟩; exact ⟨rfl, hb.trans (h.mono hb.size)⟩))
  have d3 : Hid (∀ X, Below W1.heap.size W1 X → Calls Try.prog 36 #[.slice oa on oc, .slice oa' on' oc'] X fun e w' => e = .returned (.bool true) ∧ Below W1.heap.size W1 w') := Lib.hid (fun X hb => (c3 X (hbW.trans (hb.mono hbW.size))).mono (by rintro e w' ⟨rfl, h⟩; exact ⟨rfl, hb.trans (h.mono hb.size)⟩))
  have d4 : Hid (∀ X, Below W1.heap.size W1 X → Calls Try.prog 36 #[.slice la ln lc, .slice la' ln' lc'] X fun e w' => e = .returned (.bool true) ∧ Below W1.heap.size W1 w') := Lib.hid (fun X hb => (c4 X (hbW.trans (hb.mono hbW.size))).mono (by rintro e w' ⟨rfl, h⟩; exact ⟨rfl, hb.trans (h.mono hb.size)⟩))
  have d5 : Hid (∀ X, Below W1.heap.size W1 X → Calls Try.prog 37 #[.agg #[.int .i64 next, .int .i64 opn, .int .i64 cur, .int .i64 missing, .slice ra rn rc], .agg #[.int .i64 next, .int .i64 opn, .int .i64 cur, .int .i64 missing, .slice ra' rn' rc']] X fun e w' => e = .returned (.bool true) ∧ Below W1.heap.size W1 w') := Lib.hid (fun X hb => (c5 X (hbW.trans (hb.mono hbW.size))).mono (by rintro e w' ⟨rfl, h⟩; exact ⟨rfl, hb.trans (h.mono hb.size)⟩))
  have d6 : Hid (∀ X, Below W1.heap.size W1 X → Calls Try.prog 38 #[.slice aa an ac, .slice aa' an' ac'] X fun e w' => e = .returned (.bool true) ∧ Below W1.heap.size W1 w') := Lib.hid (fun X hb => (c6 X (hbW.trans (hb.mono hbW.size))).mono (by rintro e w' ⟨rfl, h⟩; exact ⟨rfl, hb.trans (h.mono hb.size)⟩))
  have d7 : Hid (∀ X, Below W1.heap.size W1 X → Calls Try.prog 38 #[.slice ka kn kc, .slice ka' kn' kc'] X fun e w' => e = .returned (.bool true) ∧ Below W1.heap.size W1 w') := Lib.hid (fun X hb => (c7 X (hbW.trans (hb.mono hbW.size))).mono (by rintro e w' ⟨rfl, h⟩; exact ⟨rfl, hb.trans (h.mono hb.size)⟩))
  have d8 : Hid (∀ X, Below W1.heap.size W1 X → Calls Try.prog 39 #[.slice wa wn wc, .slice wa' wn' wc'] X fun e w' => e = .returned (.bool true) ∧ Below W1.heap.size W1 w') := Lib.hid (fun X hb => (c8 X (hbW.trans (hb.mono hbW.size))).mono (by rintro e w' ⟨rfl, h⟩; exact ⟨rfl, hb.trans (h.mono hb.size)⟩))
  have d9 : Hid (∀ X, Below W1.heap.size W1 X → Calls Try.prog 40 #[.slice fa fn fc, .slice fa' fn' fc'] X fun e w' => e = .returned (.bool true) ∧ Below W1.heap.size W1 w') := Lib.hid (fun X hb => (c9 X (hbW.trans (hb.mono hbW.size))).mono (by rintro e w' ⟨rfl, h⟩; exact ⟨rfl, hb.trans (h.mono hb.size)⟩))
  clear c1 c2 c3 c4 c5 c6 c7 c8 c9 B0 B1 h h' bA bB hwt hft
  replace hbW := Lib.hid hbW
  replace hW1 := Lib.hid hW1
  replace hCA := Lib.hid hCA
  replace hCB := Lib.hid hCB
  go_enter Try.func23, Try.ntmps23
  go_upto_region 1 with fail
  rw [hW1.out]
  clear hW1
  have hb : Below W1.heap.size W1 W1 := Below.refl _ _
  obtain ⟨w2, hw2⟩ : ∃ X, W1 = X := ⟨_, rfl⟩
  have hb2 : Below W1.heap.size W1 w2 := hw2 ▸ hb
  have ltA2 : w.heap.size < w2.heap.size := hw2 ▸ ltA
  have ltB2 : w.heap.size + 1 < w2.heap.size := hw2 ▸ ltB
  rw [hw2]
  clear hw2 hb
  obtain ⟨A1_0, B1_0, A1_1, B1_1, A1_2, B1_2, A1_3, B1_3, A1_4, B1_4, A1_5, B1_5, A1_6, B1_6, A1_7, B1_7, A1_8, B1_8, A1_9, B1_9, A1_10, B1_10⟩ := K1.out _ hb2
  go_upto_region 3 with (first | (go_at_call 36; first | ((with_reducible refine (d1.out _ hb2).mono ?_); rintro e w2 ⟨rfl, hb2⟩; obtain ⟨A1_0, B1_0, A1_1, B1_1, A1_2, B1_2, A1_3, B1_3, A1_4, B1_4, A1_5, B1_5, A1_6, B1_6, A1_7, B1_7, A1_8, B1_8, A1_9, B1_9, A1_10, B1_10⟩ := K1.out _ hb2) | ((with_reducible refine (d2.out _ hb2).mono ?_); rintro e w2 ⟨rfl, hb2⟩; obtain ⟨A1_0, B1_0, A1_1, B1_1, A1_2, B1_2, A1_3, B1_3, A1_4, B1_4, A1_5, B1_5, A1_6, B1_6, A1_7, B1_7, A1_8, B1_8, A1_9, B1_9, A1_10, B1_10⟩ := K1.out _ hb2)) | (go_at_call 37; first | ((with_reducible refine (d5.out _ hb2).mono ?_); rintro e w2 ⟨rfl, hb2⟩; obtain ⟨A1_0, B1_0, A1_1, B1_1, A1_2, B1_2, A1_3, B1_3, A1_4, B1_4, A1_5, B1_5, A1_6, B1_6, A1_7, B1_7, A1_8, B1_8, A1_9, B1_9, A1_10, B1_10⟩ := K1.out _ hb2)))
  clear A1_0 B1_0 A1_1 B1_1 A1_2 B1_2 A1_3 B1_3 A1_4 B1_4 A1_5 B1_5 A1_6 B1_6 A1_7 B1_7 A1_8 B1_8 A1_9 B1_9 A1_10 B1_10
  obtain ⟨A3_11, B3_11, A3_12, B3_12, A3_13, B3_13, A3_14, B3_14⟩ := K3.out _ hb2
  go_upto_region 5 with (first | (go_at_call 36; first | ((with_reducible refine (d3.out _ hb2).mono ?_); rintro e w2 ⟨rfl, hb2⟩; obtain ⟨A3_11, B3_11, A3_12, B3_12, A3_13, B3_13, A3_14, B3_14⟩ := K3.out _ hb2) | ((with_reducible refine (d4.out _ hb2).mono ?_); rintro e w2 ⟨rfl, hb2⟩; obtain ⟨A3_11, B3_11, A3_12, B3_12, A3_13, B3_13, A3_14, B3_14⟩ := K3.out _ hb2)))
  clear A3_11 B3_11 A3_12 B3_12 A3_13 B3_13 A3_14 B3_14
  obtain ⟨A5_15, B5_15, A5_16, B5_16, A5_17, B5_17, A5_18, B5_18, A5_19, B5_19, A5_20, B5_20, A5_21, B5_21, A5_22, B5_22⟩ := K5.out _ hb2
  go_upto_region 7 with fail
  clear A5_15 B5_15 A5_16 B5_16 A5_17 B5_17 A5_18 B5_18 A5_19 B5_19 A5_20 B5_20 A5_21 B5_21 A5_22 B5_22
  obtain ⟨A7_23, B7_23, A7_24, B7_24, A7_25, B7_25, A7_26, B7_26⟩ := K7.out _ hb2
  go_wp2_with (first | (go_at_call 38; first | ((with_reducible refine (d6.out _ hb2).mono ?_); rintro e w2 ⟨rfl, hb2⟩; obtain ⟨A7_23, B7_23, A7_24, B7_24, A7_25, B7_25, A7_26, B7_26⟩ := K7.out _ hb2) | ((with_reducible refine (d7.out _ hb2).mono ?_); rintro e w2 ⟨rfl, hb2⟩; obtain ⟨A7_23, B7_23, A7_24, B7_24, A7_25, B7_25, A7_26, B7_26⟩ := K7.out _ hb2)) | (go_at_call 39; first | ((with_reducible refine (d8.out _ hb2).mono ?_); rintro e w2 ⟨rfl, hb2⟩; obtain ⟨A7_23, B7_23, A7_24, B7_24, A7_25, B7_25, A7_26, B7_26⟩ := K7.out _ hb2)) | (go_at_call 40; first | ((with_reducible refine (d9.out _ hb2).mono ?_); rintro e w2 ⟨rfl, hb2⟩; obtain ⟨A7_23, B7_23, A7_24, B7_24, A7_25, B7_25, A7_26, B7_26⟩ := K7.out _ hb2)))
  all_goals go_ret
  all_goals exact ⟨rfl, hbW.out.trans (hb2.mono hbW.out.size)⟩
end Go.Proofs.Ytfidmpkblmebeaa
