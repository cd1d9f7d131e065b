/-
  The reference's line, at the words do and input; of chapter 32.
  Conditions: as each theorem states them.
-/
import Derived.Test.YtaginadnaajleaaDoorRp
import Derived.Test.YtaginadnaajleaaDoorRdr
import Derived.Deep.RegionLaw
import Derived.Deep.AppendLies
namespace Go.Proofs.YtaginadnaajleaaDoor
open Go.RowKit
set_option linter.unusedVariables false
set_option linter.unusedSimpArgs false
open BM (Cs)
theorem blank_word {w : List UInt8} (h : 32 ∉ w) (r : List UInt8) : blankI (w ++ 32 :: r) = (w.length : Int) := by
  refine blank_at (k := w.length) (by simp) (fun j hj hlt => ?_) (by simp)
  rw [List.getElem_append_left hlt]
  exact fun e => h (e ▸ List.getElem_mem hlt)
theorem ext_word (w r : List UInt8) : (⟨(w ++ 32 :: r).toArray⟩ : ByteArray).extract 0 w.length = ⟨w.toArray⟩ := by rw [ext_list]; simp
theorem ext_rest (w r : List UInt8) : (⟨(w ++ 32 :: r).toArray⟩ : ByteArray).extract (w.length + 1) (w ++ 32 :: r).length = ⟨r.toArray⟩ := by
  rw [ext_list, List.take_of_length_le (by simp; try omega)]
  rw [show w ++ 32 :: r = (w ++ [32]) ++ r by simp, List.drop_left' (by simp)]
/-- what a line with a word begins with -/
theorem line_facts {w r s : List UInt8} (hs : w ++ 32 :: r = s) (h : 32 ∉ w) : blankI s = (w.length : Int) ∧ (⟨s.toArray⟩ : ByteArray).extract 0 w.length = ⟨w.toArray⟩ ∧ (⟨s.toArray⟩ : ByteArray).extract (w.length + 1) s.length = ⟨r.toArray⟩ ∧ s.length = w.length + 1 + r.length := by
  subst hs
  exact ⟨blank_word h r, ext_word w r, ext_rest w r, by simp; omega⟩
set_option maxHeartbeats 4000000 in
set_option maxRecDepth 100000 in
theorem rline_do (r : List UInt8) (hr : r.length ≤ 90000) (w : World) (g base : Nat) (c : Cs) (hC : CaseAt w g base c) (hS : Small c) (hbase : base ≤ w.heap.size) : Calls Tryd.prog 12 #[.pointer (some ⟨g, 0, none⟩), strV (BM.doW ++ 32 :: r)] w (ReadIs (BM.doR r c) g base w) := by
  obtain ⟨s, hs⟩ : ∃ s, BM.doW ++ 32 :: r = s := ⟨_, rfl⟩
  obtain ⟨f1, f2, f3, f4⟩ := line_facts hs (by decide)
  have hbl := blank_any s (by rw [f4]; simp [BM.doW]; omega) w
  rw [f1] at hbl
  simp only [BM.doW, List.length_cons, List.length_nil, Nat.zero_add, Nat.reduceAdd] at f2 f3 f4 hbl
  rw [hs]
  replace hbl := Lib.hid hbl
  have k1 : (2 : Int) ≤ (s.length : Int) := by omega
  have k2 : (3 : Int) ≤ (s.length : Int) := by omega
  replace f4 := Lib.hid f4
  clear f1 hs
  obtain ⟨i0, hi, hz0, hz1, hz2⟩ := info_parts infoStr
  obtain ⟨vs, vi, vf, vl, fv, h⟩ := hC
  have k10 : w.cell? ⟨g, 10, none⟩ = some vl := h.blk.cell 10
  obtain ⟨la, lc, hvl⟩ := own_slice h.lin
  have hlen := hS.lines
  have hgw : g < w.heap.size := h.blk.lt
  have hmain := fun w1 v1 hg ho hb => h.line (w1 := w1) (v1 := v1) r (o := .cells #[strV r] 9) hg ho hb hbase
  have hlin := h.lin
  subst hvl
  replace hmain := Lib.hid hmain
  replace hlin := Lib.hid hlin
  clear h hS
  go_enter Tryd.func12, Tryd.ntmps12
  go_wp2_with (first
    | (go_at_call 25; refine hbl.out.mono ?_; rintro e w2 ⟨rfl, rfl⟩)
    | (at_builtin; refine wpList_append_own_at _ rfl (.tmp 210) (.tmp 212) 24 rfl base 9 i0 (.string ⟨#[]⟩) 1 16 Tryd.underlying24 hi hz0 hz1 hz2 rfl (by decide) _ _ _ rfl (hlin.out.alloc _) ⟨w.heap.size, 0, none⟩ 1 1 [strV r] rfl rfl (cells_new _ _ rfl _ [strV r]) (by intro u hu; simp only [List.mem_cons, List.not_mem_nil, or_false] at hu; subst hu; rfl) (by unfold maxLen; omega) (by omega) (by simp; omega) ?_; intro v1 w1 hown1 hgrow1 hnil1 hat1; obtain ⟨m1, m2, m3⟩ := hmain.out w1 v1 hgrow1 hown1 hat1; have j10 : w1.cell? ⟨g, 10, none⟩ = _ := m3.cell 10; have j11 := m3.free 10; obtain ⟨a1, c1, rfl⟩ := own_slice hown1; replace m1 := Lib.hid m1; replace m2 := Lib.hid m2))
  all_goals go_ret
  all_goals exact ⟨rfl, ⟨_, _, _, _, _, m1.out⟩, m2.out⟩
end Go.Proofs.YtaginadnaajleaaDoor
/-
  The reference's line: at input, at option; of chapter 32 (printed by gen_rl.py).
  Conditions: as each theorem states them.
-/
namespace Go.Proofs.YtaginadnaajleaaDoor
open Go.RowKit
set_option linter.unusedVariables false
set_option linter.unusedSimpArgs false
open BM (Cs)
theorem blank_in {r : List UInt8} : 0 ≤ blankI r ↔ 32 ∈ r := by
  constructor
  · intro h
    refine Classical.byContradiction fun hn => ?_
    have := blank_no (s := r) (fun j hj e => hn (e ▸ List.getElem_mem hj))
    omega
  · intro h
    unfold blankI
    by_cases hl : (r.takeWhile OM.nb).length < r.length
    · rw [if_pos hl]; omega
    · exfalso
      have e : r.takeWhile OM.nb = r := (List.takeWhile_prefix OM.nb).eq_of_length (by have := (List.takeWhile_prefix (l := r) OM.nb).length_le; omega)
      have h2 := List.all_takeWhile (p := OM.nb) (l := r)
      rw [e, List.all_eq_true] at h2
      have := h2 32 h
      simp [OM.nb] at this
set_option maxHeartbeats 4000000 in
set_option maxRecDepth 100000 in
theorem rline_input (r : List UInt8) (hr : r.length ≤ 90000) (w : World) (g base : Nat) (c : Cs) (hC : CaseAt w g base c) (hS : Small c) (hbase : base ≤ w.heap.size) : Calls Tryd.prog 12 #[.pointer (some ⟨g, 0, none⟩), strV (BM.inputW ++ 32 :: r)] w (ReadIs (BM.inputR r c) g base w) := by
  obtain ⟨s, hs⟩ : ∃ s, BM.inputW ++ 32 :: r = s := ⟨_, rfl⟩
  obtain ⟨f1, f2, f3, f4⟩ := line_facts hs (by decide)
  have hbl := blank_any s (by rw [f4]; simp [BM.inputW]; omega) w
  rw [f1] at hbl
  simp only [BM.inputW, List.length_cons, List.length_nil, Nat.zero_add, Nat.reduceAdd] at f2 f3 f4 hbl
  rw [hs]
  replace hbl := Lib.hid hbl
  have k1 : (5 : Int) ≤ (s.length : Int) := by omega
  have k2 : (6 : Int) ≤ (s.length : Int) := by omega
  replace f4 := Lib.hid f4
  clear f1 hs
  have hb2 := Lib.hid (blank_any r (by omega) w)
  by_cases h0 : r = []
  · have hR : BM.inputR r c = (9, c) := by unfold BM.inputR; rw [if_pos (.inl h0)]
    rw [hR]
    subst h0
    replace hC := Lib.hid hC
    clear hR hb2
    go_enter Tryd.func12, Tryd.ntmps12
    go_wp2_with (go_at_call 25; refine hbl.out.mono ?_; rintro e w2 ⟨rfl, rfl⟩)
    all_goals go_ret
    all_goals exact ⟨rfl, hC.out, Only.refl _ _⟩
  have q0 : (r == []) = false := by simpa using h0
  by_cases hb : 32 ∈ r
  · have hR : BM.inputR r c = (9, c) := by unfold BM.inputR; rw [if_pos (.inr hb)]
    rw [hR]
    have q1 : decide (0 ≤ blankI r) = true := by rw [decide_eq_true_eq]; exact blank_in.2 hb
    generalize blankI r = B at *
    replace hC := Lib.hid hC
    replace hb := Lib.hid hb
    clear hR h0
    go_enter Tryd.func12, Tryd.ntmps12
    go_wp2_with (go_at_call 25; first | ((with_reducible refine hbl.out.mono ?_); rintro e w2 ⟨rfl, rfl⟩) | ((with_reducible refine hb2.out.mono ?_); rintro e w2 ⟨rfl, rfl⟩))
    all_goals go_ret
    all_goals exact ⟨rfl, hC.out, Only.refl _ _⟩
  have hR : BM.inputR r c = (0, { c with inputs := c.inputs ++ [r] }) := by unfold BM.inputR; rw [if_neg (fun h => h.elim h0 hb)]
  have q1 : decide (0 ≤ blankI r) = false := by rw [decide_eq_false_iff_not]; exact fun h => hb (blank_in.1 h)
  generalize blankI r = B at *
  obtain ⟨i0, hi, hz0, hz1, hz2⟩ := info_parts infoStr
  obtain ⟨vs, vi, vf, vl, fv, h⟩ := hC
  have k10 : w.cell? ⟨g, 5, none⟩ = some vi := h.blk.cell 5
  obtain ⟨la, lc, hvl⟩ := own_slice h.inp
  have hlen := hS.inputs
  have hgw : g < w.heap.size := h.blk.lt
  have hmain := fun w1 v1 hg ho hbb => h.input (w1 := w1) (v1 := v1) r (o := .cells #[strV r] 9) hg ho hbb hbase
  have hlin := h.inp
  subst hvl
  rw [hR]
  replace hmain := Lib.hid hmain
  replace hlin := Lib.hid hlin
  replace hb := Lib.hid hb
  clear h hS h0 hR
  go_enter Tryd.func12, Tryd.ntmps12
  go_wp2_with (first
    | (go_at_call 25; first | ((with_reducible refine hbl.out.mono ?_); rintro e w2 ⟨rfl, rfl⟩) | ((with_reducible refine hb2.out.mono ?_); rintro e w2 ⟨rfl, rfl⟩))
    | (at_builtin; refine wpList_append_own_at _ rfl (.tmp 141) (.tmp 143) 24 rfl base 9 i0 (.string ⟨#[]⟩) 1 16 Tryd.underlying24 hi hz0 hz1 hz2 rfl (by decide) _ _ _ rfl (hlin.out.alloc _) ⟨w.heap.size, 0, none⟩ 1 1 [strV r] rfl rfl (cells_new _ _ rfl _ [strV r]) (by intro u hu; simp only [List.mem_cons, List.not_mem_nil, or_false] at hu; subst hu; rfl) (by unfold maxLen; omega) (by omega) (by simp; omega) ?_; intro v1 w1 hown1 hgrow1 hnil1 hat1; obtain ⟨m1, m2, m3⟩ := hmain.out w1 v1 hgrow1 hown1 hat1; have j10 : w1.cell? ⟨g, 5, none⟩ = _ := m3.cell 5; have j11 := m3.free 5; obtain ⟨a1, c1, rfl⟩ := own_slice hown1; replace m1 := Lib.hid m1; replace m2 := Lib.hid m2))
  all_goals go_ret
  all_goals exact ⟨rfl, ⟨_, _, _, _, _, m1.out⟩, m2.out⟩
set_option maxHeartbeats 4000000 in
set_option maxRecDepth 100000 in
theorem rline_option (r : List UInt8) (hr : r.length ≤ 90000) (w : World) (g base : Nat) (c : Cs) (hC : CaseAt w g base c) (hS : Small c) (hbase : base ≤ w.heap.size) : Calls Tryd.prog 12 #[.pointer (some ⟨g, 0, none⟩), strV (BM.optionW ++ 32 :: r)] w (ReadIs (BM.optionR r c) g base w) := by
  obtain ⟨s, hs⟩ : ∃ s, BM.optionW ++ 32 :: r = s := ⟨_, rfl⟩
  obtain ⟨f1, f2, f3, f4⟩ := line_facts hs (by decide)
  have hbl := blank_any s (by rw [f4]; simp [BM.optionW]; omega) w
  rw [f1] at hbl
  simp only [BM.optionW, List.length_cons, List.length_nil, Nat.zero_add, Nat.reduceAdd] at f2 f3 f4 hbl
  rw [hs]
  replace hbl := Lib.hid hbl
  have k1 : (6 : Int) ≤ (s.length : Int) := by omega
  have k2 : (7 : Int) ≤ (s.length : Int) := by omega
  replace f4 := Lib.hid f4
  clear f1 hs
  have hb2 := Lib.hid (blank_any r (by omega) w)
  by_cases h0 : r = []
  · have hR : BM.optionR r c = (9, c) := by unfold BM.optionR; rw [if_pos (.inl h0)]
    rw [hR]
    subst h0
    replace hC := Lib.hid hC
    clear hR hb2
    go_enter Tryd.func12, Tryd.ntmps12
    go_wp2_with (go_at_call 25; refine hbl.out.mono ?_; rintro e w2 ⟨rfl, rfl⟩)
    all_goals go_ret
    all_goals exact ⟨rfl, hC.out, Only.refl _ _⟩
  have q0 : (r == []) = false := by simpa using h0
  by_cases hb : 32 ∈ r
  · have hR : BM.optionR r c = (9, c) := by unfold BM.optionR; rw [if_pos (.inr hb)]
    rw [hR]
    have q1 : decide (0 ≤ blankI r) = true := by rw [decide_eq_true_eq]; exact blank_in.2 hb
    generalize blankI r = B at *
    replace hC := Lib.hid hC
    replace hb := Lib.hid hb
    clear hR h0
    go_enter Tryd.func12, Tryd.ntmps12
    go_wp2_with (go_at_call 25; first | ((with_reducible refine hbl.out.mono ?_); rintro e w2 ⟨rfl, rfl⟩) | ((with_reducible refine hb2.out.mono ?_); rintro e w2 ⟨rfl, rfl⟩))
    all_goals go_ret
    all_goals exact ⟨rfl, hC.out, Only.refl _ _⟩
  have hn : ¬ (r = [] ∨ 32 ∈ r) := fun h => h.elim h0 hb
  have q1 : decide (0 ≤ blankI r) = false := by rw [decide_eq_false_iff_not]; exact fun h => hb (blank_in.1 h)
  generalize blankI r = B at *
  obtain ⟨vs, vi, vf, vl, fv, h⟩ := hC
  have hgw : g < w.heap.size := h.blk.lt
  by_cases h_quiet : r = BM.quietW
  · have hR : BM.optionR r c = (0, { c with quiet := true }) := by unfold BM.optionR; rw [if_neg hn, if_pos h_quiet]
    rw [hR]
    obtain ⟨m1, m2⟩ := h.field 1 (.bool true) (c' := { c with quiet := true }) rfl rfl rfl rfl rfl
    have kc := h.blk.cell 1
    replace kc : w.cell? ⟨g, 1, none⟩ = some (.bool c.quiet) := kc
    have kf := h.blk.free 1
    subst h_quiet
    replace m1 := Lib.hid m1
    replace m2 := Lib.hid m2
    replace hb := Lib.hid hb
    replace hn := Lib.hid hn
    simp only [BM.quietW] at f3 q0 hb2
    clear h hR h0 hS
    go_enter Tryd.func12, Tryd.ntmps12
    go_wp2_with (go_at_call 25; first | ((with_reducible refine hbl.out.mono ?_); rintro e w2 ⟨rfl, rfl⟩) | ((with_reducible refine hb2.out.mono ?_); rintro e w2 ⟨rfl, rfl⟩))
    all_goals go_ret
    all_goals exact ⟨rfl, ⟨_, _, _, _, _, m1.out⟩, m2.out⟩
  by_cases h_separate : r = BM.separateW
  · have hR : BM.optionR r c = (0, { c with separate := true }) := by unfold BM.optionR; rw [if_neg hn, if_neg h_quiet, if_pos h_separate]
    rw [hR]
    obtain ⟨m1, m2⟩ := h.field 2 (.bool true) (c' := { c with separate := true }) rfl rfl rfl rfl rfl
    have kc := h.blk.cell 2
    replace kc : w.cell? ⟨g, 2, none⟩ = some (.bool c.separate) := kc
    have kf := h.blk.free 2
    subst h_separate
    replace m1 := Lib.hid m1
    replace m2 := Lib.hid m2
    replace hb := Lib.hid hb
    replace hn := Lib.hid hn
    simp only [BM.separateW] at f3 q0 hb2
    clear h hR h0 hS h_quiet
    go_enter Tryd.func12, Tryd.ntmps12
    go_wp2_with (go_at_call 25; first | ((with_reducible refine hbl.out.mono ?_); rintro e w2 ⟨rfl, rfl⟩) | ((with_reducible refine hb2.out.mono ?_); rintro e w2 ⟨rfl, rfl⟩))
    all_goals go_ret
    all_goals exact ⟨rfl, ⟨_, _, _, _, _, m1.out⟩, m2.out⟩
  by_cases h_place : r = BM.placeW
  · have hR : BM.optionR r c = (0, { c with place := true }) := by unfold BM.optionR; rw [if_neg hn, if_neg h_quiet, if_neg h_separate, if_pos h_place]
    rw [hR]
    obtain ⟨m1, m2⟩ := h.field 3 (.bool true) (c' := { c with place := true }) rfl rfl rfl rfl rfl
    have kc := h.blk.cell 3
    replace kc : w.cell? ⟨g, 3, none⟩ = some (.bool c.place) := kc
    have kf := h.blk.free 3
    subst h_place
    replace m1 := Lib.hid m1
    replace m2 := Lib.hid m2
    replace hb := Lib.hid hb
    replace hn := Lib.hid hn
    simp only [BM.placeW] at f3 q0 hb2
    clear h hR h0 hS h_quiet h_separate
    go_enter Tryd.func12, Tryd.ntmps12
    go_wp2_with (go_at_call 25; first | ((with_reducible refine hbl.out.mono ?_); rintro e w2 ⟨rfl, rfl⟩) | ((with_reducible refine hb2.out.mono ?_); rintro e w2 ⟨rfl, rfl⟩))
    all_goals go_ret
    all_goals exact ⟨rfl, ⟨_, _, _, _, _, m1.out⟩, m2.out⟩
  by_cases h_extended : r = BM.extendedW
  · have hR : BM.optionR r c = (0, { c with extended := true }) := by unfold BM.optionR; rw [if_neg hn, if_neg h_quiet, if_neg h_separate, if_neg h_place, if_pos h_extended]
    rw [hR]
    obtain ⟨m1, m2⟩ := h.field 4 (.bool true) (c' := { c with extended := true }) rfl rfl rfl rfl rfl
    have kc := h.blk.cell 4
    replace kc : w.cell? ⟨g, 4, none⟩ = some (.bool c.extended) := kc
    have kf := h.blk.free 4
    subst h_extended
    replace m1 := Lib.hid m1
    replace m2 := Lib.hid m2
    replace hb := Lib.hid hb
    replace hn := Lib.hid hn
    simp only [BM.extendedW] at f3 q0 hb2
    clear h hR h0 hS h_quiet h_separate h_place
    go_enter Tryd.func12, Tryd.ntmps12
    go_wp2_with (go_at_call 25; first | ((with_reducible refine hbl.out.mono ?_); rintro e w2 ⟨rfl, rfl⟩) | ((with_reducible refine hb2.out.mono ?_); rintro e w2 ⟨rfl, rfl⟩))
    all_goals go_ret
    all_goals exact ⟨rfl, ⟨_, _, _, _, _, m1.out⟩, m2.out⟩
  have hR : BM.optionR r c = (30, c) := by unfold BM.optionR; rw [if_neg hn, if_neg h_quiet, if_neg h_separate, if_neg h_place, if_neg h_extended]
  rw [hR]
  have q_quiet : (r == [113, 117, 105, 101, 116]) = false := by simpa [BM.quietW] using h_quiet
  have q_separate : (r == [115, 101, 112, 97, 114, 97, 116, 101]) = false := by simpa [BM.separateW] using h_separate
  have q_place : (r == [112, 108, 97, 99, 101]) = false := by simpa [BM.placeW] using h_place
  have q_extended : (r == [101, 120, 116, 101, 110, 100, 101, 100]) = false := by simpa [BM.extendedW] using h_extended
  replace hb := Lib.hid hb
  replace hn := Lib.hid hn
  replace h := Lib.hid h
  clear hR h0 hS h_quiet h_separate h_place h_extended
  go_enter Tryd.func12, Tryd.ntmps12
  go_wp2_with (go_at_call 25; first | ((with_reducible refine hbl.out.mono ?_); rintro e w2 ⟨rfl, rfl⟩) | ((with_reducible refine hb2.out.mono ?_); rintro e w2 ⟨rfl, rfl⟩))
  all_goals go_ret
  all_goals exact ⟨rfl, ⟨_, _, _, _, _, h.out⟩, Only.refl _ _⟩
end Go.Proofs.YtaginadnaajleaaDoor
/-
  The reference's line: at sed, at file; of chapter 32 (printed by gen_rl.py).
  Conditions: as each theorem states them.
-/
namespace Go.Proofs.YtaginadnaajleaaDoor
open Go.RowKit
set_option linter.unusedVariables false
set_option linter.unusedSimpArgs false
open BM (Cs)
/-- a piece more of the script, in a row of its own -/
theorem CaseV.sedNew {w w1 : World} {g base : Nat} {c : Cs} {vs vi vf vl v1 : Value} {fv : List (List UInt8 × Value)} (h : CaseV w g base c vs vi vf vl fv) (hb : Below w.heap.size w w1) (hbase : base ≤ w.heap.size) (l : List UInt8)
    (ho : w1.ownsRow w.heap.size 5 1 v1 (c.sed.length + l.length) (Lib.byteCells c.sed ++ Lib.byteCells l)) :
    CaseV (w1.setCell ⟨g, 0, none⟩ v1) g base { c with sed := c.sed ++ l } v1 vi vf vl fv ∧ Chg g base w (w1.setCell ⟨g, 0, none⟩ v1) ∧ w1.cell? ⟨g, 0, none⟩ = some vs ∧ w1.frozen? ⟨g, 0, none⟩ = false := by
  have h1 := h.bw hb
  have kp : ∀ {e s n : Nat} {v : Value} {xs : List Value}, w1.ownsRow base e s v n xs → (w1.setCell ⟨g, 0, none⟩ v1).ownsRow base e s v n xs := fun hv => ownsRow_setCell_below (a := ⟨g, 0, none⟩) hv h.lt _
  have hfl : fv.length = c.files.length := by have := congrArg List.length h.fvn; simpa using this
  refine ⟨⟨h1.blk.set 0 v1, h.lt, ?_, kp h1.inp, kp h1.lin, kp h1.fil, h.fvn, fun i a b => kp (h1.fvb i a b), fun p hp => ?_, h.apart⟩, (Only.of_below hb).setCell (p := ⟨g, 0, none⟩) (.inl rfl) _, h1.blk.cell 0, h1.blk.free 0⟩
  · show (w1.setCell ⟨g, 0, none⟩ v1).ownsRow base 5 1 v1 (c.sed ++ l).length (Lib.byteCells (c.sed ++ l))
    rw [List.length_append, byteCells_app]
    exact kp (own_base ho hbase)
  · obtain ⟨i, hi, rfl⟩ := List.mem_iff_getElem.1 hp
    cases hx : fv[i].2.ownBlock with
    | none => exact .inl rfl
    | some k =>
      refine .inr (fun e => ?_)
      have h2 := ((h.fvb i (by omega) hi).lt k hx).2
      have h3 := (ho.lt k e.symm).1
      omega
set_option maxHeartbeats 4000000 in
set_option maxRecDepth 100000 in
theorem rline_sed (r : List UInt8) (hr : r.length ≤ 90000) (w : World) (g base : Nat) (c : Cs) (hC : CaseAt w g base c) (hS : Small c) (hbase : base ≤ w.heap.size) : Calls Tryd.prog 12 #[.pointer (some ⟨g, 0, none⟩), strV (BM.sedW ++ 32 :: r)] w (ReadIs (BM.sedR r c) g base w) := by
  obtain ⟨s, hs⟩ : ∃ s, BM.sedW ++ 32 :: r = s := ⟨_, rfl⟩
  obtain ⟨f1, f2, f3, f4⟩ := line_facts hs (by decide)
  have hbl := blank_any s (by rw [f4]; simp [BM.sedW]; omega) w
  rw [f1] at hbl
  simp only [BM.sedW, List.length_cons, List.length_nil, Nat.zero_add, Nat.reduceAdd] at f2 f3 f4 hbl
  rw [hs]
  replace hbl := Lib.hid hbl
  have k1 : (3 : Int) ≤ (s.length : Int) := by omega
  have k2 : (4 : Int) ≤ (s.length : Int) := by omega
  replace f4 := Lib.hid f4
  clear f1 hs
  have hq := rq_any r (by omega) w
  unfold QuIs at hq
  have hql : (BM.quoteAll r).1.length ≤ 90000 := Nat.le_trans (quoteAll_le r) hr
  by_cases he : (BM.quoteAll r).2 = 0
  · have hR : BM.sedR r c = (0, { c with sed := c.sed ++ (BM.quoteAll r).1 }) := by unfold BM.sedR; rw [if_pos he]
    rw [hR]
    obtain ⟨vs, vi, vf, vl, fv, h⟩ := hC
    rw [he] at hq
    generalize (BM.quoteAll r).1 = L at *
    have hlen := hS.sed
    have hgw : g < w.heap.size := h.blk.lt
    have hsd := Lib.hid (fun (w1 : World) (hb : Below w.heap.size w w1) => (⟨(h.bw hb).blk.cell 0, bys_own (h.bw hb).sed⟩ : w1.cell? ⟨g, 0, none⟩ = some vs ∧ BysAt w1 vs c.sed))
    have hmain := Lib.hid (fun w1 v1 (hb : Below w.heap.size w w1) ho => h.sedNew (w1 := w1) (v1 := v1) hb hbase L ho)
    obtain ⟨sa, sc, hvs⟩ := own_slice h.sed
    subst hvs
    obtain ⟨i0, hi, hz0, hz1, hz2⟩ := info_parts infoByteB
    have hcp := Lib.hid (fun W (hb : BysAt W (.slice sa c.sed.length sc) c.sed) => copy_any _ c.sed (by omega) W hb)
    replace hq := Lib.hid hq
    replace he := Lib.hid he
    clear h hS hR
    go_enter Tryd.func12, Tryd.ntmps12
    go_wp2_with (first
      | (go_at_call 25; refine hbl.out.mono ?_; rintro e w2 ⟨rfl, rfl⟩)
      | (go_at_call 26; refine hq.out.mono ?_; rintro e w2 ⟨v, l, rfl, hl, ho, hb1⟩; obtain rfl := hl (by first | rfl | trivial); obtain ⟨k0, hby⟩ := hsd.out _ hb1; replace ho := Lib.hid ho; replace hb1 := Lib.hid hb1; replace hby := Lib.hid hby; obtain ⟨va, vc, rfl⟩ := own_slice ho.out)
      | (go_at_call 27; refine (hcp.out _ hby.out).mono ?_; rintro e w3 ⟨v3, rfl, ho3, hb3⟩; have hB3 := Lib.hid (bl_trans hb1.out hb3); replace ho3 := Lib.hid (own_base ho3 hb1.out.size); have hsr := Lib.hid ((src_bytes (bys_own ho.out)).below hb3); have hb31 := (bl_trans hb1.out hb3).size; clear hb3)
      | (at_builtin; refine wpList_append_src _ rfl (.tmp 119) (.tmp 120) 23 rfl w.heap.size 5 i0 (.int .u8 0) 1 1 Tryd.underlying23 hi hz0 hz1 hz2 rfl (by decide) _ _ _ rfl ho3.out _ _ _ rfl hsr.out (byteCells_len _) (bytes_one _) (by unfold maxLen; omega) (by omega) hb31 ?_; intro v4 w4 hown4 hgrow4; have hB4 := hB3.out.grown hgrow4 hb31 (fun j hj => (ho3.out.lt j hj).1); obtain ⟨m1, m2, m3, m4⟩ := hmain.out w4 v4 hB4 hown4; obtain ⟨a4, c4, rfl⟩ := own_slice hown4; replace m1 := Lib.hid m1; replace m2 := Lib.hid m2; have hgw4 := Nat.lt_of_lt_of_le hgw hB4.size; clear hown4 hgrow4 hB4))
    all_goals go_ret
    all_goals exact ⟨rfl, ⟨_, _, _, _, _, m1.out⟩, m2.out⟩
  · have hR : BM.sedR r c = ((BM.quoteAll r).2, c) := by unfold BM.sedR; rw [if_neg he]
    rw [hR]
    generalize (BM.quoteAll r).2 = x at *
    have q0 : (x != 0) = true := by simpa using he
    replace hq := Lib.hid hq
    replace he := Lib.hid he
    replace hC := Lib.hid hC
    clear hR
    go_enter Tryd.func12, Tryd.ntmps12
    go_wp2_with (first
      | (go_at_call 25; refine hbl.out.mono ?_; rintro e w2 ⟨rfl, rfl⟩)
      | (go_at_call 26; refine hq.out.mono ?_; rintro e w2 ⟨v, l, rfl, hl, ho, hb1⟩; replace hl := Lib.hid hl; replace ho := Lib.hid ho))
    all_goals go_ret
    all_goals exact ⟨rfl, hC.out.bw hb1, Only.of_below hb1⟩
end Go.Proofs.YtaginadnaajleaaDoor
/-
  The reference's line: at file; of chapter 32 (printed by gen_rl.py).
  Conditions: as each theorem states them.
-/
namespace Go.Proofs.YtaginadnaajleaaDoor
open Go.RowKit
set_option linter.unusedVariables false
set_option linter.unusedSimpArgs false
open BM (Cs)
theorem CaseV.drw {w : World} {g base : Nat} {c : Cs} {vs vi vf vl : Value} {fv : List (List UInt8 × Value)} (h : CaseV w g base c vs vi vf vl fv) : CaseV w.drew g base c vs vi vf vl fv := h.bw (bl_drew (Below.refl _ _))
theorem own_drew {w : World} {base e s n : Nat} {v : Value} {xs : List Value} (h : w.ownsRow base e s v n xs) : w.drew.ownsRow base e s v n xs := h
theorem src_new (w : World) (t : TypeId) (l : List Value) : SrcAt (w.alloc (.cells l.toArray t)).drew (.slice (some ⟨w.heap.size, 0, none⟩) 1 1) 1 l := ⟨_, _, rfl, (fun e => by cases e), fun ad e j u hj => by cases e; exact cells_new w _ rfl t l j u hj⟩
theorem file_new {w : World} {base e s n : Nat} {v : Value} {xs : List Value} {o : Obj} (h : w.ownsRow base e s v n xs) : (w.alloc o).drew.ownsRow base e s v n xs := h.alloc o
theorem two_one (nm : List UInt8) (x : Option Addr) {n c : Nat} : ∀ u ∈ [strV nm, .slice x n c], u.oneCell' = true := by
  intro u hu; simp only [List.mem_cons, List.not_mem_nil, or_false] at hu; rcases hu with rfl | rfl <;> rfl
theorem blank_split {r : List UInt8} (h : 1 ≤ blankI r) : ∃ nm tx, nm ++ 32 :: tx = r ∧ 32 ∉ nm ∧ nm ≠ [] := by
  have hl : (r.takeWhile OM.nb).length < r.length := by
    unfold blankI at h
    split at h
    · assumption
    · omega
  have hn : 32 ∉ r.takeWhile OM.nb := fun hm => by
    have h2 := List.all_takeWhile (p := OM.nb) (l := r)
    rw [List.all_eq_true] at h2
    have := h2 32 hm
    simp [OM.nb] at this
  have hd := List.head?_dropWhile_not OM.nb r
  have hlen : (r.takeWhile OM.nb).length + (r.dropWhile OM.nb).length = r.length := by rw [← List.length_append, List.takeWhile_append_dropWhile]
  cases hdw : r.dropWhile OM.nb with
  | nil => rw [hdw] at hlen; simp at hlen; omega
  | cons x t =>
    rw [hdw] at hd
    simp only [List.head?_cons] at hd
    have hx : x = 32 := by simpa [OM.nb] using hd
    subst hx
    refine ⟨r.takeWhile OM.nb, t, ?_, hn, fun e => ?_⟩
    · rw [← hdw, List.takeWhile_append_dropWhile]
    · unfold blankI at h
      rw [if_pos hl, e] at h
      simp at h
theorem file_no {r : List UInt8} (h : ¬ 1 ≤ blankI r) (c : Cs) : BM.fileR r c = (9, c) := by
  unfold BM.fileR
  rw [if_pos]
  unfold BM.cut
  simp only
  unfold blankI at h
  by_cases hl : (r.takeWhile OM.nb).length < r.length
  · rw [if_pos hl] at h
    exact .inr (List.eq_nil_of_length_eq_zero (by omega))
  · exact .inl (by simpa using hl)
set_option maxHeartbeats 4000000 in
set_option maxRecDepth 100000 in
theorem rline_file (r : List UInt8) (hr : r.length ≤ 90000) (w : World) (g base : Nat) (c : Cs) (hC : CaseAt w g base c) (hS : Small c) (hbase : base ≤ w.heap.size) : Calls Tryd.prog 12 #[.pointer (some ⟨g, 0, none⟩), strV (BM.fileW ++ 32 :: r)] w (ReadIs (BM.fileR r c) g base w) := by
  obtain ⟨s, hs⟩ : ∃ s, BM.fileW ++ 32 :: r = s := ⟨_, rfl⟩
  obtain ⟨f1, f2, f3, f4⟩ := line_facts hs (by decide)
  have hbl := blank_any s (by rw [f4]; simp [BM.fileW]; omega) w
  rw [f1] at hbl
  simp only [BM.fileW, List.length_cons, List.length_nil, Nat.zero_add, Nat.reduceAdd] at f2 f3 f4 hbl
  rw [hs]
  replace hbl := Lib.hid hbl
  have k1 : (4 : Int) ≤ (s.length : Int) := by omega
  have k2 : (5 : Int) ≤ (s.length : Int) := by omega
  replace f4 := Lib.hid f4
  clear f1 hs
  by_cases hb : 1 ≤ blankI r
  case neg =>
    have hb2 := Lib.hid (blank_any r (by omega) w)
    rw [file_no hb]
    have q1 : decide (blankI r < 1) = true := by rw [decide_eq_true_eq]; omega
    generalize blankI r = B at *
    replace hC := Lib.hid hC
    clear hb
    go_enter Tryd.func12, Tryd.ntmps12
    go_wp2_with (go_at_call 25; first | ((with_reducible refine hbl.out.mono ?_); rintro e w2 ⟨rfl, rfl⟩) | ((with_reducible refine hb2.out.mono ?_); rintro e w2 ⟨rfl, rfl⟩))
    all_goals go_ret
    all_goals exact ⟨rfl, hC.out, Only.refl _ _⟩
  case pos =>
  obtain ⟨nm, tx, hrs, hn32, hne⟩ := blank_split hb
  obtain ⟨e1, e2, e3, e4⟩ := line_facts hrs hn32
  have hb2 := blank_any r (by omega) w
  rw [e1] at hb2 hb
  replace hb2 := Lib.hid hb2
  have hcut : BM.cut r = (nm, tx, true) := by rw [← hrs]; exact BM.cut_word hn32 tx
  have hR0 : BM.fileR r c = if (BM.quoteAll tx).2 = 0 then (0, { c with files := c.files ++ [(nm, (BM.quoteAll tx).1)] }) else ((BM.quoteAll tx).2, c) := by
    unfold BM.fileR
    rw [hcut]
    simp only
    rw [if_neg (by rintro (h | h); exact absurd h (by simp); exact hne h)]
  rw [hR0]
  have hq := rq_any tx (by omega) w
  unfold QuIs at hq
  have hnm : nm.length ≤ 90000 := by omega
  obtain ⟨m, hm⟩ : ∃ m, nm.length = m := ⟨_, rfl⟩
  rw [hm] at e2 e3 e4 hb hb2 hnm
  have z1 : IntKind.i64.wrap ((m : Int) + 1) = (m : Int) + 1 := IntWalk.i64_in _ (by omega)
  have z2 : ((m : Int) + 1).toNat = m + 1 := by omega
  have z3 : (m : Int) ≤ (r.length : Int) := by omega
  have z4 : (m : Int) + 1 ≤ (r.length : Int) := by omega
  have z5 : decide ((m : Int) < 1) = false := by rw [decide_eq_false_iff_not]; omega
  have z6 : (0 : Int) ≤ (m : Int) := by omega
  have z7 : (0 : Int) ≤ (m : Int) + 1 := by omega
  clear hcut hR0 e1 hrs
  replace hm := Lib.hid hm
  replace e4 := Lib.hid e4
  by_cases he : (BM.quoteAll tx).2 = 0
  · rw [if_pos he]
    rw [he] at hq
    generalize (BM.quoteAll tx).1 = L at *
    obtain ⟨i0, hi, hz0, hz1, hz2⟩ := info_parts infoFile
    obtain ⟨vs, vi, vf, vl, fv, h⟩ := hC
    have hlen := hS.files
    have hh := Lib.hid (fun (w1 : World) (hb : Below w.heap.size w w1) => h.bw hb)
    have hgw : g < w.heap.size := h.blk.lt
    have hsl := Lib.hid (fun k hk => (h.sed.lt k hk).2)
    replace hq := Lib.hid hq
    replace he := Lib.hid he
    clear h hS hne hn32
    go_enter Tryd.func12, Tryd.ntmps12
    go_upto_region 53 with (first
      | (go_at_call 25; first | ((with_reducible refine hbl.out.mono ?_); rintro e w2 ⟨rfl, rfl⟩) | ((with_reducible refine hb2.out.mono ?_); rintro e w2 ⟨rfl, rfl⟩))
      | (go_at_call 26; refine hq.out.mono ?_; rintro e w1 ⟨v, l, rfl, hl, ho, hb1⟩))
    obtain rfl := hl (by first | rfl | trivial)
    have h1 := hh.out w1 hb1
    have k6 : w1.cell? ⟨g, 6, none⟩ = some vf := h1.blk.cell 6
    obtain ⟨fa, fc, hvf⟩ := own_slice h1.fil
    obtain ⟨qa, qc, hvq⟩ := own_slice ho
    subst hvf hvq
    have hs1 := hb1.size
    have hfil1 := Lib.hid h1.fil
    have hob : w1.ownsRow base 5 1 (.slice qa l.length qc) l.length (Lib.byteCells l) := own_base ho hbase
    have hvs : (Value.slice qa l.length qc).ownBlock = none ∨ (Value.slice qa l.length qc).ownBlock ≠ vs.ownBlock := by
      cases hx : (Value.slice qa l.length qc).ownBlock with
      | none => exact .inl rfl
      | some k =>
        refine .inr (fun e => ?_)
        have h2 := (ho.lt k hx).1
        have h3 := hsl.out k e.symm
        omega
    have hmain := Lib.hid (fun w2 v2 hg ho2 => (h1.drw).file (w1 := w2) (v1 := v2) nm l (o := .cells #[strV nm, .slice qa l.length qc] 52) hg ho2 (own_drew hob) hvs)
    clear h1 ho hob hvs
    have hsrc := Lib.hid (src_new w1 52 [strV nm, .slice qa l.length qc])
    have hfd := Lib.hid (file_new (o := .cells #[strV nm, .slice qa l.length qc] 52) hfil1.out)
    have hbs : base ≤ ((w1.alloc (.cells #[strV nm, .slice qa l.length qc] 52)).drew).heap.size := by show base ≤ (w1.alloc _).heap.size; simp; omega
    have hmain2 := Lib.hid (fun w2 v2 (hg : (w1.alloc (.cells #[strV nm, .slice qa l.length qc] 52)).drew.grownBy w2 _) ho2 => hmain.out w2 v2 hg ho2)
    have hg6 := Nat.lt_of_lt_of_le hgw hs1
    clear hmain
    go_region_law (first
      | (rw [if_pos (by rfl)]; refine wp_append_src _ (.tmp 194) (.tmp 200) 27 (by rfl) base 52 i0 _ 2 40 Tryd.underlying27 hi hz0 hz1 hz2 (by rfl) (Nat.zero_lt_succ 1) _ _ _ (by rfl) hfd.out _ 1 [strV nm, .slice qa l.length qc] (by rfl) hsrc.out rfl (two_one _ _) (by unfold maxLen; omega) (by omega) hbs ?_; intro v2 w2 hown2 hgrow2; obtain ⟨m1, m2, m3⟩ := hmain2.out w2 v2 hgrow2 hown2; have j10 : w2.cell? ⟨g, 6, none⟩ = some (.slice fa c.files.length fc) := m3.cell 6; have j11 : w2.frozen? ⟨g, 6, none⟩ = false := m3.free 6; obtain ⟨a1, c1, rfl⟩ := own_slice hown2; replace m1 := Lib.hid m1; replace m2 := Lib.hid m2))
    all_goals go_wp2_with fail
    all_goals go_ret
    all_goals exact ⟨rfl, ⟨_, _, _, _, _, m1.out⟩, (Only.of_below (bl_drew hb1)).trans m2.out⟩
  · rw [if_neg he]
    generalize (BM.quoteAll tx).2 = x at *
    have q1 : (x != 0) = true := by simpa using he
    replace hq := Lib.hid hq
    replace he := Lib.hid he
    replace hC := Lib.hid hC
    clear hne hn32
    go_enter Tryd.func12, Tryd.ntmps12
    go_wp2_with (first
      | (go_at_call 25; first | ((with_reducible refine hbl.out.mono ?_); rintro e w2 ⟨rfl, rfl⟩) | ((with_reducible refine hb2.out.mono ?_); rintro e w2 ⟨rfl, rfl⟩))
      | (go_at_call 26; refine hq.out.mono ?_; rintro e w1 ⟨v, l, rfl, hl, ho, hb1⟩; replace hl := Lib.hid hl; replace ho := Lib.hid ho))
    all_goals go_ret
    all_goals exact ⟨rfl, hC.out.bw hb1, Only.of_below hb1⟩
end Go.Proofs.YtaginadnaajleaaDoor
