/-
  The readers of the numbers (printed by gen_rdnum.py); of chapter 32.
  Conditions: as each theorem states them.
-/
import Derived.Test.YtaginadnaajleaaCase
namespace Go.Proofs.Ytaginadnaajleaa
open Go.RowKit
set_option linter.unusedVariables false
set_option linter.unusedSimpArgs false
open BM (Cs)
/-- a cell of the case's own block is set -/
theorem CaseV.field {w : World} {g base : Nat} {c c' : Cs} {vs vi vf vl : Value} {fv : List (List UInt8 × Value)} (h : CaseV w g base c vs vi vf vl fv) (i : Nat) (v : Value) (hset : (csCells c vs vi vf vl).set i v = csCells c' vs vi vf vl) (h1 : c'.sed = c.sed) (h2 : c'.inputs = c.inputs) (h3 : c'.files = c.files) (h4 : c'.lines = c.lines) :
    CaseV (w.setCell ⟨g, i, none⟩ v) g base c' vs vi vf vl fv ∧ Chg g base w (w.setCell ⟨g, i, none⟩ v) := by
  have kp : ∀ {e s n : Nat} {u : Value} {xs : List Value}, w.ownsRow base e s u n xs → (w.setCell ⟨g, i, none⟩ v).ownsRow base e s u n xs := fun hu => ownsRow_setCell_below (a := ⟨g, i, none⟩) hu h.lt _
  refine ⟨⟨hset ▸ h.blk.set i v, h.lt, by rw [h1]; exact kp h.sed, by rw [h2]; exact kp h.inp, by rw [h4]; exact kp h.lin, by rw [h3]; exact kp h.fil, by rw [h3]; exact h.fvn, fun j hj hj' => ?_, h.fvs, h.apart⟩, (Only.refl _ w).setCell (p := ⟨g, i, none⟩) (.inl rfl) _⟩
  have hj2 : j < c.files.length := by rw [← h3]; exact hj
  have e : c'.files[j] = c.files[j] := by simp only [h3]
  rw [e]
  exact kp (h.fvb j hj2 hj')
theorem at_cap (g : Nat) (w : World) : Calls Try.prog 29 #[.pointer (some ⟨g, 0, none⟩)] w fun e w' => e = .returned (.pointer (some ⟨g, 7, none⟩)) ∧ w' = w := by
  go_enter Try.func29, Try.ntmps29
  go_wp2_with fail
  all_goals go_ret
  all_goals exact ⟨rfl, rfl⟩
set_option maxHeartbeats 2000000 in
set_option maxRecDepth 100000 in
theorem cap_any (r : List UInt8) (hr : r.length ≤ 1000000) (w : World) (g base p : Nat) (c : Cs) (hC : CaseAt w g base c) (hbase : base ≤ w.heap.size) (hp : w.cell? ⟨p, 0, none⟩ = some (fnV 29)) :
    Calls Try.prog 23 #[.pointer (some ⟨g, 0, none⟩), strV r, .pointer (some ⟨p, 0, none⟩)] w (ReadIs (BM.capR r c) g base w) := by
  have hn := bnum_any r w hr
  have hpl := World.block_lt_of_cell? w _ hp
  simp only at hpl
  have hat := Lib.hid (fun W => at_cap g W)
  by_cases he : (BM.numAll r).2 = 0
  · have hR : BM.capR r c = (0, { c with cap := (BM.numAll r).1 }) := by unfold BM.capR; rw [if_pos he]
    rw [hR]
    obtain ⟨vs, vi, vf, vl, fv, h⟩ := hC
    have hmain := fun (w1 : World) (hb : Below w.heap.size w w1) => (h.bw hb).field 7 (.int .i64 (BM.numAll r).1) (c' := { c with cap := (BM.numAll r).1 }) rfl rfl rfl rfl rfl
    have hk := fun (w1 : World) (hb : Below w.heap.size w w1) => (⟨(h.bw hb).blk.cell 7, (h.bw hb).blk.free 7⟩ : w1.cell? ⟨g, 7, none⟩ = _ ∧ _)
    rw [he] at hn
    generalize (BM.numAll r).1 = n at *
    replace hmain := Lib.hid hmain
    replace hk := Lib.hid hk
    replace hn := Lib.hid hn
    replace he := Lib.hid he
    have hgw : g < w.heap.size := h.blk.lt
    clear h hR
    unfold fnV at hp
    go_enter Try.func23, Try.ntmps23
    go_wp2_with (first
      | (go_at_call 24; refine hn.out.mono ?_; rintro e w1 ⟨rfl, hb1⟩; have hp1 := (hb1.cell (p := ⟨p, 0, none⟩) hpl).trans hp; obtain ⟨k7, k8⟩ := hk.out w1 hb1; obtain ⟨m1, m2⟩ := hmain.out w1 hb1)
      | (go_at_call 29; refine (hat.out _).mono ?_; rintro e w2 ⟨rfl, rfl⟩))
    all_goals go_ret
    all_goals exact ⟨rfl, ⟨_, _, _, _, _, m1⟩, (Only.of_below hb1).trans m2⟩
  · have hR : BM.capR r c = ((BM.numAll r).2, c) := by unfold BM.capR; rw [if_neg he]
    rw [hR]
    generalize (BM.numAll r).2 = x at *
    generalize (BM.numAll r).1 = n at *
    have q0 : (x == 0) = false := by simpa using he
    replace hn := Lib.hid hn
    replace he := Lib.hid he
    replace hC := Lib.hid hC
    clear hR
    go_enter Try.func23, Try.ntmps23
    go_wp2_with (go_at_call 24; refine hn.out.mono ?_; rintro e w1 ⟨rfl, hb1⟩)
    all_goals go_ret
    all_goals exact ⟨rfl, hC.out.bw hb1, Only.of_below hb1⟩
theorem at_period (g : Nat) (w : World) : Calls Try.prog 30 #[.pointer (some ⟨g, 0, none⟩)] w fun e w' => e = .returned (.pointer (some ⟨g, 8, none⟩)) ∧ w' = w := by
  go_enter Try.func30, Try.ntmps30
  go_wp2_with fail
  all_goals go_ret
  all_goals exact ⟨rfl, rfl⟩
set_option maxHeartbeats 2000000 in
set_option maxRecDepth 100000 in
theorem period_any (r : List UInt8) (hr : r.length ≤ 1000000) (w : World) (g base p : Nat) (c : Cs) (hC : CaseAt w g base c) (hbase : base ≤ w.heap.size) (hp : w.cell? ⟨p, 0, none⟩ = some (fnV 30)) :
    Calls Try.prog 23 #[.pointer (some ⟨g, 0, none⟩), strV r, .pointer (some ⟨p, 0, none⟩)] w (ReadIs (BM.periodR r c) g base w) := by
  have hn := bnum_any r w hr
  have hpl := World.block_lt_of_cell? w _ hp
  simp only at hpl
  have hat := Lib.hid (fun W => at_period g W)
  by_cases he : (BM.numAll r).2 = 0
  · have hR : BM.periodR r c = (0, { c with period := (BM.numAll r).1 }) := by unfold BM.periodR; rw [if_pos he]
    rw [hR]
    obtain ⟨vs, vi, vf, vl, fv, h⟩ := hC
    have hmain := fun (w1 : World) (hb : Below w.heap.size w w1) => (h.bw hb).field 8 (.int .i64 (BM.numAll r).1) (c' := { c with period := (BM.numAll r).1 }) rfl rfl rfl rfl rfl
    have hk := fun (w1 : World) (hb : Below w.heap.size w w1) => (⟨(h.bw hb).blk.cell 8, (h.bw hb).blk.free 8⟩ : w1.cell? ⟨g, 8, none⟩ = _ ∧ _)
    rw [he] at hn
    generalize (BM.numAll r).1 = n at *
    replace hmain := Lib.hid hmain
    replace hk := Lib.hid hk
    replace hn := Lib.hid hn
    replace he := Lib.hid he
    have hgw : g < w.heap.size := h.blk.lt
    clear h hR
    unfold fnV at hp
    go_enter Try.func23, Try.ntmps23
    go_wp2_with (first
      | (go_at_call 24; refine hn.out.mono ?_; rintro e w1 ⟨rfl, hb1⟩; have hp1 := (hb1.cell (p := ⟨p, 0, none⟩) hpl).trans hp; obtain ⟨k7, k8⟩ := hk.out w1 hb1; obtain ⟨m1, m2⟩ := hmain.out w1 hb1)
      | (go_at_call 30; refine (hat.out _).mono ?_; rintro e w2 ⟨rfl, rfl⟩))
    all_goals go_ret
    all_goals exact ⟨rfl, ⟨_, _, _, _, _, m1⟩, (Only.of_below hb1).trans m2⟩
  · have hR : BM.periodR r c = ((BM.numAll r).2, c) := by unfold BM.periodR; rw [if_neg he]
    rw [hR]
    generalize (BM.numAll r).2 = x at *
    generalize (BM.numAll r).1 = n at *
    have q0 : (x == 0) = false := by simpa using he
    replace hn := Lib.hid hn
    replace he := Lib.hid he
    replace hC := Lib.hid hC
    clear hR
    go_enter Try.func23, Try.ntmps23
    go_wp2_with (go_at_call 24; refine hn.out.mono ?_; rintro e w1 ⟨rfl, hb1⟩)
    all_goals go_ret
    all_goals exact ⟨rfl, hC.out.bw hb1, Only.of_below hb1⟩
theorem at_fuel (g : Nat) (w : World) : Calls Try.prog 31 #[.pointer (some ⟨g, 0, none⟩)] w fun e w' => e = .returned (.pointer (some ⟨g, 9, none⟩)) ∧ w' = w := by
  go_enter Try.func31, Try.ntmps31
  go_wp2_with fail
  all_goals go_ret
  all_goals exact ⟨rfl, rfl⟩
set_option maxHeartbeats 2000000 in
set_option maxRecDepth 100000 in
theorem fuel_any (r : List UInt8) (hr : r.length ≤ 1000000) (w : World) (g base p : Nat) (c : Cs) (hC : CaseAt w g base c) (hbase : base ≤ w.heap.size) (hp : w.cell? ⟨p, 0, none⟩ = some (fnV 31)) :
    Calls Try.prog 23 #[.pointer (some ⟨g, 0, none⟩), strV r, .pointer (some ⟨p, 0, none⟩)] w (ReadIs (BM.fuelR r c) g base w) := by
  have hn := bnum_any r w hr
  have hpl := World.block_lt_of_cell? w _ hp
  simp only at hpl
  have hat := Lib.hid (fun W => at_fuel g W)
  by_cases he : (BM.numAll r).2 = 0
  · have hR : BM.fuelR r c = (0, { c with fuel := (BM.numAll r).1 }) := by unfold BM.fuelR; rw [if_pos he]
    rw [hR]
    obtain ⟨vs, vi, vf, vl, fv, h⟩ := hC
    have hmain := fun (w1 : World) (hb : Below w.heap.size w w1) => (h.bw hb).field 9 (.int .i64 (BM.numAll r).1) (c' := { c with fuel := (BM.numAll r).1 }) rfl rfl rfl rfl rfl
    have hk := fun (w1 : World) (hb : Below w.heap.size w w1) => (⟨(h.bw hb).blk.cell 9, (h.bw hb).blk.free 9⟩ : w1.cell? ⟨g, 9, none⟩ = _ ∧ _)
    rw [he] at hn
    generalize (BM.numAll r).1 = n at *
    replace hmain := Lib.hid hmain
    replace hk := Lib.hid hk
    replace hn := Lib.hid hn
    replace he := Lib.hid he
    have hgw : g < w.heap.size := h.blk.lt
    clear h hR
    unfold fnV at hp
    go_enter Try.func23, Try.ntmps23
    go_wp2_with (first
      | (go_at_call 24; refine hn.out.mono ?_; rintro e w1 ⟨rfl, hb1⟩; have hp1 := (hb1.cell (p := ⟨p, 0, none⟩) hpl).trans hp; obtain ⟨k7, k8⟩ := hk.out w1 hb1; obtain ⟨m1, m2⟩ := hmain.out w1 hb1)
      | (go_at_call 31; refine (hat.out _).mono ?_; rintro e w2 ⟨rfl, rfl⟩))
    all_goals go_ret
    all_goals exact ⟨rfl, ⟨_, _, _, _, _, m1⟩, (Only.of_below hb1).trans m2⟩
  · have hR : BM.fuelR r c = ((BM.numAll r).2, c) := by unfold BM.fuelR; rw [if_neg he]
    rw [hR]
    generalize (BM.numAll r).2 = x at *
    generalize (BM.numAll r).1 = n at *
    have q0 : (x == 0) = false := by simpa using he
    replace hn := Lib.hid hn
    replace he := Lib.hid he
    replace hC := Lib.hid hC
    clear hR
    go_enter Try.func23, Try.ntmps23
    go_wp2_with (go_at_call 24; refine hn.out.mono ?_; rintro e w1 ⟨rfl, hb1⟩)
    all_goals go_ret
    all_goals exact ⟨rfl, hC.out.bw hb1, Only.of_below hb1⟩
end Go.Proofs.Ytaginadnaajleaa
