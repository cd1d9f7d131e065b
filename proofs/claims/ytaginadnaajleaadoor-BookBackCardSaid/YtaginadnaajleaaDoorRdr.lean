/-
  The readers of input, of the numbers, of sed and of file; of chapter 32.
  Conditions: as each theorem states them.
-/
import Derived.Test.YtaginadnaajleaaDoorCase
namespace Go.Proofs.YtaginadnaajleaaDoor
open Go.RowKit
set_option linter.unusedVariables false
set_option linter.unusedSimpArgs false
open BM (Cs)
/-- an input more -/
theorem CaseV.input {w w1 : World} {g base : Nat} {c : Cs} {vs vi vf vl v1 : Value} {fv : List (List UInt8 × Value)} (h : CaseV w g base c vs vi vf vl fv) (r : List UInt8) {o : Obj} (hg : (w.alloc o).grownBy w1 vi.ownBlock)
    (ho : w1.ownsRow base 9 1 v1 (c.inputs.length + 1) (c.inputs.map strV ++ [strV r])) (hb : v1.ownBlock = vi.ownBlock ∨ v1.ownBlock = some (w.alloc o).heap.size) (hbase : base ≤ w.heap.size) :
    CaseV (w1.setCell ⟨g, 5, none⟩ v1) g base { c with inputs := c.inputs ++ [r] } vs v1 vf vl fv ∧ Chg g base w (w1.setCell ⟨g, 5, none⟩ v1) ∧ Blk w1 g 29 (csCells c vs vi vf vl) := by
  have hq : Blk w1 g 29 (csCells c vs vi vf vl) := (h.blk.alloc o).of_eq (hg.block g (by have := h.blk.lt; simp; omega) (fun e => by have := (h.inp.lt _ e.symm).1; have := h.lt; omega))
  have kp : ∀ {e s n : Nat} {v : Value} {xs : List Value}, w.ownsRow base e s v n xs → (v.ownBlock = none ∨ v.ownBlock ≠ vi.ownBlock) → (w1.setCell ⟨g, 5, none⟩ v1).ownsRow base e s v n xs := fun hv hne => ownsRow_setCell_below (a := ⟨g, 5, none⟩) (keep_row hv hg hne) h.lt _
  have hun : v1.ownBlock = none ∨ vi.ownBlock = v1.ownBlock ∨ ∃ g', v1.ownBlock = some g' ∧ w.heap.size ≤ g' := by
    rcases hb with hb | hb
    · exact .inr (.inl hb.symm)
    · exact .inr (.inr ⟨_, hb, by simp⟩)
  have hap : vl.ownBlock = none ∨ vl.ownBlock ≠ vi.ownBlock := by
    rcases h.apart with h1 | h1
    · cases hl : vl.ownBlock with
      | none => exact .inl rfl
      | some x => exact .inr (by rw [h1]; simp)
    · exact .inr (fun e => h1 e.symm)
  have hap2 : v1.ownBlock = none ∨ v1.ownBlock ≠ vl.ownBlock := by
    rcases own_new h.inp hun vl h.lin hap with h1 | h1
    · cases hl : v1.ownBlock with
      | none => exact .inl rfl
      | some x => exact .inr (by rw [h1]; simp)
    · exact .inr (fun e => h1 e.symm)
  refine ⟨⟨hq.set 5 v1, h.lt, kp h.sed (own_type h.sed h.inp (fun e => str_ne8 e.symm)), ?_, kp h.lin hap, kp h.fil (own_type h.fil h.inp file_neS), h.fvn, fun i h1 h2 => kp (h.fvb i h1 h2) (own_type (h.fvb i h1 h2) h.inp (fun e => str_ne8 e.symm)), h.fvs, hap2⟩, ?_, hq⟩
  · show (w1.setCell ⟨g, 5, none⟩ v1).ownsRow base 9 1 v1 (c.inputs ++ [r]).length ((c.inputs ++ [r]).map strV)
    rw [List.length_append, List.map_append]
    exact ownsRow_setCell_below (a := ⟨g, 5, none⟩) ho h.lt _
  · exact (only_grown ((Only.refl _ w).alloc o) hg (fun k hk => .inr (h.inp.lt k hk).1)).setCell (p := ⟨g, 5, none⟩) (.inl rfl) _
theorem has_blank (r : List UInt8) : decide (0 ≤ Lib.indexByte r 32) = decide (32 ∈ r) := by
  have : ∀ r : List UInt8, (0 ≤ Lib.indexByte r 32 ↔ 32 ∈ r) := by
    intro r
    induction r with
    | nil => simp [Lib.indexByte]
    | cons c r ih =>
      unfold Lib.indexByte
      have hg := Lib.indexByte_ge r 32
      by_cases hc : c = 32
      · subst hc; simp
      · have h2 : (c == 32) = false := by simpa using hc
        rw [h2]
        simp only [Bool.false_eq_true, if_false, List.mem_cons]
        by_cases h1 : Lib.indexByte r 32 = -1
        · rw [h1]
          have : ¬ 32 ∈ r := fun hm => by have := ih.2 hm; omega
          simp [this, show ¬ (32 : UInt8) = c from fun e => hc e.symm]
        · have h3 : (Lib.indexByte r 32 == -1) = false := by simpa using h1
          rw [h3]
          simp only [Bool.false_eq_true, if_false]
          have : 0 ≤ Lib.indexByte r 32 := by omega
          constructor
          · intro _; exact .inr (ih.1 this)
          · intro _; omega
  rw [decide_eq_decide]; exact this r
theorem contains_any (r : List UInt8) (w : World) : Calls Tryd.prog 59 #[strV r, .string ⟨#[32]⟩] w fun e w' => e = .returned (.bool (decide (32 ∈ r))) ∧ w' = w := by
  have h := Tryd.strings_Contains_one ⟨r.toArray⟩ 32 w
  have hd : (⟨r.toArray⟩ : ByteArray).data.toList = r := by simp
  rw [hd, has_blank] at h
  exact h
set_option maxHeartbeats 2000000 in
set_option maxRecDepth 100000 in
theorem input_any (r : List UInt8) (w : World) (g base : Nat) (c : Cs) (hC : CaseAt w g base c) (hS : Small c) (hbase : base ≤ w.heap.size) : Calls Tryd.prog 44 #[.pointer (some ⟨g, 0, none⟩), strV r] w (ReadIs (BM.inputR r c) g base w) := by
  obtain ⟨i0, hi, hz0, hz1, hz2⟩ := info_parts infoStr
  have hco := Lib.hid (contains_any r w)
  by_cases hr : r = []
  · have hR : BM.inputR r c = (9, c) := by unfold BM.inputR; rw [if_pos (.inl hr)]
    rw [hR]
    have q0 : r.isEmpty = true := by simpa using hr
    go_enter Tryd.func44, Tryd.ntmps44
    go_wp2_with fail
    all_goals go_ret
    all_goals exact ⟨rfl, hC, Only.refl _ _⟩
  have q0 : r.isEmpty = false := by simpa using hr
  by_cases hb : 32 ∈ r
  · have hR : BM.inputR r c = (9, c) := by unfold BM.inputR; rw [if_pos (.inr hb)]
    rw [hR]
    replace hco := hco.out
    rw [decide_eq_true hb] at hco
    replace hco := Lib.hid hco
    go_enter Tryd.func44, Tryd.ntmps44
    go_wp2_with (go_at_call 59; refine hco.out.mono ?_; rintro e w2 ⟨rfl, rfl⟩)
    all_goals go_ret
    all_goals exact ⟨rfl, hC, Only.refl _ _⟩
  have hR : BM.inputR r c = (0, { c with inputs := c.inputs ++ [r] }) := by unfold BM.inputR; rw [if_neg (fun h => h.elim hr hb)]
  rw [hR]
  replace hco := hco.out
  rw [decide_eq_false hb] at hco
  replace hco := Lib.hid hco
  obtain ⟨vs, vi, vf, vl, fv, h⟩ := hC
  have k5 : w.cell? ⟨g, 5, none⟩ = some vi := h.blk.cell 5
  obtain ⟨la, lc, hvi⟩ := own_slice h.inp
  have hlen := hS.inputs
  have hgw : g < w.heap.size := h.blk.lt
  have hmain := fun w1 v1 hg ho hb => h.input (w1 := w1) (v1 := v1) r (o := .cells #[strV r] 9) hg ho hb hbase
  have hinp := h.inp
  subst hvi
  replace hmain := Lib.hid hmain
  replace hinp := Lib.hid hinp
  clear h hS hR hr hb
  go_enter Tryd.func44, Tryd.ntmps44
  go_wp2_with (first
    | (go_at_call 59; refine hco.out.mono ?_; rintro e w2 ⟨rfl, rfl⟩)
    | (at_builtin; refine wpList_append_own_at _ rfl (.tmp 16) (.tmp 18) 24 rfl base 9 i0 (.string ⟨#[]⟩) 1 16 Tryd.underlying24 hi hz0 hz1 hz2 rfl (by decide) _ _ _ rfl (hinp.out.alloc _) ⟨_, 0, none⟩ 1 1 [strV r] rfl rfl (cells_new _ _ rfl _ [strV r]) (by intro u hu; simp only [List.mem_cons, List.not_mem_nil, or_false] at hu; subst hu; rfl) (by unfold maxLen; omega) (by omega) (by simp; omega) ?_; intro v1 w1 hown1 hgrow1 hnil1 hat1; obtain ⟨m1, m2, m3⟩ := hmain.out w1 v1 hgrow1 hown1 hat1; have j10 : w1.cell? ⟨g, 5, none⟩ = _ := m3.cell 5; have j11 := m3.free 5; obtain ⟨a1, c1, rfl⟩ := own_slice hown1))
  go_ret
  exact ⟨rfl, ⟨_, _, _, _, _, m1⟩, m2⟩
end Go.Proofs.YtaginadnaajleaaDoor
/-
  The readers of the numbers (printed by gen_rdnum.py); of chapter 32.
  Conditions: as each theorem states them.
-/
namespace Go.Proofs.YtaginadnaajleaaDoor
open Go.RowKit
set_option linter.unusedVariables false
set_option linter.unusedSimpArgs false
open BM (Cs)
/-- a cell of the case's own block is set -/
theorem CaseV.field {w : World} {g base : Nat} {c c' : Cs} {vs vi vf vl : Value} {fv : List (List UInt8 × Value)} (h : CaseV w g base c vs vi vf vl fv) (i : Nat) (v : Value) (hset : (csCells c vs vi vf vl).set i v = csCells c' vs vi vf vl) (h1 : c'.sed = c.sed) (h2 : c'.inputs = c.inputs) (h3 : c'.files = c.files) (h4 : c'.lines = c.lines) :
    CaseV (w.setCell ⟨g, i, none⟩ v) g base c' vs vi vf vl fv ∧ Chg g base w (w.setCell ⟨g, i, none⟩ v) := by
  have kp : ∀ {e s n : Nat} {u : Value} {xs : List Value}, w.ownsRow base e s u n xs → (w.setCell ⟨g, i, none⟩ v).ownsRow base e s u n xs := fun hu => ownsRow_setCell_below (a := ⟨g, i, none⟩) hu h.lt _
  refine ⟨⟨hset ▸ h.blk.set i v, h.lt, by rw [h1]; exact kp h.sed, by rw [h2]; exact kp h.inp, by rw [h4]; exact kp h.lin, by rw [h3]; exact kp h.fil, by rw [h3]; exact h.fvn, fun j hj hj' => ?_, h.fvs, h.apart⟩, (Only.refl _ w).setCell (p := ⟨g, i, none⟩) (.inl rfl) _⟩
  have hj2 : j < c.files.length := by rw [← h3]; exact hj
  have e : c'.files[j] = c.files[j] := by simp only [h3]
  rw [e]
  exact kp (h.fvb j hj2 hj')
theorem at_cap (g : Nat) (w : World) : Calls Tryd.prog 46 #[.pointer (some ⟨g, 0, none⟩)] w fun e w' => e = .returned (.pointer (some ⟨g, 7, none⟩)) ∧ w' = w := by
  go_enter Tryd.func46, Tryd.ntmps46
  go_wp2_with fail
  all_goals go_ret
  all_goals exact ⟨rfl, rfl⟩
set_option maxHeartbeats 2000000 in
set_option maxRecDepth 100000 in
theorem cap_any (r : List UInt8) (hr : r.length ≤ 1000000) (w : World) (g base p : Nat) (c : Cs) (hC : CaseAt w g base c) (hbase : base ≤ w.heap.size) (hp : w.cell? ⟨p, 0, none⟩ = some (fnV 46)) :
    Calls Tryd.prog 40 #[.pointer (some ⟨g, 0, none⟩), strV r, .pointer (some ⟨p, 0, none⟩)] w (ReadIs (BM.capR r c) g base w) := by
  have hn := bnum_any r w hr
  have hpl := World.block_lt_of_cell? w _ hp
  simp only at hpl
  have hat := Lib.hid (fun W => at_cap g W)
  by_cases he : (BM.numAll r).2 = 0
  · have hR : BM.capR r c = (0, { c with cap := (BM.numAll r).1 }) := by unfold BM.capR; rw [if_pos he]
    rw [hR]
    obtain ⟨vs, vi, vf, vl, fv, h⟩ := hC
    have hmain := fun (w1 : World) (hb : Below w.heap.size w w1) => (h.bw hb).field 7 (.int .i64 (BM.numAll r).1) (c' := { c with cap := (BM.numAll r).1 }) rfl rfl rfl rfl rfl
    have hk := fun (w1 : World) (hb : Below w.heap.size w w1) => (⟨(h.bw hb).blk.cell 7, (h.bw hb).blk.free 7⟩ : w1.cell? ⟨g, 7, none⟩ = _ ∧ _)
    rw [he] at hn
    generalize (BM.numAll r).1 = n at *
    replace hmain := Lib.hid hmain
    replace hk := Lib.hid hk
    replace hn := Lib.hid hn
    replace he := Lib.hid he
    have hgw : g < w.heap.size := h.blk.lt
    clear h hR
    unfold fnV at hp
    go_enter Tryd.func40, Tryd.ntmps40
    go_wp2_with (first
      | (go_at_call 41; refine hn.out.mono ?_; rintro e w1 ⟨rfl, hb1⟩; have hp1 := (hb1.cell (p := ⟨p, 0, none⟩) hpl).trans hp; obtain ⟨k7, k8⟩ := hk.out w1 hb1; obtain ⟨m1, m2⟩ := hmain.out w1 hb1)
      | (go_at_call 46; refine (hat.out _).mono ?_; rintro e w2 ⟨rfl, rfl⟩))
    all_goals go_ret
    all_goals exact ⟨rfl, ⟨_, _, _, _, _, m1⟩, (Only.of_below hb1).trans m2⟩
  · have hR : BM.capR r c = ((BM.numAll r).2, c) := by unfold BM.capR; rw [if_neg he]
    rw [hR]
    generalize (BM.numAll r).2 = x at *
    generalize (BM.numAll r).1 = n at *
    have q0 : (x == 0) = false := by simpa using he
    replace hn := Lib.hid hn
    replace he := Lib.hid he
    replace hC := Lib.hid hC
    clear hR
    go_enter Tryd.func40, Tryd.ntmps40
    go_wp2_with (go_at_call 41; refine hn.out.mono ?_; rintro e w1 ⟨rfl, hb1⟩)
    all_goals go_ret
    all_goals exact ⟨rfl, hC.out.bw hb1, Only.of_below hb1⟩
theorem at_period (g : Nat) (w : World) : Calls Tryd.prog 47 #[.pointer (some ⟨g, 0, none⟩)] w fun e w' => e = .returned (.pointer (some ⟨g, 8, none⟩)) ∧ w' = w := by
  go_enter Tryd.func47, Tryd.ntmps47
  go_wp2_with fail
  all_goals go_ret
  all_goals exact ⟨rfl, rfl⟩
set_option maxHeartbeats 2000000 in
set_option maxRecDepth 100000 in
theorem period_any (r : List UInt8) (hr : r.length ≤ 1000000) (w : World) (g base p : Nat) (c : Cs) (hC : CaseAt w g base c) (hbase : base ≤ w.heap.size) (hp : w.cell? ⟨p, 0, none⟩ = some (fnV 47)) :
    Calls Tryd.prog 40 #[.pointer (some ⟨g, 0, none⟩), strV r, .pointer (some ⟨p, 0, none⟩)] w (ReadIs (BM.periodR r c) g base w) := by
  have hn := bnum_any r w hr
  have hpl := World.block_lt_of_cell? w _ hp
  simp only at hpl
  have hat := Lib.hid (fun W => at_period g W)
  by_cases he : (BM.numAll r).2 = 0
  · have hR : BM.periodR r c = (0, { c with period := (BM.numAll r).1 }) := by unfold BM.periodR; rw [if_pos he]
    rw [hR]
    obtain ⟨vs, vi, vf, vl, fv, h⟩ := hC
    have hmain := fun (w1 : World) (hb : Below w.heap.size w w1) => (h.bw hb).field 8 (.int .i64 (BM.numAll r).1) (c' := { c with period := (BM.numAll r).1 }) rfl rfl rfl rfl rfl
    have hk := fun (w1 : World) (hb : Below w.heap.size w w1) => (⟨(h.bw hb).blk.cell 8, (h.bw hb).blk.free 8⟩ : w1.cell? ⟨g, 8, none⟩ = _ ∧ _)
    rw [he] at hn
    generalize (BM.numAll r).1 = n at *
    replace hmain := Lib.hid hmain
    replace hk := Lib.hid hk
    replace hn := Lib.hid hn
    replace he := Lib.hid he
    have hgw : g < w.heap.size := h.blk.lt
    clear h hR
    unfold fnV at hp
    go_enter Tryd.func40, Tryd.ntmps40
    go_wp2_with (first
      | (go_at_call 41; refine hn.out.mono ?_; rintro e w1 ⟨rfl, hb1⟩; have hp1 := (hb1.cell (p := ⟨p, 0, none⟩) hpl).trans hp; obtain ⟨k7, k8⟩ := hk.out w1 hb1; obtain ⟨m1, m2⟩ := hmain.out w1 hb1)
      | (go_at_call 47; refine (hat.out _).mono ?_; rintro e w2 ⟨rfl, rfl⟩))
    all_goals go_ret
    all_goals exact ⟨rfl, ⟨_, _, _, _, _, m1⟩, (Only.of_below hb1).trans m2⟩
  · have hR : BM.periodR r c = ((BM.numAll r).2, c) := by unfold BM.periodR; rw [if_neg he]
    rw [hR]
    generalize (BM.numAll r).2 = x at *
    generalize (BM.numAll r).1 = n at *
    have q0 : (x == 0) = false := by simpa using he
    replace hn := Lib.hid hn
    replace he := Lib.hid he
    replace hC := Lib.hid hC
    clear hR
    go_enter Tryd.func40, Tryd.ntmps40
    go_wp2_with (go_at_call 41; refine hn.out.mono ?_; rintro e w1 ⟨rfl, hb1⟩)
    all_goals go_ret
    all_goals exact ⟨rfl, hC.out.bw hb1, Only.of_below hb1⟩
theorem at_fuel (g : Nat) (w : World) : Calls Tryd.prog 48 #[.pointer (some ⟨g, 0, none⟩)] w fun e w' => e = .returned (.pointer (some ⟨g, 9, none⟩)) ∧ w' = w := by
  go_enter Tryd.func48, Tryd.ntmps48
  go_wp2_with fail
  all_goals go_ret
  all_goals exact ⟨rfl, rfl⟩
set_option maxHeartbeats 2000000 in
set_option maxRecDepth 100000 in
theorem fuel_any (r : List UInt8) (hr : r.length ≤ 1000000) (w : World) (g base p : Nat) (c : Cs) (hC : CaseAt w g base c) (hbase : base ≤ w.heap.size) (hp : w.cell? ⟨p, 0, none⟩ = some (fnV 48)) :
    Calls Tryd.prog 40 #[.pointer (some ⟨g, 0, none⟩), strV r, .pointer (some ⟨p, 0, none⟩)] w (ReadIs (BM.fuelR r c) g base w) := by
  have hn := bnum_any r w hr
  have hpl := World.block_lt_of_cell? w _ hp
  simp only at hpl
  have hat := Lib.hid (fun W => at_fuel g W)
  by_cases he : (BM.numAll r).2 = 0
  · have hR : BM.fuelR r c = (0, { c with fuel := (BM.numAll r).1 }) := by unfold BM.fuelR; rw [if_pos he]
    rw [hR]
    obtain ⟨vs, vi, vf, vl, fv, h⟩ := hC
    have hmain := fun (w1 : World) (hb : Below w.heap.size w w1) => (h.bw hb).field 9 (.int .i64 (BM.numAll r).1) (c' := { c with fuel := (BM.numAll r).1 }) rfl rfl rfl rfl rfl
    have hk := fun (w1 : World) (hb : Below w.heap.size w w1) => (⟨(h.bw hb).blk.cell 9, (h.bw hb).blk.free 9⟩ : w1.cell? ⟨g, 9, none⟩ = _ ∧ _)
    rw [he] at hn
    generalize (BM.numAll r).1 = n at *
    replace hmain := Lib.hid hmain
    replace hk := Lib.hid hk
    replace hn := Lib.hid hn
    replace he := Lib.hid he
    have hgw : g < w.heap.size := h.blk.lt
    clear h hR
    unfold fnV at hp
    go_enter Tryd.func40, Tryd.ntmps40
    go_wp2_with (first
      | (go_at_call 41; refine hn.out.mono ?_; rintro e w1 ⟨rfl, hb1⟩; have hp1 := (hb1.cell (p := ⟨p, 0, none⟩) hpl).trans hp; obtain ⟨k7, k8⟩ := hk.out w1 hb1; obtain ⟨m1, m2⟩ := hmain.out w1 hb1)
      | (go_at_call 48; refine (hat.out _).mono ?_; rintro e w2 ⟨rfl, rfl⟩))
    all_goals go_ret
    all_goals exact ⟨rfl, ⟨_, _, _, _, _, m1⟩, (Only.of_below hb1).trans m2⟩
  · have hR : BM.fuelR r c = ((BM.numAll r).2, c) := by unfold BM.fuelR; rw [if_neg he]
    rw [hR]
    generalize (BM.numAll r).2 = x at *
    generalize (BM.numAll r).1 = n at *
    have q0 : (x == 0) = false := by simpa using he
    replace hn := Lib.hid hn
    replace he := Lib.hid he
    replace hC := Lib.hid hC
    clear hR
    go_enter Tryd.func40, Tryd.ntmps40
    go_wp2_with (go_at_call 41; refine hn.out.mono ?_; rintro e w1 ⟨rfl, hb1⟩)
    all_goals go_ret
    all_goals exact ⟨rfl, hC.out.bw hb1, Only.of_below hb1⟩
end Go.Proofs.YtaginadnaajleaaDoor
/-
  The readers of sed and of file; of chapter 32.
  Conditions: as each theorem states them.
-/
namespace Go.Proofs.YtaginadnaajleaaDoor
open Go.RowKit
set_option linter.unusedVariables false
set_option linter.unusedSimpArgs false
open BM (Cs)
/-- a piece more of the script -/
theorem CaseV.piece {w w1 : World} {g base : Nat} {c : Cs} {vs vi vf vl v1 : Value} {fv : List (List UInt8 × Value)} (h : CaseV w g base c vs vi vf vl fv) (l : List UInt8) (hg : w.grownBy w1 vs.ownBlock)
    (ho : w1.ownsRow base 5 1 v1 (c.sed.length + l.length) (Lib.byteCells c.sed ++ Lib.byteCells l)) (hb : v1.ownBlock = vs.ownBlock ∨ v1.ownBlock = some w.heap.size) :
    CaseV (w1.setCell ⟨g, 0, none⟩ v1) g base { c with sed := c.sed ++ l } v1 vi vf vl fv ∧ Chg g base w (w1.setCell ⟨g, 0, none⟩ v1) ∧ Blk w1 g 29 (csCells c vs vi vf vl) := by
  have hq : Blk w1 g 29 (csCells c vs vi vf vl) := h.blk.of_eq (hg.block g h.blk.lt (fun e => by have := (h.sed.lt _ e.symm).1; have := h.lt; omega))
  have kp : ∀ {e s n : Nat} {v : Value} {xs : List Value}, w.ownsRow base e s v n xs → (v.ownBlock = none ∨ v.ownBlock ≠ vs.ownBlock) → (w1.setCell ⟨g, 0, none⟩ v1).ownsRow base e s v n xs := fun hv hne => ownsRow_setCell_below (a := ⟨g, 0, none⟩) (hv.kept hg hne) h.lt _
  have hun : v1.ownBlock = none ∨ vs.ownBlock = v1.ownBlock ∨ ∃ g', v1.ownBlock = some g' ∧ w.heap.size ≤ g' := by
    rcases hb with hb | hb
    · exact .inr (.inl hb.symm)
    · exact .inr (.inr ⟨_, hb, Nat.le_refl _⟩)
  have hfl : fv.length = c.files.length := by have := congrArg List.length h.fvn; simpa using this
  refine ⟨⟨hq.set 0 v1, h.lt, ?_, kp h.inp (own_type h.inp h.sed str_ne8), kp h.lin (own_type h.lin h.sed str_ne8), kp h.fil (own_type h.fil h.sed file_ne8), h.fvn, fun i h1 h2 => kp (h.fvb i h1 h2) (h.fvs _ (List.getElem_mem h2)), fun p hp => ?_, h.apart⟩, ?_, hq⟩
  · show (w1.setCell ⟨g, 0, none⟩ v1).ownsRow base 5 1 v1 (c.sed ++ l).length (Lib.byteCells (c.sed ++ l))
    rw [List.length_append, byteCells_app]
    exact ownsRow_setCell_below (a := ⟨g, 0, none⟩) ho h.lt _
  · obtain ⟨i, hi, rfl⟩ := List.mem_iff_getElem.1 hp
    exact own_new h.sed hun _ (h.fvb i (by omega) hi) (h.fvs _ hp)
  · exact (only_grown (Only.refl _ w) hg (fun k hk => .inr (h.sed.lt k hk).1)).setCell (p := ⟨g, 0, none⟩) (.inl rfl) _
theorem byteCells_cells {w : World} {base e : Nat} {v : Value} {l : List UInt8} (h : w.ownsRow base e 1 v l.length (Lib.byteCells l)) : (v = .slice none 0 0 ∧ l = []) ∨ ∃ gq cap, v = .slice (some ⟨gq, 0, none⟩) l.length cap ∧ ∀ j u, (Lib.byteCells l)[j]? = some u → w.cell? ((⟨gq, 0, none⟩ : Addr).add j) = some u := by
  have h' := h
  obtain ⟨h1, h2⟩ := h
  rcases h2 with ⟨rfl, h0⟩ | ⟨gq, cap, cur, rfl, hb, hh, _, _, _, hx⟩
  · exact .inl ⟨rfl, List.eq_nil_of_length_eq_zero h0⟩
  · refine .inr ⟨gq, cap, rfl, fun j u hj => ?_⟩
    have e1 : (⟨gq, 0, none⟩ : Addr).add j = ⟨gq, j, none⟩ := by unfold Addr.add; by_cases h0 : j = 0 <;> simp [h0]
    rw [e1]
    have hB : Blk w gq e cur.toList := by simpa [Blk] using hh
    rw [hB.cell]
    rw [← hx] at hj
    rw [List.getElem?_take] at hj
    split at hj
    · simpa using hj
    · cases hj
set_option maxHeartbeats 4000000 in
set_option maxRecDepth 100000 in
theorem sed_any (r : List UInt8) (hr : r.length ≤ 100000) (w : World) (g base : Nat) (c : Cs) (hC : CaseAt w g base c) (hS : Small c) (hbase : base ≤ w.heap.size) (hql : (BM.quoteAll r).1.length ≤ 1000000) :
    Calls Tryd.prog 42 #[.pointer (some ⟨g, 0, none⟩), strV r] w (ReadIs (BM.sedR r c) g base w) := by
  obtain ⟨i0, hi, hz0, hz1, hz2⟩ := info_parts infoByteB
  have hq := bquote_any r hr w
  unfold QuIs at hq
  by_cases he : (BM.quoteAll r).2 = 0
  · have hR : BM.sedR r c = (0, { c with sed := c.sed ++ (BM.quoteAll r).1 }) := by unfold BM.sedR; rw [if_pos he]
    rw [hR]
    obtain ⟨vs, vi, vf, vl, fv, h⟩ := hC
    rw [he] at hq
    generalize (BM.quoteAll r).1 = L at *
    have hlen := hS.sed
    have hgw : g < w.heap.size := h.blk.lt
    have hh := Lib.hid (fun (w1 : World) (hb : Below w.heap.size w w1) => h.bw hb)
    have hsed := h.sed
    replace hq := Lib.hid hq
    replace he := Lib.hid he
    clear h hS hR
    go_enter Tryd.func42, Tryd.ntmps42
    go_upto_region 3 with (go_at_call 58; refine hq.out.mono ?_; rintro e w1 ⟨v, l, rfl, hl, ho, hb1⟩)
    obtain rfl := hl (by first | rfl | trivial)
    have h1 := hh.out w1 hb1
    have k0 : w1.cell? ⟨g, 0, none⟩ = some vs := h1.blk.cell 0
    obtain ⟨sa, sc, hvs⟩ := own_slice h1.sed
    subst hvs
    have hs1 := hb1.size
    have hsed1 := Lib.hid h1.sed
    rcases byteCells_cells ho with ⟨rfl, rfl⟩ | ⟨gq, cap, rfl, hcs⟩
    · have k8 := h1.blk.free 0
      have hm := h1.field 0 (.slice sa c.sed.length sc) (c' := c) (by simp [csCells]) rfl rfl rfl rfl
      obtain ⟨m1, m2⟩ := hm
      replace m1 := Lib.hid m1
      replace m2 := Lib.hid m2
      clear h1
      go_wp2_with (at_builtin; refine wpList_append_own_none rfl (.tmp 18) (.tmp 19) 23 rfl base 5 i0 1 Tryd.underlying23 hi _ _ _ rfl hsed1.out rfl ?_)
      all_goals go_ret
      all_goals exact ⟨rfl, ⟨_, _, _, _, _, m1.out⟩, (Only.of_below hb1).trans m2.out⟩
    · have hmain := Lib.hid (fun w2 v2 hg ho hb => h1.piece (w1 := w2) (v1 := v2) l hg ho hb)
      replace hcs := Lib.hid hcs
      clear h1
      obtain ⟨n, hn⟩ : ∃ n, l.length = n := ⟨_, rfl⟩
      have hbl : (Lib.byteCells l).length = n * 1 := by rw [Nat.mul_one, ← hn]; simp [Lib.byteCells]
      rw [hn] at hql hmain ⊢
      replace hbl := Lib.hid hbl
      clear hn ho
      go_wp2_with (at_builtin; refine wpList_append_own_at _ rfl (.tmp 18) (.tmp 19) 23 rfl base 5 i0 (.int .u8 0) 1 1 Tryd.underlying23 hi hz0 hz1 hz2 rfl (by decide) _ _ _ rfl hsed1.out ⟨gq, 0, none⟩ n cap (Lib.byteCells l) rfl hbl.out hcs.out (by intro u hu; obtain ⟨j, hj⟩ := List.mem_iff_getElem?.1 hu; obtain ⟨_, rfl⟩ := byteCells_get hj; rfl) (by unfold maxLen; omega) (by omega) (by omega) ?_; intro v2 w2 hown2 hgrow2 hnil2 hat2; obtain ⟨m1, m2, m3⟩ := hmain.out w2 v2 hgrow2 hown2 hat2; have j10 : w2.cell? ⟨g, 0, none⟩ = _ := m3.cell 0; have j11 := m3.free 0; obtain ⟨a1, c1, rfl⟩ := own_slice hown2)
      all_goals go_ret
      all_goals exact ⟨rfl, ⟨_, _, _, _, _, m1⟩, (Only.of_below hb1).trans m2⟩
  · have hR : BM.sedR r c = ((BM.quoteAll r).2, c) := by unfold BM.sedR; rw [if_neg he]
    rw [hR]
    generalize (BM.quoteAll r).2 = x at *
    have q0 : (x == 0) = false := by simpa using he
    replace hq := Lib.hid hq
    replace he := Lib.hid he
    replace hC := Lib.hid hC
    clear hR
    go_enter Tryd.func42, Tryd.ntmps42
    go_wp2_with (go_at_call 58; refine hq.out.mono ?_; rintro e w1 ⟨v, l, rfl, _, ho, hb1⟩)
    all_goals go_ret
    all_goals exact ⟨rfl, hC.out.bw hb1, Only.of_below hb1⟩
end Go.Proofs.YtaginadnaajleaaDoor
/-
  The reader of file; of chapter 32.
  Conditions: as each theorem states them.
-/
namespace Go.Proofs.YtaginadnaajleaaDoor
open Go.RowKit
set_option linter.unusedVariables false
set_option linter.unusedSimpArgs false
open BM (Cs)
theorem infoFile : (Tryd.prog.info? 52).map (fun i => (i.zero, i.size, i.bytes)) = some (some (.agg #[.string ⟨#[]⟩, .slice none 0 0]), 2, 40) := by kernel_rfl
/-- a file more -/
theorem CaseV.file {w w1 : World} {g base : Nat} {c : Cs} {vs vi vf vl v1 v : Value} {fv : List (List UInt8 × Value)} (h : CaseV w g base c vs vi vf vl fv) (nm l : List UInt8) {o : Obj} (hg : (w.alloc o).grownBy w1 vf.ownBlock)
    (ho : w1.ownsRow base 52 2 v1 (c.files.length + 1) ((fv.flatMap fun p => [strV p.1, p.2]) ++ [strV nm, v])) (hv : w.ownsRow base 5 1 v l.length (Lib.byteCells l)) (hvs : v.ownBlock = none ∨ v.ownBlock ≠ vs.ownBlock) :
    CaseV (w1.setCell ⟨g, 6, none⟩ v1) g base { c with files := c.files ++ [(nm, l)] } vs vi v1 vl (fv ++ [(nm, v)]) ∧ Chg g base w (w1.setCell ⟨g, 6, none⟩ v1) ∧ Blk w1 g 29 (csCells c vs vi vf vl) := by
  have hq : Blk w1 g 29 (csCells c vs vi vf vl) := (h.blk.alloc o).of_eq (hg.block g (by have := h.blk.lt; simp; omega) (fun e => by have := (h.fil.lt _ e.symm).1; have := h.lt; omega))
  have kp : ∀ {e s n : Nat} {u : Value} {xs : List Value}, w.ownsRow base e s u n xs → (u.ownBlock = none ∨ u.ownBlock ≠ vf.ownBlock) → (w1.setCell ⟨g, 6, none⟩ v1).ownsRow base e s u n xs := fun hu hne => ownsRow_setCell_below (a := ⟨g, 6, none⟩) (keep_row hu hg hne) h.lt _
  have hfl : fv.length = c.files.length := by have := congrArg List.length h.fvn; simpa using this
  refine ⟨⟨hq.set 6 v1, h.lt, kp h.sed (own_type h.sed h.fil (fun e => file_ne8 e.symm)), kp h.inp (own_type h.inp h.fil (fun e => file_neS e.symm)), kp h.lin (own_type h.lin h.fil (fun e => file_neS e.symm)), ?_, ?_, fun i h1 h2 => ?_, fun p hp => ?_, h.apart⟩, ?_, hq⟩
  · show (w1.setCell ⟨g, 6, none⟩ v1).ownsRow base 52 2 v1 (c.files ++ [(nm, l)]).length _
    rw [List.length_append, List.flatMap_append]
    exact ownsRow_setCell_below (a := ⟨g, 6, none⟩) (by simpa using ho) h.lt _
  · show (fv ++ [(nm, v)]).map (·.1) = (c.files ++ [(nm, l)]).map (·.1)
    rw [List.map_append, List.map_append, h.fvn]; rfl
  · show (w1.setCell ⟨g, 6, none⟩ v1).ownsRow base 5 1 (fv ++ [(nm, v)])[i].2 ((c.files ++ [(nm, l)])[i]'h1).2.length (Lib.byteCells ((c.files ++ [(nm, l)])[i]'h1).2)
    by_cases hlt : i < c.files.length
    · rw [List.getElem_append_left (by omega), List.getElem_append_left hlt]
      exact kp (h.fvb i hlt (by omega)) (own_type (h.fvb i hlt (by omega)) h.fil (fun e => file_ne8 e.symm))
    · have hi0 : i = c.files.length := by have : i < (c.files ++ [(nm, l)]).length := h1; simp at this; omega
      subst hi0
      rw [List.getElem_append_right (by omega), List.getElem_append_right (by omega)]
      simp only [hfl, Nat.sub_self, List.getElem_cons_zero]
      exact kp hv (own_type hv h.fil (fun e => file_ne8 e.symm))
  · rcases List.mem_append.1 hp with hp | hp
    · exact h.fvs p hp
    · simp only [List.mem_cons, List.not_mem_nil, or_false] at hp
      subst hp; exact hvs
  · exact (only_grown ((Only.refl _ w).alloc o) hg (fun k hk => .inr (h.fil.lt k hk).1)).setCell (p := ⟨g, 6, none⟩) (.inl rfl) _
set_option maxHeartbeats 4000000 in
set_option maxRecDepth 100000 in
theorem file_any (r : List UInt8) (hr : r.length ≤ 100000) (w : World) (g base : Nat) (c : Cs) (hC : CaseAt w g base c) (hS : Small c) (hbase : base ≤ w.heap.size) :
    Calls Tryd.prog 45 #[.pointer (some ⟨g, 0, none⟩), strV r] w (ReadIs (BM.fileR r c) g base w) := by
  obtain ⟨i0, hi, hz0, hz1, hz2⟩ := info_parts infoFile
  have hct := cut_any r hr w
  have hcl : (BM.cut r).2.1.length ≤ 100000 := by unfold BM.cut; rw [List.length_drop]; omega
  have hR : BM.fileR r c = if (BM.cut r).2.2 = false ∨ (BM.cut r).1 = [] then (9, c) else if (BM.quoteAll (BM.cut r).2.1).2 = 0 then (0, { c with files := c.files ++ [((BM.cut r).1, (BM.quoteAll (BM.cut r).2.1).1)] }) else ((BM.quoteAll (BM.cut r).2.1).2, c) := rfl
  rw [hR]
  clear hR
  obtain ⟨nm, tx, ok, hcr⟩ : ∃ nm tx ok, BM.cut r = (nm, tx, ok) := ⟨_, _, _, rfl⟩
  rw [hcr] at hct hcl ⊢
  simp only at hct hcl ⊢
  clear hcr
  have dr : ∀ m, Below w.heap.size w (w.drewN m) := fun m => bl_drewN (Below.refl _ _) m
  replace hct := Lib.hid hct
  cases ok with
  | false =>
    rw [if_pos (.inl rfl)]
    replace hC := Lib.hid hC
    go_enter Tryd.func45, Tryd.ntmps45
    go_wp2_with (go_at_call 21; refine hct.out.mono ?_; rintro e w1 ⟨rfl, m, rfl⟩)
    all_goals go_ret
    all_goals exact ⟨rfl, hC.out.bw (dr m), Only.of_below (dr m)⟩
  | true =>
    by_cases hn : nm = []
    · rw [if_pos (.inr hn)]
      have q0 : nm.isEmpty = true := by simpa using hn
      replace hC := Lib.hid hC
      go_enter Tryd.func45, Tryd.ntmps45
      go_wp2_with (go_at_call 21; refine hct.out.mono ?_; rintro e w1 ⟨rfl, m, rfl⟩)
      all_goals go_ret
      all_goals exact ⟨rfl, hC.out.bw (dr m), Only.of_below (dr m)⟩
    · have q0 : nm.isEmpty = false := by simpa using hn
      rw [if_neg (fun h => h.elim (fun e => by cases e) hn)]
      have hq := fun W => bquote_any tx hcl W
      unfold QuIs at hq
      by_cases he : (BM.quoteAll tx).2 = 0
      · rw [if_pos he]
        rw [he] at hq
        generalize (BM.quoteAll tx).1 = L at *
        obtain ⟨vs, vi, vf, vl, fv, h⟩ := hC
        have hlen := hS.files
        have hh := Lib.hid (fun (w1 : World) (hb : Below w.heap.size w w1) => h.bw hb)
        have hgw : g < w.heap.size := h.blk.lt
        have hsl := Lib.hid (fun k hk => (h.sed.lt k hk).2)
        replace hq := Lib.hid hq
        replace he := Lib.hid he
        clear h hS
        go_enter Tryd.func45, Tryd.ntmps45
        go_upto_region 6 with (first
          | (go_at_call 21; refine hct.out.mono ?_; rintro e w0 ⟨rfl, m, rfl⟩)
          | (go_at_call 58; refine (hq.out _).mono ?_; rintro e w1 ⟨v, l, rfl, hl, ho, hb1⟩))
        obtain rfl := hl (by first | rfl | trivial)
        have hB1 := bl_trans (dr m) hb1
        have h1 := hh.out w1 hB1
        have k6 : w1.cell? ⟨g, 6, none⟩ = some vf := h1.blk.cell 6
        obtain ⟨fa, fc, hvf⟩ := own_slice h1.fil
        obtain ⟨qa, qc, hvq⟩ := own_slice ho
        subst hvf hvq
        have hs1 := hB1.size
        have hfil1 := Lib.hid h1.fil
        have hob : w1.ownsRow base 5 1 (.slice qa l.length qc) l.length (Lib.byteCells l) := own_base ho (by have : (w.drewN m).heap.size = w.heap.size := rfl; omega)
        have hvs : (Value.slice qa l.length qc).ownBlock = none ∨ (Value.slice qa l.length qc).ownBlock ≠ vs.ownBlock := by
          cases hx : (Value.slice qa l.length qc).ownBlock with
          | none => exact .inl rfl
          | some k =>
            refine .inr (fun e => ?_)
            have h2 := (ho.lt k hx).1
            have h3 := hsl.out k e.symm
            have : (w.drewN m).heap.size = w.heap.size := rfl
            omega
        have hmain := Lib.hid (fun w2 v2 hg ho2 => h1.file (w1 := w2) (v1 := v2) nm l (o := .cells #[strV nm, .slice qa l.length qc] 52) hg ho2 hob hvs)
        clear h1 ho hob hvs
        go_wp2_with (at_builtin; refine wpList_append_own_at _ rfl (.tmp 33) (.tmp 37) 27 rfl base 52 i0 (.agg #[.string ⟨#[]⟩, .slice none 0 0]) 2 40 Tryd.underlying27 hi hz0 hz1 hz2 rfl (by decide) _ _ _ rfl (hfil1.out.alloc _) ⟨w1.heap.size, 0, none⟩ 1 1 [strV nm, .slice qa l.length qc] rfl rfl (cells_new _ _ rfl _ [strV nm, .slice qa l.length qc]) (by intro u hu; simp only [List.mem_cons, List.not_mem_nil, or_false] at hu; rcases hu with rfl | rfl <;> rfl) (by unfold maxLen; omega) (by omega) (by simp; omega) ?_; intro v2 w2 hown2 hgrow2 hnil2 hat2; obtain ⟨m1, m2, m3⟩ := hmain.out w2 v2 hgrow2 hown2; have j10 : w2.cell? ⟨g, 6, none⟩ = _ := m3.cell 6; have j11 := m3.free 6; obtain ⟨a1, c1, rfl⟩ := own_slice hown2)
        all_goals go_ret
        all_goals exact ⟨rfl, ⟨_, _, _, _, _, m1⟩, (Only.of_below hB1).trans m2⟩
      · rw [if_neg he]
        generalize (BM.quoteAll tx).2 = x at *
        have q1 : (x == 0) = false := by simpa using he
        replace hq := Lib.hid hq
        replace he := Lib.hid he
        replace hC := Lib.hid hC
        go_enter Tryd.func45, Tryd.ntmps45
        go_wp2_with (first
          | (go_at_call 21; refine hct.out.mono ?_; rintro e w0 ⟨rfl, m, rfl⟩)
          | (go_at_call 58; refine (hq.out _).mono ?_; rintro e w1 ⟨v, l, rfl, _, ho, hb1⟩))
        all_goals go_ret
        all_goals exact ⟨rfl, hC.out.bw (bl_trans (dr m) hb1), Only.of_below (bl_trans (dr m) hb1)⟩
end Go.Proofs.YtaginadnaajleaaDoor
