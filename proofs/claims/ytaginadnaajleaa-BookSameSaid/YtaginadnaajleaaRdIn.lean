/-
  The readers of input, of the numbers, of sed and of file; of chapter 32.
  Conditions: as each theorem states them.
-/
import Derived.Test.YtaginadnaajleaaCase
namespace Go.Proofs.Ytaginadnaajleaa
open Go.RowKit
set_option linter.unusedVariables false
set_option linter.unusedSimpArgs false
open BM (Cs)
/-- an input more -/
theorem CaseV.input {w w1 : World} {g base : Nat} {c : Cs} {vs vi vf vl v1 : Value} {fv : List (List UInt8 × Value)} (h : CaseV w g base c vs vi vf vl fv) (r : List UInt8) {o : Obj} (hg : (w.alloc o).grownBy w1 vi.ownBlock)
    (ho : w1.ownsRow base 9 1 v1 (c.inputs.length + 1) (c.inputs.map strV ++ [strV r])) (hb : v1.ownBlock = vi.ownBlock ∨ v1.ownBlock = some (w.alloc o).heap.size) (hbase : base ≤ w.heap.size) :
    CaseV (w1.setCell ⟨g, 5, none⟩ v1) g base { c with inputs := c.inputs ++ [r] } vs v1 vf vl fv ∧ Chg g base w (w1.setCell ⟨g, 5, none⟩ v1) ∧ Blk w1 g 29 (csCells c vs vi vf vl) := by
  have hq : Blk w1 g 29 (csCells c vs vi vf vl) := (h.blk.alloc o).of_eq (hg.block g (by have := h.blk.lt; simp; omega) (fun e => by have := (h.inp.lt _ e.symm).1; have := h.lt; omega))
  have kp : ∀ {e s n : Nat} {v : Value} {xs : List Value}, w.ownsRow base e s v n xs → (v.ownBlock = none ∨ v.ownBlock ≠ vi.ownBlock) → (w1.setCell ⟨g, 5, none⟩ v1).ownsRow base e s v n xs := fun hv hne => ownsRow_setCell_below (a := ⟨g, 5, none⟩) (keep_row hv hg hne) h.lt _
  have hun : v1.ownBlock = none ∨ vi.ownBlock = v1.ownBlock ∨ ∃ g', v1.ownBlock = some g' ∧ w.heap.size ≤ g' := by
    rcases hb with hb | hb
    · exact .inr (.inl hb.symm)
    · exact .inr (.inr ⟨_, hb, by simp⟩)
  have hap : vl.ownBlock = none ∨ vl.ownBlock ≠ vi.ownBlock := by
    rcases h.apart with h1 | h1
    · cases hl : vl.ownBlock with
      | none => exact .inl rfl
      | some x => exact .inr (by rw [h1]; simp)
    · exact .inr (fun e => h1 e.symm)
  have hap2 : v1.ownBlock = none ∨ v1.ownBlock ≠ vl.ownBlock := by
    rcases own_new h.inp hun vl h.lin hap with h1 | h1
    · cases hl : v1.ownBlock with
      | none => exact .inl rfl
      | some x => exact .inr (by rw [h1]; simp)
    · exact .inr (fun e => h1 e.symm)
  refine ⟨⟨hq.set 5 v1, h.lt, kp h.sed (own_type h.sed h.inp (fun e => str_ne8 e.symm)), ?_, kp h.lin hap, kp h.fil (own_type h.fil h.inp file_neS), h.fvn, fun i h1 h2 => kp (h.fvb i h1 h2) (own_type (h.fvb i h1 h2) h.inp (fun e => str_ne8 e.symm)), h.fvs, hap2⟩, ?_, hq⟩
  · show (w1.setCell ⟨g, 5, none⟩ v1).ownsRow base 9 1 v1 (c.inputs ++ [r]).length ((c.inputs ++ [r]).map strV)
    rw [List.length_append, List.map_append]
    exact ownsRow_setCell_below (a := ⟨g, 5, none⟩) ho h.lt _
  · exact (only_grown ((Only.refl _ w).alloc o) hg (fun k hk => .inr (h.inp.lt k hk).1)).setCell (p := ⟨g, 5, none⟩) (.inl rfl) _
theorem has_blank (r : List UInt8) : decide (0 ≤ Lib.indexByte r 32) = decide (32 ∈ r) := by
  have : ∀ r : List UInt8, (0 ≤ Lib.indexByte r 32 ↔ 32 ∈ r) := by
    intro r
    induction r with
    | nil => simp [Lib.indexByte]
    | cons c r ih =>
      unfold Lib.indexByte
      have hg := Lib.indexByte_ge r 32
      by_cases hc : c = 32
      · subst hc; simp
      · have h2 : (c == 32) = false := by simpa using hc
        rw [h2]
        simp only [Bool.false_eq_true, if_false, List.mem_cons]
        by_cases h1 : Lib.indexByte r 32 = -1
        · rw [h1]
          have : ¬ 32 ∈ r := fun hm => by have := ih.2 hm; omega
          simp [this, show ¬ (32 : UInt8) = c from fun e => hc e.symm]
        · have h3 : (Lib.indexByte r 32 == -1) = false := by simpa using h1
          rw [h3]
          simp only [Bool.false_eq_true, if_false]
          have : 0 ≤ Lib.indexByte r 32 := by omega
          constructor
          · intro _; exact .inr (ih.1 this)
          · intro _; omega
  rw [decide_eq_decide]; exact this r
theorem contains_any (r : List UInt8) (w : World) : Calls Try.prog 38 #[strV r, .string ⟨#[32]⟩] w fun e w' => e = .returned (.bool (decide (32 ∈ r))) ∧ w' = w := by
  have h := Try.strings_Contains_one ⟨r.toArray⟩ 32 w
  have hd : (⟨r.toArray⟩ : ByteArray).data.toList = r := by simp
  rw [hd, has_blank] at h
  exact h
set_option maxHeartbeats 2000000 in
set_option maxRecDepth 100000 in
theorem input_any (r : List UInt8) (w : World) (g base : Nat) (c : Cs) (hC : CaseAt w g base c) (hS : Small c) (hbase : base ≤ w.heap.size) : Calls Try.prog 27 #[.pointer (some ⟨g, 0, none⟩), strV r] w (ReadIs (BM.inputR r c) g base w) := by
  obtain ⟨i0, hi, hz0, hz1, hz2⟩ := info_parts infoStr
  have hco := Lib.hid (contains_any r w)
  by_cases hr : r = []
  · have hR : BM.inputR r c = (9, c) := by unfold BM.inputR; rw [if_pos (.inl hr)]
    rw [hR]
    have q0 : r.isEmpty = true := by simpa using hr
    go_enter Try.func27, Try.ntmps27
    go_wp2_with fail
    all_goals go_ret
    all_goals exact ⟨rfl, hC, Only.refl _ _⟩
  have q0 : r.isEmpty = false := by simpa using hr
  by_cases hb : 32 ∈ r
  · have hR : BM.inputR r c = (9, c) := by unfold BM.inputR; rw [if_pos (.inr hb)]
    rw [hR]
    replace hco := hco.out
    rw [decide_eq_true hb] at hco
    replace hco := Lib.hid hco
    go_enter Try.func27, Try.ntmps27
    go_wp2_with (go_at_call 38; refine hco.out.mono ?_; rintro e w2 ⟨rfl, rfl⟩)
    all_goals go_ret
    all_goals exact ⟨rfl, hC, Only.refl _ _⟩
  have hR : BM.inputR r c = (0, { c with inputs := c.inputs ++ [r] }) := by unfold BM.inputR; rw [if_neg (fun h => h.elim hr hb)]
  rw [hR]
  replace hco := hco.out
  rw [decide_eq_false hb] at hco
  replace hco := Lib.hid hco
  obtain ⟨vs, vi, vf, vl, fv, h⟩ := hC
  have k5 : w.cell? ⟨g, 5, none⟩ = some vi := h.blk.cell 5
  obtain ⟨la, lc, hvi⟩ := own_slice h.inp
  have hlen := hS.inputs
  have hgw : g < w.heap.size := h.blk.lt
  have hmain := fun w1 v1 hg ho hb => h.input (w1 := w1) (v1 := v1) r (o := .cells #[strV r] 9) hg ho hb hbase
  have hinp := h.inp
  subst hvi
  replace hmain := Lib.hid hmain
  replace hinp := Lib.hid hinp
  clear h hS hR hr hb
  go_enter Try.func27, Try.ntmps27
  go_wp2_with (first
    | (go_at_call 38; refine hco.out.mono ?_; rintro e w2 ⟨rfl, rfl⟩)
    | (at_builtin; refine wpList_append_own_at _ rfl (.tmp 16) (.tmp 18) 24 rfl base 9 i0 (.string ⟨#[]⟩) 1 16 Try.underlying24 hi hz0 hz1 hz2 rfl (by decide) _ _ _ rfl (hinp.out.alloc _) ⟨_, 0, none⟩ 1 1 [strV r] rfl rfl (cells_new _ _ rfl _ [strV r]) (by intro u hu; simp only [List.mem_cons, List.not_mem_nil, or_false] at hu; subst hu; rfl) (by unfold maxLen; omega) (by omega) (by simp; omega) ?_; intro v1 w1 hown1 hgrow1 hnil1 hat1; obtain ⟨m1, m2, m3⟩ := hmain.out w1 v1 hgrow1 hown1 hat1; have j10 : w1.cell? ⟨g, 5, none⟩ = _ := m3.cell 5; have j11 := m3.free 5; obtain ⟨a1, c1, rfl⟩ := own_slice hown1))
  go_ret
  exact ⟨rfl, ⟨_, _, _, _, _, m1⟩, m2⟩
end Go.Proofs.Ytaginadnaajleaa
