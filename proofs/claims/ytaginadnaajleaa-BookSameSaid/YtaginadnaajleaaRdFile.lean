/-
  The reader of file; of chapter 32.
  Conditions: as each theorem states them.
-/
import Derived.Test.YtaginadnaajleaaRdSed
namespace Go.Proofs.Ytaginadnaajleaa
open Go.RowKit
set_option linter.unusedVariables false
set_option linter.unusedSimpArgs false
open BM (Cs)
theorem infoFile : (Try.prog.info? 53).map (fun i => (i.zero, i.size, i.bytes)) = some (some (.agg #[.string ⟨#[]⟩, .slice none 0 0]), 2, 40) := by kernel_rfl
/-- a file more -/
theorem CaseV.file {w w1 : World} {g base : Nat} {c : Cs} {vs vi vf vl v1 v : Value} {fv : List (List UInt8 × Value)} (h : CaseV w g base c vs vi vf vl fv) (nm l : List UInt8) {o : Obj} (hg : (w.alloc o).grownBy w1 vf.ownBlock)
    (ho : w1.ownsRow base 53 2 v1 (c.files.length + 1) ((fv.flatMap fun p => [strV p.1, p.2]) ++ [strV nm, v])) (hv : w.ownsRow base 5 1 v l.length (Lib.byteCells l)) (hvs : v.ownBlock = none ∨ v.ownBlock ≠ vs.ownBlock) :
    CaseV (w1.setCell ⟨g, 6, none⟩ v1) g base { c with files := c.files ++ [(nm, l)] } vs vi v1 vl (fv ++ [(nm, v)]) ∧ Chg g base w (w1.setCell ⟨g, 6, none⟩ v1) ∧ Blk w1 g 29 (csCells c vs vi vf vl) := by
  have hq : Blk w1 g 29 (csCells c vs vi vf vl) := (h.blk.alloc o).of_eq (hg.block g (by have := h.blk.lt; simp; omega) (fun e => by have := (h.fil.lt _ e.symm).1; have := h.lt; omega))
  have kp : ∀ {e s n : Nat} {u : Value} {xs : List Value}, w.ownsRow base e s u n xs → (u.ownBlock = none ∨ u.ownBlock ≠ vf.ownBlock) → (w1.setCell ⟨g, 6, none⟩ v1).ownsRow base e s u n xs := fun hu hne => ownsRow_setCell_below (a := ⟨g, 6, none⟩) (keep_row hu hg hne) h.lt _
  have hfl : fv.length = c.files.length := by have := congrArg List.length h.fvn; simpa using this
  refine ⟨⟨hq.set 6 v1, h.lt, kp h.sed (own_type h.sed h.fil (fun e => file_ne8 e.symm)), kp h.inp (own_type h.inp h.fil (fun e => file_neS e.symm)), kp h.lin (own_type h.lin h.fil (fun e => file_neS e.symm)), ?_, ?_, fun i h1 h2 => ?_, fun p hp => ?_, h.apart⟩, ?_, hq⟩
  · show (w1.setCell ⟨g, 6, none⟩ v1).ownsRow base 53 2 v1 (c.files ++ [(nm, l)]).length _
    rw [List.length_append, List.flatMap_append]
    exact ownsRow_setCell_below (a := ⟨g, 6, none⟩) (by simpa using ho) h.lt _
  · show (fv ++ [(nm, v)]).map (·.1) = (c.files ++ [(nm, l)]).map (·.1)
    rw [List.map_append, List.map_append, h.fvn]; rfl
  · show (w1.setCell ⟨g, 6, none⟩ v1).ownsRow base 5 1 (fv ++ [(nm, v)])[i].2 ((c.files ++ [(nm, l)])[i]'h1).2.length (Lib.byteCells ((c.files ++ [(nm, l)])[i]'h1).2)
    by_cases hlt : i < c.files.length
    · rw [List.getElem_append_left (by omega), List.getElem_append_left hlt]
      exact kp (h.fvb i hlt (by omega)) (own_type (h.fvb i hlt (by omega)) h.fil (fun e => file_ne8 e.symm))
    · have hi0 : i = c.files.length := by have : i < (c.files ++ [(nm, l)]).length := h1; simp at this; omega
      subst hi0
      rw [List.getElem_append_right (by omega), List.getElem_append_right (by omega)]
      simp only [hfl, Nat.sub_self, List.getElem_cons_zero]
      exact kp hv (own_type hv h.fil (fun e => file_ne8 e.symm))
  · rcases List.mem_append.1 hp with hp | hp
    · exact h.fvs p hp
    · simp only [List.mem_cons, List.not_mem_nil, or_false] at hp
      subst hp; exact hvs
  · exact (only_grown ((Only.refl _ w).alloc o) hg (fun k hk => .inr (h.fil.lt k hk).1)).setCell (p := ⟨g, 6, none⟩) (.inl rfl) _
set_option maxHeartbeats 4000000 in
set_option maxRecDepth 100000 in
theorem file_any (r : List UInt8) (hr : r.length ≤ 100000) (w : World) (g base : Nat) (c : Cs) (hC : CaseAt w g base c) (hS : Small c) (hbase : base ≤ w.heap.size) :
    Calls Try.prog 28 #[.pointer (some ⟨g, 0, none⟩), strV r] w (ReadIs (BM.fileR r c) g base w) := by
  obtain ⟨i0, hi, hz0, hz1, hz2⟩ := info_parts infoFile
  have hct := cut_any r hr w
  have hcl : (BM.cut r).2.1.length ≤ 100000 := by unfold BM.cut; rw [List.length_drop]; omega
  have hR : BM.fileR r c = if (BM.cut r).2.2 = false ∨ (BM.cut r).1 = [] then (9, c) else if (BM.quoteAll (BM.cut r).2.1).2 = 0 then (0, { c with files := c.files ++ [((BM.cut r).1, (BM.quoteAll (BM.cut r).2.1).1)] }) else ((BM.quoteAll (BM.cut r).2.1).2, c) := rfl
  rw [hR]
  clear hR
  obtain ⟨nm, tx, ok, hcr⟩ : ∃ nm tx ok, BM.cut r = (nm, tx, ok) := ⟨_, _, _, rfl⟩
  rw [hcr] at hct hcl ⊢
  simp only at hct hcl ⊢
  clear hcr
  have dr : ∀ m, Below w.heap.size w (w.drewN m) := fun m => bl_drewN (Below.refl _ _) m
  replace hct := Lib.hid hct
  cases ok with
  | false =>
    rw [if_pos (.inl rfl)]
    replace hC := Lib.hid hC
    go_enter Try.func28, Try.ntmps28
    go_wp2_with (go_at_call 16; refine hct.out.mono ?_; rintro e w1 ⟨rfl, m, rfl⟩)
    all_goals go_ret
    all_goals exact ⟨rfl, hC.out.bw (dr m), Only.of_below (dr m)⟩
  | true =>
    by_cases hn : nm = []
    · rw [if_pos (.inr hn)]
      have q0 : nm.isEmpty = true := by simpa using hn
      replace hC := Lib.hid hC
      go_enter Try.func28, Try.ntmps28
      go_wp2_with (go_at_call 16; refine hct.out.mono ?_; rintro e w1 ⟨rfl, m, rfl⟩)
      all_goals go_ret
      all_goals exact ⟨rfl, hC.out.bw (dr m), Only.of_below (dr m)⟩
    · have q0 : nm.isEmpty = false := by simpa using hn
      rw [if_neg (fun h => h.elim (fun e => by cases e) hn)]
      have hq := fun W => bquote_any tx hcl W
      unfold QuIs at hq
      by_cases he : (BM.quoteAll tx).2 = 0
      · rw [if_pos he]
        rw [he] at hq
        generalize (BM.quoteAll tx).1 = L at *
        obtain ⟨vs, vi, vf, vl, fv, h⟩ := hC
        have hlen := hS.files
        have hh := Lib.hid (fun (w1 : World) (hb : Below w.heap.size w w1) => h.bw hb)
        have hgw : g < w.heap.size := h.blk.lt
        have hsl := Lib.hid (fun k hk => (h.sed.lt k hk).2)
        replace hq := Lib.hid hq
        replace he := Lib.hid he
        clear h hS
        go_enter Try.func28, Try.ntmps28
        go_upto_region 6 with (first
          | (go_at_call 16; refine hct.out.mono ?_; rintro e w0 ⟨rfl, m, rfl⟩)
          | (go_at_call 37; refine (hq.out _).mono ?_; rintro e w1 ⟨v, l, rfl, hl, ho, hb1⟩))
        obtain rfl := hl (by first | rfl | trivial)
        have hB1 := bl_trans (dr m) hb1
        have h1 := hh.out w1 hB1
        have k6 : w1.cell? ⟨g, 6, none⟩ = some vf := h1.blk.cell 6
        obtain ⟨fa, fc, hvf⟩ := own_slice h1.fil
        obtain ⟨qa, qc, hvq⟩ := own_slice ho
        subst hvf hvq
        have hs1 := hB1.size
        have hfil1 := Lib.hid h1.fil
        have hob : w1.ownsRow base 5 1 (.slice qa l.length qc) l.length (Lib.byteCells l) := own_base ho (by have : (w.drewN m).heap.size = w.heap.size := rfl; omega)
        have hvs : (Value.slice qa l.length qc).ownBlock = none ∨ (Value.slice qa l.length qc).ownBlock ≠ vs.ownBlock := by
          cases hx : (Value.slice qa l.length qc).ownBlock with
          | none => exact .inl rfl
          | some k =>
            refine .inr (fun e => ?_)
            have h2 := (ho.lt k hx).1
            have h3 := hsl.out k e.symm
            have : (w.drewN m).heap.size = w.heap.size := rfl
            omega
        have hmain := Lib.hid (fun w2 v2 hg ho2 => h1.file (w1 := w2) (v1 := v2) nm l (o := .cells #[strV nm, .slice qa l.length qc] 53) hg ho2 hob hvs)
        clear h1 ho hob hvs
        go_wp2_with (at_builtin; refine wpList_append_own_at _ rfl (.tmp 33) (.tmp 37) 27 rfl base 53 i0 (.agg #[.string ⟨#[]⟩, .slice none 0 0]) 2 40 Try.underlying27 hi hz0 hz1 hz2 rfl (by decide) _ _ _ rfl (hfil1.out.alloc _) ⟨w1.heap.size, 0, none⟩ 1 1 [strV nm, .slice qa l.length qc] rfl rfl (cells_new _ _ rfl _ [strV nm, .slice qa l.length qc]) (by intro u hu; simp only [List.mem_cons, List.not_mem_nil, or_false] at hu; rcases hu with rfl | rfl <;> rfl) (by unfold maxLen; omega) (by omega) (by simp; omega) ?_; intro v2 w2 hown2 hgrow2 hnil2 hat2; obtain ⟨m1, m2, m3⟩ := hmain.out w2 v2 hgrow2 hown2; have j10 : w2.cell? ⟨g, 6, none⟩ = _ := m3.cell 6; have j11 := m3.free 6; obtain ⟨a1, c1, rfl⟩ := own_slice hown2)
        all_goals go_ret
        all_goals exact ⟨rfl, ⟨_, _, _, _, _, m1⟩, (Only.of_below hB1).trans m2⟩
      · rw [if_neg he]
        generalize (BM.quoteAll tx).2 = x at *
        have q1 : (x == 0) = false := by simpa using he
        replace hq := Lib.hid hq
        replace he := Lib.hid he
        replace hC := Lib.hid hC
        go_enter Try.func28, Try.ntmps28
        go_wp2_with (first
          | (go_at_call 16; refine hct.out.mono ?_; rintro e w0 ⟨rfl, m, rfl⟩)
          | (go_at_call 37; refine (hq.out _).mono ?_; rintro e w1 ⟨v, l, rfl, _, ho, hb1⟩))
        all_goals go_ret
        all_goals exact ⟨rfl, hC.out.bw (bl_trans (dr m) hb1), Only.of_below (bl_trans (dr m) hb1)⟩
end Go.Proofs.Ytaginadnaajleaa
