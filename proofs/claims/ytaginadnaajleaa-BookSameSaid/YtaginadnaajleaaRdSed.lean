/-
  The readers of sed and of file; of chapter 32.
  Conditions: as each theorem states them.
-/
import Derived.Test.YtaginadnaajleaaRdNum
namespace Go.Proofs.Ytaginadnaajleaa
open Go.RowKit
set_option linter.unusedVariables false
set_option linter.unusedSimpArgs false
open BM (Cs)
/-- a piece more of the script -/
theorem CaseV.piece {w w1 : World} {g base : Nat} {c : Cs} {vs vi vf vl v1 : Value} {fv : List (List UInt8 × Value)} (h : CaseV w g base c vs vi vf vl fv) (l : List UInt8) (hg : w.grownBy w1 vs.ownBlock)
    (ho : w1.ownsRow base 5 1 v1 (c.sed.length + l.length) (Lib.byteCells c.sed ++ Lib.byteCells l)) (hb : v1.ownBlock = vs.ownBlock ∨ v1.ownBlock = some w.heap.size) :
    CaseV (w1.setCell ⟨g, 0, none⟩ v1) g base { c with sed := c.sed ++ l } v1 vi vf vl fv ∧ Chg g base w (w1.setCell ⟨g, 0, none⟩ v1) ∧ Blk w1 g 29 (csCells c vs vi vf vl) := by
  have hq : Blk w1 g 29 (csCells c vs vi vf vl) := h.blk.of_eq (hg.block g h.blk.lt (fun e => by have := (h.sed.lt _ e.symm).1; have := h.lt; omega))
  have kp : ∀ {e s n : Nat} {v : Value} {xs : List Value}, w.ownsRow base e s v n xs → (v.ownBlock = none ∨ v.ownBlock ≠ vs.ownBlock) → (w1.setCell ⟨g, 0, none⟩ v1).ownsRow base e s v n xs := fun hv hne => ownsRow_setCell_below (a := ⟨g, 0, none⟩) (hv.kept hg hne) h.lt _
  have hun : v1.ownBlock = none ∨ vs.ownBlock = v1.ownBlock ∨ ∃ g', v1.ownBlock = some g' ∧ w.heap.size ≤ g' := by
    rcases hb with hb | hb
    · exact .inr (.inl hb.symm)
    · exact .inr (.inr ⟨_, hb, Nat.le_refl _⟩)
  have hfl : fv.length = c.files.length := by have := congrArg List.length h.fvn; simpa using this
  refine ⟨⟨hq.set 0 v1, h.lt, ?_, kp h.inp (own_type h.inp h.sed str_ne8), kp h.lin (own_type h.lin h.sed str_ne8), kp h.fil (own_type h.fil h.sed file_ne8), h.fvn, fun i h1 h2 => kp (h.fvb i h1 h2) (h.fvs _ (List.getElem_mem h2)), fun p hp => ?_, h.apart⟩, ?_, hq⟩
  · show (w1.setCell ⟨g, 0, none⟩ v1).ownsRow base 5 1 v1 (c.sed ++ l).length (Lib.byteCells (c.sed ++ l))
    rw [List.length_append, byteCells_app]
    exact ownsRow_setCell_below (a := ⟨g, 0, none⟩) ho h.lt _
  · obtain ⟨i, hi, rfl⟩ := List.mem_iff_getElem.1 hp
    exact own_new h.sed hun _ (h.fvb i (by omega) hi) (h.fvs _ hp)
  · exact (only_grown (Only.refl _ w) hg (fun k hk => .inr (h.sed.lt k hk).1)).setCell (p := ⟨g, 0, none⟩) (.inl rfl) _
theorem byteCells_cells {w : World} {base e : Nat} {v : Value} {l : List UInt8} (h : w.ownsRow base e 1 v l.length (Lib.byteCells l)) : (v = .slice none 0 0 ∧ l = []) ∨ ∃ gq cap, v = .slice (some ⟨gq, 0, none⟩) l.length cap ∧ ∀ j u, (Lib.byteCells l)[j]? = some u → w.cell? ((⟨gq, 0, none⟩ : Addr).add j) = some u := by
  have h' := h
  obtain ⟨h1, h2⟩ := h
  rcases h2 with ⟨rfl, h0⟩ | ⟨gq, cap, cur, rfl, hb, hh, _, _, _, hx⟩
  · exact .inl ⟨rfl, List.eq_nil_of_length_eq_zero h0⟩
  · refine .inr ⟨gq, cap, rfl, fun j u hj => ?_⟩
    have e1 : (⟨gq, 0, none⟩ : Addr).add j = ⟨gq, j, none⟩ := by unfold Addr.add; by_cases h0 : j = 0 <;> simp [h0]
    rw [e1]
    have hB : Blk w gq e cur.toList := by simpa [Blk] using hh
    rw [hB.cell]
    rw [← hx] at hj
    rw [List.getElem?_take] at hj
    split at hj
    · simpa using hj
    · cases hj
set_option maxHeartbeats 4000000 in
set_option maxRecDepth 100000 in
theorem sed_any (r : List UInt8) (hr : r.length ≤ 100000) (w : World) (g base : Nat) (c : Cs) (hC : CaseAt w g base c) (hS : Small c) (hbase : base ≤ w.heap.size) (hql : (BM.quoteAll r).1.length ≤ 1000000) :
    Calls Try.prog 25 #[.pointer (some ⟨g, 0, none⟩), strV r] w (ReadIs (BM.sedR r c) g base w) := by
  obtain ⟨i0, hi, hz0, hz1, hz2⟩ := info_parts infoByteB
  have hq := bquote_any r hr w
  unfold QuIs at hq
  by_cases he : (BM.quoteAll r).2 = 0
  · have hR : BM.sedR r c = (0, { c with sed := c.sed ++ (BM.quoteAll r).1 }) := by unfold BM.sedR; rw [if_pos he]
    rw [hR]
    obtain ⟨vs, vi, vf, vl, fv, h⟩ := hC
    rw [he] at hq
    generalize (BM.quoteAll r).1 = L at *
    have hlen := hS.sed
    have hgw : g < w.heap.size := h.blk.lt
    have hh := Lib.hid (fun (w1 : World) (hb : Below w.heap.size w w1) => h.bw hb)
    have hsed := h.sed
    replace hq := Lib.hid hq
    replace he := Lib.hid he
    clear h hS hR
    go_enter Try.func25, Try.ntmps25
    go_upto_region 3 with (go_at_call 37; refine hq.out.mono ?_; rintro e w1 ⟨v, l, rfl, hl, ho, hb1⟩)
    obtain rfl := hl (by first | rfl | trivial)
    have h1 := hh.out w1 hb1
    have k0 : w1.cell? ⟨g, 0, none⟩ = some vs := h1.blk.cell 0
    obtain ⟨sa, sc, hvs⟩ := own_slice h1.sed
    subst hvs
    have hs1 := hb1.size
    have hsed1 := Lib.hid h1.sed
    rcases byteCells_cells ho with ⟨rfl, rfl⟩ | ⟨gq, cap, rfl, hcs⟩
    · have k8 := h1.blk.free 0
      have hm := h1.field 0 (.slice sa c.sed.length sc) (c' := c) (by simp [csCells]) rfl rfl rfl rfl
      obtain ⟨m1, m2⟩ := hm
      replace m1 := Lib.hid m1
      replace m2 := Lib.hid m2
      clear h1
      go_wp2_with (at_builtin; refine wpList_append_own_none rfl (.tmp 18) (.tmp 19) 23 rfl base 5 i0 1 Try.underlying23 hi _ _ _ rfl hsed1.out rfl ?_)
      all_goals go_ret
      all_goals exact ⟨rfl, ⟨_, _, _, _, _, m1.out⟩, (Only.of_below hb1).trans m2.out⟩
    · have hmain := Lib.hid (fun w2 v2 hg ho hb => h1.piece (w1 := w2) (v1 := v2) l hg ho hb)
      replace hcs := Lib.hid hcs
      clear h1
      obtain ⟨n, hn⟩ : ∃ n, l.length = n := ⟨_, rfl⟩
      have hbl : (Lib.byteCells l).length = n * 1 := by rw [Nat.mul_one, ← hn]; simp [Lib.byteCells]
      rw [hn] at hql hmain ⊢
      replace hbl := Lib.hid hbl
      clear hn ho
      go_wp2_with (at_builtin; refine wpList_append_own_at _ rfl (.tmp 18) (.tmp 19) 23 rfl base 5 i0 (.int .u8 0) 1 1 Try.underlying23 hi hz0 hz1 hz2 rfl (by decide) _ _ _ rfl hsed1.out ⟨gq, 0, none⟩ n cap (Lib.byteCells l) rfl hbl.out hcs.out (by intro u hu; obtain ⟨j, hj⟩ := List.mem_iff_getElem?.1 hu; obtain ⟨_, rfl⟩ := byteCells_get hj; rfl) (by unfold maxLen; omega) (by omega) (by omega) ?_; intro v2 w2 hown2 hgrow2 hnil2 hat2; obtain ⟨m1, m2, m3⟩ := hmain.out w2 v2 hgrow2 hown2 hat2; have j10 : w2.cell? ⟨g, 0, none⟩ = _ := m3.cell 0; have j11 := m3.free 0; obtain ⟨a1, c1, rfl⟩ := own_slice hown2)
      all_goals go_ret
      all_goals exact ⟨rfl, ⟨_, _, _, _, _, m1⟩, (Only.of_below hb1).trans m2⟩
  · have hR : BM.sedR r c = ((BM.quoteAll r).2, c) := by unfold BM.sedR; rw [if_neg he]
    rw [hR]
    generalize (BM.quoteAll r).2 = x at *
    have q0 : (x == 0) = false := by simpa using he
    replace hq := Lib.hid hq
    replace he := Lib.hid he
    replace hC := Lib.hid hC
    clear hR
    go_enter Try.func25, Try.ntmps25
    go_wp2_with (go_at_call 37; refine hq.out.mono ?_; rintro e w1 ⟨v, l, rfl, _, ho, hb1⟩)
    all_goals go_ret
    all_goals exact ⟨rfl, hC.out.bw hb1, Only.of_below hb1⟩
end Go.Proofs.Ytaginadnaajleaa
