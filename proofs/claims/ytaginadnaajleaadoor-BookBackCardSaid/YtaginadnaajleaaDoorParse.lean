/-
  book.Parse at any text; of chapter 32.
  Conditions: as each theorem states them.
-/
import Derived.Test.YtaginadnaajleaaDoorParse0
import Derived.Test.YtaginadnaajleaaDoorOpt
import Derived.Deep.CutBlock
import Derived.Deep.DeepCutAuto
import Derived.Deep.DeepMust
namespace Go.Proofs.YtaginadnaajleaaDoor
open Go.RowKit
set_option linter.unusedVariables false
set_option linter.unusedSimpArgs false
open BM (Cs)
/-- what Parse answers -/
def ParseIs (R : Cs × Int × Int) (w : World) (e : Ending) (w' : World) : Prop := ∃ vs vi vf vl fv g base, e = .returned (.tuple #[.agg (csCells R.1 vs vi vf vl).toArray, .int .i64 R.2.1, .int .i64 R.2.2]) ∧ CaseV w' g base R.1 vs vi vf vl fv ∧ w.heap.size ≤ g ∧ Below w.heap.size w w'
/-- how much there is behind k lines -/
structure Grown (k : Nat) (c : Cs) : Prop where
  sed : c.sed.length ≤ 100000 * k
  inputs : c.inputs.length ≤ k
  files : c.files.length ≤ k
  lines : c.lines.length ≤ k
set_option maxRecDepth 10000 in
theorem Grown.small {k : Nat} {c : Cs} (h : Grown k c) (hk : k ≤ 100000) : Small c := by
  obtain ⟨h1, h2, h3, h4⟩ := h
  refine { sed := ?_, inputs := ?_, files := ?_, lines := ?_ }
  all_goals omega
theorem Grown.more {k : Nat} {c : Cs} (h : Grown k c) : Grown (k + 1) c := ⟨by have := h.sed; omega, by have := h.inputs; omega, by have := h.files; omega, by have := h.lines; omega⟩
theorem lineS_grown {k : Nat} {c : Cs} (h : Grown k c) (L : List UInt8) (hL : L.length ≤ 100000) : Grown (k + 1) (BM.lineS L c).2 := by
  have h1 := h.sed
  have h2 := h.inputs
  have h3 := h.files
  have h4 := h.lines
  have hr : (BM.cut L).2.1.length ≤ 100000 := by unfold BM.cut; rw [List.length_drop]; omega
  unfold BM.lineS
  cases hl : BM.look (BM.cut L).1 with
  | none => exact h.more
  | some f =>
    simp only
    split
    · exact h.more
    · have hf : f ∈ [BM.sedR, BM.optionR, BM.inputR, BM.fileR, BM.capR, BM.periodR, BM.fuelR, BM.doR] := by
        unfold BM.look at hl
        rw [Option.map_eq_some_iff] at hl
        obtain ⟨p, hp, rfl⟩ := hl
        have := List.mem_of_find?_eq_some hp
        simp only [BM.readers, List.mem_cons, List.not_mem_nil, or_false] at this
        rcases this with rfl | rfl | rfl | rfl | rfl | rfl | rfl | rfl <;> simp
      generalize (BM.cut L).2.1 = r at *
      simp only [List.mem_cons, List.not_mem_nil, or_false] at hf
      rcases hf with rfl | rfl | rfl | rfl | rfl | rfl | rfl | rfl
      · unfold BM.sedR
        split
        · have hq := quoteAll_le r
          exact ⟨by show (c.sed ++ (BM.quoteAll r).1).length ≤ _; rw [List.length_append]; omega, by show c.inputs.length ≤ _; omega, by show c.files.length ≤ _; omega, by show c.lines.length ≤ _; omega⟩
        · exact h.more
      · unfold BM.optionR
        repeat' split
        all_goals exact ⟨by show c.sed.length ≤ _; omega, by show c.inputs.length ≤ _; omega, by show c.files.length ≤ _; omega, by show c.lines.length ≤ _; omega⟩
      · unfold BM.inputR
        split
        · exact h.more
        · exact ⟨by show c.sed.length ≤ _; omega, by show (c.inputs ++ [r]).length ≤ _; rw [List.length_append]; simp; omega, by show c.files.length ≤ _; omega, by show c.lines.length ≤ _; omega⟩
      · unfold BM.fileR
        split
        · exact h.more
        · split
          · exact ⟨by show c.sed.length ≤ _; omega, by show c.inputs.length ≤ _; omega, by show (c.files ++ [_]).length ≤ _; rw [List.length_append]; simp; omega, by show c.lines.length ≤ _; omega⟩
          · exact h.more
      · unfold BM.capR
        split <;> exact ⟨by show c.sed.length ≤ _; omega, by show c.inputs.length ≤ _; omega, by show c.files.length ≤ _; omega, by show c.lines.length ≤ _; omega⟩
      · unfold BM.periodR
        split <;> exact ⟨by show c.sed.length ≤ _; omega, by show c.inputs.length ≤ _; omega, by show c.files.length ≤ _; omega, by show c.lines.length ≤ _; omega⟩
      · unfold BM.fuelR
        split <;> exact ⟨by show c.sed.length ≤ _; omega, by show c.inputs.length ≤ _; omega, by show c.files.length ≤ _; omega, by show c.lines.length ≤ _; omega⟩
      · unfold BM.doR
        exact ⟨by show c.sed.length ≤ _; omega, by show c.inputs.length ≤ _; omega, by show c.files.length ≤ _; omega, by show (c.lines ++ [r]).length ≤ _; rw [List.length_append]; simp; omega⟩
/-- a case that has nothing -/
theorem CaseV.new (w : World) (base : Nat) (c : Cs) (h1 : c.sed = []) (h2 : c.inputs = []) (h3 : c.files = []) (h4 : c.lines = []) (hb : w.heap.size < base) : CaseV (w.alloc (.cells (csCells c (.slice none 0 0) (.slice none 0 0) (.slice none 0 0) (.slice none 0 0)).toArray 29)) w.heap.size base c (.slice none 0 0) (.slice none 0 0) (.slice none 0 0) (.slice none 0 0) [] := by
  refine ⟨Blk.new w _ _, hb, ?_, ?_, ?_, ?_, ?_, ?_, ?_, ?_⟩
  · rw [h1]; exact World.ownsRow_nil _ _ _ _
  · rw [h2]; exact World.ownsRow_nil _ _ _ _
  · rw [h4]; exact World.ownsRow_nil _ _ _ _
  · rw [h3]; exact World.ownsRow_nil _ _ _ _
  · rw [h3]; rfl
  · intro i h; rw [h3] at h; simp at h
  · intro p hp; cases hp
  · exact .inl rfl
theorem CaseV.zeroed {W : World} {g base : Nat} (hb : Blk W g 29 (csCells BM.zero (.slice none 0 0) (.slice none 0 0) (.slice none 0 0) (.slice none 0 0))) (hlt : g < base) : CaseV W g base BM.zero (.slice none 0 0) (.slice none 0 0) (.slice none 0 0) (.slice none 0 0) [] :=
  ⟨hb, hlt, World.ownsRow_nil _ _ _ _, World.ownsRow_nil _ _ _ _, World.ownsRow_nil _ _ _ _, World.ownsRow_nil _ _ _ _, rfl, (fun i h => by simp [BM.zero] at h), (fun p hp => by cases hp), .inl rfl⟩
set_option maxHeartbeats 4000000 in
set_option maxRecDepth 100000 in
theorem parse_any (s : List UInt8) (hl : s.length ≤ 100000) (w : World) : Calls Tryd.prog 8 #[strV s] w (ParseIs (BM.parseS s) w) := by
  by_cases h0 : 65536 < s.length
  · have hR : BM.parseS s = (BM.zero, 0, 8) := by unfold BM.parseS; rw [if_pos h0]
    rw [hR]
    have hc := CaseV.new w (w.heap.size + 1) BM.zero rfl rfl rfl rfl (by omega)
    go_enter Tryd.func8, Tryd.ntmps8
    go_wp2_with fail
    refine bodyPost_ret (v := .tuple #[.agg (csCells BM.zero (.slice none 0 0) (.slice none 0 0) (.slice none 0 0) (.slice none 0 0)).toArray, .int .i64 0, .int .i64 8]) (by simp [results, Tryd.results8, go_sem, csCells, BM.zero]) rfl ?_
    exact ⟨_, _, _, _, [], w.heap.size, w.heap.size + 1, rfl, hc, Nat.le_refl _, bl_alloc (Below.refl _ _) _⟩
  · have hR : BM.parseS s = BM.runS 0 BM.init (BM.linesS s) := by unfold BM.parseS; rw [if_neg h0]
    rw [hR]
    obtain ⟨R, hRR⟩ : ∃ R, BM.runS 0 BM.init (BM.linesS s) = R := ⟨_, rfl⟩
    rw [hRR]
    obtain ⟨hl1, hl2⟩ := lines_len s
    obtain ⟨W1, hW1⟩ : ∃ W1, w.alloc (.cells (csCells BM.init (.slice none 0 0) (.slice none 0 0) (.slice none 0 0) (.slice none 0 0)).toArray 29) = W1 := ⟨_, rfl⟩
    have hc1 := fun base hb => hW1 ▸ CaseV.new w base BM.init rfl rfl rfl rfl hb
    have hb1 : Below w.heap.size w W1 := hW1 ▸ bl_alloc (Below.refl _ _) _
    have hg1 : w.heap.size < W1.heap.size := by rw [← hW1]; simp
    have hrd := Lib.hid (readers_any W1)
    replace hRR := Lib.hid hRR
    clear hR
    go_enter Tryd.func8, Tryd.ntmps8
    go_upto_region 4 with fail
    have hW1' : w.alloc (.cells #[.slice none 0 0, .bool false, .bool false, .bool false, .bool false, .slice none 0 0, .slice none 0 0, .int .i64 100, .int .i64 10, .int .i64 10000, .slice none 0 0] 29) = W1 := hW1
    rw [hW1']
    clear hW1 hW1'
    go_upto_region 5 with (go_at_call 19; refine hrd.out.mono ?_; rintro e W2 ⟨mg, p1, p2, p3, rfl, hM, hmg1, hmg2, hb2, x1, x2, x3, y1, y2, y3⟩)
    obtain ⟨c2, W3, hc2, hb3, hr3, hl3, hcap⟩ := conv_room (P := Tryd.prog) W2 9 23 5 s Tryd.underlying9 Tryd.underlying23 Tryd.underlying5
    have hsp := Lib.hid (split_any W2.heap.size 0 c2 s hl hcap W3 hl3 hr3)
    clear hr3
    go_wp2_with (go_at_call 20; refine hsp.out.mono ?_; rintro e W4 ⟨v, rfl, ⟨vs, hv1, hv2, hv3⟩, hb4⟩; obtain ⟨la, lc, rfl⟩ := own_slice hv2)
    have hz2 := hb2.size
    have hz3 := hb3.size
    have hz4 := hb4.size
    have hB24 := bl_trans hb3 hb4
    have hB14 := bl_trans hb2 hB24
    have hBase : Below w.heap.size w W4 := bl_trans hb1 hB14
    have hC0 : CaseAt W4 w.heap.size W4.heap.size BM.init := ⟨_, _, _, _, _, (hc1 W4.heap.size (by omega)).bw hB14⟩
    -- what lies below stays
    have hold : ∀ wr, Chg w.heap.size W4.heap.size W4 wr → ∀ j, j < W4.heap.size → w.heap.size < j → wr.heap[j]? = W4.heap[j]? := fun wr h j hj hg => h.block j hj (fun e => by rcases e with e | e <;> omega)
    have hmap := Lib.hid (fun wr (h : Chg w.heap.size W4.heap.size W4 wr) => map_of_eq (hM.below hB24) (hold wr h mg (by omega) (by omega)))
    have hbox : ∀ p v, w.heap.size < p → W2.cell? ⟨p, 0, none⟩ = some v → ∀ wr, Chg w.heap.size W4.heap.size W4 wr → wr.cell? ⟨p, 0, none⟩ = some v := fun p v hp hv wr h => by
      have hp2 := World.block_lt_of_cell? W2 _ hv
      simp only at hp2
      exact (World.cell?_of_block (a := ⟨p, 0, none⟩) (hold wr h p (by omega) hp)).trans ((hB24.cell (p := ⟨p, 0, none⟩) hp2).trans hv)
    have hx1 := Lib.hid (hbox p1 _ (by omega) x1)
    have hx2 := Lib.hid (hbox p2 _ (by omega) x2)
    have hx3 := Lib.hid (hbox p3 _ (by omega) x3)
    have hrow := Lib.hid (fun wr (h : Chg w.heap.size W4.heap.size W4 wr) => own_of_eq hv2 (fun j hj1 hj2 => hold wr h j hj2 (by omega)))
    have hlin := Lib.hid (fun (i : Nat) (h1 : i < (BM.linesS s).length) (h2 : i < vs.length) wr (h : Chg w.heap.size W4.heap.size W4 wr) => own_of_eq (hv3 i h1 h2) (fun j hj1 hj2 => hold wr h j hj2 (by omega)))
    replace hv1 := Lib.hid hv1
    replace hl2 := Lib.hid hl2
    replace hBase := Lib.hid hBase
    replace hC0 := Lib.hid hC0
    have hs64 : (BM.linesS s).length ≤ 65536 := by omega
    clear hc1 hM hold hbox x1 x2 x3 hv2 hv3 hB24 hB14 hb1 hb2 hb3 hb4 hc2 hl1 hl3 hcap hmg1 hmg2 y1 y2 y3
    generalize hls : BM.linesS s = ls at *
    replace hls := Lib.hid hls
    go_loopg [4, 23] ls.length (fun gh v4 v23 wr => ∃ (k : Nat) (c : Cs), gh = ls.length - k ∧ v4 = .int .i64 0 ∧ v23 = .int .i64 (k : Int) ∧ k ≤ ls.length ∧ Hid (CaseAt wr w.heap.size W4.heap.size c) ∧ Hid (Chg w.heap.size W4.heap.size W4 wr) ∧ Hid (BM.runS k c (ls.drop k) = R) ∧ Hid (Grown k c))
    case atStart => exact ⟨0, BM.init, rfl, rfl, rfl, by omega, hC0, Lib.hid (Only.refl _ _), Lib.hid (by rw [List.drop_zero]; exact hRR.out), Lib.hid ⟨by simp [BM.init], by simp [BM.init], by simp [BM.init], by simp [BM.init]⟩⟩
    case round =>
      clear hC0 hRR
      obtain ⟨k, c, rfl, rfl, rfl, hk, hC, hCh, hrun, hGr⟩ := hrel
      have hsz := hCh.out.size
      by_cases hlt : k < ls.length
      · have hkv : k < vs.length := by rw [hv1.out]; exact hlt
        obtain ⟨gl, rfl, hgl1, hgl2, hcells⟩ := row2_cells (hrow.out wr hCh.out) (by omega)
        obtain ⟨k0, k1⟩ := hcells k hkv
        have hown := hlin.out k hlt hkv wr hCh.out
        obtain ⟨L, hL⟩ : ∃ L, ls[k] = L := ⟨_, rfl⟩
        have hLl := hl2.out ls[k] (List.getElem_mem hlt)
        rw [hL] at hown hLl
        obtain ⟨va, vc, hva⟩ := own_slice hown
        rw [hva] at k0 hown
        obtain ⟨nl, hnl⟩ : ∃ nl, vs[k].2 = nl := ⟨_, rfl⟩
        rw [hnl] at k1
        have hd : ls.drop k = L :: ls.drop (k + 1) := by rw [List.drop_eq_getElem_cons hlt, hL]
        have hrun := hrun.out
        rw [hd, BM.runS] at hrun
        clear hcells hnl hva hd
        by_cases hsk : L = []
        · have hrun2 := hrun
          rw [if_pos (by rw [hsk]; rfl)] at hrun2
          replace hrun2 := Lib.hid hrun2
          replace hrun := Lib.hid hrun
          have hL0 : L.length = 0 := by rw [hsk]; rfl
          rw [hL0] at k0
          replace hown := Lib.hid hown
          clear hL hsk
          go_wp2_with fail
          all_goals go_roundg (ls.length - (k + 1))
          case measure => omega
          case rel => exact ⟨k + 1, c, rfl, rfl, by go_num, by omega, Lib.hid (hC.out.bw (bl_alloc (Below.refl _ _) _)), Lib.hid (hCh.out.alloc _), hrun2, Lib.hid hGr.out.more⟩
        · have hL0 : 0 < L.length := List.length_pos_iff.2 hsk
          obtain ⟨gb, rfl, hbc⟩ : ∃ gb, va = some ⟨gb, 0, none⟩ ∧ wr.cell? ⟨gb, 0, none⟩ = some (.int .u8 (L[0].toNat : Int)) := by
            rcases byteCells_cells hown with ⟨e, rfl⟩ | ⟨gb, cap, e, hcs⟩
            · simp at hL0
            · injection e with e1 e2 e3
              refine ⟨gb, e1, ?_⟩
              have := hcs 0 (.int .u8 (L[0].toNat : Int)) (by simp [Lib.byteCells, hL0])
              simpa [Addr.add] using this
          have hgb := World.block_lt_of_cell? wr _ hbc
          simp only at hgb
          by_cases h35 : L[0] = 35
          · have hrun2 := hrun
            rw [if_pos (by unfold BM.skip; simp only [decide_eq_true_eq]; right; rw [List.head?_eq_getElem?, List.getElem?_eq_getElem hL0, h35])] at hrun2
            rw [h35] at hbc
            replace hrun2 := Lib.hid hrun2
            replace hrun := Lib.hid hrun
            replace hown := Lib.hid hown
            clear hL h35
            go_wp2_with fail
            all_goals go_roundg (ls.length - (k + 1))
            case measure => omega
            case rel => exact ⟨k + 1, c, rfl, rfl, by go_num, by omega, Lib.hid (hC.out.bw (bl_alloc (Below.refl _ _) _)), Lib.hid (hCh.out.alloc _), hrun2, Lib.hid hGr.out.more⟩
          · rw [if_neg (by unfold BM.skip; simp only [decide_eq_true_eq]; rintro (e | e); exact hsk e; rw [List.head?_eq_getElem?, List.getElem?_eq_getElem hL0] at e; exact h35 (Option.some.inj e))] at hrun
            have q35 : ((L[0].toNat : Int) == 35) = false := by
              simp only [beq_eq_false_iff_ne, ne_eq]; intro e; exact h35 (UInt8.toNat_inj.1 (by rw [show (35 : UInt8).toNat = 35 from rfl]; omega))
            obtain ⟨wd, rs, ok, hcut⟩ : ∃ wd rs ok, BM.cut L = (wd, rs, ok) := ⟨_, _, _, rfl⟩
            have hct := cut_any L (by omega) (wr.alloc (.cells #[.slice (some ⟨gb, 0, none⟩) L.length vc, .bool nl] 43))
            rw [hcut] at hct
            simp only at hct
            have hcv := conv_line (hown.alloc (.cells #[.slice (some ⟨gb, 0, none⟩) L.length vc, .bool nl] 43))
            unfold strV at hcv hct
            have hrsl : rs.length ≤ 100000 := by
              have e : rs = (BM.cut L).2.1 := by rw [hcut]
              rw [e]; unfold BM.cut; rw [List.length_drop]; omega
            obtain ⟨fv, fb, hfv⟩ : ∃ fv fb, (match rdF p1 p2 p3 ⟨wd.toArray⟩ with | some v => Value.tuple #[v, .bool true] | none => .tuple #[.nilFunc, .bool false]) = .tuple #[fv, .bool fb] := by cases rdF p1 p2 p3 ⟨wd.toArray⟩ <;> exact ⟨_, _, rfl⟩
            have hlk := fun W (h : Chg w.heap.size W4.heap.size W4 W) => (by
              have := (hmap.out W h).look (P := Tryd.prog) Tryd.underlying55 Tryd.underlying9 (zero_reader W) ⟨wd.toArray⟩
              refine this.trans ?_
              rw [← hfv]
              cases rdF p1 p2 p3 ⟨wd.toArray⟩ <;> rfl : (Instr.lookup 55 (.map (some mg)) (.string ⟨wd.toArray⟩) true).run Tryd.prog W = .ok (.tuple #[fv, .bool fb]) W)
            have hC6 := fun m => (hC.out.bw (bl_alloc (Below.refl _ _) (.cells #[.slice (some ⟨gb, 0, none⟩) L.length vc, .bool nl] 43))).bw (bl_drewN (Below.refl _ _) m)
            have hCh6 := fun m => (hCh.out.alloc (.cells #[.slice (some ⟨gb, 0, none⟩) L.length vc, .bool nl] 43)).drewN m
            replace hct := Lib.hid hct
            replace hlk := Lib.hid hlk
            replace hfv := Lib.hid hfv
            replace hC6 := Lib.hid hC6
            replace hCh6 := Lib.hid hCh6
            replace hrun := Lib.hid hrun
            replace hown := Lib.hid hown
            replace hcut := Lib.hid hcut
            clear hL h35 hrow hlin
            go_upto_block 2 with (first
              | (go_at_call 21; refine hct.out.mono ?_; rintro e w6 ⟨rfl, m, rfl⟩)
              | ((with_reducible show wpList _ _ _ (⟨_, .lookup _ _ _ _, _, _, _, _⟩ :: _) _ _); go_must (refine wpList_look rfl (.tmp 48) (.tmp 49) 55 rfl mg rfl _ rfl _ (hlk.out _ (hCh6.out m)) ?_)))
            go_cut [4] (fun v4 wx => ∃ e : Int, v4 = .int .i64 e ∧ Hid (e = (BM.lineS L c).1) ∧ Hid (CaseAt wx w.heap.size W4.heap.size (BM.lineS L c).2) ∧ Hid (Chg w.heap.size W4.heap.size W4 wx))
            case first =>
              have hl : BM.lineS L c = match BM.look wd with | none => (30, c) | some f => if ok = false then (9, c) else f rs c := by unfold BM.lineS; rw [hcut.out]; cases BM.look wd <;> rfl
              have hsm := hGr.out.small (by omega)
              have hbs : W4.heap.size ≤ ((wr.alloc (.cells #[.slice (some ⟨gb, 0, none⟩) L.length vc, .bool nl] 43)).drewN m).heap.size := by simp; omega
              have hfv := hfv.out
              rcases rd_cases p1 p2 p3 wd with ⟨r1, r2⟩ | ⟨r1, r2⟩ | ⟨r1, r2⟩ | ⟨r1, r2⟩ | ⟨r1, r2⟩ | ⟨r1, r2⟩ | ⟨r1, r2⟩ | ⟨r1, r2⟩ | ⟨r1, r2⟩
              · rw [r1] at hfv
                rw [r2] at hl
                simp only at hfv hl
                have e1 : fv = .nilFunc ∧ fb = false := by simpa [eq_comm] using hfv
                obtain ⟨rfl, rfl⟩ := e1
                replace hl := Lib.hid hl
                clear r1 r2 hfv hsm hrun
                go_wp2_with fail
                go_meet
                exact ⟨30, rfl, Lib.hid (by rw [hl.out]), Lib.hid (by rw [hl.out]; exact hC6.out m), Lib.hid (hCh6.out m)⟩
              · rw [r1] at hfv
                rw [r2] at hl
                simp only at hfv hl
                have e1 : fv = fnV 42 ∧ fb = true := by simpa [eq_comm] using hfv
                obtain ⟨rfl, rfl⟩ := e1
                clear r1 r2 hfv hrun
                cases ok with
                | false =>
                  rw [if_pos rfl] at hl
                  replace hl := Lib.hid hl
                  go_wp2_with fail
                  go_meet
                  exact ⟨9, rfl, Lib.hid (by rw [hl.out]), Lib.hid (by rw [hl.out]; exact hC6.out m), Lib.hid (hCh6.out m)⟩
                | true =>
                  rw [if_neg (by simp)] at hl
                  have hcall := sed_any rs hrsl ((wr.alloc (.cells #[.slice (some ⟨gb, 0, none⟩) L.length vc, .bool nl] 43)).drewN m) w.heap.size W4.heap.size c (hC6.out m) hsm hbs (Nat.le_trans (quoteAll_le rs) (by omega))
                  unfold ReadIs strV at hcall
                  rw [← hl] at hcall
                  replace hl := Lib.hid hl
                  replace hcall := Lib.hid hcall
                  unfold fnV
                  go_wp2_with (go_at_call 42; refine hcall.out.mono ?_; rintro e w7 ⟨rfl, hC7, hCh7⟩)
                  go_meet
                  exact ⟨_, rfl, Lib.hid rfl, Lib.hid hC7, Lib.hid ((hCh6.out m).trans hCh7)⟩
              · rw [r1] at hfv
                rw [r2] at hl
                simp only at hfv hl
                have e1 : fv = fnV 43 ∧ fb = true := by simpa [eq_comm] using hfv
                obtain ⟨rfl, rfl⟩ := e1
                clear r1 r2 hfv hrun
                cases ok with
                | false =>
                  rw [if_pos rfl] at hl
                  replace hl := Lib.hid hl
                  go_wp2_with fail
                  go_meet
                  exact ⟨9, rfl, Lib.hid (by rw [hl.out]), Lib.hid (by rw [hl.out]; exact hC6.out m), Lib.hid (hCh6.out m)⟩
                | true =>
                  rw [if_neg (by simp)] at hl
                  have hcall := option_any rs ((wr.alloc (.cells #[.slice (some ⟨gb, 0, none⟩) L.length vc, .bool nl] 43)).drewN m) w.heap.size W4.heap.size c (hC6.out m) hbs
                  unfold ReadIs strV at hcall
                  rw [← hl] at hcall
                  replace hl := Lib.hid hl
                  replace hcall := Lib.hid hcall
                  unfold fnV
                  go_wp2_with (go_at_call 43; refine hcall.out.mono ?_; rintro e w7 ⟨rfl, hC7, hCh7⟩)
                  go_meet
                  exact ⟨_, rfl, Lib.hid rfl, Lib.hid hC7, Lib.hid ((hCh6.out m).trans hCh7)⟩
              · rw [r1] at hfv
                rw [r2] at hl
                simp only at hfv hl
                have e1 : fv = fnV 44 ∧ fb = true := by simpa [eq_comm] using hfv
                obtain ⟨rfl, rfl⟩ := e1
                clear r1 r2 hfv hrun
                cases ok with
                | false =>
                  rw [if_pos rfl] at hl
                  replace hl := Lib.hid hl
                  go_wp2_with fail
                  go_meet
                  exact ⟨9, rfl, Lib.hid (by rw [hl.out]), Lib.hid (by rw [hl.out]; exact hC6.out m), Lib.hid (hCh6.out m)⟩
                | true =>
                  rw [if_neg (by simp)] at hl
                  have hcall := input_any rs ((wr.alloc (.cells #[.slice (some ⟨gb, 0, none⟩) L.length vc, .bool nl] 43)).drewN m) w.heap.size W4.heap.size c (hC6.out m) hsm hbs
                  unfold ReadIs strV at hcall
                  rw [← hl] at hcall
                  replace hl := Lib.hid hl
                  replace hcall := Lib.hid hcall
                  unfold fnV
                  go_wp2_with (go_at_call 44; refine hcall.out.mono ?_; rintro e w7 ⟨rfl, hC7, hCh7⟩)
                  go_meet
                  exact ⟨_, rfl, Lib.hid rfl, Lib.hid hC7, Lib.hid ((hCh6.out m).trans hCh7)⟩
              · rw [r1] at hfv
                rw [r2] at hl
                simp only at hfv hl
                have e1 : fv = fnV 45 ∧ fb = true := by simpa [eq_comm] using hfv
                obtain ⟨rfl, rfl⟩ := e1
                clear r1 r2 hfv hrun
                cases ok with
                | false =>
                  rw [if_pos rfl] at hl
                  replace hl := Lib.hid hl
                  go_wp2_with fail
                  go_meet
                  exact ⟨9, rfl, Lib.hid (by rw [hl.out]), Lib.hid (by rw [hl.out]; exact hC6.out m), Lib.hid (hCh6.out m)⟩
                | true =>
                  rw [if_neg (by simp)] at hl
                  have hcall := file_any rs hrsl ((wr.alloc (.cells #[.slice (some ⟨gb, 0, none⟩) L.length vc, .bool nl] 43)).drewN m) w.heap.size W4.heap.size c (hC6.out m) hsm hbs
                  unfold ReadIs strV at hcall
                  rw [← hl] at hcall
                  replace hl := Lib.hid hl
                  replace hcall := Lib.hid hcall
                  unfold fnV
                  go_wp2_with (go_at_call 45; refine hcall.out.mono ?_; rintro e w7 ⟨rfl, hC7, hCh7⟩)
                  go_meet
                  exact ⟨_, rfl, Lib.hid rfl, Lib.hid hC7, Lib.hid ((hCh6.out m).trans hCh7)⟩
              · rw [r1] at hfv
                rw [r2] at hl
                simp only at hfv hl
                have e1 : fv = rclo p1 ∧ fb = true := by simpa [eq_comm] using hfv
                obtain ⟨rfl, rfl⟩ := e1
                clear r1 r2 hfv hrun
                cases ok with
                | false =>
                  rw [if_pos rfl] at hl
                  replace hl := Lib.hid hl
                  go_wp2_with fail
                  go_meet
                  exact ⟨9, rfl, Lib.hid (by rw [hl.out]), Lib.hid (by rw [hl.out]; exact hC6.out m), Lib.hid (hCh6.out m)⟩
                | true =>
                  rw [if_neg (by simp)] at hl
                  have hcall := cap_any rs (by omega) ((wr.alloc (.cells #[.slice (some ⟨gb, 0, none⟩) L.length vc, .bool nl] 43)).drewN m) w.heap.size W4.heap.size p1 c (hC6.out m) hbs (hx1.out _ (hCh6.out m))
                  unfold ReadIs strV at hcall
                  rw [← hl] at hcall
                  replace hl := Lib.hid hl
                  replace hcall := Lib.hid hcall
                  unfold rclo
                  go_wp2_with (go_at_call 40; refine hcall.out.mono ?_; rintro e w7 ⟨rfl, hC7, hCh7⟩)
                  go_meet
                  exact ⟨_, rfl, Lib.hid rfl, Lib.hid hC7, Lib.hid ((hCh6.out m).trans hCh7)⟩
              · rw [r1] at hfv
                rw [r2] at hl
                simp only at hfv hl
                have e1 : fv = rclo p2 ∧ fb = true := by simpa [eq_comm] using hfv
                obtain ⟨rfl, rfl⟩ := e1
                clear r1 r2 hfv hrun
                cases ok with
                | false =>
                  rw [if_pos rfl] at hl
                  replace hl := Lib.hid hl
                  go_wp2_with fail
                  go_meet
                  exact ⟨9, rfl, Lib.hid (by rw [hl.out]), Lib.hid (by rw [hl.out]; exact hC6.out m), Lib.hid (hCh6.out m)⟩
                | true =>
                  rw [if_neg (by simp)] at hl
                  have hcall := period_any rs (by omega) ((wr.alloc (.cells #[.slice (some ⟨gb, 0, none⟩) L.length vc, .bool nl] 43)).drewN m) w.heap.size W4.heap.size p2 c (hC6.out m) hbs (hx2.out _ (hCh6.out m))
                  unfold ReadIs strV at hcall
                  rw [← hl] at hcall
                  replace hl := Lib.hid hl
                  replace hcall := Lib.hid hcall
                  unfold rclo
                  go_wp2_with (go_at_call 40; refine hcall.out.mono ?_; rintro e w7 ⟨rfl, hC7, hCh7⟩)
                  go_meet
                  exact ⟨_, rfl, Lib.hid rfl, Lib.hid hC7, Lib.hid ((hCh6.out m).trans hCh7)⟩
              · rw [r1] at hfv
                rw [r2] at hl
                simp only at hfv hl
                have e1 : fv = rclo p3 ∧ fb = true := by simpa [eq_comm] using hfv
                obtain ⟨rfl, rfl⟩ := e1
                clear r1 r2 hfv hrun
                cases ok with
                | false =>
                  rw [if_pos rfl] at hl
                  replace hl := Lib.hid hl
                  go_wp2_with fail
                  go_meet
                  exact ⟨9, rfl, Lib.hid (by rw [hl.out]), Lib.hid (by rw [hl.out]; exact hC6.out m), Lib.hid (hCh6.out m)⟩
                | true =>
                  rw [if_neg (by simp)] at hl
                  have hcall := fuel_any rs (by omega) ((wr.alloc (.cells #[.slice (some ⟨gb, 0, none⟩) L.length vc, .bool nl] 43)).drewN m) w.heap.size W4.heap.size p3 c (hC6.out m) hbs (hx3.out _ (hCh6.out m))
                  unfold ReadIs strV at hcall
                  rw [← hl] at hcall
                  replace hl := Lib.hid hl
                  replace hcall := Lib.hid hcall
                  unfold rclo
                  go_wp2_with (go_at_call 40; refine hcall.out.mono ?_; rintro e w7 ⟨rfl, hC7, hCh7⟩)
                  go_meet
                  exact ⟨_, rfl, Lib.hid rfl, Lib.hid hC7, Lib.hid ((hCh6.out m).trans hCh7)⟩
              · rw [r1] at hfv
                rw [r2] at hl
                simp only at hfv hl
                have e1 : fv = fnV 49 ∧ fb = true := by simpa [eq_comm] using hfv
                obtain ⟨rfl, rfl⟩ := e1
                clear r1 r2 hfv hrun
                cases ok with
                | false =>
                  rw [if_pos rfl] at hl
                  replace hl := Lib.hid hl
                  go_wp2_with fail
                  go_meet
                  exact ⟨9, rfl, Lib.hid (by rw [hl.out]), Lib.hid (by rw [hl.out]; exact hC6.out m), Lib.hid (hCh6.out m)⟩
                | true =>
                  rw [if_neg (by simp)] at hl
                  have hcall := do_any rs ((wr.alloc (.cells #[.slice (some ⟨gb, 0, none⟩) L.length vc, .bool nl] 43)).drewN m) w.heap.size W4.heap.size c (hC6.out m) hsm hbs
                  unfold ReadIs strV at hcall
                  rw [← hl] at hcall
                  replace hl := Lib.hid hl
                  replace hcall := Lib.hid hcall
                  unfold fnV
                  go_wp2_with (go_at_call 49; refine hcall.out.mono ?_; rintro e w7 ⟨rfl, hC7, hCh7⟩)
                  go_meet
                  exact ⟨_, rfl, Lib.hid rfl, Lib.hid hC7, Lib.hid ((hCh6.out m).trans hCh7)⟩
            case rest =>
              obtain ⟨e, rfl, he, hC7, hCh7⟩ := hcut
              have hG7 := Lib.hid (lineS_grown hGr.out L (by omega))
              by_cases he0 : e = 0
              · subst he0
                have hrun := hrun.out
                rw [if_pos he.out.symm] at hrun
                replace hrun := Lib.hid hrun
                go_wp2_with fail
                all_goals go_roundg (ls.length - (k + 1))
                case measure => omega
                case rel => exact ⟨k + 1, _, rfl, rfl, by go_num, by omega, hC7, hCh7, hrun, hG7⟩
              · have hrun := hrun.out
                rw [if_neg (by rw [← he.out]; exact he0), ← he.out] at hrun
                have qe : (e != 0) = true := by simpa using he0
                replace he0 := Lib.hid he0
                obtain ⟨vs7, vi7, vf7, vl7, fv7, h7⟩ := hC7.out
                have z0 := h7.blk.cell 0
                have y0 := h7.blk.free 0
                have z1 := h7.blk.cell 1
                have y1 := h7.blk.free 1
                have z2 := h7.blk.cell 2
                have y2 := h7.blk.free 2
                have z3 := h7.blk.cell 3
                have y3 := h7.blk.free 3
                have z4 := h7.blk.cell 4
                have y4 := h7.blk.free 4
                have z5 := h7.blk.cell 5
                have y5 := h7.blk.free 5
                have z6 := h7.blk.cell 6
                have y6 := h7.blk.free 6
                have z7 := h7.blk.cell 7
                have y7 := h7.blk.free 7
                have z8 := h7.blk.cell 8
                have y8 := h7.blk.free 8
                have z9 := h7.blk.cell 9
                have y9 := h7.blk.free 9
                have z10 := h7.blk.cell 10
                have y10 := h7.blk.free 10
                simp only [csCells] at z0 z1 z2 z3 z4 z5 z6 z7 z8 z9 z10
                replace h7 := Lib.hid h7
                replace hrun := Lib.hid hrun
                go_wp2_with fail
                have hW4 : w.heap.size ≤ W4.heap.size := hBase.out.size
                have hBx := hBase.out.trans (hCh7.out.below (N := w.heap.size) hW4 (fun j hj => by rcases hj with rfl | hj <;> omega))
                have hzb := ((((((((((h7.out.blk.set 0 (.slice none 0 0)).set 1 (.bool false)).set 2 (.bool false)).set 3 (.bool false)).set 4 (.bool false)).set 5 (.slice none 0 0)).set 6 (.slice none 0 0)).set 7 (.int .i64 0)).set 8 (.int .i64 0)).set 9 (.int .i64 0)).set 10 (.slice none 0 0)
                refine bodyPost_ret (v := .tuple #[.agg (csCells BM.zero (.slice none 0 0) (.slice none 0 0) (.slice none 0 0) (.slice none 0 0)).toArray, .int .i64 ((k : Int) + 1), .int .i64 e]) (by simp [results, Tryd.results8, go_sem, csCells, BM.zero, z0, z1, z2, z3, z4, z5, z6, z7, z8, z9, z10]) rfl ?_
                refine ⟨.slice none 0 0, .slice none 0 0, .slice none 0 0, .slice none 0 0, [], w.heap.size, W4.heap.size, by rw [← hrun.out], by rw [← hrun.out]; exact CaseV.zeroed hzb h7.out.lt, Nat.le_refl _, ?_⟩
                exact bl_setCell (p := ⟨w.heap.size, 10, none⟩) (bl_setCell (p := ⟨w.heap.size, 9, none⟩) (bl_setCell (p := ⟨w.heap.size, 8, none⟩) (bl_setCell (p := ⟨w.heap.size, 7, none⟩) (bl_setCell (p := ⟨w.heap.size, 6, none⟩) (bl_setCell (p := ⟨w.heap.size, 5, none⟩) (bl_setCell (p := ⟨w.heap.size, 4, none⟩) (bl_setCell (p := ⟨w.heap.size, 3, none⟩) (bl_setCell (p := ⟨w.heap.size, 2, none⟩) (bl_setCell (p := ⟨w.heap.size, 1, none⟩) (bl_setCell (p := ⟨w.heap.size, 0, none⟩) hBx (Nat.le_refl _) _) (Nat.le_refl _) _) (Nat.le_refl _) _) (Nat.le_refl _) _) (Nat.le_refl _) _) (Nat.le_refl _) _) (Nat.le_refl _) _) (Nat.le_refl _) _) (Nat.le_refl _) _) (Nat.le_refl _) _) (Nat.le_refl _) _
      · obtain rfl : k = ls.length := by omega
        have hrun := hrun.out
        rw [List.drop_length, BM.runS] at hrun
        obtain ⟨vs7, vi7, vf7, vl7, fv7, h7⟩ := hC.out
        obtain ⟨b1, d1, rfl⟩ := own_slice h7.sed
        obtain ⟨b2, d2, rfl⟩ := own_slice h7.inp
        obtain ⟨b3, d3, rfl⟩ := own_slice h7.fil
        obtain ⟨b4, d4, rfl⟩ := own_slice h7.lin
        have z0 : wr.cell? ⟨w.heap.size, 0, none⟩ = some (.slice b1 c.sed.length d1) := h7.blk.cell 0
        have y0 := h7.blk.free 0
        have z1 : wr.cell? ⟨w.heap.size, 1, none⟩ = some (.bool c.quiet) := h7.blk.cell 1
        have y1 := h7.blk.free 1
        have z2 : wr.cell? ⟨w.heap.size, 2, none⟩ = some (.bool c.separate) := h7.blk.cell 2
        have y2 := h7.blk.free 2
        have z3 : wr.cell? ⟨w.heap.size, 3, none⟩ = some (.bool c.place) := h7.blk.cell 3
        have y3 := h7.blk.free 3
        have z4 : wr.cell? ⟨w.heap.size, 4, none⟩ = some (.bool c.extended) := h7.blk.cell 4
        have y4 := h7.blk.free 4
        have z5 : wr.cell? ⟨w.heap.size, 5, none⟩ = some (.slice b2 c.inputs.length d2) := h7.blk.cell 5
        have y5 := h7.blk.free 5
        have z6 : wr.cell? ⟨w.heap.size, 6, none⟩ = some (.slice b3 c.files.length d3) := h7.blk.cell 6
        have y6 := h7.blk.free 6
        have z7 : wr.cell? ⟨w.heap.size, 7, none⟩ = some (.int .i64 c.cap) := h7.blk.cell 7
        have y7 := h7.blk.free 7
        have z8 : wr.cell? ⟨w.heap.size, 8, none⟩ = some (.int .i64 c.period) := h7.blk.cell 8
        have y8 := h7.blk.free 8
        have z9 : wr.cell? ⟨w.heap.size, 9, none⟩ = some (.int .i64 c.fuel) := h7.blk.cell 9
        have y9 := h7.blk.free 9
        have z10 : wr.cell? ⟨w.heap.size, 10, none⟩ = some (.slice b4 c.lines.length d4) := h7.blk.cell 10
        have y10 := h7.blk.free 10
        have f0 := h7.field 0 (.slice b1 c.sed.length d1) (c' := c) rfl rfl rfl rfl rfl
        have f1 := f0.1.field 1 (.bool c.quiet) (c' := c) rfl rfl rfl rfl rfl
        have f2 := f1.1.field 2 (.bool c.separate) (c' := c) rfl rfl rfl rfl rfl
        have f3 := f2.1.field 3 (.bool c.place) (c' := c) rfl rfl rfl rfl rfl
        have f4 := f3.1.field 4 (.bool c.extended) (c' := c) rfl rfl rfl rfl rfl
        have f5 := f4.1.field 5 (.slice b2 c.inputs.length d2) (c' := c) rfl rfl rfl rfl rfl
        have f6 := f5.1.field 6 (.slice b3 c.files.length d3) (c' := c) rfl rfl rfl rfl rfl
        have f7 := f6.1.field 7 (.int .i64 c.cap) (c' := c) rfl rfl rfl rfl rfl
        have f8 := f7.1.field 8 (.int .i64 c.period) (c' := c) rfl rfl rfl rfl rfl
        have f9 := f8.1.field 9 (.int .i64 c.fuel) (c' := c) rfl rfl rfl rfl rfl
        have f10 := f9.1.field 10 (.slice b4 c.lines.length d4) (c' := c) rfl rfl rfl rfl rfl
        have hW4 : w.heap.size ≤ W4.heap.size := hBase.out.size
        have hBx := hBase.out.trans (hCh.out.below (N := w.heap.size) hW4 (fun j hj => by rcases hj with rfl | hj <;> omega))
        have hfin := f10.1
        clear f0 f1 f2 f3 f4 f5 f6 f7 f8 f9 f10
        replace hfin := Lib.hid hfin
        replace h7 := Lib.hid h7
        replace hrun := Lib.hid hrun
        replace hBx := Lib.hid hBx
        go_wp2_with fail
        refine bodyPost_ret (v := .tuple #[.agg (csCells c (.slice b1 c.sed.length d1) (.slice b2 c.inputs.length d2) (.slice b3 c.files.length d3) (.slice b4 c.lines.length d4)).toArray, .int .i64 0, .int .i64 0]) (by simp [results, Tryd.results8, go_sem, csCells, z0, z1, z2, z3, z4, z5, z6, z7, z8, z9, z10]) rfl ?_
        refine ⟨_, _, _, _, fv7, w.heap.size, W4.heap.size, by rw [← hrun.out], by rw [← hrun.out]; exact hfin.out, Nat.le_refl _, ?_⟩
        exact bl_setCell (p := ⟨w.heap.size, 10, none⟩) (bl_setCell (p := ⟨w.heap.size, 9, none⟩) (bl_setCell (p := ⟨w.heap.size, 8, none⟩) (bl_setCell (p := ⟨w.heap.size, 7, none⟩) (bl_setCell (p := ⟨w.heap.size, 6, none⟩) (bl_setCell (p := ⟨w.heap.size, 5, none⟩) (bl_setCell (p := ⟨w.heap.size, 4, none⟩) (bl_setCell (p := ⟨w.heap.size, 3, none⟩) (bl_setCell (p := ⟨w.heap.size, 2, none⟩) (bl_setCell (p := ⟨w.heap.size, 1, none⟩) (bl_setCell (p := ⟨w.heap.size, 0, none⟩) hBx.out (Nat.le_refl _) _) (Nat.le_refl _) _) (Nat.le_refl _) _) (Nat.le_refl _) _) (Nat.le_refl _) _) (Nat.le_refl _) _) (Nat.le_refl _) _) (Nat.le_refl _) _) (Nat.le_refl _) _) (Nat.le_refl _) _) (Nat.le_refl _) _
end Go.Proofs.YtaginadnaajleaaDoor
