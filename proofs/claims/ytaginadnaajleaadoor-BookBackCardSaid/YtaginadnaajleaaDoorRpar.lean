/-
  The reference's Parse; of chapter 32.
  Conditions: as each theorem states them.
-/
import Derived.Test.YtaginadnaajleaaDoorJn
import Derived.Test.YtaginadnaajleaaDoorRn
namespace Go.Proofs.YtaginadnaajleaaDoor
open Go.RowKit
set_option linter.unusedVariables false
set_option linter.unusedSimpArgs false
open BM (Cs)
theorem cells11r {w : World} {g : Nat} {t : TypeId} {v0 v1 v2 v3 v4 v5 v6 v7 v8 v9 v10 : Value} (h : Blk w g t [v0, v1, v2, v3, v4, v5, v6, v7, v8, v9, v10]) :
    (w.cell? ⟨g, 0, none⟩ = some v0 ∧ w.cell? ⟨g, 1, none⟩ = some v1 ∧ w.cell? ⟨g, 2, none⟩ = some v2 ∧ w.cell? ⟨g, 3, none⟩ = some v3 ∧ w.cell? ⟨g, 4, none⟩ = some v4 ∧ w.cell? ⟨g, 5, none⟩ = some v5 ∧ w.cell? ⟨g, 6, none⟩ = some v6 ∧ w.cell? ⟨g, 7, none⟩ = some v7 ∧ w.cell? ⟨g, 8, none⟩ = some v8 ∧ w.cell? ⟨g, 9, none⟩ = some v9 ∧ w.cell? ⟨g, 10, none⟩ = some v10) ∧
    (w.frozen? ⟨g, 0, none⟩ = false ∧ w.frozen? ⟨g, 1, none⟩ = false ∧ w.frozen? ⟨g, 2, none⟩ = false ∧ w.frozen? ⟨g, 3, none⟩ = false ∧ w.frozen? ⟨g, 4, none⟩ = false ∧ w.frozen? ⟨g, 5, none⟩ = false ∧ w.frozen? ⟨g, 6, none⟩ = false ∧ w.frozen? ⟨g, 7, none⟩ = false ∧ w.frozen? ⟨g, 8, none⟩ = false ∧ w.frozen? ⟨g, 9, none⟩ = false ∧ w.frozen? ⟨g, 10, none⟩ = false) :=
  ⟨⟨h.cell 0, h.cell 1, h.cell 2, h.cell 3, h.cell 4, h.cell 5, h.cell 6, h.cell 7, h.cell 8, h.cell 9, h.cell 10⟩, ⟨h.free 0, h.free 1, h.free 2, h.free 3, h.free 4, h.free 5, h.free 6, h.free 7, h.free 8, h.free 9, h.free 10⟩⟩
abbrev zCells : List Value := [.slice none 0 0, .bool false, .bool false, .bool false, .bool false, .slice none 0 0, .slice none 0 0, .int .i64 0, .int .i64 0, .int .i64 0, .slice none 0 0]
theorem zero_read (w : World) : CsAt w BM.zero (.slice none 0 0) (.slice none 0 0) (.slice none 0 0) (.slice none 0 0) :=
  ⟨⟨_, _, rfl, fun _ => rfl, fun h => by simp [BM.zero] at h⟩, ⟨_, _, rfl, fun _ => rfl, fun h => by simp [BM.zero] at h⟩, ⟨_, _, rfl, fun _ => rfl, fun h => by simp [BM.zero] at h⟩, ⟨_, _, rfl, fun _ => rfl, fun h => by simp [BM.zero] at h⟩⟩
theorem CaseV.setOther {w : World} {g base : Nat} {c : Cs} {vs vi vf vl : Value} {fv : List (List UInt8 × Value)} (h : CaseV w g base c vs vi vf vl fv) {p : Addr} (hp : p.block < base) (hg : p.block ≠ g) (u : Value) : CaseV (w.setCell p u) g base c vs vi vf vl fv :=
  { h with blk := h.blk.set_other hg u, sed := ownsRow_setCell_below h.sed hp u, inp := ownsRow_setCell_below h.inp hp u, lin := ownsRow_setCell_below h.lin hp u, fil := ownsRow_setCell_below h.fil hp u, fvb := fun i h1 h2 => ownsRow_setCell_below (h.fvb i h1 h2) hp u }
/-- eleven cells are set -/
def set11 (w : World) (g : Nat) (v0 v1 v2 v3 v4 v5 v6 v7 v8 v9 v10 : Value) : World := ((((((((((w.setCell ⟨g, 0, none⟩ v0).setCell ⟨g, 1, none⟩ v1).setCell ⟨g, 2, none⟩ v2).setCell ⟨g, 3, none⟩ v3).setCell ⟨g, 4, none⟩ v4).setCell ⟨g, 5, none⟩ v5).setCell ⟨g, 6, none⟩ v6).setCell ⟨g, 7, none⟩ v7).setCell ⟨g, 8, none⟩ v8).setCell ⟨g, 9, none⟩ v9).setCell ⟨g, 10, none⟩ v10
theorem CaseV.set11 {w : World} {g base : Nat} {c : Cs} {vs vi vf vl : Value} {fv : List (List UInt8 × Value)} (h : CaseV w g base c vs vi vf vl fv) {b : Nat} (hp : b < base) (hg : b ≠ g) (v0 v1 v2 v3 v4 v5 v6 v7 v8 v9 v10 : Value) : CaseV (Go.Proofs.YtaginadnaajleaaDoor.set11 w b v0 v1 v2 v3 v4 v5 v6 v7 v8 v9 v10) g base c vs vi vf vl fv :=
  ((((((((((h.setOther (p := ⟨b, 0, none⟩) hp hg v0).setOther (p := ⟨b, 1, none⟩) hp hg v1).setOther (p := ⟨b, 2, none⟩) hp hg v2).setOther (p := ⟨b, 3, none⟩) hp hg v3).setOther (p := ⟨b, 4, none⟩) hp hg v4).setOther (p := ⟨b, 5, none⟩) hp hg v5).setOther (p := ⟨b, 6, none⟩) hp hg v6).setOther (p := ⟨b, 7, none⟩) hp hg v7).setOther (p := ⟨b, 8, none⟩) hp hg v8).setOther (p := ⟨b, 9, none⟩) hp hg v9).setOther (p := ⟨b, 10, none⟩) hp hg v10
theorem bl_set11 {a w : World} (h : Below a.heap.size a w) {b : Nat} (hb : a.heap.size ≤ b) (v0 v1 v2 v3 v4 v5 v6 v7 v8 v9 v10 : Value) : Below a.heap.size a (set11 w b v0 v1 v2 v3 v4 v5 v6 v7 v8 v9 v10) :=
  bl_setCell (p := ⟨b, 10, none⟩) (bl_setCell (p := ⟨b, 9, none⟩) (bl_setCell (p := ⟨b, 8, none⟩) (bl_setCell (p := ⟨b, 7, none⟩) (bl_setCell (p := ⟨b, 6, none⟩) (bl_setCell (p := ⟨b, 5, none⟩) (bl_setCell (p := ⟨b, 4, none⟩) (bl_setCell (p := ⟨b, 3, none⟩) (bl_setCell (p := ⟨b, 2, none⟩) (bl_setCell (p := ⟨b, 1, none⟩) (bl_setCell (p := ⟨b, 0, none⟩) h hb _) hb _) hb _) hb _) hb _) hb _) hb _) hb _) hb _) hb _) hb _
set_option maxHeartbeats 8000000 in
set_option maxRecDepth 100000 in
theorem rparse_any (s : List UInt8) (hl : s.length ≤ 90000) (R : Cs × Int × Int) (hR : BM.parseS s = R) (w : World) : Calls Tryd.prog 6 #[strV s] w (ParsedAs R.1 R.2.1 R.2.2 w) := by
  by_cases h0 : 65536 < s.length
  · have hR1 : R = (BM.zero, 0, 8) := by rw [← hR]; unfold BM.parseS; rw [if_pos h0]
    subst hR1
    have q0 : decide ((65536 : Int) < (s.length : Int)) = true := by rw [decide_eq_true_eq]; omega
    clear hR
    go_enter Tryd.func6, Tryd.ntmps6
    go_wp2_with fail
    refine bodyPost_ret (v := .tuple #[.agg #[.slice none 0 0, .bool false, .bool false, .bool false, .bool false, .slice none 0 0, .slice none 0 0, .int .i64 0, .int .i64 0, .int .i64 0, .slice none 0 0], .int .i64 0, .int .i64 8]) (by simp [results, Tryd.results6, go_sem]) rfl ?_
    exact ⟨none, 0, none, 0, none, 0, none, 0, rfl, zero_read _, bl_alloc (Below.refl _ _) _⟩
  · have hR1 : BM.runS 0 BM.init (BM.linesS s) = R := by rw [← hR]; unfold BM.parseS; rw [if_neg h0]
    have q0 : decide ((65536 : Int) < (s.length : Int)) = false := by rw [decide_eq_false_iff_not]; omega
    obtain ⟨hl1, hl2⟩ := lines_len s
    obtain ⟨W1, hW1⟩ : ∃ W1, (w.alloc (.cells #[.slice none 0 0, .bool false, .bool false, .bool false, .bool false, .slice none 0 0, .slice none 0 0, .int .i64 0, .int .i64 0, .int .i64 0, .slice none 0 0] 29)).alloc (.cells #[.slice none 0 0, .bool false, .bool false, .bool false, .bool false, .slice none 0 0, .slice none 0 0, .int .i64 100, .int .i64 10, .int .i64 10000, .slice none 0 0] 29) = W1 := ⟨_, rfl⟩
    have hz1 : W1.heap.size = w.heap.size + 1 + 1 := by rw [← hW1]; simp
    have hb1 : Below w.heap.size w W1 := by rw [← hW1]; exact bl_alloc (bl_alloc (Below.refl _ _) _) _
    have hc1 : ∀ base, w.heap.size + 1 < base → CaseV W1 (w.heap.size + 1) base BM.init (.slice none 0 0) (.slice none 0 0) (.slice none 0 0) (.slice none 0 0) [] := fun base hb => by
      have := CaseV.new (w.alloc (.cells #[.slice none 0 0, .bool false, .bool false, .bool false, .bool false, .slice none 0 0, .slice none 0 0, .int .i64 0, .int .i64 0, .int .i64 0, .slice none 0 0] 29)) base BM.init rfl rfl rfl rfl (by simp; omega)
      rw [← hW1]
      have e : (w.alloc (.cells #[.slice none 0 0, .bool false, .bool false, .bool false, .bool false, .slice none 0 0, .slice none 0 0, .int .i64 0, .int .i64 0, .int .i64 0, .slice none 0 0] 29)).heap.size = w.heap.size + 1 := by simp
      rw [e] at this
      exact this
    have hblk0 : Blk W1 w.heap.size 29 zCells := by rw [← hW1]; exact (Blk.new w _ zCells).alloc _
    clear hR
    replace hR1 := Lib.hid hR1
    replace hz1 := Lib.hid hz1
    replace hW1 := Lib.hid hW1
    go_enter Tryd.func6, Tryd.ntmps6
    go_upto_region 4 with fail
    rw [hW1.out]
    clear hW1
    obtain ⟨c2, W3, hc2, hb3, hr3, hl3, hcap⟩ := conv_room (P := Tryd.prog) W1 9 23 5 s Tryd.underlying9 Tryd.underlying23 Tryd.underlying5
    have hsp := Lib.hid (rsplit_any (.slice (some ⟨W1.heap.size, 0, none⟩) s.length c2) s (by omega) W3 ⟨_, _, rfl, (fun e => by cases e), fun _ => ⟨_, _, rfl, hl3, hr3⟩⟩)
    clear hr3
    go_wp2_with (go_at_call 11; refine hsp.out.mono ?_; rintro e W4 ⟨v, rfl, ⟨vs, hv1, hv2, hv3⟩, hb4⟩; obtain ⟨la, lc, rfl⟩ := own_slice hv2)
    have hz3 := hb3.size
    have hz4 := hb4.size
    replace hz1 := hz1.out
    have hB14 := bl_trans hb3 hb4
    have hBase : Below w.heap.size w W4 := bl_trans hb1 hB14
    have hC0 : CaseAt W4 (w.heap.size + 1) W4.heap.size BM.init := ⟨_, _, _, _, _, (hc1 W4.heap.size (by omega)).bw hB14⟩
    have hold : ∀ wr, Chg (w.heap.size + 1) W4.heap.size W4 wr → ∀ j, j < W4.heap.size → j ≠ w.heap.size + 1 → wr.heap[j]? = W4.heap[j]? := fun wr h j hj hg => h.block j hj (fun e => by rcases e with e | e <;> omega)
    have hres := Lib.hid (fun wr (h : Chg (w.heap.size + 1) W4.heap.size W4 wr) => (hblk0.below hB14).of_eq (hold wr h w.heap.size (by omega) (by omega)))
    have hrow := Lib.hid (fun wr (h : Chg (w.heap.size + 1) W4.heap.size W4 wr) => own_of_eq hv2 (fun j hj1 hj2 => hold wr h j hj2 (by omega)))
    have hlin := Lib.hid (fun (i : Nat) (h1 : i < (BM.linesS s).length) (h2 : i < vs.length) wr (h : Chg (w.heap.size + 1) W4.heap.size W4 wr) => own_of_eq (hv3 i h1 h2) (fun j hj1 hj2 => hold wr h j hj2 (by omega)))
    replace hv1 := Lib.hid hv1
    replace hl2 := Lib.hid hl2
    replace hBase := Lib.hid hBase
    replace hC0 := Lib.hid hC0
    have hs64 : (BM.linesS s).length ≤ 65536 := by omega
    have hwW : w.heap.size + 1 < W4.heap.size := by omega
    clear hc1 hold hv2 hv3 hB14 hb1 hb3 hb4 hc2 hl1 hl3 hcap hblk0 hz1 hz3 hz4
    generalize hls : BM.linesS s = ls at *
    replace hls := Lib.hid hls
    go_loopg [7] ls.length (fun gh v7 wr => ∃ (k : Nat) (c : Cs), gh = ls.length - k ∧ v7 = .int .i64 (k : Int) ∧ k ≤ ls.length ∧ Hid (CaseAt wr (w.heap.size + 1) W4.heap.size c) ∧ Hid (Chg (w.heap.size + 1) W4.heap.size W4 wr) ∧ Hid (BM.runS k c (ls.drop k) = R) ∧ Hid (Grown k c))
    case atStart => exact ⟨0, BM.init, rfl, rfl, by omega, hC0, Lib.hid (Only.refl _ _), Lib.hid (by rw [List.drop_zero]; exact hR1.out), Lib.hid ⟨by simp [BM.init], by simp [BM.init], by simp [BM.init], by simp [BM.init]⟩⟩
    case round =>
      clear hC0 hR1
      obtain ⟨k, c, rfl, rfl, hk, hC, hCh, hrun, hGr⟩ := hrel
      have hsz := hCh.out.size
      by_cases hlt : k < ls.length
      · have hkv : k < vs.length := by rw [hv1.out]; exact hlt
        obtain ⟨gl, rfl, hgl1, hgl2, hcells⟩ := row2_cells (hrow.out wr hCh.out) (by omega)
        obtain ⟨k0, k1⟩ := hcells k hkv
        have hown := hlin.out k hlt hkv wr hCh.out
        obtain ⟨L, hL⟩ : ∃ L, ls[k] = L := ⟨_, rfl⟩
        have hLl := hl2.out ls[k] (List.getElem_mem hlt)
        rw [hL] at hown hLl
        obtain ⟨va, vc, hva⟩ := own_slice hown
        rw [hva] at k0 hown
        have hd : ls.drop k = L :: ls.drop (k + 1) := by rw [List.drop_eq_getElem_cons hlt, hL]
        have hib : (k : Int) < (ls.length : Int) := by omega
        have hrun := hrun.out
        rw [hd, BM.runS] at hrun
        clear hcells hva hd k1
        by_cases hsk : L = []
        · have hrun2 := hrun
          rw [if_pos (by rw [hsk]; rfl)] at hrun2
          replace hrun2 := Lib.hid hrun2
          replace hrun := Lib.hid hrun
          have hL0 : L.length = 0 := by rw [hsk]; rfl
          rw [hL0] at k0
          replace hown := Lib.hid hown
          clear hL hsk
          go_wp2_with fail
          all_goals go_roundg (ls.length - (k + 1))
          case measure => omega
          case rel => exact ⟨k + 1, c, rfl, by go_num, by omega, hC, hCh, hrun2, Lib.hid hGr.out.more⟩
        · have hL0 : 0 < L.length := List.length_pos_iff.2 hsk
          obtain ⟨gb, rfl, hbc⟩ : ∃ gb, va = some ⟨gb, 0, none⟩ ∧ wr.cell? ⟨gb, 0, none⟩ = some (.int .u8 (L[0].toNat : Int)) := by
            rcases byteCells_cells hown with ⟨e, rfl⟩ | ⟨gb, cap, e, hcs⟩
            · simp at hL0
            · injection e with e1 e2 e3
              refine ⟨gb, e1, ?_⟩
              have := hcs 0 (.int .u8 (L[0].toNat : Int)) (by simp [Lib.byteCells, hL0])
              simpa [Addr.add] using this
          have hgb := World.block_lt_of_cell? wr _ hbc
          simp only at hgb
          have hL0i : (0 : Int) < (L.length : Int) := by omega
          have qL : ((L.length : Int) == 0) = false := by simp; omega
          by_cases h35 : L[0] = 35
          · have hrun2 := hrun
            rw [if_pos (by unfold BM.skip; simp only [decide_eq_true_eq]; right; rw [List.head?_eq_getElem?, List.getElem?_eq_getElem hL0, h35])] at hrun2
            rw [h35] at hbc
            replace hrun2 := Lib.hid hrun2
            replace hrun := Lib.hid hrun
            replace hown := Lib.hid hown
            clear hL h35
            go_wp2_with fail
            all_goals go_roundg (ls.length - (k + 1))
            case measure => omega
            case rel => exact ⟨k + 1, c, rfl, by go_num, by omega, hC, hCh, hrun2, Lib.hid hGr.out.more⟩
          · rw [if_neg (by unfold BM.skip; simp only [decide_eq_true_eq]; rintro (e | e); exact hsk e; rw [List.head?_eq_getElem?, List.getElem?_eq_getElem hL0] at e; exact h35 (Option.some.inj e))] at hrun
            have q35 : ((L[0].toNat : Int) == 35) = false := by
              simp only [beq_eq_false_iff_ne, ne_eq]; intro e; exact h35 (UInt8.toNat_inj.1 (by rw [show (35 : UInt8).toNat = 35 from rfl]; omega))
            have hcv := conv_line hown
            unfold strV at hcv
            have hsm := hGr.out.small (by omega)
            have hln := Lib.hid (rline_any L (by omega) wr (w.heap.size + 1) W4.heap.size c hC.out hsm hCh.out.size)
            obtain ⟨⟨e, c'⟩, hE⟩ : ∃ E, BM.lineS L c = E := ⟨_, rfl⟩
            have hgr2 := lineS_grown hGr.out L (by omega)
            rw [hE] at hln hrun hgr2
            simp only at hrun hgr2
            replace hgr2 := Lib.hid hgr2
            replace hown := Lib.hid hown
            have hcr := Lib.hid (fun w' (h : Chg (w.heap.size + 1) W4.heap.size wr w') => hCh.out.trans h)
            clear hL h35 hrow hlin hsm hsk
            by_cases he : e = 0
            · rw [if_pos he] at hrun
              have q1 : (e != 0) = false := by simpa using he
              replace he := Lib.hid he
              replace hrun := Lib.hid hrun
              go_wp2_with (go_at_call 12; refine hln.out.mono ?_; rintro e2 w5 ⟨rfl, hC5, hCh5⟩; replace hC5 := Lib.hid hC5; replace hCh5 := Lib.hid (hcr.out _ hCh5))
              all_goals go_roundg (ls.length - (k + 1))
              case measure => omega
              case rel => exact ⟨k + 1, c', rfl, by go_num, by omega, hC5, hCh5, hrun, hgr2⟩
            · rw [if_neg he] at hrun
              have q1 : (e != 0) = true := by simpa using he
              have z1 : IntKind.i64.wrap ((k : Int) + 1) = (k : Int) + 1 := IntWalk.i64_in _ (by omega)
              replace he := Lib.hid he
              replace hrun := Lib.hid hrun
              go_upto_region 11 with (go_at_call 12; refine hln.out.mono ?_; rintro e2 w5 ⟨rfl, hC5, hCh5⟩; replace hC5 := Lib.hid hC5; replace hCh5 := Lib.hid (hcr.out _ hCh5))
              obtain ⟨⟨x0, x1, x2, x3, x4, x5, x6, x7, x8, x9, x10⟩, ⟨y0, y1, y2, y3, y4, y5, y6, y7, y8, y9, y10⟩⟩ := cells11r (hres.out _ hCh5.out)
              have hl0 := (hres.out _ hCh5.out).lt
              have hBx := Lib.hid (hBase.out.trans (hCh5.out.below (N := w.heap.size) hBase.out.size (fun j hj => by rcases hj with rfl | hj <;> omega)))
              go_wp2_with fail
              refine bodyPost_ret (v := .tuple #[.agg #[.slice none 0 0, .bool false, .bool false, .bool false, .bool false, .slice none 0 0, .slice none 0 0, .int .i64 0, .int .i64 0, .int .i64 0, .slice none 0 0], .int .i64 ((k : Int) + 1), .int .i64 e]) (by simp [results, Tryd.results6, go_sem, x0, x1, x2, x3, x4, x5, x6, x7, x8, x9, x10]) rfl ?_
              rw [← hrun.out]
              exact ⟨none, 0, none, 0, none, 0, none, 0, rfl, zero_read _, bl_set11 hBx.out (Nat.le_refl _) _ _ _ _ _ _ _ _ _ _ _⟩
      · obtain rfl : k = ls.length := by omega
        have hrun := hrun.out
        rw [List.drop_length, BM.runS] at hrun
        subst hrun
        obtain ⟨vs7, vi7, vf7, vl7, fv7, h7⟩ := hC.out
        obtain ⟨a1, d1, e1⟩ := own_slice h7.sed
        obtain ⟨a2, d2, e2⟩ := own_slice h7.inp
        obtain ⟨a3, d3, e3⟩ := own_slice h7.fil
        obtain ⟨a4, d4, e4⟩ := own_slice h7.lin
        subst e1 e2 e3 e4
        have hblk := h7.blk
        unfold csCells at hblk
        obtain ⟨⟨z0, z1, z2, z3, z4, z5, z6, z7, z8, z9, z10⟩, _⟩ := cells11r hblk
        obtain ⟨⟨x0, x1, x2, x3, x4, x5, x6, x7, x8, x9, x10⟩, ⟨y0, y1, y2, y3, y4, y5, y6, y7, y8, y9, y10⟩⟩ := cells11r (hres.out _ hCh.out)
        have hl0 := (hres.out _ hCh.out).lt
        have hl7 := h7.blk.lt
        have hBx := Lib.hid (hBase.out.trans (hCh.out.below (N := w.heap.size) hBase.out.size (fun j hj => by rcases hj with rfl | hj <;> omega)))
        replace h7 := Lib.hid h7
        clear hblk hrow hlin hGr
        go_wp2_with fail
        refine bodyPost_ret (v := .tuple #[.agg #[.slice a1 c.sed.length d1, .bool c.quiet, .bool c.separate, .bool c.place, .bool c.extended, .slice a2 c.inputs.length d2, .slice a3 c.files.length d3, .int .i64 c.cap, .int .i64 c.period, .int .i64 c.fuel, .slice a4 c.lines.length d4], .int .i64 0, .int .i64 0]) (by simp [results, Tryd.results6, go_sem, x0, x1, x2, x3, x4, x5, x6, x7, x8, x9, x10, z0, z1, z2, z3, z4, z5, z6, z7, z8, z9, z10]) rfl ?_
        exact ⟨a1, d1, a2, d2, a3, d3, a4, d4, rfl, (h7.out.set11 (b := w.heap.size) (by omega) (by omega) _ _ _ _ _ _ _ _ _ _ _).read, bl_set11 hBx.out (Nat.le_refl _) _ _ _ _ _ _ _ _ _ _ _⟩
end Go.Proofs.YtaginadnaajleaaDoor
