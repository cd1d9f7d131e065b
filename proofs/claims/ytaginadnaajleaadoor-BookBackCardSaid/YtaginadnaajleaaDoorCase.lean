/-
  A case in memory; the readers of do and of input; of chapter 32.
  Conditions: as each theorem states them.
-/
import Derived.Test.YtaginadnaajleaaDoorSplit
import Derived.Test.YtaginadnaajleaaDoorReaders
namespace Go.Proofs.YtaginadnaajleaaDoor
open Go.RowKit
set_option linter.unusedVariables false
set_option linter.unusedSimpArgs false
open BM (Cs)
def csCells (c : Cs) (vs vi vf vl : Value) : List Value := [vs, .bool c.quiet, .bool c.separate, .bool c.place, .bool c.extended, vi, vf, .int .i64 c.cap, .int .i64 c.period, .int .i64 c.fuel, vl]
/-- a case in memory: its block g; what it has lies from base on -/
structure CaseV (w : World) (g base : Nat) (c : Cs) (vs vi vf vl : Value) (fv : List (List UInt8 × Value)) : Prop where
  blk : Blk w g 29 (csCells c vs vi vf vl)
  lt : g < base
  sed : w.ownsRow base 5 1 vs c.sed.length (Lib.byteCells c.sed)
  inp : w.ownsRow base 9 1 vi c.inputs.length (c.inputs.map strV)
  lin : w.ownsRow base 9 1 vl c.lines.length (c.lines.map strV)
  fil : w.ownsRow base 52 2 vf c.files.length (fv.flatMap fun p => [strV p.1, p.2])
  fvn : fv.map (·.1) = c.files.map (·.1)
  fvb : ∀ i (h : i < c.files.length) (h' : i < fv.length), w.ownsRow base 5 1 fv[i].2 c.files[i].2.length (Lib.byteCells c.files[i].2)
  fvs : ∀ p ∈ fv, p.2.ownBlock = none ∨ p.2.ownBlock ≠ vs.ownBlock
  apart : vi.ownBlock = none ∨ vi.ownBlock ≠ vl.ownBlock
def CaseAt (w : World) (g base : Nat) (c : Cs) : Prop := ∃ vs vi vf vl fv, CaseV w g base c vs vi vf vl fv
theorem CaseV.bw {w w' : World} {g base : Nat} {c : Cs} {vs vi vf vl : Value} {fv : List (List UInt8 × Value)} (h : CaseV w g base c vs vi vf vl fv) (hb : Below w.heap.size w w') : CaseV w' g base c vs vi vf vl fv :=
  { h with blk := h.blk.below hb, sed := own_bw h.sed hb, inp := own_bw h.inp hb, lin := own_bw h.lin hb, fil := own_bw h.fil hb, fvb := fun i h1 h2 => own_bw (h.fvb i h1 h2) hb }
theorem CaseAt.bw {w w' : World} {g base : Nat} {c : Cs} (h : CaseAt w g base c) (hb : Below w.heap.size w w') : CaseAt w' g base c := by
  obtain ⟨vs, vi, vf, vl, fv, h⟩ := h
  exact ⟨vs, vi, vf, vl, fv, h.bw hb⟩
/-- what a reader may change: the case's own block, and what lies from base on -/
abbrev Chg (g base : Nat) (w w' : World) : Prop := Only (fun k => k = g ∨ base ≤ k) w w'
/-- how much there may be -/
structure Small (c : Cs) : Prop where
  sed : c.sed.length ≤ 100000000000
  inputs : c.inputs.length ≤ 1000000
  files : c.files.length ≤ 1000000
  lines : c.lines.length ≤ 1000000
/-- what a reader answers -/
def ReadIs (R : Int × Cs) (g base : Nat) (w : World) (e : Ending) (w' : World) : Prop := e = .returned (.int .i64 R.1) ∧ CaseAt w' g base R.2 ∧ Chg g base w w'
theorem keep_row {w w' : World} {base e s n : Nat} {v u : Value} {xs : List Value} {o : Obj} (h : w.ownsRow base e s v n xs) (hg : (w.alloc o).grownBy w' u.ownBlock) (hne : v.ownBlock = none ∨ v.ownBlock ≠ u.ownBlock) : w'.ownsRow base e s v n xs := (h.alloc o).kept hg hne
theorem own_new {w : World} {base e s n : Nat} {v u : Value} {xs : List Value} (h : w.ownsRow base e s v n xs) (hu : u.ownBlock = none ∨ v.ownBlock = u.ownBlock ∨ ∃ g, u.ownBlock = some g ∧ w.heap.size ≤ g) (v2 : Value) {n2 : Nat} {zs : List Value} (h2 : w.ownsRow base e s v2 n2 zs) (hne : v2.ownBlock = none ∨ v2.ownBlock ≠ v.ownBlock) : v2.ownBlock = none ∨ v2.ownBlock ≠ u.ownBlock := by
  rcases hne with hne | hne
  · exact .inl hne
  · rcases hu with hu | hu | ⟨g, hu, hg⟩
    · rw [hu]
      cases hv : v2.ownBlock with
      | none => exact .inl rfl
      | some x => exact .inr (by simp)
    · exact .inr (hu ▸ hne)
    · rw [hu]
      cases hv : v2.ownBlock with
      | none => exact .inl rfl
      | some x => exact .inr (fun e => by have := (h2.lt x hv).2; have := Option.some.inj e; omega)
theorem only_grown {S : Nat → Prop} {a b c : World} {row : Option Nat} (h : Only S a b) (hg : b.grownBy c row) (hr : ∀ k, row = some k → S k) : Only S a c :=
  ⟨hg.os.trans h.os, hg.tape.trans h.tape, hg.output.trans h.output, Nat.le_trans h.size hg.size, fun i hi hn => (hg.block i (Nat.lt_of_lt_of_le hi h.size) (fun e => hn (hr i e.symm))).trans (h.block i hi hn)⟩
theorem str_ne8 : (9 : Nat) ≠ 5 := by decide
theorem file_ne8 : (52 : Nat) ≠ 5 := by decide
theorem file_neS : (52 : Nat) ≠ 9 := by decide
theorem infoStr : (Tryd.prog.info? 9).map (fun i => (i.zero, i.size, i.bytes)) = some (some (.string ⟨#[]⟩), 1, 16) := by kernel_rfl
/-- a line more is done -/
theorem CaseV.line {w w1 : World} {g base : Nat} {c : Cs} {vs vi vf vl v1 : Value} {fv : List (List UInt8 × Value)} (h : CaseV w g base c vs vi vf vl fv) (r : List UInt8) {o : Obj} (hg : (w.alloc o).grownBy w1 vl.ownBlock)
    (ho : w1.ownsRow base 9 1 v1 (c.lines.length + 1) (c.lines.map strV ++ [strV r])) (hb : v1.ownBlock = vl.ownBlock ∨ v1.ownBlock = some (w.alloc o).heap.size) (hbase : base ≤ w.heap.size) :
    CaseV (w1.setCell ⟨g, 10, none⟩ v1) g base (BM.doR r c).2 vs vi vf v1 fv ∧ Chg g base w (w1.setCell ⟨g, 10, none⟩ v1) ∧ Blk w1 g 29 (csCells c vs vi vf vl) := by
  have hq : Blk w1 g 29 (csCells c vs vi vf vl) := (h.blk.alloc o).of_eq (hg.block g (by have := h.blk.lt; simp; omega) (fun e => by have := (h.lin.lt _ e.symm).1; have := h.lt; omega))
  have kp : ∀ {e s n : Nat} {v : Value} {xs : List Value}, w.ownsRow base e s v n xs → (v.ownBlock = none ∨ v.ownBlock ≠ vl.ownBlock) → (w1.setCell ⟨g, 10, none⟩ v1).ownsRow base e s v n xs := fun hv hne => ownsRow_setCell_below (a := ⟨g, 10, none⟩) (keep_row hv hg hne) h.lt _
  have hun : v1.ownBlock = none ∨ vl.ownBlock = v1.ownBlock ∨ ∃ g', v1.ownBlock = some g' ∧ w.heap.size ≤ g' := by
    rcases hb with hb | hb
    · exact .inr (.inl hb.symm)
    · exact .inr (.inr ⟨_, hb, by simp⟩)
  refine ⟨⟨hq.set 10 v1, h.lt, kp h.sed (own_type h.sed h.lin (fun e => str_ne8 e.symm)), kp h.inp h.apart, ?_, kp h.fil (own_type h.fil h.lin file_neS), h.fvn, fun i h1 h2 => kp (h.fvb i h1 h2) (own_type (h.fvb i h1 h2) h.lin (fun e => str_ne8 e.symm)), h.fvs, own_new h.lin hun vi h.inp h.apart⟩, ?_, hq⟩
  · have : (BM.doR r c).2.lines.length = c.lines.length + 1 := by simp [BM.doR]
    rw [this]
    have e : (BM.doR r c).2.lines.map strV = c.lines.map strV ++ [strV r] := by simp [BM.doR]
    rw [e]
    exact ownsRow_setCell_below (a := ⟨g, 10, none⟩) ho h.lt _
  · exact (only_grown ((Only.refl _ w).alloc o) hg (fun k hk => .inr (h.lin.lt k hk).1)).setCell (p := ⟨g, 10, none⟩) (.inl rfl) _
set_option maxHeartbeats 2000000 in
set_option maxRecDepth 100000 in
theorem do_any (r : List UInt8) (w : World) (g base : Nat) (c : Cs) (hC : CaseAt w g base c) (hS : Small c) (hbase : base ≤ w.heap.size) : Calls Tryd.prog 49 #[.pointer (some ⟨g, 0, none⟩), strV r] w (ReadIs (BM.doR r c) g base w) := by
  obtain ⟨i0, hi, hz0, hz1, hz2⟩ := info_parts infoStr
  obtain ⟨vs, vi, vf, vl, fv, h⟩ := hC
  have k10 : w.cell? ⟨g, 10, none⟩ = some vl := h.blk.cell 10
  obtain ⟨la, lc, hvl⟩ := own_slice h.lin
  have hlen := hS.lines
  have hgw : g < w.heap.size := h.blk.lt
  have hmain := fun w1 v1 hg ho hb => h.line (w1 := w1) (v1 := v1) r (o := .cells #[strV r] 9) hg ho hb hbase
  have hlin := h.lin
  subst hvl
  replace hmain := Lib.hid hmain
  replace hlin := Lib.hid hlin
  clear h hS
  go_enter Tryd.func49, Tryd.ntmps49
  go_wp2_with (at_builtin; refine wpList_append_own_at _ rfl (.tmp 9) (.tmp 11) 24 rfl base 9 i0 (.string ⟨#[]⟩) 1 16 Tryd.underlying24 hi hz0 hz1 hz2 rfl (by decide) _ _ _ rfl (hlin.out.alloc _) ⟨w.heap.size, 0, none⟩ 1 1 [strV r] rfl rfl (cells_new _ _ rfl _ [strV r]) (by intro u hu; simp only [List.mem_cons, List.not_mem_nil, or_false] at hu; subst hu; rfl) (by unfold maxLen; omega) (by omega) (by simp; omega) ?_; intro v1 w1 hown1 hgrow1 hnil1 hat1; obtain ⟨m1, m2, m3⟩ := hmain.out w1 v1 hgrow1 hown1 hat1; have j10 : w1.cell? ⟨g, 10, none⟩ = _ := m3.cell 10; have j11 := m3.free 10; obtain ⟨a1, c1, rfl⟩ := own_slice hown1)
  go_ret
  exact ⟨rfl, ⟨_, _, _, _, _, m1⟩, m2⟩
end Go.Proofs.YtaginadnaajleaaDoor
