/-
  Memory that is written over: cells of some blocks turn, but each keeps its kind; of chapter 20.
  Conditions: as each theorem states them.
-/
import Derived.Test.YtepdfkgadigafaaGreatDoorMem
namespace Go.Proofs.YtepdfkgadigafaaGreatDoor
open Go.RowKit
set_option linter.unusedVariables false
set_option linter.unusedSimpArgs false
/-- a cell, and what it may have become: the same, or another byte, truth, or a text that is no more than so much longer -/
inductive Like (N : Nat) : Option Value → Option Value → Prop
  | same (x : Option Value) : Like N x x
  | byte (a b : Int) : Like N (some (.int .u8 a)) (some (.int .u8 b))
  | truth (a b : Bool) : Like N (some (.bool a)) (some (.bool b))
  | text (s t : ByteArray) (h : t.size ≤ s.size + N) : Like N (some (.string s)) (some (.string t))
theorem Like.mono {N M : Nat} {x y : Option Value} (h : Like N x y) (hm : N ≤ M) : Like M x y := by
  cases h with
  | same => exact .same _
  | byte a b => exact .byte a b
  | truth a b => exact .truth a b
  | text s t h => exact .text s t (by omega)
theorem Like.byte_of {N : Nat} {a : Int} {y : Option Value} (h : Like N (some (.int .u8 a)) y) : ∃ b, y = some (.int .u8 b) := by cases h <;> exact ⟨_, rfl⟩
theorem Like.truth_of {N : Nat} {a : Bool} {y : Option Value} (h : Like N (some (.bool a)) y) : ∃ b, y = some (.bool b) := by cases h <;> exact ⟨_, rfl⟩
theorem Like.text_of {N : Nat} {s : ByteArray} {y : Option Value} (h : Like N (some (.string s)) y) : ∃ t, y = some (.string t) ∧ t.size ≤ s.size + N := by
  cases h with
  | same => exact ⟨_, rfl, by omega⟩
  | text s t h => exact ⟨_, rfl, h⟩
theorem Like.slice_of {N : Nat} {a : Option Addr} {n c : Nat} {y : Option Value} (h : Like N (some (.slice a n c)) y) : y = some (.slice a n c) := by cases h; rfl
/-- the blocks from lo to hi have turned, cell by cell of their kind; nothing else has -/
structure Mut (lo hi N : Nat) (W0 W : World) : Prop where
  only : Only (fun k => lo ≤ k ∧ k < hi) W0 W
  like : ∀ p o, lo ≤ p → p < hi → Like N (W0.cell? ⟨p, o, none⟩) (W.cell? ⟨p, o, none⟩)
  frz : ∀ p o, lo ≤ p → p < hi → W.frozen? ⟨p, o, none⟩ = W0.frozen? ⟨p, o, none⟩
theorem Mut.refl (lo hi N : Nat) (W : World) : Mut lo hi N W W := ⟨Only.refl _ _, fun _ _ _ _ => .same _, fun _ _ _ _ => rfl⟩
theorem Mut.mono {lo hi N M : Nat} {W0 W : World} (h : Mut lo hi N W0 W) (hm : N ≤ M) : Mut lo hi M W0 W := ⟨h.only, fun p o h1 h2 => (h.like p o h1 h2).mono hm, h.frz⟩
theorem Mut.drew {lo hi N : Nat} {W0 W : World} (h : Mut lo hi N W0 W) : Mut lo hi N W0 W.drew := ⟨h.only.drew, h.like, h.frz⟩
theorem Mut.set {lo hi N M : Nat} {W0 W : World} (h : Mut lo hi N W0 W) (hm : N ≤ M) {p o : Nat} (h1 : lo ≤ p) (h2 : p < hi) (v : Value) {u : Value} (hu : W.cell? ⟨p, o, none⟩ = some u) (hv : Like M (W0.cell? ⟨p, o, none⟩) (some v)) : Mut lo hi M W0 (W.setCell ⟨p, o, none⟩ v) := by
  refine ⟨h.only.setCell (p := ⟨p, o, none⟩) ⟨h1, h2⟩ v, fun q r hq1 hq2 => ?_, fun q r hq1 hq2 => ?_⟩
  · by_cases e : q = p ∧ r = o
    · obtain ⟨rfl, rfl⟩ := e
      rw [World.cell?_setCell_same _ _ _ hu]
      exact hv
    · rw [World.cell?_setCell_other _ _ _ _ (fun e2 => e (by injection e2 with e3 e4; exact ⟨e3.symm, e4.symm⟩))]
      exact (h.like q r hq1 hq2).mono hm
  · rw [← h.frz q r hq1 hq2]
    exact World.frozen?_setCell _ _ _ _
/-- a row of cells in those blocks: where it lies, and that it may be written -/
theorem Mut.row {lo hi N : Nat} {W0 W : World} (h : Mut lo hi N W0 W) (h0 : 0 < lo) {a : Option Addr} {cs : List Value} (hc : CellsI lo hi W0 a cs) (hn : 0 < cs.length) :
    ∃ p o, a = some ⟨p, o, none⟩ ∧ lo ≤ p ∧ p < hi ∧ ∀ i (hi : i < cs.length), W0.cell? ⟨p, o + i, none⟩ = some cs[i] ∧ Like N (some cs[i]) (W.cell? ⟨p, o + i, none⟩) ∧ W.frozen? ⟨p, o + i, none⟩ = false := by
  obtain ⟨p, o, e, h1, h2, h3⟩ := hc hn
  refine ⟨p, o, e, h1, h2, fun i hi => ?_⟩
  obtain ⟨k1, k2⟩ := h3 i hi
  exact ⟨k1, k1 ▸ h.like p (o + i) h1 h2, (h.frz p (o + i) h1 h2).trans (k2 h0)⟩
end Go.Proofs.YtepdfkgadigafaaGreatDoor
