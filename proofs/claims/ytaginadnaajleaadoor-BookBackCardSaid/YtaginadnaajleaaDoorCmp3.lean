/-
  A case that comes in as data; of chapter 32.
  Conditions: as each theorem states them.
-/
import Derived.Test.YtaginadnaajleaaDoorFla
import Derived.Test.YtaginadnaajleaaDoorReads
namespace Go.Proofs.YtaginadnaajleaaDoor
open Go.RowKit
set_option linter.unusedVariables false
set_option linter.unusedSimpArgs false
open BM (Cs)
/-- a file as data -/
abbrev rFile : Rp (List UInt8 × List UInt8 × Unit) := rPair rStr (rPair (rSl rByte) rUnit)
abbrev rCase := (rPair (rSl rByte) (rPair (rPair rBool (rPair rBool (rPair rBool (rPair rBool (rPair (rSl rStr) rUnit))))) (rPair (rSl rFile) (rPair (rInt .i64) (rPair (rInt .i64) (rPair (rInt .i64) (rPair (rSl rStr) rUnit)))))))
theorem row_lt {α : Type} {A : Rp α} {w : World} {b off : Nat} {xs : List α} (h : RowAt A (Sub.all w) b off xs) (h0 : 0 < xs.length) : b < w.heap.size := by
  obtain ⟨cs, _, h6⟩ := h 0 h0
  exact h6.lt (Sub.all_in w)
theorem read_bys {w : World} {cs : List Value} {xs : List UInt8} (h : (rSl rByte).ok (Sub.all w) cs xs) : ∃ a c, cs = [.slice a xs.length c] ∧ xs.length ≤ maxLen ∧ BysAt w (.slice a xs.length c) xs := by
  obtain ⟨a, cap, h1, h2, h3, h4⟩ := h
  refine ⟨a, cap, h1, Nat.le_trans h2 h3, a, cap, rfl, fun e => ?_, fun h0 => ?_⟩
  · rcases Nat.eq_zero_or_pos xs.length with h0 | h0
    · exact h0
    · obtain ⟨b, off, e2, _⟩ := h4 h0
      rw [e] at e2; cases e2
  · obtain ⟨b, off, e, h5⟩ := h4 h0
    exact ⟨b, off, e, row_lt h5 h0, h5.bytes (Sub.all_in w)⟩
theorem str_is {s : ByteArray} {x : List UInt8} (h : s.data.toList = x) : Value.string s = strV x := by
  subst h
  show Value.string s = Value.string ⟨s.data.toList.toArray⟩
  rw [Array.toArray_toList]
theorem read_txts {w : World} {cs : List Value} {ts : List (List UInt8)} (h : (rSl rStr).ok (Sub.all w) cs ts) : ∃ a c, cs = [.slice a ts.length c] ∧ ts.length ≤ maxLen ∧ TxtsAt w (.slice a ts.length c) ts := by
  obtain ⟨a, cap, h1, h2, h3, h4⟩ := h
  refine ⟨a, cap, h1, Nat.le_trans h2 h3, a, cap, rfl, fun e => ?_, fun h0 => ?_⟩
  · rcases Nat.eq_zero_or_pos ts.length with h0 | h0
    · exact h0
    · obtain ⟨b, off, e2, _⟩ := h4 h0
      rw [e] at e2; cases e2
  · obtain ⟨b, off, e, h5⟩ := h4 h0
    refine ⟨b, off, e, row_lt h5 h0, fun i hi => ?_⟩
    obtain ⟨cs, ⟨s, rfl, h7, _⟩, h8⟩ := h5 i hi
    have h9 := h8.cell (Sub.all_in w) (j := 0) (by simp)
    rw [← str_is h7]
    simpa [rStr] using h9
theorem read_files {w : World} {cs : List Value} {fs : List (List UInt8 × List UInt8 × Unit)} (h : (rSl rFile).ok (Sub.all w) cs fs) : ∃ a c, cs = [.slice a fs.length c] ∧ fs.length ≤ maxLen ∧ FsAt w (.slice a fs.length c) (fs.map fun p => (p.1, p.2.1)) := by
  obtain ⟨a, cap, h1, h2, h3, h4⟩ := h
  refine ⟨a, cap, h1, Nat.le_trans h2 h3, a, cap, by rw [List.length_map], fun e => ?_, fun h0 => ?_⟩
  · rw [List.length_map]
    rcases Nat.eq_zero_or_pos fs.length with h0 | h0
    · exact h0
    · obtain ⟨b, off, e2, _⟩ := h4 h0
      rw [e] at e2; cases e2
  · rw [List.length_map] at h0
    obtain ⟨b, off, e, h5⟩ := h4 h0
    refine ⟨b, off, e, row_lt h5 h0, fun i hi => ?_⟩
    rw [List.length_map] at hi
    obtain ⟨cs, ⟨c1, c2, rfl, ⟨s, rfl, h7, _⟩, c3, c4, rfl, h10, h11⟩, h8⟩ := h5 i hi
    obtain ⟨a', cap', rfl, hb1, hb2⟩ := read_bys h10
    have h11' : c4 = [] := h11
    subst h11'
    have g1 := h8.cell (Sub.all_in w) (j := 0) (by simp)
    have g2 := h8.cell (Sub.all_in w) (j := 1) (by simp)
    have en : rFile.n = 2 := rfl
    rw [en] at g1 g2
    simp only [List.getElem_map]
    refine ⟨?_, .slice a' fs[i].2.1.length cap', ?_, hb2⟩
    · rw [← str_is h7]; simpa using g1
    · simpa using g2
theorem int_wf {n : Int} (h : (Lit.int .i64 n).wf = true) : -9223372036854775808 ≤ n ∧ n ≤ 9223372036854775807 := by
  simp [Lit.wf, IntKind.min, IntKind.max, IntKind.signed, IntKind.bits] at h; omega
/-- a case that comes in -/
theorem read_case {w : World} {cs : List Value} {x : _} (h : rCase.ok (Sub.all w) cs x) : ∃ (c : Cs) (sa ia fa la : Option Addr) (sc ic fc lc : Nat),
    cs = [.slice sa c.sed.length sc, .bool c.quiet, .bool c.separate, .bool c.place, .bool c.extended, .slice ia c.inputs.length ic, .slice fa c.files.length fc, .int .i64 c.cap, .int .i64 c.period, .int .i64 c.fuel, .slice la c.lines.length lc] ∧
    CsAt w c (.slice sa c.sed.length sc) (.slice ia c.inputs.length ic) (.slice fa c.files.length fc) (.slice la c.lines.length lc) ∧ (c.sed.length ≤ 9223372036854775807 ∧ c.inputs.length ≤ 9223372036854775807 ∧ c.files.length ≤ 9223372036854775807 ∧ c.lines.length ≤ 9223372036854775807) ∧
    ((-9223372036854775808 ≤ c.cap ∧ c.cap ≤ 9223372036854775807) ∧ (-9223372036854775808 ≤ c.period ∧ c.period ≤ 9223372036854775807) ∧ (-9223372036854775808 ≤ c.fuel ∧ c.fuel ≤ 9223372036854775807)) := by
  obtain ⟨c1, r1, rfl, h1, c2, r2, rfl, h2, c3, r3, rfl, h3, c4, r4, rfl, h4, c5, r5, rfl, h5, c6, r6, rfl, h6, c7, r7, rfl, h7, h8⟩ := h
  obtain ⟨b1, q1, rfl, g1, b2, q2, rfl, g2, b3, q3, rfl, g3, b4, q4, rfl, g4, b5, q5, rfl, g5, g6⟩ := h2
  have e8 : r7 = [] := h8
  have e6 : q5 = [] := g6
  have e1 : b1 = _ := g1
  have e2 : b2 = _ := g2
  have e3 : b3 = _ := g3
  have e4 : b4 = _ := g4
  have i1 : c4 = _ := h4.1
  have i2 : c5 = _ := h5.1
  have i3 : c6 = _ := h6.1
  obtain ⟨sa, sc, rfl, l1, k1⟩ := read_bys h1
  obtain ⟨ia, ic, rfl, l2, k2⟩ := read_txts g5
  obtain ⟨fa, fc, rfl, l3, k3⟩ := read_files h3
  obtain ⟨la, lc, rfl, l4, k4⟩ := read_txts h7
  subst e8 e6 e1 e2 e3 e4 i1 i2 i3
  unfold maxLen at l1 l2 l3 l4
  refine ⟨⟨x.1, x.2.1.1, x.2.1.2.1, x.2.1.2.2.1, x.2.1.2.2.2.1, x.2.1.2.2.2.2.1, x.2.2.1.map fun p => (p.1, p.2.1), x.2.2.2.1, x.2.2.2.2.1, x.2.2.2.2.2.1, x.2.2.2.2.2.2.1⟩, sa, ia, fa, la, sc, ic, fc, lc, ?_, ⟨k1, k2, ?_, k4⟩, ⟨by simp only; omega, by simp only; omega, by simp only [List.length_map]; omega, by simp only; omega⟩, int_wf h4.2, int_wf h5.2, int_wf h6.2⟩
  · simp only [List.length_map]; rfl
  · simp only [List.length_map]; exact k3
end Go.Proofs.YtaginadnaajleaaDoor
