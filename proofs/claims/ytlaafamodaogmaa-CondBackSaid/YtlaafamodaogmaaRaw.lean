/-
  A state that comes in as data lies as 'RawAt' says.
  Conditions: as each theorem states them.
-/
import Derived.Test.YtlaafamodaogmaaGreat
import Derived.Test.YtlaafamodaogmaaReadsW
namespace Go.Proofs.Ytlaafamodaogmaa
open Go.RowKit
set_option linter.unusedVariables false
set_option linter.unusedSimpArgs false
abbrev rWait := rPair (rInt .i64) (rPair (rSlB rByte) rUnit)
abbrev rFile := rPair rStrB (rPair (rSlB rByte) rUnit)
abbrev rState := rPair (rPair (rSlB rByte) (rPair (rSlB rByte) (rPair rBool (rPair (rInt .i64) (rPair rBool (rPair (rInt .i64) rUnit))))))
  (rPair (rPair (rInt .i64) (rPair (rInt .i64) (rPair (rInt .i64) (rPair (rInt .i64) (rPair (rSlB rByte) rUnit)))))
  (rPair (rPair (rSlB rByte) (rPair rBool (rPair (rSlB rByte) (rPair rBool rUnit))))
  (rPair (rInt .i64) (rPair (rInt .i64) (rPair (rInt .i64) (rPair (rInt .i64) (rPair (rInt .i64) (rPair rBool (rPair rBool (rPair rBool
  (rPair (rSlB rBool) (rPair (rSlB rWait) (rPair (rSlB rFile) (rPair (rSlB rBool) rUnit))))))))))))))
theorem bytes_of {W : World} {v : List Value} {xs : List UInt8} (h : (rSlB rByte).ok (Sub.all W) v xs) : ∃ a c, v = [.slice a xs.length c] ∧ BytesAt W a xs ∧ xs.length ≤ 140737488351232 ∧ xs.length ≤ c := by
  obtain ⟨⟨a, c, e, hcp, _, hr⟩, hl⟩ := h
  refine ⟨a, c, e, fun h0 => ?_, by simpa [reachBytes] using hl, hcp⟩
  obtain ⟨b, o, ea, hrow⟩ := hr h0
  have hb := hrow.bytes (Sub.all_in W)
  exact ⟨b, o, ea, World.block_lt_of_cell? W ⟨b, o + 0, none⟩ (hb 0 h0), hb⟩
theorem sl_of {α : Type} {A : Rp α} {W : World} {v : List Value} {xs : List α} (h : (rSlB A).ok (Sub.all W) v xs) : ∃ a c, v = [.slice a xs.length c] ∧ xs.length ≤ 140737488351232 ∧ (0 < xs.length → ∃ b o, a = some ⟨b, o, none⟩ ∧ RowAt A (Sub.all W) b o xs) := by
  obtain ⟨⟨a, c, e, _, _, hr⟩, hl⟩ := h
  exact ⟨a, c, e, by simpa [reachBytes] using hl, hr⟩
theorem wf64 {m : Int} (wm : (Lit.int .i64 m).wf = true) : -9223372036854775808 ≤ m ∧ m ≤ 9223372036854775807 := by
  simp [Lit.wf, IntKind.min, IntKind.max, IntKind.signed, IntKind.bits] at wm; omega
theorem strV_eq {s : ByteArray} {x : List UInt8} (h : s.data.toList = x) : Value.string s = strV x := by
  subst h
  show Value.string s = Value.string ⟨s.data.toList.toArray⟩
  rw [Array.toArray_toList]
theorem waits_of {W : World} {a : Option Addr} {xs : List (Int × List UInt8 × Unit)} (hr : 0 < xs.length → ∃ b o, a = some ⟨b, o, none⟩ ∧ RowAt rWait (Sub.all W) b o xs) :
    ∃ l : List Wt, l.length = xs.length ∧ WaitsRaw W a l := by
  by_cases h0 : 0 < xs.length
  · obtain ⟨b, o, e, hrow⟩ := hr h0
    have hx : ∀ i, i < xs.length → ∃ y : Wt, W.cell? ⟨b, o + i * 2, none⟩ = some (.int .i64 y.kind) ∧ W.cell? ⟨b, o + i * 2 + 1, none⟩ = some (.slice y.sl.a y.bytes.length y.sl.c) ∧ BytesAt W y.sl.a y.bytes ∧ y.bytes.length ≤ 140737488351232 := by
      intro i hi
      obtain ⟨cs, ⟨c1, c2, e1, ⟨e2, _⟩, c3, c4, e3, h3, e4⟩, hc⟩ := hrow i hi
      obtain ⟨sa, sc, e5, hb, hl, _⟩ := bytes_of h3
      subst e1 e2 e3 e5
      have h1 := hc.cell (Sub.all_in W) (j := 0) (by simp)
      have h2 := hc.cell (Sub.all_in W) (j := 1) (by simp)
      exact ⟨⟨xs[i].1, ⟨sa, xs[i].2.1.length, sc⟩, xs[i].2.1⟩, h1, h2, hb, hl⟩
    have : Inhabited Wt := ⟨⟨0, ⟨none, 0, 0⟩, []⟩⟩
    obtain ⟨f, hf⟩ := Deep.choose_lt (α := Wt) hx
    refine ⟨(List.range xs.length).map f, by simp, fun _ => ⟨b, o, e, ?_, fun i hi => ?_⟩⟩
    · exact World.block_lt_of_cell? W ⟨b, o + 0 * 2, none⟩ (hf 0 h0).1
    · have hi' : i < xs.length := by simpa using hi
      rw [List.getElem_map, List.getElem_range]
      exact hf i hi'
  · exact ⟨[], by simp; omega, fun h => by simp at h⟩
theorem files_of {W : World} {a : Option Addr} {xs : List (List UInt8 × List UInt8 × Unit)} (hr : 0 < xs.length → ∃ b o, a = some ⟨b, o, none⟩ ∧ RowAt rFile (Sub.all W) b o xs) :
    ∃ l : List Fb, l.length = xs.length ∧ FilesRaw W a l ∧ ∀ f ∈ l, f.fl.n = f.bytes.length := by
  by_cases h0 : 0 < xs.length
  · obtain ⟨b, o, e, hrow⟩ := hr h0
    have hx : ∀ i, i < xs.length → ∃ y : Fb, (W.cell? ⟨b, o + i * 2, none⟩ = some (strV y.fl.name) ∧ W.cell? ⟨b, o + i * 2 + 1, none⟩ = some (.slice y.fl.a y.bytes.length y.fl.c) ∧ BytesAt W y.fl.a y.bytes ∧ y.fl.name.length ≤ 140737488351232 ∧ y.bytes.length ≤ 140737488351232) ∧ y.fl.n = y.bytes.length := by
      intro i hi
      obtain ⟨cs, ⟨c1, c2, e1, ⟨s, e2, es, hs⟩, c3, c4, e3, h3, e4⟩, hc⟩ := hrow i hi
      obtain ⟨sa, sc, e5, hb, hl, _⟩ := bytes_of h3
      subst e1 e2 e3 e5
      have h1 := hc.cell (Sub.all_in W) (j := 0) (by simp)
      have h2 := hc.cell (Sub.all_in W) (j := 1) (by simp)
      refine ⟨⟨⟨xs[i].1, sa, xs[i].2.1.length, sc⟩, xs[i].2.1⟩, ⟨?_, h2, hb, ?_, hl⟩, rfl⟩
      · rw [← strV_eq es]; exact h1
      · rw [← es, Array.length_toList]; simpa [reachBytes] using hs
    have : Inhabited Fb := ⟨⟨⟨[], none, 0, 0⟩, []⟩⟩
    obtain ⟨f, hf⟩ := Deep.choose_lt (α := Fb) hx
    refine ⟨(List.range xs.length).map f, by simp, fun _ => ⟨b, o, e, ?_, fun i hi => ?_⟩, fun y hy => ?_⟩
    · exact World.block_lt_of_cell? W ⟨b, o + 0 * 2, none⟩ (hf 0 h0).1.1
    · have hi' : i < xs.length := by simpa using hi
      rw [List.getElem_map, List.getElem_range]
      exact (hf i hi').1
    · obtain ⟨i, hi, rfl⟩ := List.mem_map.1 hy
      exact (hf i (List.mem_range.1 hi)).2
  · exact ⟨[], by simp; omega, fun h => by simp at h, fun f h => by cases h⟩
theorem raw_of {W : World} {cs : List Value} {x} (h : rState.ok (Sub.all W) cs x) : ∃ s b, cs = s.cells ∧ RawAt W s b := by
  obtain ⟨xr, xi, xo, x1, x2, x3, x4, x5, x6, x7, x8, x9, x10, x11, x12, xu⟩ := x
  obtain ⟨y1, y2, y3, y4, y5, y6, yu⟩ := xr
  obtain ⟨z1, z2, z3, z4, z5, zu⟩ := xi
  obtain ⟨v1, v2, v3, v4, vu⟩ := xo
  obtain ⟨p0, q0, r0, ⟨a1, k1, f1, g1, a2, k2, f2, g2, a3, k3, f3, g3, a4, k4, f4, ⟨g4, w4⟩, a5, k5, f5, g5, a6, k6, f6, ⟨g6, w6⟩, g7⟩, h⟩ := h
  obtain ⟨p1, q1, r1, ⟨b1, l1, i1, ⟨j1, u1⟩, b2, l2, i2, ⟨j2, u2⟩, b3, l3, i3, ⟨j3, u3⟩, b4, l4, i4, ⟨j4, u4⟩, b5, l5, i5, j5, j6⟩, h⟩ := h
  obtain ⟨p2, q2, r2, ⟨d1, m1, n1, o1, d2, m2, n2, o2, d3, m3, n3, o3, d4, m4, n4, o4, o5⟩, h⟩ := h
  obtain ⟨e1, s1, t1, ⟨c1, v1'⟩, e2, s2, t2, ⟨c2, v2'⟩, e3, s3, t3, ⟨c3, v3'⟩, e4, s4, t4, ⟨c4, v4'⟩, e5, s5, t5, ⟨c5, v5'⟩, e6, s6, t6, c6, e7, s7, t7, c7, e8, s8, t8, c8, e9, s9, t9, c9, e10, s10, t10, c10, e11, s11, t11, c11, e12, s12, t12, c12, c13⟩ := h
  obtain ⟨pa, pc, pe, pB, pL, pC⟩ := bytes_of g1
  obtain ⟨ha, hc, he, hB, hL, hC⟩ := bytes_of g2
  obtain ⟨ra, rc, re, rB, rL, rC⟩ := bytes_of j5
  obtain ⟨oa, oc, oe, oB, oL, oC⟩ := bytes_of o1
  obtain ⟨la, lc, le, lB, lL, lC⟩ := bytes_of o3
  obtain ⟨aa, ac, ae, aL, _⟩ := sl_of c9
  obtain ⟨wa, wc, we, wL, wR⟩ := sl_of c10
  obtain ⟨fa, fc, fe, fL, fR⟩ := sl_of c11
  obtain ⟨ka, kc, ke, kL, _⟩ := sl_of c12
  obtain ⟨lw, lwn, lwr⟩ := waits_of wR
  obtain ⟨lf, lfn, lfr, lfl⟩ := files_of fR
  refine ⟨⟨⟨pa, y1.length, pc⟩, ⟨ha, y2.length, hc⟩, y3, y4, y5, y6, z1, z2, z3, z4, ⟨ra, z5.length, rc⟩, ⟨oa, v1.length, oc⟩, v2, ⟨la, v3.length, lc⟩, v4, x1, x2, x3, x4, x5, x6, x7, x8, ⟨aa, x9.length, ac⟩, ⟨wa, lw.length, wc⟩, ⟨fa, lf.length, fc⟩, ⟨ka, x12.length, kc⟩⟩, ⟨y1, y2, z5, v1, v3, lw, lf⟩, ?_,
    ⟨rfl, rfl, rfl, rfl, rfl, pL, hL, rL, oL, lL, aL, kL, pC, hC, rC, oC, pB, hB, rB, oB, lB, rfl, Nat.le_trans (Nat.le_of_eq lwn) wL, lwr, rfl, Nat.le_trans (Nat.le_of_eq lfn) fL, lfr, lfl, wf64 w4, wf64 w6, wf64 u3, wf64 u4, wf64 v2', wf64 v1', wf64 v3', wf64 v4', wf64 v5'⟩⟩
  have g3' : a3 = [.bool y3] := g3
  have g5' : a5 = [.bool y5] := g5
  have g7' : k6 = [] := g7
  have j6' : l5 = [] := j6
  have o2' : d2 = [.bool v2] := o2
  have o4' : d4 = [.bool v4] := o4
  have o5' : m4 = [] := o5
  have c6' : e6 = [.bool x6] := c6
  have c7' : e7 = [.bool x7] := c7
  have c8' : e8 = [.bool x8] := c8
  have c13' : s12 = [] := c13
  rw [r0, f1, pe, f2, he, f3, g3', f4, g4, f5, g5', f6, g6, g7', r1, i1, j1, i2, j2, i3, j3, i4, j4, i5, re, j6', r2, n1, oe, n2, o2', n3, le, n4, o4', o5', t1, c1, t2, c2, t3, c3, t4, c4, t5, c5, t6, c6', t7, c7', t8, c8', t9, ae, t10, we, t11, fe, t12, ke, c13', lwn, lfn]
  rfl
end Go.Proofs.Ytlaafamodaogmaa
