/-
  A state that comes in as data lies in memory as 'SIn' says.
  Conditions: as each theorem states them.
-/
import Derived.Test.YtfidmpkblmebeaaMem
import Derived.Test.YtfidmpkblmebeaaReadsW
namespace Go.Proofs.Ytfidmpkblmebeaa
open Go.RowKit
set_option linter.unusedVariables false
set_option linter.unusedSimpArgs false
abbrev rWait := rPair (rInt .i64) (rPair (rSlB rByte) rUnit)
abbrev rFile := rPair rStrB (rPair (rSlB rByte) rUnit)
abbrev rState := rPair (rPair (rSlB rByte) (rPair (rSlB rByte) (rPair rBool (rPair (rInt .i64) (rPair rBool (rPair (rInt .i64) rUnit))))))
  (rPair (rPair (rInt .i64) (rPair (rInt .i64) (rPair (rInt .i64) (rPair (rInt .i64) (rPair (rSlB rByte) rUnit)))))
  (rPair (rPair (rSlB rByte) (rPair rBool (rPair (rSlB rByte) (rPair rBool rUnit))))
  (rPair (rInt .i64) (rPair (rInt .i64) (rPair (rInt .i64) (rPair (rInt .i64) (rPair (rInt .i64) (rPair rBool (rPair rBool (rPair rBool
  (rPair (rSlB rBool) (rPair (rSlB rWait) (rPair (rSlB rFile) (rPair (rSlB rBool) rUnit))))))))))))))
theorem wf64 {m : Int} (wm : (Lit.int .i64 m).wf = true) : -9223372036854775808 ≤ m ∧ m ≤ 9223372036854775807 := by
  simp [Lit.wf, IntKind.min, IntKind.max, IntKind.signed, IntKind.bits] at wm; omega
theorem strV_eq {s : ByteArray} {x : List UInt8} (h : s.data.toList = x) : Value.string s = strV x := by
  subst h
  show Value.string s = Value.string ⟨s.data.toList.toArray⟩
  rw [Array.toArray_toList]
theorem sl_of {α : Type} {A : Rp α} {W : World} {v : List Value} {xs : List α} (h : (rSlB A).ok (Sub.all W) v xs) : ∃ a c, v = [.slice a xs.length c] ∧ xs.length ≤ c ∧ xs.length ≤ 140737488351232 ∧ (0 < xs.length → ∃ b o, a = some ⟨b, o, none⟩ ∧ RowAt A (Sub.all W) b o xs) := by
  obtain ⟨⟨a, c, e, hcp, _, hr⟩, hl⟩ := h
  exact ⟨a, c, e, hcp, by simpa [reachBytes] using hl, hr⟩
theorem tx_of {W : World} {v : List Value} {xs : List UInt8} (h : (rSlB rByte).ok (Sub.all W) v xs) : ∃ s : Sl3, v = [s.v] ∧ TxI 0 W.heap.size W s xs := by
  obtain ⟨a, c, e, hc, hl, hr⟩ := sl_of h
  refine ⟨⟨a, xs.length, c⟩, e, rfl, hc, hl, fun h0 => ?_⟩
  rw [bc_len] at h0
  obtain ⟨b, o, ea, hrow⟩ := hr h0
  have hb := hrow.bytes (Sub.all_in W)
  refine ⟨b, o, ea, Nat.zero_le _, World.block_lt_of_cell? W ⟨b, o + 0, none⟩ (hb 0 h0), fun i hi => ⟨?_, fun h0 => absurd h0 (Nat.lt_irrefl 0)⟩⟩
  rw [bc_len] at hi
  rw [hb i hi]
  simp [Lib.byteCells]
theorem bl_of {W : World} {v : List Value} {xs : List Bool} (h : (rSlB rBool).ok (Sub.all W) v xs) : ∃ s : Sl3, v = [s.v] ∧ BlI 0 W.heap.size W s xs := by
  obtain ⟨a, c, e, hc, hl, hr⟩ := sl_of h
  refine ⟨⟨a, xs.length, c⟩, e, rfl, hc, hl, fun h0 => ?_⟩
  rw [List.length_map] at h0
  obtain ⟨b, o, ea, hrow⟩ := hr h0
  have hcell : ∀ i (hi : i < xs.length), W.cell? ⟨b, o + i, none⟩ = some (.bool xs[i]) := fun i hi => by
    obtain ⟨cs, h1, hc⟩ := hrow i hi
    have h1' : cs = [.bool xs[i]] := h1
    subst h1'
    have := hc.cell (Sub.all_in W) (j := 0) (by simp)
    simpa [rBool] using this
  refine ⟨b, o, ea, Nat.zero_le _, World.block_lt_of_cell? W ⟨b, o + 0, none⟩ (hcell 0 h0), fun i hi => ⟨?_, fun h0 => absurd h0 (Nat.lt_irrefl 0)⟩⟩
  rw [List.length_map] at hi
  rw [hcell i hi, List.getElem_map]
theorem zip_get {α β : Type} {l : List α} {m : List β} {i : Nat} (h1 : i < l.length) (h2 : i < m.length) (h : i < (l.zip m).length) : (l.zip m)[i] = (l[i], m[i]) := by simp
theorem pr_of {α : Type} {A : Rp α} {f : α → Value} (hf : ∀ {W : World} {cs : List Value} {x : α}, A.ok (Sub.all W) cs x → cs = [f x]) (hn : A.n = 1) {W : World} {v : List Value} {xs : List (α × List UInt8 × Unit)} (h : (rSlB (rPair A (rPair (rSlB rByte) rUnit))).ok (Sub.all W) v xs) : ∃ s : Sl3, v = [s.v] ∧ PrI f 0 W.heap.size W s (xs.map fun x => (x.1, x.2.1)) := by
  obtain ⟨a, c, e, hc, hl, hr⟩ := sl_of h
  refine ⟨⟨a, xs.length, c⟩, e, by simp, by simpa using hc, by simpa using hl, ?_⟩
  by_cases h0 : 0 < xs.length
  · obtain ⟨b, o, ea, hrow⟩ := hr h0
    have hx : ∀ i, i < xs.length → ∃ y : Sl3, ∀ (hi : i < xs.length), W.cell? ⟨b, o + i * 2, none⟩ = some (f xs[i].1) ∧ W.cell? ⟨b, o + i * 2 + 1, none⟩ = some y.v ∧ TxI 0 W.heap.size W y xs[i].2.1 := by
      intro i hi
      obtain ⟨cs, ⟨c1, c2, e1, h2, c3, c4, e3, h3, e4⟩, hc⟩ := hrow i hi
      have e2 := hf h2
      have e4' : c4 = [] := e4
      obtain ⟨y, e5, hy⟩ := tx_of h3
      subst e1 e2 e3 e5 e4'
      have hnn : (rPair A (rPair (rSlB rByte) rUnit)).n = 2 := by simp [rPair, rSlB, rUnit, hn]
      rw [hnn] at hc
      have h1 := hc.cell (Sub.all_in W) (j := 0) (by simp)
      have h2 := hc.cell (Sub.all_in W) (j := 1) (by simp)
      exact ⟨y, fun _ => ⟨by simpa using h1, by simpa using h2, hy⟩⟩
    have : Inhabited Sl3 := ⟨⟨none, 0, 0⟩⟩
    obtain ⟨g, hg⟩ := Deep.choose_lt (α := Sl3) hx
    refine ⟨(List.range xs.length).map g, by simp, fun _ => ⟨b, o, ea, Nat.zero_le _, World.block_lt_of_cell? W ⟨b, o + 0 * 2, none⟩ (hg 0 h0 h0).1, fun k hk => ⟨?_, fun h0 => absurd h0 (Nat.lt_irrefl 0)⟩⟩, fun i hi h' => ?_⟩
    · rw [pairs_len, List.length_zip] at hk
      simp only [List.length_map, List.length_range, Nat.min_self] at hk
      have hi : k / 2 < xs.length := by omega
      obtain ⟨q1, q2, _⟩ := hg (k / 2) hi hi
      have hz : k / 2 < ((List.map (fun p : α × List UInt8 => f p.1) (List.map (fun x => (x.1, x.2.1)) xs)).zip ((List.range xs.length).map g)).length := by simpa using hi
      obtain ⟨z1, z2⟩ := pairs_get _ (k / 2) hz
      rw [zip_get (by simpa using hi) (by simpa using hi) hz] at z1 z2
      simp only [List.getElem_map, List.getElem_range] at z1 z2
      rcases Nat.mod_two_eq_zero_or_one k with hm | hm
      · have e : k / 2 * 2 = k := by omega
        rw [e] at z1 q1
        rw [q1]
        obtain ⟨_, z3⟩ := List.getElem?_eq_some_iff.1 z1
        rw [z3]
      · have e : k / 2 * 2 + 1 = k := by omega
        rw [e] at z2
        rw [show o + k / 2 * 2 + 1 = o + k by omega] at q2
        rw [q2]
        obtain ⟨_, z3⟩ := List.getElem?_eq_some_iff.1 z2
        rw [z3]
    · have hi' : i < xs.length := by simpa using hi
      simp only [List.getElem_map, List.getElem_range]
      exact (hg i hi' hi').2.2
  · have : xs = [] := List.eq_nil_of_length_eq_zero (by omega)
    subst this
    exact ⟨[], rfl, fun h => by simp [pairCells] at h, fun i h => by simp at h⟩
theorem names_of {W : World} {v : List Value} {xs : List (List UInt8 × List UInt8 × Unit)} (h : (rSlB rFile).ok (Sub.all W) v xs) : ∀ x ∈ xs, x.1.length ≤ 140737488351232 := by
  obtain ⟨a, c, e, hc, hl, hr⟩ := sl_of h
  intro x hx
  obtain ⟨i, hi, rfl⟩ := List.mem_iff_getElem.1 hx
  obtain ⟨b, o, ea, hrow⟩ := hr (by omega)
  obtain ⟨cs, ⟨c1, c2, e1, ⟨s, e2, es, hs⟩, _⟩, _⟩ := hrow i hi
  rw [← es, Array.length_toList]
  simpa [reachBytes] using hs
/-- numbers fit 64 bits -/
structure ScOk (s : Sc) : Prop where
  line : -9223372036854775808 ≤ s.line ∧ s.line ≤ 9223372036854775807
  last : -9223372036854775808 ≤ s.last ∧ s.last ≤ 9223372036854775807
  next : -9223372036854775808 ≤ s.next ∧ s.next ≤ 9223372036854775807
  opn : -9223372036854775808 ≤ s.opn ∧ s.opn ≤ 9223372036854775807
  cur : -9223372036854775808 ≤ s.cur ∧ s.cur ≤ 9223372036854775807
  missing : -9223372036854775808 ≤ s.missing ∧ s.missing ≤ 9223372036854775807
  phase : -9223372036854775808 ≤ s.phase ∧ s.phase ≤ 9223372036854775807
  pc : -9223372036854775808 ≤ s.pc ∧ s.pc ≤ 9223372036854775807
  exit : -9223372036854775808 ≤ s.exit ∧ s.exit ≤ 9223372036854775807
  stop : -9223372036854775808 ≤ s.stop ∧ s.stop ≤ 9223372036854775807
  err : -9223372036854775808 ≤ s.err ∧ s.err ≤ 9223372036854775807
theorem zero_ok : ScOk zeroV.sc := ⟨by decide, by decide, by decide, by decide, by decide, by decide, by decide, by decide, by decide, by decide, by decide⟩
theorem sin_of {W : World} {cs : List Value} {x} (h : rState.ok (Sub.all W) cs x) : ∃ s V, cs = s.cells ∧ SIn 0 W.heap.size s V W ∧ ScOk V.sc ∧ ∀ x ∈ V.files, x.1.length ≤ 140737488351232 := by
  obtain ⟨xr, xi, xo, x1, x2, x3, x4, x5, x6, x7, x8, x9, x10, x11, x12, xu⟩ := x
  obtain ⟨y1, y2, y3, y4, y5, y6, yu⟩ := xr
  obtain ⟨z1, z2, z3, z4, z5, zu⟩ := xi
  obtain ⟨v1, v2, v3, v4, vu⟩ := xo
  obtain ⟨p0, q0, r0, ⟨a1, k1, f1, g1, a2, k2, f2, g2, a3, k3, f3, g3, a4, k4, f4, ⟨g4, w4⟩, a5, k5, f5, g5, a6, k6, f6, ⟨g6, w6⟩, g7⟩, h⟩ := h
  obtain ⟨p1, q1, r1, ⟨b1, l1, i1, ⟨j1, u1⟩, b2, l2, i2, ⟨j2, u2⟩, b3, l3, i3, ⟨j3, u3⟩, b4, l4, i4, ⟨j4, u4⟩, b5, l5, i5, j5, j6⟩, h⟩ := h
  obtain ⟨p2, q2, r2, ⟨d1, m1, n1, o1, d2, m2, n2, o2, d3, m3, n3, o3, d4, m4, n4, o4, o5⟩, h⟩ := h
  obtain ⟨e1, s1, t1, ⟨c1, v1'⟩, e2, s2, t2, ⟨c2, v2'⟩, e3, s3, t3, ⟨c3, v3'⟩, e4, s4, t4, ⟨c4, v4'⟩, e5, s5, t5, ⟨c5, v5'⟩, e6, s6, t6, c6, e7, s7, t7, c7, e8, s8, t8, c8, e9, s9, t9, c9, e10, s10, t10, c10, e11, s11, t11, c11, e12, s12, t12, c12, c13⟩ := h
  obtain ⟨sp, pe, pB⟩ := tx_of g1
  obtain ⟨sh, he, hB⟩ := tx_of g2
  obtain ⟨sr, re, rB⟩ := tx_of j5
  obtain ⟨so, oe, oB⟩ := tx_of o1
  obtain ⟨sl, le, lB⟩ := tx_of o3
  obtain ⟨sa, ae, aB⟩ := bl_of c9
  obtain ⟨sw, we, wB⟩ := pr_of (A := rInt .i64) (f := kindV) (fun h => by obtain ⟨h1, _⟩ := h; exact h1) rfl c10
  obtain ⟨sf, fe, fB⟩ := pr_of (A := rStrB) (f := strV) (fun h => by obtain ⟨s, h1, h2, _⟩ := h; rw [h1, strV_eq h2]) rfl c11
  obtain ⟨sk, ke, kB⟩ := bl_of c12
  refine ⟨⟨sp, sh, y3, y4, y5, y6, z1, z2, z3, z4, sr, so, v2, sl, v4, x1, x2, x3, x4, x5, x6, x7, x8, sa, sw, sf, sk⟩, ⟨⟨y3, y4, y5, y6, z1, z2, z3, z4, v2, v4, x1, x2, x3, x4, x5, x6, x7, x8⟩, y1, y2, z5, v1, v3, x9, x12, x10.map fun x => (x.1, x.2.1), x11.map fun x => (x.1, x.2.1)⟩, ?_,
    ⟨Nat.le_refl _, rfl, pB, hB, rB, oB, lB, aB, kB, wB, fB⟩, ⟨wf64 w4, wf64 w6, wf64 u1, wf64 u2, wf64 u3, wf64 u4, wf64 v1', wf64 v2', wf64 v3', wf64 v4', wf64 v5'⟩, fun x hx => by obtain ⟨y, hy, rfl⟩ := List.mem_map.1 hx; exact names_of c11 y hy⟩
  have g3' : a3 = [.bool y3] := g3
  have g5' : a5 = [.bool y5] := g5
  have g7' : k6 = [] := g7
  have j6' : l5 = [] := j6
  have o2' : d2 = [.bool v2] := o2
  have o4' : d4 = [.bool v4] := o4
  have o5' : m4 = [] := o5
  have c6' : e6 = [.bool x6] := c6
  have c7' : e7 = [.bool x7] := c7
  have c8' : e8 = [.bool x8] := c8
  have c13' : s12 = [] := c13
  rw [r0, f1, pe, f2, he, f3, g3', f4, g4, f5, g5', f6, g6, g7', r1, i1, j1, i2, j2, i3, j3, i4, j4, i5, re, j6', r2, n1, oe, n2, o2', n3, le, n4, o4', o5', t1, c1, t2, c2, t3, c3, t4, c4, t5, c5, t6, c6', t7, c7', t8, c8', t9, ae, t10, we, t11, fe, t12, ke, c13']
  rfl
end Go.Proofs.Ytfidmpkblmebeaa
