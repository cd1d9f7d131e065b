/-
  A state that comes in as data lies in memory as 'SIn' says.
  Conditions: as each theorem states them.
-/
import Derived.Test.YtepdfkgadigafaaGreatDoorMem
import Derived.Test.YtepdfkgadigafaaGreatDoorReadsW
import Derived.Test.YtepdfkgadigafaaGreatDoorGreat
import Derived.Laws.Rows
import Derived.Deep.MidRow
namespace Go.Proofs.YtepdfkgadigafaaGreatDoor
open Go.RowKit
set_option linter.unusedVariables false
set_option linter.unusedSimpArgs false
abbrev rWait := rPair (rInt .i64) (rPair (rSlB rByte) rUnit)
abbrev rFile := rPair rStrB (rPair (rSlB rByte) rUnit)
abbrev rState := rPair (rPair (rSlB rByte) (rPair (rSlB rByte) (rPair rBool (rPair (rInt .i64) (rPair rBool (rPair (rInt .i64) rUnit))))))
  (rPair (rPair (rInt .i64) (rPair (rInt .i64) (rPair (rInt .i64) (rPair (rInt .i64) (rPair (rSlB rByte) rUnit)))))
  (rPair (rPair (rSlB rByte) (rPair rBool (rPair (rSlB rByte) (rPair rBool rUnit))))
  (rPair (rInt .i64) (rPair (rInt .i64) (rPair (rInt .i64) (rPair (rInt .i64) (rPair (rInt .i64) (rPair rBool (rPair rBool (rPair rBool
  (rPair (rSlB rBool) (rPair (rSlB rWait) (rPair (rSlB rFile) (rPair (rSlB rBool) rUnit))))))))))))))
theorem wf64 {m : Int} (wm : (Lit.int .i64 m).wf = true) : -9223372036854775808 ≤ m ∧ m ≤ 9223372036854775807 := by
  simp [Lit.wf, IntKind.min, IntKind.max, IntKind.signed, IntKind.bits] at wm; omega
theorem strV_eq {s : ByteArray} {x : List UInt8} (h : s.data.toList = x) : Value.string s = strV x := by
  subst h
  show Value.string s = Value.string ⟨s.data.toList.toArray⟩
  rw [Array.toArray_toList]
theorem sl_of {α : Type} {A : Rp α} {W : World} {v : List Value} {xs : List α} (h : (rSlB A).ok (Sub.all W) v xs) : ∃ a c, v = [.slice a xs.length c] ∧ xs.length ≤ c ∧ xs.length ≤ 140737488351232 ∧ (0 < xs.length → ∃ b o, a = some ⟨b, o, none⟩ ∧ RowAt A (Sub.all W) b o xs) := by
  obtain ⟨⟨a, c, e, hcp, _, hr⟩, hl⟩ := h
  exact ⟨a, c, e, hcp, by simpa [reachBytes] using hl, hr⟩
theorem tx_of {W : World} {v : List Value} {xs : List UInt8} (h : (rSlB rByte).ok (Sub.all W) v xs) : ∃ s : Sl3, v = [s.v] ∧ TxI 0 W.heap.size W s xs := by
  obtain ⟨a, c, e, hc, hl, hr⟩ := sl_of h
  refine ⟨⟨a, xs.length, c⟩, e, rfl, hc, hl, fun h0 => ?_⟩
  rw [bc_len] at h0
  obtain ⟨b, o, ea, hrow⟩ := hr h0
  have hb := hrow.bytes (Sub.all_in W)
  refine ⟨b, o, ea, Nat.zero_le _, World.block_lt_of_cell? W ⟨b, o + 0, none⟩ (hb 0 h0), fun i hi => ⟨?_, fun h0 => absurd h0 (Nat.lt_irrefl 0)⟩⟩
  rw [bc_len] at hi
  rw [hb i hi]
  simp [Lib.byteCells]
theorem bl_of {W : World} {v : List Value} {xs : List Bool} (h : (rSlB rBool).ok (Sub.all W) v xs) : ∃ s : Sl3, v = [s.v] ∧ BlI 0 W.heap.size W s xs := by
  obtain ⟨a, c, e, hc, hl, hr⟩ := sl_of h
  refine ⟨⟨a, xs.length, c⟩, e, rfl, hc, hl, fun h0 => ?_⟩
  rw [List.length_map] at h0
  obtain ⟨b, o, ea, hrow⟩ := hr h0
  have hcell : ∀ i (hi : i < xs.length), W.cell? ⟨b, o + i, none⟩ = some (.bool xs[i]) := fun i hi => by
    obtain ⟨cs, h1, hc⟩ := hrow i hi
    have h1' : cs = [.bool xs[i]] := h1
    subst h1'
    have := hc.cell (Sub.all_in W) (j := 0) (by simp)
    simpa [rBool] using this
  refine ⟨b, o, ea, Nat.zero_le _, World.block_lt_of_cell? W ⟨b, o + 0, none⟩ (hcell 0 h0), fun i hi => ⟨?_, fun h0 => absurd h0 (Nat.lt_irrefl 0)⟩⟩
  rw [List.length_map] at hi
  rw [hcell i hi, List.getElem_map]
theorem zip_get {α β : Type} {l : List α} {m : List β} {i : Nat} (h1 : i < l.length) (h2 : i < m.length) (h : i < (l.zip m).length) : (l.zip m)[i] = (l[i], m[i]) := by simp
theorem pr_of {α : Type} {A : Rp α} {f : α → Value} (hf : ∀ {W : World} {cs : List Value} {x : α}, A.ok (Sub.all W) cs x → cs = [f x]) (hn : A.n = 1) {W : World} {v : List Value} {xs : List (α × List UInt8 × Unit)} (h : (rSlB (rPair A (rPair (rSlB rByte) rUnit))).ok (Sub.all W) v xs) : ∃ s : Sl3, v = [s.v] ∧ PrI f 0 W.heap.size W s (xs.map fun x => (x.1, x.2.1)) := by
  obtain ⟨a, c, e, hc, hl, hr⟩ := sl_of h
  refine ⟨⟨a, xs.length, c⟩, e, by simp, by simpa using hc, by simpa using hl, ?_⟩
  by_cases h0 : 0 < xs.length
  · obtain ⟨b, o, ea, hrow⟩ := hr h0
    have hx : ∀ i, i < xs.length → ∃ y : Sl3, ∀ (hi : i < xs.length), W.cell? ⟨b, o + i * 2, none⟩ = some (f xs[i].1) ∧ W.cell? ⟨b, o + i * 2 + 1, none⟩ = some y.v ∧ TxI 0 W.heap.size W y xs[i].2.1 := by
      intro i hi
      obtain ⟨cs, ⟨c1, c2, e1, h2, c3, c4, e3, h3, e4⟩, hc⟩ := hrow i hi
      have e2 := hf h2
      have e4' : c4 = [] := e4
      obtain ⟨y, e5, hy⟩ := tx_of h3
      subst e1 e2 e3 e5 e4'
      have hnn : (rPair A (rPair (rSlB rByte) rUnit)).n = 2 := by simp [rPair, rSlB, rUnit, hn]
      rw [hnn] at hc
      have h1 := hc.cell (Sub.all_in W) (j := 0) (by simp)
      have h2 := hc.cell (Sub.all_in W) (j := 1) (by simp)
      exact ⟨y, fun _ => ⟨by simpa using h1, by simpa using h2, hy⟩⟩
    have : Inhabited Sl3 := ⟨⟨none, 0, 0⟩⟩
    obtain ⟨g, hg⟩ := Deep.choose_lt (α := Sl3) hx
    refine ⟨(List.range xs.length).map g, by simp, fun _ => ⟨b, o, ea, Nat.zero_le _, World.block_lt_of_cell? W ⟨b, o + 0 * 2, none⟩ (hg 0 h0 h0).1, fun k hk => ⟨?_, fun h0 => absurd h0 (Nat.lt_irrefl 0)⟩⟩, fun i hi h' => ?_⟩
    · rw [pairs_len, List.length_zip] at hk
      simp only [List.length_map, List.length_range, Nat.min_self] at hk
      have hi : k / 2 < xs.length := by omega
      obtain ⟨q1, q2, _⟩ := hg (k / 2) hi hi
      have hz : k / 2 < ((List.map (fun p : α × List UInt8 => f p.1) (List.map (fun x => (x.1, x.2.1)) xs)).zip ((List.range xs.length).map g)).length := by simpa using hi
      obtain ⟨z1, z2⟩ := pairs_get _ (k / 2) hz
      rw [zip_get (by simpa using hi) (by simpa using hi) hz] at z1 z2
      simp only [List.getElem_map, List.getElem_range] at z1 z2
      rcases Nat.mod_two_eq_zero_or_one k with hm | hm
      · have e : k / 2 * 2 = k := by omega
        rw [e] at z1 q1
        rw [q1]
        obtain ⟨_, z3⟩ := List.getElem?_eq_some_iff.1 z1
        rw [z3]
      · have e : k / 2 * 2 + 1 = k := by omega
        rw [e] at z2
        rw [show o + k / 2 * 2 + 1 = o + k by omega] at q2
        rw [q2]
        obtain ⟨_, z3⟩ := List.getElem?_eq_some_iff.1 z2
        rw [z3]
    · have hi' : i < xs.length := by simpa using hi
      simp only [List.getElem_map, List.getElem_range]
      exact (hg i hi' hi').2.2
  · have : xs = [] := List.eq_nil_of_length_eq_zero (by omega)
    subst this
    exact ⟨[], rfl, fun h => by simp [pairCells] at h, fun i h => by simp at h⟩
theorem names_of {W : World} {v : List Value} {xs : List (List UInt8 × List UInt8 × Unit)} (h : (rSlB rFile).ok (Sub.all W) v xs) : ∀ x ∈ xs, x.1.length ≤ 140737488351232 := by
  obtain ⟨a, c, e, hc, hl, hr⟩ := sl_of h
  intro x hx
  obtain ⟨i, hi, rfl⟩ := List.mem_iff_getElem.1 hx
  obtain ⟨b, o, ea, hrow⟩ := hr (by omega)
  obtain ⟨cs, ⟨c1, c2, e1, ⟨s, e2, es, hs⟩, _⟩, _⟩ := hrow i hi
  rw [← es, Array.length_toList]
  simpa [reachBytes] using hs
/-- numbers fit 64 bits -/
structure ScOk (s : Sc) : Prop where
  line : -9223372036854775808 ≤ s.line ∧ s.line ≤ 9223372036854775807
  last : -9223372036854775808 ≤ s.last ∧ s.last ≤ 9223372036854775807
  next : -9223372036854775808 ≤ s.next ∧ s.next ≤ 9223372036854775807
  opn : -9223372036854775808 ≤ s.opn ∧ s.opn ≤ 9223372036854775807
  cur : -9223372036854775808 ≤ s.cur ∧ s.cur ≤ 9223372036854775807
  missing : -9223372036854775808 ≤ s.missing ∧ s.missing ≤ 9223372036854775807
  phase : -9223372036854775808 ≤ s.phase ∧ s.phase ≤ 9223372036854775807
  pc : -9223372036854775808 ≤ s.pc ∧ s.pc ≤ 9223372036854775807
  exit : -9223372036854775808 ≤ s.exit ∧ s.exit ≤ 9223372036854775807
  stop : -9223372036854775808 ≤ s.stop ∧ s.stop ≤ 9223372036854775807
  err : -9223372036854775808 ≤ s.err ∧ s.err ≤ 9223372036854775807
theorem zero_ok : ScOk zeroV.sc := ⟨by decide, by decide, by decide, by decide, by decide, by decide, by decide, by decide, by decide, by decide, by decide⟩
theorem sin_of {W : World} {cs : List Value} {x} (h : rState.ok (Sub.all W) cs x) : ∃ s V, cs = s.cells ∧ SIn 0 W.heap.size s V W ∧ ScOk V.sc ∧ ∀ x ∈ V.files, x.1.length ≤ 140737488351232 := by
  obtain ⟨xr, xi, xo, x1, x2, x3, x4, x5, x6, x7, x8, x9, x10, x11, x12, xu⟩ := x
  obtain ⟨y1, y2, y3, y4, y5, y6, yu⟩ := xr
  obtain ⟨z1, z2, z3, z4, z5, zu⟩ := xi
  obtain ⟨v1, v2, v3, v4, vu⟩ := xo
  obtain ⟨p0, q0, r0, ⟨a1, k1, f1, g1, a2, k2, f2, g2, a3, k3, f3, g3, a4, k4, f4, ⟨g4, w4⟩, a5, k5, f5, g5, a6, k6, f6, ⟨g6, w6⟩, g7⟩, h⟩ := h
  obtain ⟨p1, q1, r1, ⟨b1, l1, i1, ⟨j1, u1⟩, b2, l2, i2, ⟨j2, u2⟩, b3, l3, i3, ⟨j3, u3⟩, b4, l4, i4, ⟨j4, u4⟩, b5, l5, i5, j5, j6⟩, h⟩ := h
  obtain ⟨p2, q2, r2, ⟨d1, m1, n1, o1, d2, m2, n2, o2, d3, m3, n3, o3, d4, m4, n4, o4, o5⟩, h⟩ := h
  obtain ⟨e1, s1, t1, ⟨c1, v1'⟩, e2, s2, t2, ⟨c2, v2'⟩, e3, s3, t3, ⟨c3, v3'⟩, e4, s4, t4, ⟨c4, v4'⟩, e5, s5, t5, ⟨c5, v5'⟩, e6, s6, t6, c6, e7, s7, t7, c7, e8, s8, t8, c8, e9, s9, t9, c9, e10, s10, t10, c10, e11, s11, t11, c11, e12, s12, t12, c12, c13⟩ := h
  obtain ⟨sp, pe, pB⟩ := tx_of g1
  obtain ⟨sh, he, hB⟩ := tx_of g2
  obtain ⟨sr, re, rB⟩ := tx_of j5
  obtain ⟨so, oe, oB⟩ := tx_of o1
  obtain ⟨sl, le, lB⟩ := tx_of o3
  obtain ⟨sa, ae, aB⟩ := bl_of c9
  obtain ⟨sw, we, wB⟩ := pr_of (A := rInt .i64) (f := kindV) (fun h => by obtain ⟨h1, _⟩ := h; exact h1) rfl c10
  obtain ⟨sf, fe, fB⟩ := pr_of (A := rStrB) (f := strV) (fun h => by obtain ⟨s, h1, h2, _⟩ := h; rw [h1, strV_eq h2]) rfl c11
  obtain ⟨sk, ke, kB⟩ := bl_of c12
  refine ⟨⟨sp, sh, y3, y4, y5, y6, z1, z2, z3, z4, sr, so, v2, sl, v4, x1, x2, x3, x4, x5, x6, x7, x8, sa, sw, sf, sk⟩, ⟨⟨y3, y4, y5, y6, z1, z2, z3, z4, v2, v4, x1, x2, x3, x4, x5, x6, x7, x8⟩, y1, y2, z5, v1, v3, x9, x12, x10.map fun x => (x.1, x.2.1), x11.map fun x => (x.1, x.2.1)⟩, ?_,
    ⟨Nat.le_refl _, rfl, pB, hB, rB, oB, lB, aB, kB, wB, fB⟩, ⟨wf64 w4, wf64 w6, wf64 u1, wf64 u2, wf64 u3, wf64 u4, wf64 v1', wf64 v2', wf64 v3', wf64 v4', wf64 v5'⟩, fun x hx => by obtain ⟨y, hy, rfl⟩ := List.mem_map.1 hx; exact names_of c11 y hy⟩
  have g3' : a3 = [.bool y3] := g3
  have g5' : a5 = [.bool y5] := g5
  have g7' : k6 = [] := g7
  have j6' : l5 = [] := j6
  have o2' : d2 = [.bool v2] := o2
  have o4' : d4 = [.bool v4] := o4
  have o5' : m4 = [] := o5
  have c6' : e6 = [.bool x6] := c6
  have c7' : e7 = [.bool x7] := c7
  have c8' : e8 = [.bool x8] := c8
  have c13' : s12 = [] := c13
  rw [r0, f1, pe, f2, he, f3, g3', f4, g4, f5, g5', f6, g6, g7', r1, i1, j1, i2, j2, i3, j3, i4, j4, i5, re, j6', r2, n1, oe, n2, o2', n3, le, n4, o4', o5', t1, c1, t2, c2, t3, c3, t4, c4, t5, c5, t6, c6', t7, c7', t8, c8', t9, ae, t10, we, t11, fe, t12, ke, c13']
  rfl
end Go.Proofs.YtepdfkgadigafaaGreatDoor
/-
  Whether a state that lies in memory is great, and what it then is.
  Conditions: as each theorem states them.
-/
namespace Go.Proofs.YtepdfkgadigafaaGreatDoor
open Go.RowKit
set_option linter.unusedVariables false
set_option linter.unusedSimpArgs false
def nV (V : StV) : Nat := V.pat.length + V.hold.length + V.rest.length + V.out.length + V.place.length + V.active.length + V.lacks.length
def wV (V : StV) : Nat := (V.waits.map fun x => x.2.length).sum
def fV (V : StV) : Nat := (V.files.map fun x => x.2.length + x.1.length).sum
def greatV (V : StV) : Bool := decide (1000 < nV V) || decide (40 < V.waits.length) || decide (20 < V.files.length) || decide (2000 < nV V + wV V + fV V)
theorem pr_cells {α : Type} {f : α → Value} {lo hi : Nat} {W : World} {s : Sl3} {l : List (α × List UInt8)} (h : PrI f lo hi W s l) (hh : hi ≤ W.heap.size) : ∃ ss : List Sl3, ss.length = l.length ∧ (0 < l.length → ∃ b o, s.a = some ⟨b, o, none⟩ ∧ lo ≤ b ∧ b < hi ∧ ∀ i (h : i < l.length) (h' : i < ss.length), W.cell? ⟨b, o + i * 2, none⟩ = some (f l[i].1) ∧ W.cell? ⟨b, o + i * 2 + 1, none⟩ = some ss[i].v ∧ TxI lo hi W ss[i] l[i].2) := by
  obtain ⟨h1, h2, h3, ss, h4, h5, h6⟩ := h
  refine ⟨ss, h4, fun h0 => ?_⟩
  have hzl : ((l.map fun p => f p.1).zip ss).length = l.length := by simp [h4]
  obtain ⟨b, o, e, k1, k2, k3⟩ := h5 (by rw [pairs_len, hzl]; omega)
  refine ⟨b, o, e, k1, k2, fun i hi h' => ⟨?_, ?_, h6 i hi h'⟩⟩
  all_goals
    have hz : i < ((l.map fun p => f p.1).zip ss).length := by omega
    obtain ⟨z1, z2⟩ := pairs_get _ i hz
    rw [zip_get (by simpa using hi) h' hz] at z1 z2
    simp only [List.getElem_map] at z1 z2
  · have := (k3 (i * 2) (by rw [pairs_len, hzl]; omega)).1
    rw [this]
    obtain ⟨_, z3⟩ := List.getElem?_eq_some_iff.1 z1
    rw [z3]
  · have := (k3 (i * 2 + 1) (by rw [pairs_len, hzl]; omega)).1
    rw [show o + i * 2 + 1 = o + (i * 2 + 1) by omega, this]
    obtain ⟨_, z3⟩ := List.getElem?_eq_some_iff.1 z2
    rw [z3]
theorem raw_sin {lo hi : Nat} {s : StC} {V : StV} {W : World} (h : SIn lo hi s V W) (hk : ScOk V.sc) (hfn : ∀ x ∈ V.files, x.1.length ≤ 140737488351232) : ∃ b, RawAt W s b ∧ greatB s b = greatV V := by
  obtain ⟨ws, wl, wc⟩ := pr_cells h.waits h.top
  obtain ⟨fs, fl, fc⟩ := pr_cells h.files h.top
  have hwN : ((V.waits.zip ws).map fun p => (⟨p.1.1, p.2, p.1.2⟩ : Wt)).length = V.waits.length := by simp [wl]
  have hfN : ((V.files.zip fs).map fun p => (⟨⟨p.1.1, p.2.a, p.2.n, p.2.c⟩, p.1.2⟩ : Fb)).length = V.files.length := by simp [fl]
  have hwS : wSum ((V.waits.zip ws).map fun p => (⟨p.1.1, p.2, p.1.2⟩ : Wt)) = wV V := by
    unfold wSum wV
    rw [List.map_map]
    have : ((fun x : Wt => x.bytes.length) ∘ fun p : (Int × List UInt8) × Sl3 => (⟨p.1.1, p.2, p.1.2⟩ : Wt)) = (fun x : Int × List UInt8 => x.2.length) ∘ Prod.fst := rfl
    rw [this, ← List.map_map, List.map_fst_zip (by omega)]
  have hfS : fSum ((V.files.zip fs).map fun p => (⟨⟨p.1.1, p.2.a, p.2.n, p.2.c⟩, p.1.2⟩ : Fb)) = fV V := by
    unfold fSum fV
    rw [List.map_map]
    have : ((fun x : Fb => x.bytes.length + x.fl.name.length) ∘ fun p : (List UInt8 × List UInt8) × Sl3 => (⟨⟨p.1.1, p.2.a, p.2.n, p.2.c⟩, p.1.2⟩ : Fb)) = (fun x : List UInt8 × List UInt8 => x.2.length + x.1.length) ∘ Prod.fst := rfl
    rw [this, ← List.map_map, List.map_fst_zip (by omega)]
  have hsc := h.sc
  have e1 : s.line = V.sc.line := by rw [← hsc]; rfl
  have e2 : s.last = V.sc.last := by rw [← hsc]; rfl
  have e3 : s.cur = V.sc.cur := by rw [← hsc]; rfl
  have e4 : s.missing = V.sc.missing := by rw [← hsc]; rfl
  have e5 : s.pc = V.sc.pc := by rw [← hsc]; rfl
  have e6 : s.phase = V.sc.phase := by rw [← hsc]; rfl
  have e7 : s.exit = V.sc.exit := by rw [← hsc]; rfl
  have e8 : s.stop = V.sc.stop := by rw [← hsc]; rfl
  have e9 : s.err = V.sc.err := by rw [← hsc]; rfl
  refine ⟨⟨V.pat, V.hold, V.rest, V.out, V.place, (V.waits.zip ws).map fun p => ⟨p.1.1, p.2, p.1.2⟩, (V.files.zip fs).map fun p => ⟨⟨p.1.1, p.2.a, p.2.n, p.2.c⟩, p.1.2⟩⟩,
    { patN := h.pat.1, holdN := h.hold.1, restN := h.rest.1, outN := h.out.1, placeN := h.place.1, patL := h.pat.2.2.1, holdL := h.hold.2.2.1, restL := h.rest.2.2.1, outL := h.out.2.2.1, placeL := h.place.2.2.1, activeL := by rw [h.active.1]; exact h.active.2.2.1, lacksL := by rw [h.lacks.1]; exact h.lacks.2.2.1, patC := h.pat.2.1, holdC := h.hold.2.1, restC := h.rest.2.1, outC := h.out.2.1,
      patAt := h.pat.at h.top, holdAt := h.hold.at h.top, restAt := h.rest.at h.top, outAt := h.out.at h.top, placeAt := h.place.at h.top, waitsN := by rw [hwN]; exact h.waits.1, waitsL := by rw [hwN]; exact h.waits.2.2.1, waitsAt := ?_, filesN := by rw [hfN]; exact h.files.1, filesL := by rw [hfN]; exact h.files.2.2.1, filesAt := ?_, flN := ?_,
      line := e1 ▸ hk.line, last := e2 ▸ hk.last, cur := e3 ▸ hk.cur, missing := e4 ▸ hk.missing, pc := e5 ▸ hk.pc, phase := e6 ▸ hk.phase, exit := e7 ▸ hk.exit, stop := e8 ▸ hk.stop, err := e9 ▸ hk.err }, ?_⟩
  · intro h0
    rw [hwN] at h0
    obtain ⟨b, o, e, k1, k2, k3⟩ := wc h0
    refine ⟨b, o, e, Nat.lt_of_lt_of_le k2 h.top, fun i hi => ?_⟩
    have hi' : i < V.waits.length := by rw [hwN] at hi; exact hi
    have hi2 : i < ws.length := by omega
    obtain ⟨q1, q2, q3⟩ := k3 i hi' hi2
    simp only [List.getElem_map, zip_get hi' hi2]
    refine ⟨q1, ?_, q3.at h.top, q3.2.2.1⟩
    rw [q2, ← q3.1]
  · intro h0
    rw [hfN] at h0
    obtain ⟨b, o, e, k1, k2, k3⟩ := fc h0
    refine ⟨b, o, e, Nat.lt_of_lt_of_le k2 h.top, fun i hi => ?_⟩
    have hi' : i < V.files.length := by rw [hfN] at hi; exact hi
    have hi2 : i < fs.length := by omega
    obtain ⟨q1, q2, q3⟩ := k3 i hi' hi2
    simp only [List.getElem_map, zip_get hi' hi2]
    refine ⟨q1, ?_, q3.at h.top, hfn _ (List.getElem_mem hi'), q3.2.2.1⟩
    rw [q2, ← q3.1]
  · intro f hf
    obtain ⟨p, hp, rfl⟩ := List.mem_map.1 hf
    obtain ⟨i, hi, rfl⟩ := List.mem_iff_getElem.1 hp
    have hi' : i < V.files.length := by simp at hi; omega
    have hi2 : i < fs.length := by omega
    obtain ⟨b, o, e, k1, k2, k3⟩ := fc (by omega)
    rw [zip_get hi' hi2]
    exact (k3 i hi' hi2).2.2.1
  · unfold greatB greatV nSum nV
    simp only
    rw [hwS, hfS, hwN, hfN, h.active.1, h.lacks.1]
theorem great_sin {lo hi : Nat} {s : StC} {V : StV} {W : World} (h : SIn lo hi s V W) (hk : ScOk V.sc) (hfn : ∀ x ∈ V.files, x.1.length ≤ 140737488351232) : Calls Tryz.prog 7 #[.agg s.cells.toArray] W fun e w' => e = .returned (.bool (greatV V)) ∧ Below W.heap.size W w' := by
  obtain ⟨b, hb, e⟩ := raw_sin h hk hfn
  rw [← e]
  exact great_any s b W hb
theorem sum_mem {l : List Nat} {x : Nat} (h : x ∈ l) : x ≤ l.sum := by
  induction l with
  | nil => cases h
  | cons y l ih => simp only [List.sum_cons]; rcases List.mem_cons.1 h with rfl | h; omega; have := ih h; omega
/-- what is not great is small -/
structure SmallV (V : StV) : Prop where
  pat : V.pat.length ≤ 2000
  hold : V.hold.length ≤ 2000
  rest : V.rest.length ≤ 2000
  out : V.out.length ≤ 2000
  place : V.place.length ≤ 2000
  active : V.active.length ≤ 2000
  lacks : V.lacks.length ≤ 2000
  waits : V.waits.length ≤ 40
  files : V.files.length ≤ 20
  wait : ∀ x ∈ V.waits, x.2.length ≤ 2000
  file : ∀ x ∈ V.files, x.2.length ≤ 2000 ∧ x.1.length ≤ 2000
theorem small_of {V : StV} (h : greatV V = false) : SmallV V := by
  unfold greatV at h
  simp only [Bool.or_eq_false_iff, decide_eq_false_iff_not, Nat.not_lt] at h
  obtain ⟨⟨⟨h1, h2⟩, h3⟩, h4⟩ := h
  have hn : nV V = V.pat.length + V.hold.length + V.rest.length + V.out.length + V.place.length + V.active.length + V.lacks.length := rfl
  refine ⟨by omega, by omega, by omega, by omega, by omega, by omega, by omega, h2, h3, fun x hx => ?_, fun x hx => ?_⟩
  · have := sum_mem (l := V.waits.map fun x => x.2.length) (List.mem_map.2 ⟨x, hx, rfl⟩)
    have e : wV V = (V.waits.map fun x => x.2.length).sum := rfl
    omega
  · have := sum_mem (l := V.files.map fun x => x.2.length + x.1.length) (List.mem_map.2 ⟨x, hx, rfl⟩)
    have e : fV V = (V.files.map fun x => x.2.length + x.1.length).sum := rfl
    omega
theorem zero_small : SmallV zeroV := ⟨by decide, by decide, by decide, by decide, by decide, by decide, by decide, by decide, by decide, fun x h => by simp [zeroV] at h, fun x h => by simp [zeroV] at h⟩
end Go.Proofs.YtepdfkgadigafaaGreatDoor
/-
  A whole state is loaded, or stored.
  Conditions: as each theorem states them.
-/
namespace Go.Proofs.YtepdfkgadigafaaGreatDoor
open Go.RowKit
set_option linter.unusedVariables false
set_option linter.unusedSimpArgs false
noncomputable def stLoad (a : Addr) : Sem Value := loadVar 34 a
theorem load_st (a : Addr) : loadVar 34 a = stLoad a := rfl
theorem stLoad_is (s : StC) {w : World} {g : Nat} (h : w.heap[g]? = some (.cells s.cells.toArray 34 (0, 0))) : (stLoad ⟨g, 0, none⟩).run Tryz.prog w = .ok (.agg s.cells.toArray) w :=
  run_loadVar_row w g 34 34 s.cells.toArray (0, 0) _ h Tryz.underlying34 rfl (by kernel_rfl)
noncomputable def stStore (a : Addr) (v : Value) : Sem Unit := storeVar 34 a v
theorem store_st (a : Addr) (v : Value) : storeVar 34 a v = stStore a v := rfl
theorem Blk.setCells {g : Nat} {t : TypeId} : ∀ (vs : List Value) (o : Nat) {w : World} {c : List Value} (h : Blk w g t c), ∃ c', Blk (w.setCells g o vs) g t c' ∧ c'.length = c.length ∧ c'.take o = c.take o
  | [], o, w, c, h => ⟨c, h, rfl, rfl⟩
  | v :: vs, o, w, c, h => by
    obtain ⟨c', h1, h2, h3⟩ := Blk.setCells vs (o + 1) (h.set o v)
    refine ⟨c', h1, by rw [h2, List.length_set], ?_⟩
    have := congrArg (List.take o) h3
    rw [List.take_take, List.take_take, Nat.min_eq_left (Nat.le_succ o), List.take_set_of_le (Nat.le_refl o)] at this
    exact this
theorem only_setCells {g : Nat} : ∀ (vs : List Value) (o : Nat) (w : World), Only (fun k => k = g) w (w.setCells g o vs)
  | [], o, w => Only.refl _ w
  | v :: vs, o, w => ((Only.refl (fun k => k = g) w).setCell (p := ⟨g, o, none⟩) rfl v).trans (only_setCells vs (o + 1) _)
theorem StC.one (s : StC) : ∀ u ∈ s.cells, u.oneCell' = true := by
  intro u hu
  simp only [StC.cells, Sl3.v, List.mem_cons, List.not_mem_nil, or_false] at hu
  rcases hu with rfl | rfl | rfl | rfl | rfl | rfl | rfl | rfl | rfl | rfl | rfl | rfl | rfl | rfl | rfl | rfl | rfl | rfl | rfl | rfl | rfl | rfl | rfl | rfl | rfl | rfl | rfl <;> rfl
theorem StC.len (s : StC) : s.cells.length = 27 := rfl
/-- a whole state's store -/
theorem stStore_is {w : World} {g : Nat} {old : List Value} (s : StC) (h : Blk w g 34 old) (hl : old.length = 27) :
    ∃ w', (stStore ⟨g, 0, none⟩ (.agg s.cells.toArray)).run Tryz.prog w = .ok () w' ∧ Blk w' g 34 s.cells ∧ Only (fun k => k = g) w w' := by
  have h1 := s.one
  have hC := s.len
  generalize s.cells = C at *
  have := run_storeVar_mid (P := Tryz.prog) w g 0 34 C.toArray (fun j hj => ⟨by
    rw [Nat.zero_add, h.cell, List.getElem?_eq_getElem (by simp only [List.size_toArray] at hj; omega)]; rfl, by rw [Nat.zero_add]; exact h.free _⟩) (by simp only [List.size_toArray, hC]; kernel_rfl) (all_oneCell_toArray h1)
  refine ⟨_, this, ?_, only_setCells _ 0 w⟩
  simp only
  obtain ⟨c', h2, h3, _⟩ := Blk.setCells C 0 h
  have hc : c' = C := by
    apply List.ext_getElem?
    intro i
    by_cases hi : i < 27
    · have hr := World.rangeAt_setCells_same w g 0 C (fun j hj => ⟨by
        rw [Nat.zero_add, h.cell, List.getElem?_eq_getElem (by omega)]; rfl, by rw [Nat.zero_add]; exact h.free _⟩) i _ (List.getElem?_eq_getElem (by omega))
      rw [Nat.zero_add, h2.cell] at hr
      rw [hr, List.getElem?_eq_getElem]
    · rw [List.getElem?_eq_none (by omega), List.getElem?_eq_none (by omega)]
  rw [hc] at h2
  exact h2
end Go.Proofs.YtepdfkgadigafaaGreatDoor
