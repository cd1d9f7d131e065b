/-
  Whether a state that lies in memory is great, and what it then is.
  Conditions: as each theorem states them.
-/
import Derived.Test.YtfidmpkblmebeaaGreat
import Derived.Test.YtfidmpkblmebeaaSin
namespace Go.Proofs.Ytfidmpkblmebeaa
open Go.RowKit
set_option linter.unusedVariables false
set_option linter.unusedSimpArgs false
def nV (V : StV) : Nat := V.pat.length + V.hold.length + V.rest.length + V.out.length + V.place.length + V.active.length + V.lacks.length
def wV (V : StV) : Nat := (V.waits.map fun x => x.2.length).sum
def fV (V : StV) : Nat := (V.files.map fun x => x.2.length + x.1.length).sum
def greatV (V : StV) : Bool := decide (1000 < nV V) || decide (40 < V.waits.length) || decide (20 < V.files.length) || decide (2000 < nV V + wV V + fV V)
theorem pr_cells {α : Type} {f : α → Value} {lo hi : Nat} {W : World} {s : Sl3} {l : List (α × List UInt8)} (h : PrI f lo hi W s l) (hh : hi ≤ W.heap.size) : ∃ ss : List Sl3, ss.length = l.length ∧ (0 < l.length → ∃ b o, s.a = some ⟨b, o, none⟩ ∧ lo ≤ b ∧ b < hi ∧ ∀ i (h : i < l.length) (h' : i < ss.length), W.cell? ⟨b, o + i * 2, none⟩ = some (f l[i].1) ∧ W.cell? ⟨b, o + i * 2 + 1, none⟩ = some ss[i].v ∧ TxI lo hi W ss[i] l[i].2) := by
  obtain ⟨h1, h2, h3, ss, h4, h5, h6⟩ := h
  refine ⟨ss, h4, fun h0 => ?_⟩
  have hzl : ((l.map fun p => f p.1).zip ss).length = l.length := by simp [h4]
  obtain ⟨b, o, e, k1, k2, k3⟩ := h5 (by rw [pairs_len, hzl]; omega)
  refine ⟨b, o, e, k1, k2, fun i hi h' => ⟨?_, ?_, h6 i hi h'⟩⟩
  all_goals
    have hz : i < ((l.map fun p => f p.1).zip ss).length := by omega
    obtain ⟨z1, z2⟩ := pairs_get _ i hz
    rw [zip_get (by simpa using hi) h' hz] at z1 z2
    simp only [List.getElem_map] at z1 z2
  · have := (k3 (i * 2) (by rw [pairs_len, hzl]; omega)).1
    rw [this]
    obtain ⟨_, z3⟩ := List.getElem?_eq_some_iff.1 z1
    rw [z3]
  · have := (k3 (i * 2 + 1) (by rw [pairs_len, hzl]; omega)).1
    rw [show o + i * 2 + 1 = o + (i * 2 + 1) by omega, this]
    obtain ⟨_, z3⟩ := List.getElem?_eq_some_iff.1 z2
    rw [z3]
theorem raw_sin {lo hi : Nat} {s : StC} {V : StV} {W : World} (h : SIn lo hi s V W) (hk : ScOk V.sc) (hfn : ∀ x ∈ V.files, x.1.length ≤ 140737488351232) : ∃ b, RawAt W s b ∧ greatB s b = greatV V := by
  obtain ⟨ws, wl, wc⟩ := pr_cells h.waits h.top
  obtain ⟨fs, fl, fc⟩ := pr_cells h.files h.top
  have hwN : ((V.waits.zip ws).map fun p => (⟨p.1.1, p.2, p.1.2⟩ : Wt)).length = V.waits.length := by simp [wl]
  have hfN : ((V.files.zip fs).map fun p => (⟨⟨p.1.1, p.2.a, p.2.n, p.2.c⟩, p.1.2⟩ : Fb)).length = V.files.length := by simp [fl]
  have hwS : wSum ((V.waits.zip ws).map fun p => (⟨p.1.1, p.2, p.1.2⟩ : Wt)) = wV V := by
    unfold wSum wV
    rw [List.map_map]
    have : ((fun x : Wt => x.bytes.length) ∘ fun p : (Int × List UInt8) × Sl3 => (⟨p.1.1, p.2, p.1.2⟩ : Wt)) = (fun x : Int × List UInt8 => x.2.length) ∘ Prod.fst := rfl
    rw [this, ← List.map_map, List.map_fst_zip (by omega)]
  have hfS : fSum ((V.files.zip fs).map fun p => (⟨⟨p.1.1, p.2.a, p.2.n, p.2.c⟩, p.1.2⟩ : Fb)) = fV V := by
    unfold fSum fV
    rw [List.map_map]
    have : ((fun x : Fb => x.bytes.length + x.fl.name.length) ∘ fun p : (List UInt8 × List UInt8) × Sl3 => (⟨⟨p.1.1, p.2.a, p.2.n, p.2.c⟩, p.1.2⟩ : Fb)) = (fun x : List UInt8 × List UInt8 => x.2.length + x.1.length) ∘ Prod.fst := rfl
    rw [this, ← List.map_map, List.map_fst_zip (by omega)]
  have hsc := h.sc
  have e1 : s.line = V.sc.line := by rw [← hsc]; rfl
  have e2 : s.last = V.sc.last := by rw [← hsc]; rfl
  have e3 : s.cur = V.sc.cur := by rw [← hsc]; rfl
  have e4 : s.missing = V.sc.missing := by rw [← hsc]; rfl
  have e5 : s.pc = V.sc.pc := by rw [← hsc]; rfl
  have e6 : s.phase = V.sc.phase := by rw [← hsc]; rfl
  have e7 : s.exit = V.sc.exit := by rw [← hsc]; rfl
  have e8 : s.stop = V.sc.stop := by rw [← hsc]; rfl
  have e9 : s.err = V.sc.err := by rw [← hsc]; rfl
  refine ⟨⟨V.pat, V.hold, V.rest, V.out, V.place, (V.waits.zip ws).map fun p => ⟨p.1.1, p.2, p.1.2⟩, (V.files.zip fs).map fun p => ⟨⟨p.1.1, p.2.a, p.2.n, p.2.c⟩, p.1.2⟩⟩,
    { patN := h.pat.1, holdN := h.hold.1, restN := h.rest.1, outN := h.out.1, placeN := h.place.1, patL := h.pat.2.2.1, holdL := h.hold.2.2.1, restL := h.rest.2.2.1, outL := h.out.2.2.1, placeL := h.place.2.2.1, activeL := by rw [h.active.1]; exact h.active.2.2.1, lacksL := by rw [h.lacks.1]; exact h.lacks.2.2.1, patC := h.pat.2.1, holdC := h.hold.2.1, restC := h.rest.2.1, outC := h.out.2.1,
      patAt := h.pat.at h.top, holdAt := h.hold.at h.top, restAt := h.rest.at h.top, outAt := h.out.at h.top, placeAt := h.place.at h.top, waitsN := by rw [hwN]; exact h.waits.1, waitsL := by rw [hwN]; exact h.waits.2.2.1, waitsAt := ?_, filesN := by rw [hfN]; exact h.files.1, filesL := by rw [hfN]; exact h.files.2.2.1, filesAt := ?_, flN := ?_,
      line := e1 ▸ hk.line, last := e2 ▸ hk.last, cur := e3 ▸ hk.cur, missing := e4 ▸ hk.missing, pc := e5 ▸ hk.pc, phase := e6 ▸ hk.phase, exit := e7 ▸ hk.exit, stop := e8 ▸ hk.stop, err := e9 ▸ hk.err }, ?_⟩
  · intro h0
    rw [hwN] at h0
    obtain ⟨b, o, e, k1, k2, k3⟩ := wc h0
    refine ⟨b, o, e, Nat.lt_of_lt_of_le k2 h.top, fun i hi => ?_⟩
    have hi' : i < V.waits.length := by rw [hwN] at hi; exact hi
    have hi2 : i < ws.length := by omega
    obtain ⟨q1, q2, q3⟩ := k3 i hi' hi2
    simp only [List.getElem_map, zip_get hi' hi2]
    refine ⟨q1, ?_, q3.at h.top, q3.2.2.1⟩
    rw [q2, ← q3.1]
  · intro h0
    rw [hfN] at h0
    obtain ⟨b, o, e, k1, k2, k3⟩ := fc h0
    refine ⟨b, o, e, Nat.lt_of_lt_of_le k2 h.top, fun i hi => ?_⟩
    have hi' : i < V.files.length := by rw [hfN] at hi; exact hi
    have hi2 : i < fs.length := by omega
    obtain ⟨q1, q2, q3⟩ := k3 i hi' hi2
    simp only [List.getElem_map, zip_get hi' hi2]
    refine ⟨q1, ?_, q3.at h.top, hfn _ (List.getElem_mem hi'), q3.2.2.1⟩
    rw [q2, ← q3.1]
  · intro f hf
    obtain ⟨p, hp, rfl⟩ := List.mem_map.1 hf
    obtain ⟨i, hi, rfl⟩ := List.mem_iff_getElem.1 hp
    have hi' : i < V.files.length := by simp at hi; omega
    have hi2 : i < fs.length := by omega
    obtain ⟨b, o, e, k1, k2, k3⟩ := fc (by omega)
    rw [zip_get hi' hi2]
    exact (k3 i hi' hi2).2.2.1
  · unfold greatB greatV nSum nV
    simp only
    rw [hwS, hfS, hwN, hfN, h.active.1, h.lacks.1]
theorem great_sin {lo hi : Nat} {s : StC} {V : StV} {W : World} (h : SIn lo hi s V W) (hk : ScOk V.sc) (hfn : ∀ x ∈ V.files, x.1.length ≤ 140737488351232) : Calls Try.prog 7 #[.agg s.cells.toArray] W fun e w' => e = .returned (.bool (greatV V)) ∧ Below W.heap.size W w' := by
  obtain ⟨b, hb, e⟩ := raw_sin h hk hfn
  rw [← e]
  exact great_any s b W hb
theorem sum_mem {l : List Nat} {x : Nat} (h : x ∈ l) : x ≤ l.sum := by
  induction l with
  | nil => cases h
  | cons y l ih => simp only [List.sum_cons]; rcases List.mem_cons.1 h with rfl | h; omega; have := ih h; omega
/-- what is not great is small -/
structure SmallV (V : StV) : Prop where
  pat : V.pat.length ≤ 2000
  hold : V.hold.length ≤ 2000
  rest : V.rest.length ≤ 2000
  out : V.out.length ≤ 2000
  place : V.place.length ≤ 2000
  active : V.active.length ≤ 2000
  lacks : V.lacks.length ≤ 2000
  waits : V.waits.length ≤ 40
  files : V.files.length ≤ 20
  wait : ∀ x ∈ V.waits, x.2.length ≤ 2000
  file : ∀ x ∈ V.files, x.2.length ≤ 2000 ∧ x.1.length ≤ 2000
theorem small_of {V : StV} (h : greatV V = false) : SmallV V := by
  unfold greatV at h
  simp only [Bool.or_eq_false_iff, decide_eq_false_iff_not, Nat.not_lt] at h
  obtain ⟨⟨⟨h1, h2⟩, h3⟩, h4⟩ := h
  have hn : nV V = V.pat.length + V.hold.length + V.rest.length + V.out.length + V.place.length + V.active.length + V.lacks.length := rfl
  refine ⟨by omega, by omega, by omega, by omega, by omega, by omega, by omega, h2, h3, fun x hx => ?_, fun x hx => ?_⟩
  · have := sum_mem (l := V.waits.map fun x => x.2.length) (List.mem_map.2 ⟨x, hx, rfl⟩)
    have e : wV V = (V.waits.map fun x => x.2.length).sum := rfl
    omega
  · have := sum_mem (l := V.files.map fun x => x.2.length + x.1.length) (List.mem_map.2 ⟨x, hx, rfl⟩)
    have e : fV V = (V.files.map fun x => x.2.length + x.1.length).sum := rfl
    omega
theorem zero_small : SmallV zeroV := ⟨by decide, by decide, by decide, by decide, by decide, by decide, by decide, by decide, by decide, fun x h => by simp [zeroV] at h, fun x h => by simp [zeroV] at h⟩
end Go.Proofs.Ytfidmpkblmebeaa
