/-
  A case as it is read: its rows; of chapter 32.
  Conditions: as each theorem states them.
-/
import Derived.Test.YtaginadnaajleaaSameB
import Derived.Test.YtaginadnaajleaaCase
namespace Go.Proofs.Ytaginadnaajleaa
open Go.RowKit
set_option linter.unusedVariables false
set_option linter.unusedSimpArgs false
open BM (Cs)
/-- a slice of bytes -/
def BysAt (w : World) (v : Value) (xs : List UInt8) : Prop := ∃ a c, v = .slice a xs.length c ∧ (a = none → xs.length = 0) ∧ BytesAt w a xs
/-- a slice of texts -/
def TxtsAt (w : World) (v : Value) (ts : List (List UInt8)) : Prop := ∃ a c, v = .slice a ts.length c ∧ (a = none → ts.length = 0) ∧ (0 < ts.length → ∃ b o, a = some ⟨b, o, none⟩ ∧ b < w.heap.size ∧ ∀ i (h : i < ts.length), w.cell? ⟨b, o + i, none⟩ = some (strV ts[i]))
/-- a slice of files -/
def FsAt (w : World) (v : Value) (fs : List (List UInt8 × List UInt8)) : Prop := ∃ a c, v = .slice a fs.length c ∧ (a = none → fs.length = 0) ∧ (0 < fs.length → ∃ b o, a = some ⟨b, o, none⟩ ∧ b < w.heap.size ∧ ∀ i (h : i < fs.length), w.cell? ⟨b, o + i * 2, none⟩ = some (strV fs[i].1) ∧ ∃ u, w.cell? ⟨b, o + i * 2 + 1, none⟩ = some u ∧ BysAt w u fs[i].2)
theorem BysAt.below {w w' : World} {v : Value} {xs : List UInt8} (h : BysAt w v xs) (hb : Below w.heap.size w w') : BysAt w' v xs := by
  obtain ⟨a, c, e, h0, h⟩ := h
  exact ⟨a, c, e, h0, h.below hb⟩
theorem TxtsAt.below {w w' : World} {v : Value} {ts : List (List UInt8)} (h : TxtsAt w v ts) (hb : Below w.heap.size w w') : TxtsAt w' v ts := by
  obtain ⟨a, c, e, h0, h⟩ := h
  refine ⟨a, c, e, h0, fun h0 => ?_⟩
  obtain ⟨b, o, ea, hl, hr⟩ := h h0
  exact ⟨b, o, ea, Nat.lt_of_lt_of_le hl hb.size, fun i hi => (hb.cell (p := ⟨b, o + i, none⟩) hl).trans (hr i hi)⟩
theorem FsAt.below {w w' : World} {v : Value} {fs : List (List UInt8 × List UInt8)} (h : FsAt w v fs) (hb : Below w.heap.size w w') : FsAt w' v fs := by
  obtain ⟨a, c, e, h0, h⟩ := h
  refine ⟨a, c, e, h0, fun h0 => ?_⟩
  obtain ⟨b, o, ea, hl, hr⟩ := h h0
  refine ⟨b, o, ea, Nat.lt_of_lt_of_le hl hb.size, fun i hi => ?_⟩
  obtain ⟨h1, u, h2, h3⟩ := hr i hi
  exact ⟨(hb.cell (p := ⟨b, o + i * 2, none⟩) hl).trans h1, u, (hb.cell (p := ⟨b, o + i * 2 + 1, none⟩) hl).trans h2, h3.below hb⟩
theorem cell_of_row2 {w : World} {gq e : Nat} {cur : Array Value} {fr : Nat × Nat} (hh : w.heap[gq]? = some (.cells cur e fr)) {n : Nat} {xs : List Value} (hx : cur.toList.take n = xs) {j : Nat} {u : Value} (hj : xs[j]? = some u) : w.cell? ⟨gq, j, none⟩ = some u := by
  rw [cell_of_row w gq j cur e fr hh]
  rw [← hx, List.getElem?_take] at hj
  split at hj
  · simpa using hj
  · cases hj
theorem own_rows {w : World} {base e n s : Nat} {v : Value} {xs : List Value} (h : w.ownsRow base e s v n xs) : ∃ a c, v = .slice a n c ∧ (a = none → n = 0) ∧ (0 < n → ∃ b, a = some ⟨b, 0, none⟩ ∧ b < w.heap.size ∧ ∀ j u, xs[j]? = some u → w.cell? ⟨b, j, none⟩ = some u) := by
  rcases h.2 with ⟨rfl, rfl⟩ | ⟨gq, cap, cur, rfl, hb, hh, _, _, _, hx⟩
  · exact ⟨none, 0, rfl, fun _ => rfl, fun h => by omega⟩
  · refine ⟨_, cap, rfl, (fun e => by cases e), fun _ => ⟨gq, rfl, ?_, fun j u hj => cell_of_row2 hh hx hj⟩⟩
    rcases Nat.lt_or_ge gq w.heap.size with hlt | hge
    · exact hlt
    · rw [Array.getElem?_eq_none hge] at hh; cases hh
theorem bys_own {w : World} {base e : Nat} {v : Value} {xs : List UInt8} (h : w.ownsRow base e 1 v xs.length (Lib.byteCells xs)) : BysAt w v xs := by
  obtain ⟨a, c, e, h0, hr⟩ := own_rows h
  refine ⟨a, c, e, h0, fun hn => ?_⟩
  obtain ⟨b, rfl, hb, hc⟩ := hr hn
  refine ⟨b, 0, rfl, hb, fun i hi => ?_⟩
  rw [Nat.zero_add]
  exact hc i _ (by simp [Lib.byteCells, hi])
theorem txts_own {w : World} {base e : Nat} {v : Value} {ts : List (List UInt8)} (h : w.ownsRow base e 1 v ts.length (ts.map strV)) : TxtsAt w v ts := by
  obtain ⟨a, c, e, h0, hr⟩ := own_rows h
  refine ⟨a, c, e, h0, fun hn => ?_⟩
  obtain ⟨b, rfl, hb, hc⟩ := hr hn
  refine ⟨b, 0, rfl, hb, fun i hi => ?_⟩
  rw [Nat.zero_add]
  exact hc i _ (by simp [hi])
theorem flat2 {α : Type} (f g : α → Value) : ∀ (l : List α) (i : Nat) (h : i < l.length), (l.flatMap fun p => [f p, g p])[i * 2]? = some (f l[i]) ∧ (l.flatMap fun p => [f p, g p])[i * 2 + 1]? = some (g l[i])
  | [], i, h => by simp at h
  | x :: l, 0, _ => by simp
  | x :: l, i + 1, h => by
    obtain ⟨h1, h2⟩ := flat2 f g l i (by simpa using h)
    constructor
    · rw [List.flatMap_cons, show (i + 1) * 2 = i * 2 + 1 + 1 by omega]
      exact h1
    · rw [List.flatMap_cons, show (i + 1) * 2 + 1 = (i * 2 + 1) + 1 + 1 by omega]
      exact h2
/-- a case as it is read -/
structure CsAt (w : World) (c : Cs) (vs vi vf vl : Value) : Prop where
  sed : BysAt w vs c.sed
  inp : TxtsAt w vi c.inputs
  fil : FsAt w vf c.files
  lin : TxtsAt w vl c.lines
theorem CsAt.below {w w' : World} {c : Cs} {vs vi vf vl : Value} (h : CsAt w c vs vi vf vl) (hb : Below w.heap.size w w') : CsAt w' c vs vi vf vl := ⟨h.sed.below hb, h.inp.below hb, h.fil.below hb, h.lin.below hb⟩
theorem CaseV.read {w : World} {g base : Nat} {c : Cs} {vs vi vf vl : Value} {fv : List (List UInt8 × Value)} (h : CaseV w g base c vs vi vf vl fv) : CsAt w c vs vi vf vl := by
  refine ⟨bys_own h.sed, txts_own h.inp, ?_, txts_own h.lin⟩
  obtain ⟨a, c', e, h0, hr⟩ := own_rows h.fil
  have hlen : fv.length = c.files.length := by have := congrArg List.length h.fvn; simpa using this
  refine ⟨a, c', e, h0, fun hn => ?_⟩
  obtain ⟨b, rfl, hb, hc⟩ := hr hn
  refine ⟨b, 0, rfl, hb, fun i hi => ?_⟩
  have hi' : i < fv.length := by omega
  obtain ⟨f1, f2⟩ := flat2 (fun p : List UInt8 × Value => strV p.1) (fun p => p.2) fv i hi'
  have hnm : fv[i].1 = c.files[i].1 := by
    have h1 := congrArg (fun l => l[i]?) h.fvn
    simpa [hi, hi'] using h1
  refine ⟨?_, fv[i].2, ?_, bys_own (h.fvb i hi hi')⟩
  · rw [Nat.zero_add, ← hnm]; exact hc _ _ f1
  · rw [Nat.zero_add]; exact hc _ _ f2
end Go.Proofs.Ytaginadnaajleaa
