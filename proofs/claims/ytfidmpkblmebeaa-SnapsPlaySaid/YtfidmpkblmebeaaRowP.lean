/-
  Rows that a call made, as rows of a state; a row of pairs whose texts are copied one by one: the memory's side.
  Conditions: as each theorem states them.
-/
import Derived.Test.YtfidmpkblmebeaaCloneG
namespace Go.Proofs.Ytfidmpkblmebeaa
open Go.RowKit
set_option linter.unusedVariables false
set_option linter.unusedSimpArgs false
theorem src_cells {lo hi k : Nat} {W : World} {s : Sl3} {cs : List Value} (h : CellsI lo hi W s.a cs) (hl : cs.length = s.n * k) (hk : 0 < k) : SrcAt W (.slice s.a s.n s.c) s.n cs := by
  refine ⟨s.a, s.c, rfl, fun e => ?_, fun ad e j u hj => ?_⟩
  · rcases Nat.eq_zero_or_pos s.n with h0 | h0
    · exact h0
    · have hp : 0 < cs.length := by rw [hl]; exact Nat.mul_pos h0 hk
      obtain ⟨p, o, e2, _⟩ := h hp
      rw [e] at e2; cases e2
  · obtain ⟨hj', hu⟩ := List.getElem?_eq_some_iff.1 hj
    obtain ⟨p, o, e2, h1, h2, h3⟩ := h (by omega)
    rw [e] at e2; cases e2
    have e1 : (⟨p, o, none⟩ : Addr).add j = ⟨p, o + j, none⟩ := by unfold Addr.add; by_cases h0 : j = 0 <;> simp [h0]
    rw [e1, (h3 j hj').1, hu]
theorem src_tx {lo hi : Nat} {W : World} {s : Sl3} {t : List UInt8} (h : TxI lo hi W s t) (hs : t.length ≤ 1000000000000) : RowSrc W s.a s.n s.c 1 (Lib.byteCells t) :=
  ⟨src_cells h.2.2.2 (by rw [bc_len, h.1, Nat.mul_one]) (by decide), by rw [bc_len, h.1, Nat.mul_one], bytes_one t, by rw [h.1]; exact hs⟩
theorem src_bl {lo hi : Nat} {W : World} {s : Sl3} {t : List Bool} (h : BlI lo hi W s t) (hs : t.length ≤ 1000000000000) : RowSrc W s.a s.n s.c 1 (t.map .bool) :=
  ⟨src_cells h.2.2.2 (by rw [List.length_map, h.1, Nat.mul_one]) (by decide), by rw [List.length_map, h.1, Nat.mul_one], fun u hu => (by obtain ⟨x, _, rfl⟩ := List.mem_map.1 hu; rfl), by rw [h.1]; exact hs⟩
theorem cells_own {w : World} {base e k n : Nat} {v : Value} {xs : List Value} (h : w.ownsRow base e k v n xs) : ∃ s : Sl3, v = s.v ∧ s.n = n ∧ n ≤ s.c ∧ CellsI base w.heap.size w s.a xs := by
  rcases h.2 with ⟨rfl, rfl⟩ | ⟨g, cap, cur, rfl, hb, hg, hnc, _⟩
  · exact ⟨⟨none, 0, 0⟩, rfl, rfl, Nat.le_refl _, fun h0 => by have := h.1; omega⟩
  · refine ⟨⟨some ⟨g, 0, none⟩, n, cap⟩, rfl, rfl, hnc, fun h0 => ⟨g, 0, rfl, hb, (Array.getElem?_eq_some_iff.1 hg).1, fun i hi => ⟨?_, fun _ => h.frozenAt _⟩⟩⟩
    rw [Nat.zero_add, h.cellAt i (by rw [← h.1]; exact hi), List.getElem?_eq_getElem hi]
theorem tx_own {w : World} {base e : Nat} {v : Value} {t : List UInt8} (h : w.ownsRow base e 1 v t.length (Lib.byteCells t)) (hs : t.length ≤ 1000000000000) : ∃ s : Sl3, v = s.v ∧ TxI base w.heap.size w s t := by
  obtain ⟨s, rfl, h1, h2, h3⟩ := cells_own h
  exact ⟨s, rfl, h1, h2, by omega, h3⟩
theorem bl_own {w : World} {base e : Nat} {v : Value} {t : List Bool} (h : w.ownsRow base e 1 v t.length (t.map .bool)) (hs : t.length ≤ 1000000000000) : ∃ s : Sl3, v = s.v ∧ BlI base w.heap.size w s t := by
  obtain ⟨s, rfl, h1, h2, h3⟩ := cells_own h
  exact ⟨s, rfl, h1, h2, by omega, h3⟩
theorem own_below {w w' : World} {base e k n : Nat} {v : Value} {xs : List Value} (h : w.ownsRow base e k v n xs) (hb : Below w.heap.size w w') : w'.ownsRow base e k v n xs :=
  h.kept (row := none) ⟨hb.os, hb.tape, hb.output, hb.size, fun i hi _ => hb.block i hi⟩ (by
    cases he : v.ownBlock with
    | none => exact .inl rfl
    | some b => exact .inr (by simp))
/-- a row of pairs that the call owns: the first m texts are copied (they lie from n on), the others are the old ones -/
structure PrL {α : Type} (f : α → Value) (l : List (α × List UInt8)) (E base n lo hi : Nat) (v : Value) (m : Nat) (X : World) : Prop where
  top : n ≤ X.heap.size
  low : base ≤ n
  le : hi ≤ base
  ex : ∃ ss : List Sl3, ss.length = l.length ∧ X.ownsRow base E 2 v l.length (pairCells ((l.map fun p => f p.1).zip ss)) ∧ (∀ k, v.ownBlock = some k → k < n) ∧
    (∀ i (h : i < l.length) (h' : i < ss.length), i < m → TxI n X.heap.size X ss[i] l[i].2) ∧ ∀ i (h : i < l.length) (h' : i < ss.length), m ≤ i → TxI lo hi X ss[i] l[i].2
section
variable {α : Type} {f : α → Value} {l : List (α × List UInt8)} {E base n lo hi m : Nat} {v : Value} {X : World}
theorem PrL.below {X' : World} (h : PrL f l E base n lo hi v m X) (hb : Below X.heap.size X X') : PrL f l E base n lo hi v m X' := by
  obtain ⟨ss, h1, h2, h3, h4, h5⟩ := h.ex
  have hs := hb.size
  have ht := h.top
  have hl := h.low
  have hle := h.le
  refine ⟨by omega, h.low, h.le, ss, h1, own_below h2 hb, h3, fun i a b c => ((h4 i a b c).keep (KeepI.below hb (Nat.le_refl _))).wide (Nat.le_refl _) hs, fun i a b c => (h5 i a b c).keep (KeepI.below hb (by omega))⟩
theorem pairs_set : ∀ (fv : List Value) (ss : List Sl3) (i : Nat) (x : Sl3), i < fv.length → i < ss.length → pairCells (fv.zip (ss.set i x)) = (pairCells (fv.zip ss)).set (i * 2 + 1) x.v
  | [], _, _, _, h, _ => by simp at h
  | _, [], _, _, _, h => by simp at h
  | a :: fv, s :: ss, 0, x, _, _ => by simp [pairCells]
  | a :: fv, s :: ss, i + 1, x, h, h' => by
    have := pairs_set fv ss i x (by simpa using h) (by simpa using h')
    simp only [pairCells, List.set_cons_succ, List.zip_cons_cons, List.map_cons, List.flatten_cons] at this ⊢
    rw [this, show (i + 1) * 2 + 1 = (i * 2 + 1) + 1 + 1 by omega]
    rfl
/-- where the m-th text stands -/
theorem PrL.at (h : PrL f l E base n lo hi v m X) (hm : m < l.length) : ∃ (g cap : Nat) (s : Sl3), v = .slice (some ⟨g, 0, none⟩) l.length cap ∧ base ≤ g ∧ g < n ∧ X.cell? ⟨g, m * 2 + 1, none⟩ = some s.v ∧ X.frozen? ⟨g, m * 2 + 1, none⟩ = false ∧ TxI lo hi X s (l[m]).2 := by
  obtain ⟨ss, h1, h2, h3, h4, h5⟩ := h.ex
  rcases h2.2 with ⟨rfl, h0⟩ | ⟨g, cap, cur, rfl, hb, hg, hnc, _⟩
  · omega
  · have hm' : m < ss.length := by omega
    refine ⟨g, cap, ss[m], rfl, hb, h3 g rfl, ?_, h2.frozenAt _, h5 m hm hm' (Nat.le_refl _)⟩
    rw [h2.cellAt _ (by omega)]
    have := (pairs_get ((l.map fun p => f p.1).zip ss) m (by simp; omega)).2
    rw [this]
    simp
/-- the m-th text is copied -/
theorem PrL.put {g cap : Nat} {Y : World} {s : Sl3} (h : PrL f l E base n lo hi (.slice (some ⟨g, 0, none⟩) l.length cap) m X) (hm : m < l.length) (hb : Below X.heap.size X Y) (hs : TxI X.heap.size Y.heap.size Y s (l[m]).2) :
    PrL f l E base n lo hi (.slice (some ⟨g, 0, none⟩) l.length cap) (m + 1) (Y.setCell ⟨g, m * 2 + 1, none⟩ s.v) := by
  obtain ⟨ss, h1, h2, h3, h4, h5⟩ := (h.below hb).ex
  have hg : base ≤ g := by
    rcases h2.2 with ⟨h', _⟩ | ⟨g', _, _, h', hb', _⟩
    · simp at h'
    · simp at h'; omega
  have hgn := h3 g rfl
  have ht := h.top
  have hXY := hb.size
  have hle := h.le
  have hlow := h.low
  have hsz : (Y.setCell ⟨g, m * 2 + 1, none⟩ s.v).heap.size = Y.heap.size := by simp
  have hO : Only (fun k => k = g) Y (Y.setCell ⟨g, m * 2 + 1, none⟩ s.v) := (Only.refl (fun k => k = g) Y).setCell (p := ⟨g, m * 2 + 1, none⟩) rfl _
  have kn : KeepI n Y.heap.size Y (Y.setCell ⟨g, m * 2 + 1, none⟩ s.v) := KeepI.only hO (Nat.le_refl _) (fun k h1 h2 => by omega)
  have kl : KeepI lo hi Y (Y.setCell ⟨g, m * 2 + 1, none⟩ s.v) := KeepI.only hO (by omega) (fun k h1 h2 => by omega)
  refine ⟨by rw [hsz]; omega, h.low, h.le, ss.set m s, by simpa using h1, ?_, h3, fun i a b c => ?_, fun i a b c => ?_⟩
  · rw [pairs_set _ _ _ _ (by simpa using hm) (by omega)]
    exact (h2.stored (m * 2 + 1) s.v).1
  · rw [hsz]
    by_cases hi : i = m
    · subst hi
      rw [List.getElem_set_self]
      exact (hs.wide (by omega) (Nat.le_refl _)).keep kn
    · rw [List.getElem_set_ne (fun e => hi e.symm)]
      exact (h4 i a (by simpa using b) (by omega)).keep kn
  · rw [List.getElem_set_ne (by omega)]
    exact (h5 i a (by simpa using b) (by omega)).keep kl
theorem PrL.done (h : PrL f l E base n lo hi v l.length X) (hs : l.length ≤ 1000000000000) : ∃ s : Sl3, v = s.v ∧ PrI f base X.heap.size X s l := by
  obtain ⟨ss, h1, h2, h3, h4, h5⟩ := h.ex
  obtain ⟨s, rfl, k1, k2, k3⟩ := cells_own h2
  exact ⟨s, rfl, k1, k2, by omega, ss, h1, k3, fun i a b => (h4 i a b a).wide h.low (Nat.le_refl _)⟩
/-- a row that is just copied -/
theorem PrL.start {W : World} {s : Sl3} {v : Value} {cs : List Value} (h : PrI f lo hi W s l) (hW : hi ≤ W.heap.size) (hb : Below W.heap.size W X)
    (hc : ∀ ss : List Sl3, ss.length = l.length → CellsI lo hi W s.a (pairCells ((l.map fun p => f p.1).zip ss)) → X.ownsRow W.heap.size E 2 v l.length (pairCells ((l.map fun p => f p.1).zip ss))) : PrL f l E W.heap.size X.heap.size lo hi v 0 X := by
  obtain ⟨h1, h2, h3, ss, h4, h5, h6⟩ := h
  have ho := hc ss h4 h5
  exact ⟨Nat.le_refl _, hb.size, hW, ss, h4, ho, fun k hk => (ho.lt k hk).2, fun i a b c => by omega, fun i a b c => (h6 i a b).keep (KeepI.below hb hW)⟩
end
theorem pairs_one {α : Type} {f : α → Value} (hf : ∀ a, (f a).oneCell' = true) : ∀ (l : List (α × List UInt8)) (ss : List Sl3), ∀ u ∈ pairCells ((l.map fun p => f p.1).zip ss), u.oneCell' = true
  | [], _, u, h => by simp [pairCells] at h
  | _ :: _, [], u, h => by simp [pairCells] at h
  | x :: l, s :: ss, u, h => by
    have ih := pairs_one hf l ss u
    simp only [pairCells, List.map_cons, List.zip_cons_cons, List.flatten_cons, List.mem_append, List.mem_cons, List.not_mem_nil, or_false] at h ih ⊢
    rcases h with (rfl | rfl) | h
    · exact hf _
    · rfl
    · exact ih h
theorem src_pr {α : Type} {f : α → Value} (hf : ∀ a, (f a).oneCell' = true) {lo hi : Nat} {W : World} {s : Sl3} {l : List (α × List UInt8)} (hn : s.n = l.length) (hs : l.length ≤ 1000000000000) {ss : List Sl3} (h4 : ss.length = l.length)
    (h5 : CellsI lo hi W s.a (pairCells ((l.map fun p => f p.1).zip ss))) : RowSrc W s.a s.n s.c 2 (pairCells ((l.map fun p => f p.1).zip ss)) := by
  have hl : (pairCells ((l.map fun p => f p.1).zip ss)).length = s.n * 2 := by rw [pairs_len]; simp; omega
  exact ⟨src_cells h5 hl (by decide), hl, pairs_one hf l ss, by rw [hn]; exact hs⟩
end Go.Proofs.Ytfidmpkblmebeaa
