/-
  The steps of view.Show's literal that change its invariant's ghosts, of chapter 30.
  Conditions: as each theorem states them.
-/
import Derived.Test.YtjfpepinmbbnbaaDoorShowJ
namespace Go.Proofs.YtjfpepinmbbnbaaDoor
open Go.RowKit
set_option linter.unusedVariables false
set_option linter.unusedSimpArgs false
theorem ShInv.insert {s : StC} {b n : Nat} {what : ByteArray} {w0 : World} {l : Array Bool} {a : Act} {w : World} (hs : l.size = 42) (h : ShInv s b n what w0 l a w) {i : Nat} (hi : i < 42) (h0 : slotOf i = 0) (hz : l.getD 0 false = true) (hn : l.getD i false = false)
    (k : ByteArray) (val : Value) (hin : ∀ G, (∀ j, j < 42 → slotOf j ≠ 0 → l.getD j false = true → a.eval (.tmp (slotOf j)) = valOf s b what G j) → (i, k, val) ∈ shT G) :
    ∃ w' g, a.eval (.tmp 10) = .map (some g) ∧ (Instr.mapUpdate 103 (.map (some g)) (.string k) val).run Tryd.prog w = .ok () w' ∧ ShInv s b n what w0 (l.setIfInBounds i true) a w' := by
  obtain ⟨G, g1, g2, g3, g4, g5, g6, g7, g8, g9, g10, g11, g12, g13, g14⟩ := h
  have hl : i < l.size := by omega
  have hm := hin G g8
  obtain ⟨m1, m2⟩ := g14 hz
  obtain ⟨o, r1, r2⟩ := m2.insert (P := Tryd.prog) Tryd.underlying103 Tryd.underlying9 k val (fS_new k val hn (shT_apart G) hm)
  obtain ⟨es, cl, hb, _⟩ := m2
  have hg := Gr.set hb o
  have hne : ∀ j, slotOf j ≠ 0 → ¬ i = j := fun j hj e => hj (e ▸ h0)
  have hk : ∀ j, slotOf j ≠ 0 → l.getD j false = (l.setIfInBounds i true).getD j false := fun j hj => by rw [getD_setB hl, if_neg (hne j hj)]
  refine ⟨_, G.g, g8 0 (by omega) (by decide) hz, r1, G, g1, g2, g3, g4, g5, g6.trans (below_set m1 o), g7.trans hg, ?_, ?_, ?_, ?_, ?_, ?_, ?_⟩
  · intro j hj hj0 hd
    rw [← hk j hj0] at hd
    exact g8 j hj hj0 hd
  · intro hd; rw [← hk 5 (by decide)] at hd; exact hg.2 _ _ (g9 hd)
  · intro hd; rw [← hk 11 (by decide)] at hd; exact hg.2 _ _ (g10 hd)
  · intro hd; rw [← hk 17 (by decide)] at hd; exact hg.2 _ _ (g11 hd)
  · intro hd; rw [← hk 23 (by decide)] at hd; exact hg.2 _ _ (g12 hd)
  · intro hd; rw [← hk 29 (by decide)] at hd; exact hg.2 _ _ (g13 hd)
  · intro _
    refine ⟨m1, ?_⟩
    have e : (fun t => if t == k then some val else fS l (shT G) t) = fS (l.setIfInBounds i true) (shT G) := funext fun t => (fS_add hl k val (shT_apart G) hm t).symm
    rw [← e]
    exact r2
/-- the map is made -/
theorem ShInv.made {s : StC} {b n : Nat} {what : ByteArray} {w0 : World} {l : Array Bool} {a : Act} {w : World} (hs : l.size = 42) (h : ShInv s b n what w0 l a w) (hnw : n ≤ w.heap.size) (hn : ∀ j ∈ [6, 12, 18, 24, 30, 31, 32, 33, 34, 36, 37, 38, 39, 40, 41], l.getD j false = false) :
    ShInv s b n what w0 (l.setIfInBounds 0 true) (a.put (some 10) (.map (some w.heap.size))) (w.alloc (.map #[] 0)) := by
  obtain ⟨G, g1, g2, g3, g4, g5, g6, g7, g8, g9, g10, g11, g12, g13, g14⟩ := h
  have hl : 0 < l.size := by omega
  have hb : Below w.heap.size w (w.alloc (.map #[] 0)) := bl_alloc (Below.refl _ _) _
  have hg := Gr.below hb
  refine ⟨{ G with g := w.heap.size }, by rw [put_size]; exact g1, by rw [put_defers]; exact g2, ?_, ?_, ?_, g6.trans (hb.mono hnw), g7.trans hg, ?_, ?_, ?_, ?_, ?_, ?_, ?_⟩
  · rw [Act.eval_put_ne _ _ _ _ (by decide)]; exact g3
  · rw [Act.eval_put_ne _ _ _ _ (by decide)]; exact g4
  · rw [Act.eval_put_ne _ _ _ _ (by decide)]; exact g5
  · intro j hj hj0 hd
    by_cases e : 0 = j
    · subst e
      exact Act.eval_put_same _ _ _ (by omega)
    · have := slot_apart j hj 0 (by omega) e (by decide)
      rw [show (10 : Nat) = slotOf 0 from rfl, Act.eval_put_ne _ _ _ _ this]
      rw [getD_setB hl, if_neg e] at hd
      have hj34 : j < 34 ∨ j = 35 := by
        rcases Nat.lt_or_ge j 34 with h | h
        · exact .inl h
        · by_cases h35 : j = 35
          · exact .inr h35
          · rw [hn j (by simp only [List.mem_cons, List.not_mem_nil, or_false]; omega)] at hd
            cases hd
      rw [g8 j hj hj0 hd]
      clear hd g8 hj0 this
      rcases hj34.symm with rfl | hj34
      · rfl
      rcases j with _ | j
      · exact absurd rfl e
      iterate 33 (rcases j with _ | j; · rfl)
      omega
  · intro hd; rw [getD_setB hl, if_neg (by decide)] at hd; exact hg.2 _ _ (g9 hd)
  · intro hd; rw [getD_setB hl, if_neg (by decide)] at hd; exact hg.2 _ _ (g10 hd)
  · intro hd; rw [getD_setB hl, if_neg (by decide)] at hd; exact hg.2 _ _ (g11 hd)
  · intro hd; rw [getD_setB hl, if_neg (by decide)] at hd; exact hg.2 _ _ (g12 hd)
  · intro hd; rw [getD_setB hl, if_neg (by decide)] at hd; exact hg.2 _ _ (g13 hd)
  · intro _
    refine ⟨hnw, ?_⟩
    have e : fS (l.setIfInBounds 0 true) (shT { G with g := w.heap.size }) = fun _ => none := by
      funext t
      refine fS_none fun r hr hd => ?_
      exfalso
      unfold shT at hr
      simp only [List.mem_cons, List.not_mem_nil, or_false] at hr
      have : r.1 ∈ [6, 12, 18, 24, 30, 31, 32, 33] := by rcases hr with rfl | rfl | rfl | rfl | rfl | rfl | rfl | rfl <;> simp
      have h2 := hn r.1 (by simp only [List.mem_cons, List.not_mem_nil, or_false] at this ⊢; omega)
      rw [getD_setB hl, if_neg (by intro e; rw [← e] at this; simp at this)] at hd
      rw [h2] at hd; cases hd
    rw [e]
    exact StrMap.made w
end Go.Proofs.YtjfpepinmbbnbaaDoor
