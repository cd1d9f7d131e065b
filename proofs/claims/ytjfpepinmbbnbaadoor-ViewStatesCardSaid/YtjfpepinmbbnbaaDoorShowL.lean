/-
  The closures of view.Show's literal, of chapter 30 (printed by gen_showl.py).
  Conditions: as each theorem states them.
-/
import Derived.Test.YtjfpepinmbbnbaaDoorShowK
namespace Go.Proofs.YtjfpepinmbbnbaaDoor
open Go.RowKit
set_option linter.unusedVariables false
set_option linter.unusedSimpArgs false
theorem ShInv.clo5 {s : StC} {b n : Nat} {what : ByteArray} {w0 : World} {l : Array Bool} {a : Act} {w : World} (hs : l.size = 42) (h : ShInv s b n what w0 l a w) (hnw : n ≤ w.heap.size) (hn6 : l.getD 6 false = false) (hn : ∀ j ∈ [34, 36, 37, 38, 39, 40, 41], l.getD j false = false) (t : TypeId) :
    ShInv s b n what w0 (l.setIfInBounds 5 true) (a.put (some 15) (clo w.heap.size)) (w.alloc (.cells #[s.pat.v] t)) := by
  obtain ⟨G, g1, g2, g3, g4, g5, g6, g7, g8, g9, g10, g11, g12, g13, g14⟩ := h
  have hl : 5 < l.size := by omega
  have hb : Below w.heap.size w (w.alloc (.cells #[s.pat.v] t)) := bl_alloc (Below.refl _ _) _
  have hg := Gr.below hb
  refine ⟨{ G with p0 := w.heap.size }, by rw [put_size]; exact g1, by rw [put_defers]; exact g2, ?_, ?_, ?_, g6.trans (hb.mono hnw), g7.trans hg, ?_, ?_, ?_, ?_, ?_, ?_, ?_⟩
  · rw [Act.eval_put_ne _ _ _ _ (by decide)]; exact g3
  · rw [Act.eval_put_ne _ _ _ _ (by decide)]; exact g4
  · rw [Act.eval_put_ne _ _ _ _ (by decide)]; exact g5
  · intro j hj hj0 hd
    by_cases e : 5 = j
    · subst e
      exact Act.eval_put_same _ _ _ (by omega)
    · have := slot_apart j hj 5 (by omega) e (by decide)
      rw [show (15 : Nat) = slotOf 5 from rfl, Act.eval_put_ne _ _ _ _ this]
      rw [getD_setB hl, if_neg e] at hd
      have hj34 : j < 34 ∨ j = 35 := by
        rcases Nat.lt_or_ge j 34 with h | h
        · exact .inl h
        · by_cases h35 : j = 35
          · exact .inr h35
          · rw [hn j (by simp only [List.mem_cons, List.not_mem_nil, or_false]; omega)] at hd
            cases hd
      rw [g8 j hj hj0 hd]
      clear hd g8 hj0 this
      rcases hj34.symm with rfl | hj34
      · rfl
      iterate 34 (rcases j with _ | j; · first | rfl | exact absurd rfl e)
      omega
  · intro _; exact (Blk.new w t [s.pat.v]).cell 0
  · intro hd; rw [getD_setB hl, if_neg (by decide)] at hd; exact hg.2 _ _ (g10 hd)
  · intro hd; rw [getD_setB hl, if_neg (by decide)] at hd; exact hg.2 _ _ (g11 hd)
  · intro hd; rw [getD_setB hl, if_neg (by decide)] at hd; exact hg.2 _ _ (g12 hd)
  · intro hd; rw [getD_setB hl, if_neg (by decide)] at hd; exact hg.2 _ _ (g13 hd)
  · intro hd
    rw [getD_setB hl, if_neg (by decide)] at hd
    obtain ⟨m1, m2⟩ := g14 hd
    refine ⟨m1, ?_⟩
    have hT : ∀ r ∈ shT { G with p0 := w.heap.size }, r.1 ≠ 5 := by
      intro r hr
      unfold shT at hr
      simp only [List.mem_cons, List.not_mem_nil, or_false] at hr
      rcases hr with rfl | rfl | rfl | rfl | rfl | rfl | rfl | rfl <;> simp
    have e : fS l (shT { G with p0 := w.heap.size }) = fS l (shT G) := by
      refine fS_congr ?_
      unfold shT
      simp only [SameT]
      repeat' (with_reducible apply And.intro)
      all_goals first | trivial | rfl | (intro _; rfl) | (intro _; trivial) | (intro h; rw [hn6] at h; cases h)
    show StrMap _ G.g _
    rw [fS_other hl hT, e]
    exact m2.below hb
theorem ShInv.clo11 {s : StC} {b n : Nat} {what : ByteArray} {w0 : World} {l : Array Bool} {a : Act} {w : World} (hs : l.size = 42) (h : ShInv s b n what w0 l a w) (hnw : n ≤ w.heap.size) (hn6 : l.getD 12 false = false) (hn : ∀ j ∈ [34, 36, 37, 38, 39, 40, 41], l.getD j false = false) (t : TypeId) :
    ShInv s b n what w0 (l.setIfInBounds 11 true) (a.put (some 20) (clo w.heap.size)) (w.alloc (.cells #[s.hold.v] t)) := by
  obtain ⟨G, g1, g2, g3, g4, g5, g6, g7, g8, g9, g10, g11, g12, g13, g14⟩ := h
  have hl : 11 < l.size := by omega
  have hb : Below w.heap.size w (w.alloc (.cells #[s.hold.v] t)) := bl_alloc (Below.refl _ _) _
  have hg := Gr.below hb
  refine ⟨{ G with p1 := w.heap.size }, by rw [put_size]; exact g1, by rw [put_defers]; exact g2, ?_, ?_, ?_, g6.trans (hb.mono hnw), g7.trans hg, ?_, ?_, ?_, ?_, ?_, ?_, ?_⟩
  · rw [Act.eval_put_ne _ _ _ _ (by decide)]; exact g3
  · rw [Act.eval_put_ne _ _ _ _ (by decide)]; exact g4
  · rw [Act.eval_put_ne _ _ _ _ (by decide)]; exact g5
  · intro j hj hj0 hd
    by_cases e : 11 = j
    · subst e
      exact Act.eval_put_same _ _ _ (by omega)
    · have := slot_apart j hj 11 (by omega) e (by decide)
      rw [show (20 : Nat) = slotOf 11 from rfl, Act.eval_put_ne _ _ _ _ this]
      rw [getD_setB hl, if_neg e] at hd
      have hj34 : j < 34 ∨ j = 35 := by
        rcases Nat.lt_or_ge j 34 with h | h
        · exact .inl h
        · by_cases h35 : j = 35
          · exact .inr h35
          · rw [hn j (by simp only [List.mem_cons, List.not_mem_nil, or_false]; omega)] at hd
            cases hd
      rw [g8 j hj hj0 hd]
      clear hd g8 hj0 this
      rcases hj34.symm with rfl | hj34
      · rfl
      iterate 34 (rcases j with _ | j; · first | rfl | exact absurd rfl e)
      omega
  · intro hd; rw [getD_setB hl, if_neg (by decide)] at hd; exact hg.2 _ _ (g9 hd)
  · intro _; exact (Blk.new w t [s.hold.v]).cell 0
  · intro hd; rw [getD_setB hl, if_neg (by decide)] at hd; exact hg.2 _ _ (g11 hd)
  · intro hd; rw [getD_setB hl, if_neg (by decide)] at hd; exact hg.2 _ _ (g12 hd)
  · intro hd; rw [getD_setB hl, if_neg (by decide)] at hd; exact hg.2 _ _ (g13 hd)
  · intro hd
    rw [getD_setB hl, if_neg (by decide)] at hd
    obtain ⟨m1, m2⟩ := g14 hd
    refine ⟨m1, ?_⟩
    have hT : ∀ r ∈ shT { G with p1 := w.heap.size }, r.1 ≠ 11 := by
      intro r hr
      unfold shT at hr
      simp only [List.mem_cons, List.not_mem_nil, or_false] at hr
      rcases hr with rfl | rfl | rfl | rfl | rfl | rfl | rfl | rfl <;> simp
    have e : fS l (shT { G with p1 := w.heap.size }) = fS l (shT G) := by
      refine fS_congr ?_
      unfold shT
      simp only [SameT]
      repeat' (with_reducible apply And.intro)
      all_goals first | trivial | rfl | (intro _; rfl) | (intro _; trivial) | (intro h; rw [hn6] at h; cases h)
    show StrMap _ G.g _
    rw [fS_other hl hT, e]
    exact m2.below hb
theorem ShInv.clo17 {s : StC} {b n : Nat} {what : ByteArray} {w0 : World} {l : Array Bool} {a : Act} {w : World} (hs : l.size = 42) (h : ShInv s b n what w0 l a w) (hnw : n ≤ w.heap.size) (hn6 : l.getD 18 false = false) (hn : ∀ j ∈ [34, 36, 37, 38, 39, 40, 41], l.getD j false = false) (t : TypeId) :
    ShInv s b n what w0 (l.setIfInBounds 17 true) (a.put (some 25) (clo w.heap.size)) (w.alloc (.cells #[s.rest.v] t)) := by
  obtain ⟨G, g1, g2, g3, g4, g5, g6, g7, g8, g9, g10, g11, g12, g13, g14⟩ := h
  have hl : 17 < l.size := by omega
  have hb : Below w.heap.size w (w.alloc (.cells #[s.rest.v] t)) := bl_alloc (Below.refl _ _) _
  have hg := Gr.below hb
  refine ⟨{ G with p2 := w.heap.size }, by rw [put_size]; exact g1, by rw [put_defers]; exact g2, ?_, ?_, ?_, g6.trans (hb.mono hnw), g7.trans hg, ?_, ?_, ?_, ?_, ?_, ?_, ?_⟩
  · rw [Act.eval_put_ne _ _ _ _ (by decide)]; exact g3
  · rw [Act.eval_put_ne _ _ _ _ (by decide)]; exact g4
  · rw [Act.eval_put_ne _ _ _ _ (by decide)]; exact g5
  · intro j hj hj0 hd
    by_cases e : 17 = j
    · subst e
      exact Act.eval_put_same _ _ _ (by omega)
    · have := slot_apart j hj 17 (by omega) e (by decide)
      rw [show (25 : Nat) = slotOf 17 from rfl, Act.eval_put_ne _ _ _ _ this]
      rw [getD_setB hl, if_neg e] at hd
      have hj34 : j < 34 ∨ j = 35 := by
        rcases Nat.lt_or_ge j 34 with h | h
        · exact .inl h
        · by_cases h35 : j = 35
          · exact .inr h35
          · rw [hn j (by simp only [List.mem_cons, List.not_mem_nil, or_false]; omega)] at hd
            cases hd
      rw [g8 j hj hj0 hd]
      clear hd g8 hj0 this
      rcases hj34.symm with rfl | hj34
      · rfl
      iterate 34 (rcases j with _ | j; · first | rfl | exact absurd rfl e)
      omega
  · intro hd; rw [getD_setB hl, if_neg (by decide)] at hd; exact hg.2 _ _ (g9 hd)
  · intro hd; rw [getD_setB hl, if_neg (by decide)] at hd; exact hg.2 _ _ (g10 hd)
  · intro _; exact (Blk.new w t [s.rest.v]).cell 0
  · intro hd; rw [getD_setB hl, if_neg (by decide)] at hd; exact hg.2 _ _ (g12 hd)
  · intro hd; rw [getD_setB hl, if_neg (by decide)] at hd; exact hg.2 _ _ (g13 hd)
  · intro hd
    rw [getD_setB hl, if_neg (by decide)] at hd
    obtain ⟨m1, m2⟩ := g14 hd
    refine ⟨m1, ?_⟩
    have hT : ∀ r ∈ shT { G with p2 := w.heap.size }, r.1 ≠ 17 := by
      intro r hr
      unfold shT at hr
      simp only [List.mem_cons, List.not_mem_nil, or_false] at hr
      rcases hr with rfl | rfl | rfl | rfl | rfl | rfl | rfl | rfl <;> simp
    have e : fS l (shT { G with p2 := w.heap.size }) = fS l (shT G) := by
      refine fS_congr ?_
      unfold shT
      simp only [SameT]
      repeat' (with_reducible apply And.intro)
      all_goals first | trivial | rfl | (intro _; rfl) | (intro _; trivial) | (intro h; rw [hn6] at h; cases h)
    show StrMap _ G.g _
    rw [fS_other hl hT, e]
    exact m2.below hb
theorem ShInv.clo23 {s : StC} {b n : Nat} {what : ByteArray} {w0 : World} {l : Array Bool} {a : Act} {w : World} (hs : l.size = 42) (h : ShInv s b n what w0 l a w) (hnw : n ≤ w.heap.size) (hn6 : l.getD 24 false = false) (hn : ∀ j ∈ [34, 36, 37, 38, 39, 40, 41], l.getD j false = false) (t : TypeId) :
    ShInv s b n what w0 (l.setIfInBounds 23 true) (a.put (some 30) (clo w.heap.size)) (w.alloc (.cells #[s.out.v] t)) := by
  obtain ⟨G, g1, g2, g3, g4, g5, g6, g7, g8, g9, g10, g11, g12, g13, g14⟩ := h
  have hl : 23 < l.size := by omega
  have hb : Below w.heap.size w (w.alloc (.cells #[s.out.v] t)) := bl_alloc (Below.refl _ _) _
  have hg := Gr.below hb
  refine ⟨{ G with p3 := w.heap.size }, by rw [put_size]; exact g1, by rw [put_defers]; exact g2, ?_, ?_, ?_, g6.trans (hb.mono hnw), g7.trans hg, ?_, ?_, ?_, ?_, ?_, ?_, ?_⟩
  · rw [Act.eval_put_ne _ _ _ _ (by decide)]; exact g3
  · rw [Act.eval_put_ne _ _ _ _ (by decide)]; exact g4
  · rw [Act.eval_put_ne _ _ _ _ (by decide)]; exact g5
  · intro j hj hj0 hd
    by_cases e : 23 = j
    · subst e
      exact Act.eval_put_same _ _ _ (by omega)
    · have := slot_apart j hj 23 (by omega) e (by decide)
      rw [show (30 : Nat) = slotOf 23 from rfl, Act.eval_put_ne _ _ _ _ this]
      rw [getD_setB hl, if_neg e] at hd
      have hj34 : j < 34 ∨ j = 35 := by
        rcases Nat.lt_or_ge j 34 with h | h
        · exact .inl h
        · by_cases h35 : j = 35
          · exact .inr h35
          · rw [hn j (by simp only [List.mem_cons, List.not_mem_nil, or_false]; omega)] at hd
            cases hd
      rw [g8 j hj hj0 hd]
      clear hd g8 hj0 this
      rcases hj34.symm with rfl | hj34
      · rfl
      iterate 34 (rcases j with _ | j; · first | rfl | exact absurd rfl e)
      omega
  · intro hd; rw [getD_setB hl, if_neg (by decide)] at hd; exact hg.2 _ _ (g9 hd)
  · intro hd; rw [getD_setB hl, if_neg (by decide)] at hd; exact hg.2 _ _ (g10 hd)
  · intro hd; rw [getD_setB hl, if_neg (by decide)] at hd; exact hg.2 _ _ (g11 hd)
  · intro _; exact (Blk.new w t [s.out.v]).cell 0
  · intro hd; rw [getD_setB hl, if_neg (by decide)] at hd; exact hg.2 _ _ (g13 hd)
  · intro hd
    rw [getD_setB hl, if_neg (by decide)] at hd
    obtain ⟨m1, m2⟩ := g14 hd
    refine ⟨m1, ?_⟩
    have hT : ∀ r ∈ shT { G with p3 := w.heap.size }, r.1 ≠ 23 := by
      intro r hr
      unfold shT at hr
      simp only [List.mem_cons, List.not_mem_nil, or_false] at hr
      rcases hr with rfl | rfl | rfl | rfl | rfl | rfl | rfl | rfl <;> simp
    have e : fS l (shT { G with p3 := w.heap.size }) = fS l (shT G) := by
      refine fS_congr ?_
      unfold shT
      simp only [SameT]
      repeat' (with_reducible apply And.intro)
      all_goals first | trivial | rfl | (intro _; rfl) | (intro _; trivial) | (intro h; rw [hn6] at h; cases h)
    show StrMap _ G.g _
    rw [fS_other hl hT, e]
    exact m2.below hb
theorem ShInv.clo29 {s : StC} {b n : Nat} {what : ByteArray} {w0 : World} {l : Array Bool} {a : Act} {w : World} (hs : l.size = 42) (h : ShInv s b n what w0 l a w) (hnw : n ≤ w.heap.size) (hn6 : l.getD 30 false = false) (hn : ∀ j ∈ [34, 36, 37, 38, 39, 40, 41], l.getD j false = false) (t : TypeId) :
    ShInv s b n what w0 (l.setIfInBounds 29 true) (a.put (some 35) (clo w.heap.size)) (w.alloc (.cells #[s.place.v] t)) := by
  obtain ⟨G, g1, g2, g3, g4, g5, g6, g7, g8, g9, g10, g11, g12, g13, g14⟩ := h
  have hl : 29 < l.size := by omega
  have hb : Below w.heap.size w (w.alloc (.cells #[s.place.v] t)) := bl_alloc (Below.refl _ _) _
  have hg := Gr.below hb
  refine ⟨{ G with p4 := w.heap.size }, by rw [put_size]; exact g1, by rw [put_defers]; exact g2, ?_, ?_, ?_, g6.trans (hb.mono hnw), g7.trans hg, ?_, ?_, ?_, ?_, ?_, ?_, ?_⟩
  · rw [Act.eval_put_ne _ _ _ _ (by decide)]; exact g3
  · rw [Act.eval_put_ne _ _ _ _ (by decide)]; exact g4
  · rw [Act.eval_put_ne _ _ _ _ (by decide)]; exact g5
  · intro j hj hj0 hd
    by_cases e : 29 = j
    · subst e
      exact Act.eval_put_same _ _ _ (by omega)
    · have := slot_apart j hj 29 (by omega) e (by decide)
      rw [show (35 : Nat) = slotOf 29 from rfl, Act.eval_put_ne _ _ _ _ this]
      rw [getD_setB hl, if_neg e] at hd
      have hj34 : j < 34 ∨ j = 35 := by
        rcases Nat.lt_or_ge j 34 with h | h
        · exact .inl h
        · by_cases h35 : j = 35
          · exact .inr h35
          · rw [hn j (by simp only [List.mem_cons, List.not_mem_nil, or_false]; omega)] at hd
            cases hd
      rw [g8 j hj hj0 hd]
      clear hd g8 hj0 this
      rcases hj34.symm with rfl | hj34
      · rfl
      iterate 34 (rcases j with _ | j; · first | rfl | exact absurd rfl e)
      omega
  · intro hd; rw [getD_setB hl, if_neg (by decide)] at hd; exact hg.2 _ _ (g9 hd)
  · intro hd; rw [getD_setB hl, if_neg (by decide)] at hd; exact hg.2 _ _ (g10 hd)
  · intro hd; rw [getD_setB hl, if_neg (by decide)] at hd; exact hg.2 _ _ (g11 hd)
  · intro hd; rw [getD_setB hl, if_neg (by decide)] at hd; exact hg.2 _ _ (g12 hd)
  · intro _; exact (Blk.new w t [s.place.v]).cell 0
  · intro hd
    rw [getD_setB hl, if_neg (by decide)] at hd
    obtain ⟨m1, m2⟩ := g14 hd
    refine ⟨m1, ?_⟩
    have hT : ∀ r ∈ shT { G with p4 := w.heap.size }, r.1 ≠ 29 := by
      intro r hr
      unfold shT at hr
      simp only [List.mem_cons, List.not_mem_nil, or_false] at hr
      rcases hr with rfl | rfl | rfl | rfl | rfl | rfl | rfl | rfl <;> simp
    have e : fS l (shT { G with p4 := w.heap.size }) = fS l (shT G) := by
      refine fS_congr ?_
      unfold shT
      simp only [SameT]
      repeat' (with_reducible apply And.intro)
      all_goals first | trivial | rfl | (intro _; rfl) | (intro _; trivial) | (intro h; rw [hn6] at h; cases h)
    show StrMap _ G.g _
    rw [fS_other hl hT, e]
    exact m2.below hb
end Go.Proofs.YtjfpepinmbbnbaaDoor
