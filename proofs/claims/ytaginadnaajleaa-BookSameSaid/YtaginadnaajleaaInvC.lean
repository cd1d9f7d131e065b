/-
  A region that draws, by an invariant; what is done is closed under what binds. And worlds that grow.
  Conditions: as each theorem states them.
-/
import Derived.Test.YtaginadnaajleaaInvR
import Derived.Test.YtaginadnaajleaaMapS
import Derived.Great.Frames
namespace Go.Proofs.Ytaginadnaajleaa
open Go.RowKit
set_option linter.unusedVariables false
set_option linter.unusedSimpArgs false
section
variable {P : Program} {ops : Array Oper} {Q : Exit → Act → World → Prop}
/-- what is done has behind it all that binds it -/
def Closed (ops : Array Oper) (l : Array Bool) : Prop := ∀ j, l.getD j false = true → ∀ o, ops[j]? = some o → ∀ e ∈ o.after, Region.binds .any e = true → l.getD e.on false = true
theorem getD_setB {l : Array Bool} {i j : Nat} (hi : i < l.size) : (l.setIfInBounds i true).getD j false = (if i = j then true else l.getD j false) := by
  simp only [Array.getD_eq_getD_getElem?]
  by_cases h : i = j
  · subst h; simp [hi]
  · rw [if_neg h, Array.getElem?_setIfInBounds_ne h]
theorem Closed.set {l : Array Bool} (hs : l.size = ops.size) (h : Closed ops l) {i : Nat} {o : Oper} (hi : ops[i]? = some o) (hd : ∀ e ∈ o.after, Region.binds .any e = true → l.getD e.on false = true) : Closed ops (l.setIfInBounds i true) := by
  have hlt : i < l.size := by rw [hs]; exact (Array.getElem?_eq_some_iff.1 hi).1
  intro j hj o' ho' e he hb
  rw [getD_setB hlt] at hj ⊢
  by_cases hij : i = e.on
  · rw [if_pos hij]
  · rw [if_neg hij]
    by_cases h2 : i = j
    · subst h2
      rw [hi] at ho'; cases ho'
      exact hd e he hb
    · rw [if_neg h2] at hj
      exact h j hj o' ho' e he hb
theorem wp_region_inv2 {id : Nat} {a : Act} {w : World} (Inv : Array Bool → Act → World → Prop) (hm : P.follows .mixedOrders = true) (hf : fwdB .any ops = true)
    (h0 : Inv (Array.replicate ops.size false) a w.drew)
    (hstep : ∀ (l : Array Bool) (a : Act) (w : World), l.size = ops.size → Closed ops l → Inv l a w → ∀ i o, ops[i]? = some o → l.getD i false = false → (∀ e ∈ o.after, Region.binds .any e = true → l.getD e.on false = true) → wpOp P ops Q i (Inv (l.setIfInBounds i true)) a w)
    (hend : ∀ (l : Array Bool) (a : Act) (w : World), (∀ i, i < ops.size → l.getD i false = true) → Inv l a w → Q .normal a w) : (Code.region id ops true).wp P Q a w := by
  refine wp_region_inv (fun l a w => l.size = ops.size ∧ Closed ops l ∧ Inv l a w) hm hf ⟨by simp, ?_, h0⟩ ?_ (fun l a w h1 h2 => hend l a w h1 h2.2.2)
  · intro j hj
    simp only [Array.getD_eq_getD_getElem?, Array.getElem?_replicate] at hj
    split at hj <;> cases hj
  · rintro l a w hs ⟨_, hc, hi⟩ i hr
    obtain ⟨h1, o, ho, h2⟩ := mem_ready.1 hr
    have hlt : i < l.size := by rw [hs]; exact (Array.getElem?_eq_some_iff.1 ho).1
    have h3 : l.getD i false = false := by
      simp only [Array.getD_eq_getD_getElem?, Array.getElem?_eq_getElem hlt] at h1 ⊢
      exact h1
    exact wpOp_mono (fun a' w' h => ⟨by simpa using hs, hc.set hs ho h2, h⟩) (hstep l a w hs hc hi i o ho h3 h2)
end
/-- w' holds what lay in w's cells -/
def Gr (w w' : World) : Prop := w.heap.size ≤ w'.heap.size ∧ ∀ p v, w.cell? p = some v → w'.cell? p = some v
theorem Gr.refl (w : World) : Gr w w := ⟨Nat.le_refl _, fun _ _ h => h⟩
theorem Gr.trans {a b c : World} (h : Gr a b) (k : Gr b c) : Gr a c := ⟨Nat.le_trans h.1 k.1, fun p v hp => k.2 p v (h.2 p v hp)⟩
theorem Gr.below {w w' : World} (h : Below w.heap.size w w') : Gr w w' := ⟨h.size, fun p v hp => (h.cell (World.block_lt_of_cell? w _ hp)).trans hp⟩
theorem Gr.set {w : World} {g : Nat} {es : Array MapEntry} {cl : Nat} (hg : w.heap[g]? = some (.map es cl)) (o : Obj) : Gr w { w with heap := w.heap.setIfInBounds g o } := by
  refine ⟨by simp, fun p v hp => ?_⟩
  have hne : g ≠ p.block := fun e => by subst e; simp [World.cell?, hg] at hp
  simp only [World.cell?, Array.getElem?_setIfInBounds_ne hne] at hp ⊢
  exact hp
theorem below_set {n : Nat} {w : World} {g : Nat} (hg : n ≤ g) (o : Obj) : Below n w { w with heap := w.heap.setIfInBounds g o } :=
  ⟨rfl, rfl, rfl, by simp, fun b hb => by simp [Array.getElem?_setIfInBounds_ne (show g ≠ b by omega)]⟩
end Go.Proofs.Ytaginadnaajleaa
