/-
  A slice that a call builds by appends, element by element, each element's own memory frozen as it comes ('Bld'); and what the call then hands out.
  Conditions: as each theorem states them; over whatever program.
-/
import Derived.Test.YtfbimghnimepjaaBase
import Derived.Deep.AppendLies
namespace Go.Proofs.Ytfbimghnimepjaa
open Go.RowKit
set_option linter.unusedVariables false
theorem ownsRow_below {w w' : World} {base e size n : Nat} {v : Value} {xs : List Value} (h : w.ownsRow base e size v n xs) (hb : Below w.heap.size w w') : w'.ownsRow base e size v n xs := by
  refine ⟨h.1, ?_⟩
  rcases h.2 with h2 | ⟨g, cap, cur, h2, h3, h4, h5⟩
  · exact .inl h2
  · exact .inr ⟨g, cap, cur, h2, h3, (hb.block g (Array.getElem?_eq_some_iff.1 h4).1).trans h4, h5⟩
theorem Sub.In.none {S : Sub} {w : World} (h : S.In w) {b : Nat} (hb : w.heap.size ≤ b) : S b = none := by
  cases e : S b with
  | none => rfl
  | some o => exact absurd (h.lt e) (by omega)
/-- a slice under construction: its row is its own; what its elements hold lies in S -/
structure Bld {α : Type} (A : Rp α) (B e : Nat) (S : Sub) (w : World) (v : Value) (xs : List α) (css : List (List Value)) : Prop where
  own : w.ownsRow B e A.n v xs.length css.flatten
  len : css.length = xs.length
  ok : ∀ i (h : i < xs.length), A.ok S (css[i]'(by omega)) xs[i]
  inn : S.In w
  apart : ∀ g, v.ownBlock = some g → S g = none
theorem Bld.nil {α : Type} {A : Rp α} {B e : Nat} {S : Sub} {w : World} (h : S.In w) : Bld A B e S w (.slice none 0 0) [] [] :=
  ⟨World.ownsRow_nil _ _ _ _, rfl, fun i h => by simp at h, h, fun g e => by cases e⟩
theorem Bld.grow {α : Type} {A : Rp α} {B e : Nat} {S T : Sub} {w w' : World} {v : Value} {xs : List α} {css : List (List Value)} (h : Bld A B e S w v xs css) (hg : Grow S w T w') : Bld A B e T w' v xs css :=
  ⟨ownsRow_below h.own hg.below, h.len, fun i hi => A.mono hg.le (h.ok i hi), hg.inn, fun g e => (hg.old g (h.own.lt g e).2).trans (h.apart g e)⟩
theorem Bld.below {α : Type} {A : Rp α} {B e : Nat} {S : Sub} {w w' : World} {v : Value} {xs : List α} {css : List (List Value)} (h : Bld A B e S w v xs css) (hb : Below w.heap.size w w') : Bld A B e S w' v xs css := h.grow (Grow.of_below h.inn hb)
/-- one element more -/
theorem Bld.snoc {α : Type} {A : Rp α} {B e : Nat} {S : Sub} {w w' : World} {v v' : Value} {xs : List α} {css : List (List Value)} (h : Bld A B e S w v xs css) {x : α} {cs : List Value} (hx : A.ok S cs x) {n : Nat}
    (hown : w'.ownsRow B e A.n v' n (css.flatten ++ cs)) (hn : n = xs.length + 1) (hg : w.grownBy w' v.ownBlock) (hv : ∀ g, v'.ownBlock = some g → v.ownBlock = some g ∨ w.heap.size ≤ g) : Bld A B e S w' v' (xs ++ [x]) (css ++ [cs]) := by
  subst hn
  refine ⟨?_, by simp [h.len], fun i hi => ?_, h.inn.grown hg (fun g e => h.apart g e), fun g e => ?_⟩
  · simpa using hown
  · by_cases hlt : i < xs.length
    · rw [List.getElem_append_left hlt, List.getElem_append_left (by rw [h.len]; exact hlt)]
      exact h.ok i hlt
    · have hi' : i = xs.length := by simp at hi; omega
      subst hi'
      have e1 : (xs ++ [x])[xs.length]'hi = x := by simp
      have e2 : (css ++ [cs])[xs.length]'(by simp [h.len]) = cs := by rw [List.getElem_append_right (by rw [h.len]; exact Nat.le_refl _)]; simp [h.len]
      rw [e1, e2]; exact hx
  · rcases hv g e with h1 | h1
    · exact h.apart g h1
    · exact h.inn.none h1
/-- what was built, handed out: it stays as it is from now on -/
theorem Bld.done {α : Type} {A : Rp α} {B e : Nat} {S : Sub} {w : World} {v : Value} {xs : List α} {css : List (List Value)} (h : Bld A B e S w v xs css) :
    ∃ T : Sub, S.le T ∧ T.In w ∧ (∀ b, b < B → T b = S b) ∧ (rSl A).ok T [v] xs := by
  obtain ⟨T, h1, h2, h3, h4⟩ := freeze h.inn h.own h.len h.ok h.apart
  exact ⟨T, h1, h2, fun b hb => h3 b (fun e => by have := (h.own.lt b e).1; omega), h4⟩
theorem Bld.form {α : Type} {A : Rp α} {B e : Nat} {S : Sub} {w : World} {v : Value} {xs : List α} {css : List (List Value)} (h : Bld A B e S w v xs css) : ∃ a c, v = .slice a xs.length c ∧ c ≤ maxLen := by
  rcases h.own.2 with ⟨rfl, h0⟩ | ⟨g, cap, cur, rfl, _, _, _, hm, _⟩
  · exact ⟨none, 0, by rw [h0], by simp [maxLen]⟩
  · exact ⟨_, _, rfl, hm⟩
theorem lies_own {v : Value} {H g n c : Nat} (h : v.ownBlock = some g ∨ g = H) : ∀ k, (Value.slice (some ⟨g, 0, none⟩) n c).ownBlock = some k → v.ownBlock = some k ∨ H ≤ k := fun k e => by
  have : g = k := by simpa [Value.ownBlock] using e
  subst this
  rcases h with h | h
  · exact .inl h
  · exact .inr (by omega)
theorem rSl_by {α β : Type} {A : Rp α} {f : β → α} {g : α → β} (hg : ∀ a, f (g a) = a) {S : Sub} {cs : List Value} {xs : List α} (h : (rSl A).ok S cs xs) : (rSl (rBy A f)).ok S cs (xs.map g) := by
  obtain ⟨a, cap, e, h1, h2, h3⟩ := h
  refine ⟨a, cap, by rw [List.length_map]; exact e, by rw [List.length_map]; exact h1, h2, fun h0 => ?_⟩
  rw [List.length_map] at h0
  obtain ⟨b, off, e1, hr⟩ := h3 h0
  refine ⟨b, off, e1, fun i hi => ?_⟩
  rw [List.length_map] at hi
  obtain ⟨cs, h4, h5⟩ := hr i hi
  exact ⟨cs, by show A.ok S cs (f _); rw [List.getElem_map, hg]; exact h4, h5⟩
end Go.Proofs.Ytfbimghnimepjaa
