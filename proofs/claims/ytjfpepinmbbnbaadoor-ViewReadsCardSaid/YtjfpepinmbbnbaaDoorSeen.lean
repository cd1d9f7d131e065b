/-
  What is shown of a state has no byte below 32 or above 126.
  Conditions: as each theorem states them.
-/
import Derived.Test.YtjfpepinmbbnbaaDoorStAt
import Derived.Test.YtjfpepinmbbnbaaDoorUnqM
namespace Go.Proofs.YtjfpepinmbbnbaaDoor
open Go.RowKit
set_option linter.unusedVariables false
set_option linter.unusedSimpArgs false
def SeenL (l : List UInt8) : Prop := ∀ x ∈ l, 32 ≤ x.toNat ∧ x.toNat ≤ 126
def Seen (t : ByteArray) : Prop := SeenL t.data.toList
theorem SeenL.app {a b : List UInt8} (h : SeenL a) (k : SeenL b) : SeenL (a ++ b) := fun x hx => (List.mem_append.1 hx).elim (h x) (k x)
theorem joinTail_seen {sep : List UInt8} (hs : SeenL sep) : ∀ l : List (List UInt8), (∀ x ∈ l, SeenL x) → SeenL (Lib.joinTail sep l)
  | [], _ => fun x hx => by simp [Lib.joinTail] at hx
  | y :: l, h => by
    have e : Lib.joinTail sep (y :: l) = (sep ++ y) ++ Lib.joinTail sep l := by simp [Lib.joinTail]
    rw [e]
    exact (hs.app (h y (by simp))).app (joinTail_seen hs l (fun z hz => h z (by simp [hz])))
theorem join_seen {sep : List UInt8} (hs : SeenL sep) {l : List (List UInt8)} (h : ∀ x ∈ l, SeenL x) : SeenL (Lib.join l sep) := by
  cases l with
  | nil => exact fun x hx => by simp [Lib.join, List.intercalate] at hx
  | cons y l =>
    rw [Lib.join_cons]
    exact (h y (by simp)).app (joinTail_seen hs l (fun z hz => h z (by simp [hz])))
theorem row_seen {ss : List ByteArray} (h : ∀ x ∈ ss, Seen x) : Seen (rowS ss) := by
  show SeenL (Lib.join _ _).toArray.toList
  rw [List.toList_toArray]
  exact join_seen (by intro x hx; simp at hx; subst hx; decide) (fun x hx => by obtain ⟨y, hy, rfl⟩ := List.mem_map.1 hx; exact h y hy)
theorem quote_seenB (l : List UInt8) : Seen (qS l) := by
  show SeenL (quoteS l).toArray.toList
  rw [List.toList_toArray]
  exact quote_seen l
theorem dec_seen (u : Nat) : SeenL (Lib.decDigits u) := fun x hx => by
  have : ∀ u : Nat, ∀ x ∈ Lib.decDigits u, 48 ≤ x.toNat ∧ x.toNat ≤ 57 := by
    intro u
    induction u using Nat.strongRecOn with
    | _ u ih =>
      intro x hx
      rw [Lib.decDigits] at hx
      split at hx
      · simp only [List.mem_singleton] at hx; subst hx
        rw [UInt8.toNat_ofNat']; omega
      · rw [List.mem_append] at hx
        rcases hx with hx | hx
        · exact ih _ (by omega) x hx
        · simp only [List.mem_singleton] at hx; subst hx
          rw [UInt8.toNat_ofNat']; omega
  have := this u x hx
  omega
theorem txt_seen (n : Int) : Seen (txt n) := by
  show SeenL (Lib.itoa n).toArray.toList
  rw [List.toList_toArray]
  by_cases h : n < 0
  · obtain ⟨u, rfl⟩ : ∃ u : Nat, n = -(u : Int) := ⟨n.natAbs, by omega⟩
    rw [Lib.itoa_neg u (by omega)]
    intro x hx
    rcases List.mem_cons.1 hx with rfl | hx
    · decide
    · exact dec_seen u x hx
  · obtain ⟨u, rfl⟩ : ∃ u : Nat, n = u := ⟨n.toNat, by omega⟩
    rw [Lib.itoa_nonneg]
    exact dec_seen u
theorem bit_seen (b : Bool) : Seen (bitS b) := by cases b <;> (intro x hx; revert x; decide)
theorem regs_seen (s : StC) : Seen (regsS s) := by
  refine row_seen fun x hx => ?_
  simp only [regsL, List.mem_cons, List.not_mem_nil, or_false] at hx
  rcases hx with rfl | rfl | rfl | rfl | rfl | rfl | rfl | rfl | rfl | rfl | rfl | rfl | rfl | rfl | rfl | rfl <;> first | exact bit_seen _ | exact txt_seen _ | (intro y hy; revert y; decide)
theorem wait_seen (x : Wt) : Seen (waitS x) := by
  refine row_seen fun y hy => ?_
  simp only [List.mem_cons, List.not_mem_nil, or_false] at hy
  rcases hy with rfl | rfl
  · unfold kindW; split <;> (intro y hy; revert y; decide)
  · exact quote_seenB _
theorem file_seen (x : Fl) : Seen (fileS x) := by
  refine row_seen fun y hy => ?_
  simp only [List.mem_cons, List.not_mem_nil, or_false] at hy
  rcases hy with rfl | rfl
  · exact quote_seenB _
  · exact txt_seen _
theorem rows_seen (s : StC) (b : StB) (what : ByteArray) (l : List ByteArray) (h : showS s b what = some l) : ∀ t ∈ l, Seen t := by
  have one : ∀ {x : ByteArray}, Seen x → ∀ t ∈ [x], Seen t := fun hx t ht => by simp at ht; subst ht; exact hx
  unfold showS at h
  repeat' split at h
  all_goals first | cases h | skip
  all_goals first | exact one (quote_seenB _) | exact one (regs_seen s) | skip
  · intro t ht; obtain ⟨x, _, rfl⟩ := List.mem_map.1 ht; exact wait_seen x
  · intro t ht; obtain ⟨x, _, rfl⟩ := List.mem_map.1 ht; exact file_seen x
end Go.Proofs.YtjfpepinmbbnbaaDoor
