/-
  The plain law of snapshots: a list by rising numbers; of chapter 25; lists alone, no program in sight.
  Conditions: as each theorem states them.
-/
import Derived.Test.YtfidmpkblmebeaaMem
namespace Go.Proofs.Ytfidmpkblmebeaa
set_option linter.unusedVariables false
set_option linter.unusedSimpArgs false
namespace SM
variable {α : Type}
/-- the numbers rise -/
def Rising (L : List (Int × α)) : Prop := L.Pairwise fun p q => p.1 < q.1
def has (L : List (Int × α)) (n : Int) : Bool := L.any fun p => p.1 == n
/-- one more, at its place -/
def put (n : Int) (v : α) : List (Int × α) → List (Int × α)
  | [] => [(n, v)]
  | p :: L => if n < p.1 then (n, v) :: p :: L else p :: put n v L
def ahead (L : List (Int × α)) (n : Int) : Option (Int × α) := (L.filter fun p => decide (p.1 ≤ n)).getLast?
def behind (L : List (Int × α)) (n : Int) : Option (Int × α) := L.find? fun p => decide (n ≤ p.1)
def keep (L : List (Int × α)) (lo hi : Int) : List (Int × α) := L.filter fun p => decide (lo ≤ p.1) && decide (p.1 ≤ hi)
theorem mem_put {n : Int} {v : α} {L : List (Int × α)} {p : Int × α} (h : p ∈ put n v L) : p = (n, v) ∨ p ∈ L := by
  induction L with
  | nil => unfold put at h; simpa using h
  | cons q L ih =>
    unfold put at h
    split at h
    · rcases List.mem_cons.1 h with h | h
      · exact .inl h
      · exact .inr h
    · rcases List.mem_cons.1 h with h | h
      · exact .inr (by rw [h]; simp)
      · rcases ih h with h | h
        · exact .inl h
        · exact .inr (by simp [h])
theorem put_rising {n : Int} {v : α} {L : List (Int × α)} (h : Rising L) (hn : has L n = false) : Rising (put n v L) := by
  induction L with
  | nil => unfold put; exact List.pairwise_singleton _ _
  | cons q L ih =>
    obtain ⟨h1, h2⟩ := List.pairwise_cons.1 h
    unfold has at hn
    simp only [List.any_cons, Bool.or_eq_false_iff, beq_eq_false_iff_ne] at hn
    unfold put
    split
    · rename_i hlt
      refine List.pairwise_cons.2 ⟨fun p hp => ?_, h⟩
      rcases List.mem_cons.1 hp with rfl | hp
      · exact hlt
      · exact Int.lt_trans hlt (h1 p hp)
    · rename_i hge
      refine List.pairwise_cons.2 ⟨fun p hp => ?_, ih h2 hn.2⟩
      rcases mem_put hp with rfl | hp
      · have := hn.1; show q.1 < n; omega
      · exact h1 p hp
theorem keep_rising {L : List (Int × α)} (h : Rising L) (lo hi : Int) : Rising (keep L lo hi) := List.Pairwise.filter _ h
theorem put_len (n : Int) (v : α) (L : List (Int × α)) : (put n v L).length = L.length + 1 := by
  induction L with
  | nil => rfl
  | cons q L ih => unfold put; split <;> simp [ih]
/-- how many are not above a number -/
theorem ahead_at {L : List (Int × α)} (h : Rising L) (n : Int) : (L.filter fun p => decide (p.1 ≤ n)) = L.take (L.countP fun p => decide (p.1 ≤ n)) := by
  induction L with
  | nil => rfl
  | cons q L ih =>
    obtain ⟨h1, h2⟩ := List.pairwise_cons.1 h
    by_cases hq : q.1 ≤ n
    · rw [List.filter_cons_of_pos (by simpa using hq), List.countP_cons_of_pos (by simpa using hq), List.take_succ_cons, ih h2]
    · have h0 : ∀ p ∈ L, ¬ p.1 ≤ n := fun p hp => by have := h1 p hp; omega
      rw [List.filter_cons_of_neg (by simpa using hq), List.countP_cons_of_neg (by simpa using hq)]
      have e1 : L.filter (fun p => decide (p.1 ≤ n)) = [] := List.filter_eq_nil_iff.2 fun p hp => by simpa using h0 p hp
      have e2 : L.countP (fun p => decide (p.1 ≤ n)) = 0 := List.countP_eq_zero.2 fun p hp => by simpa using h0 p hp
      rw [e1, e2]; rfl
theorem ahead_eq {L : List (Int × α)} (h : Rising L) (n : Int) : ahead L n = if L.countP (fun p => decide (p.1 ≤ n)) = 0 then none else L[L.countP (fun p => decide (p.1 ≤ n)) - 1]? := by
  unfold ahead
  rw [ahead_at h n]
  have hc : L.countP (fun p => decide (p.1 ≤ n)) ≤ L.length := List.countP_le_length
  generalize L.countP (fun p => decide (p.1 ≤ n)) = c at *
  cases c with
  | zero => simp
  | succ c => rw [if_neg (by omega), List.getLast?_eq_getElem?, List.length_take, Nat.min_eq_left hc, List.getElem?_take, if_pos (by omega)]
theorem behind_eq {L : List (Int × α)} (h : Rising L) (n : Int) : behind L n = L[L.countP (fun p => decide (p.1 < n))]? := by
  unfold behind
  induction L with
  | nil => rfl
  | cons q L ih =>
    obtain ⟨h1, h2⟩ := List.pairwise_cons.1 h
    by_cases hq : n ≤ q.1
    · rw [List.find?_cons_of_pos (by simpa using hq)]
      have e2 : (q :: L).countP (fun p => decide (p.1 < n)) = 0 := List.countP_eq_zero.2 fun p hp => by
        rcases List.mem_cons.1 hp with rfl | hp
        · simpa using hq
        · have := h1 p hp; simp; omega
      rw [e2]; rfl
    · rw [List.find?_cons_of_neg (by simpa using hq), List.countP_cons_of_pos (by simp; omega), List.getElem?_cons_succ, ih h2]
end SM
end Go.Proofs.Ytfidmpkblmebeaa
