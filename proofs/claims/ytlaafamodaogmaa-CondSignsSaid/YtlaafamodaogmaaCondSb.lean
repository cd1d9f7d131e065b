/-
  The digits of a number, lists alone; of chapter 27.
  Conditions: as each theorem states them.
-/
import Derived.Test.YtlaafamodaogmaaCondSa
namespace Go.Proofs.Ytlaafamodaogmaa
set_option linter.unusedVariables false
set_option linter.unusedSimpArgs false
namespace CM
def dgt (n : Nat) : UInt8 := UInt8.ofNat (48 + n % 10)
def dgs (n : Nat) : List UInt8 := if n < 10 then [dgt n] else dgs (n / 10) ++ [dgt n]
termination_by n
theorem dgs_end {n : Nat} (h : n / 10 = 0) : dgs n = [dgt n] := by rw [dgs, if_pos (by omega)]
theorem dgs_more {n : Nat} (h : ¬ n / 10 = 0) : dgs n = dgs (n / 10) ++ [dgt n] := by rw [dgs, if_neg (by omega)]
theorem dgt_nat (n : Nat) : (dgt n).toNat = 48 + n % 10 := by
  unfold dgt
  rw [UInt8.toNat_ofNat']
  omega
theorem dgt_dig (n : Nat) : dig (dgt n) = true := by
  simp only [dig, dgt_nat, Bool.and_eq_true, decide_eq_true_eq]
  omega
theorem dgs_dig (n : Nat) : ∀ x ∈ dgs n, dig x = true := by
  induction n using dgs.induct with
  | case1 n h => rw [dgs, if_pos h]; intro x hx; simp at hx; subst hx; exact dgt_dig n
  | case2 n h ih =>
    rw [dgs, if_neg h]
    intro x hx
    rcases List.mem_append.1 hx with hx | hx
    · exact ih x hx
    · simp at hx; subst hx; exact dgt_dig n
theorem dgs_val (n : Nat) : valD (dgs n) = n := by
  induction n using dgs.induct with
  | case1 n h =>
    rw [dgs, if_pos h]
    show (0 : Int) * 10 + (((dgt n).toNat : Int) - 48) = n
    rw [dgt_nat]; omega
  | case2 n h ih =>
    rw [dgs, if_neg h, valD_snoc, ih, dgt_nat]
    omega
theorem dgs_ne (n : Nat) : dgs n ≠ [] := by
  rw [dgs]; split <;> simp
theorem dgs_len (k : Nat) : ∀ n, n < 10 ^ (k + 1) → (dgs n).length ≤ k + 1 := by
  induction k with
  | zero => intro n h; rw [dgs, if_pos (by simpa using h)]; simp
  | succ k ih =>
    intro n h
    rw [dgs]
    split
    · simp
    · have := ih (n / 10) (by rw [Nat.pow_succ] at h; omega)
      simp only [List.length_append, List.length_cons, List.length_nil]; omega
/-- the six conditions on the line, at a number's digits -/
theorem parse_signs (N : Nat) (hN : N < 65536) : ∀ A ∈ sgA, ∃ sg, A.filter (fun x => x != 32) = sg ∧ parseS (lineW ++ A ++ dgs N) = .ok (fun _ now => signOf sg now.line N) := by
  obtain ⟨c, r, e⟩ : ∃ c r, dgs N = c :: r := by
    cases h : dgs N with
    | nil => exact absurd h (dgs_ne N)
    | cons c r => exact ⟨c, r, rfl⟩
  have hv := dgs_val N
  have hd := dgs_dig N
  have hl := dgs_len 4 N (by omega)
  rw [e] at hv hd hl
  simp only [List.length_cons] at hl
  have := parse_sg hd (by omega) (by omega)
  rw [hv] at this
  obtain ⟨p1, p2, p3, p4, p5, p6⟩ := this
  rw [e]
  intro A hA
  simp only [sgA, List.mem_cons, List.not_mem_nil, or_false] at hA
  rcases hA with rfl | rfl | rfl | rfl | rfl | rfl
  · exact ⟨_, rfl, p1⟩
  · exact ⟨_, rfl, p2⟩
  · exact ⟨_, rfl, p3⟩
  · exact ⟨_, rfl, p4⟩
  · exact ⟨_, rfl, p5⟩
  · exact ⟨_, rfl, p6⟩
theorem sign_facts (x n : Int) : signOf [60] x n = decide (x < n) ∧ signOf [61] x n = (x == n) ∧ signOf [62] x n = decide (n < x) ∧ signOf [60, 61] x n = !decide (n < x) ∧ signOf [62, 61] x n = !decide (x < n) ∧ signOf [33, 61] x n = !(x == n) := by
  rcases Int.lt_trichotomy x n with h | h | h
  · have a : (x == n) = false := by simp; omega
    have b : decide (x < n) = true := by simpa using h
    have c : decide (n < x) = false := by simp; omega
    simp [signOf, a, b, c]
  · have a : (x == n) = true := by simpa using h
    have b : decide (x < n) = false := by simp; omega
    have c : decide (n < x) = false := by simp; omega
    simp [signOf, a, b, c]
  · have a : (x == n) = false := by simp; omega
    have b : decide (x < n) = false := by simp; omega
    have c : decide (n < x) = true := by simpa using h
    simp [signOf, a, b, c]
theorem changed_hold : parseS [104, 111, 108, 100, 32, 99, 104, 97, 110, 103, 101, 100] = .ok (fun was now => !(was.hold == now.hold)) := by kernel_rfl
end CM
end Go.Proofs.Ytlaafamodaogmaa
