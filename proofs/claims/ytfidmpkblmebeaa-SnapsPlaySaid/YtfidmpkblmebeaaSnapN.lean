/-
  The plain law of SnapsNear: the multiples of a period; of chapter 25; lists alone, no program in sight.
  Conditions: as each theorem states them.
-/
import Derived.Test.YtfidmpkblmebeaaSnapM
namespace Go.Proofs.Ytfidmpkblmebeaa
set_option linter.unusedVariables false
set_option linter.unusedSimpArgs false
namespace SM
variable {α : Type}
/-- the multiples of k below n -/
def mults (k n : Nat) (f : Nat → α) : List (Int × α) := ((List.range n).filter fun i : Nat => i % k == 0).map fun i : Nat => ((i : Int), f i)
theorem mults_mem {k n : Nat} {f : Nat → α} {x : Int × α} : x ∈ mults k n f ↔ ∃ i, i < n ∧ i % k = 0 ∧ x = ((i : Int), f i) := by
  unfold mults
  rw [List.mem_map]
  constructor
  · rintro ⟨i, hi, rfl⟩
    obtain ⟨h1, h2⟩ := List.mem_filter.1 hi
    exact ⟨i, List.mem_range.1 h1, by simpa using h2, rfl⟩
  · rintro ⟨i, h1, h2, rfl⟩
    exact ⟨i, List.mem_filter.2 ⟨List.mem_range.2 h1, by simpa using h2⟩, rfl⟩
theorem mults_rising (k n : Nat) (f : Nat → α) : Rising (mults k n f) := by
  unfold mults Rising
  refine List.pairwise_map.2 (List.Pairwise.imp ?_ (List.Pairwise.filter _ List.pairwise_lt_range))
  intro a b h
  show (a : Int) < (b : Int)
  omega
theorem mults_len (k n : Nat) (f : Nat → α) : (mults k n f).length ≤ n := by
  unfold mults
  rw [List.length_map]
  exact Nat.le_trans (List.length_filter_le _ _) (by simp)
theorem put_last {L : List (Int × α)} {n : Int} (v : α) (h : ∀ p ∈ L, p.1 < n) : put n v L = L ++ [(n, v)] := by
  induction L with
  | nil => rfl
  | cons p L ih =>
    unfold put
    rw [if_neg (by have := h p (by simp); omega), ih (fun q hq => h q (by simp [hq]))]
    rfl
theorem mults_lt {k n : Nat} {f : Nat → α} : ∀ p ∈ mults k n f, p.1 < (n : Int) := fun p hp => by
  obtain ⟨i, h1, _, rfl⟩ := mults_mem.1 hp
  show (i : Int) < n
  omega
theorem mults_has (k n : Nat) (f : Nat → α) : has (mults k n f) (n : Int) = false := by
  unfold has
  rw [List.any_eq_false]
  intro p hp
  have := mults_lt p hp
  simp; omega
theorem mults_step (k n : Nat) (f : Nat → α) : mults k (n + 1) f = if n % k = 0 then put (n : Int) (f n) (mults k n f) else mults k n f := by
  have e : mults k (n + 1) f = mults k n f ++ (([n].filter fun i : Nat => i % k == 0).map fun i : Nat => ((i : Int), f i)) := by
    unfold mults
    rw [List.range_succ, List.filter_append, List.map_append]
  rw [e]
  by_cases h : n % k = 0
  · rw [if_pos h, put_last _ mults_lt, List.filter_cons_of_pos (by simpa using h)]
    rfl
  · rw [if_neg h, List.filter_cons_of_neg (by simpa using h)]
    simp
theorem ahead_some {L : List (Int × α)} (hr : Rising L) {n : Int} {x : Int × α} (h : ahead L n = some x) : x ∈ L ∧ x.1 ≤ n ∧ ∀ y ∈ L, y.1 ≤ n → y.1 ≤ x.1 := by
  unfold ahead at h
  have hm := List.mem_of_getLast? h
  obtain ⟨h1, h2⟩ := List.mem_filter.1 hm
  refine ⟨h1, by simpa using h2, fun y hy hyn => ?_⟩
  have hy' : y ∈ L.filter fun p => decide (p.1 ≤ n) := List.mem_filter.2 ⟨hy, by simpa using hyn⟩
  have hr' : Rising (L.filter fun p => decide (p.1 ≤ n)) := List.Pairwise.filter _ hr
  generalize (L.filter fun p => decide (p.1 ≤ n)) = M at *
  obtain ⟨ys, rfl⟩ : ∃ ys, M = ys ++ [x] := by
    rw [List.getLast?_eq_some_iff] at h
    exact h
  rcases List.mem_append.1 hy' with h3 | h3
  · have := (List.pairwise_append.1 hr').2.2 y h3 x (by simp)
    exact Int.le_of_lt this
  · obtain rfl : y = x := by simpa using h3
    exact Int.le_refl _
theorem ahead_none {L : List (Int × α)} {n : Int} (h : ahead L n = none) : ∀ y ∈ L, ¬ y.1 ≤ n := by
  unfold ahead at h
  rw [List.getLast?_eq_none_iff] at h
  intro y hy hn
  have := List.filter_eq_nil_iff.1 h y hy
  simp at this
  omega
theorem behind_some {L : List (Int × α)} (hr : Rising L) {n : Int} {x : Int × α} (h : behind L n = some x) : x ∈ L ∧ n ≤ x.1 ∧ ∀ y ∈ L, n ≤ y.1 → x.1 ≤ y.1 := by
  unfold behind at h
  induction L with
  | nil => cases h
  | cons p L ih =>
    obtain ⟨h1, h2⟩ := List.pairwise_cons.1 hr
    by_cases hp : n ≤ p.1
    · rw [List.find?_cons_of_pos (by simpa using hp)] at h
      injection h with h
      subst h
      refine ⟨by simp, hp, fun y hy _ => ?_⟩
      rcases List.mem_cons.1 hy with rfl | hy
      · exact Int.le_refl _
      · exact Int.le_of_lt (h1 y hy)
    · rw [List.find?_cons_of_neg (by simpa using hp)] at h
      obtain ⟨k1, k2, k3⟩ := ih h2 h
      refine ⟨by simp [k1], k2, fun y hy hn => ?_⟩
      rcases List.mem_cons.1 hy with rfl | hy
      · exact absurd hn hp
      · exact k3 y hy hn
theorem behind_none {L : List (Int × α)} {n : Int} (h : behind L n = none) : ∀ y ∈ L, ¬ n ≤ y.1 := by
  unfold behind at h
  intro y hy hn
  have := List.find?_eq_none.1 h y hy
  simp at this
  omega
theorem count_mults (k : Nat) (hk : 0 < k) : ∀ N, ((List.range N).countP fun i : Nat => i % k == 0) = (N + k - 1) / k
  | 0 => by
    have : (0 + k - 1) / k = 0 := Nat.div_eq_of_lt (by omega)
    rw [this]; rfl
  | N + 1 => by
    rw [List.range_succ, List.countP_append, count_mults k hk N]
    have e : (N + 1 + k - 1) = N + k := by omega
    rw [e]
    have hN := Nat.div_add_mod N k
    by_cases h : N % k = 0
    · have h1 : ([N].countP fun i : Nat => i % k == 0) = 1 := by simp [h]
      rw [h1]
      obtain ⟨q, hq⟩ : ∃ q, N = k * q := ⟨N / k, by omega⟩
      subst hq
      have a1 : (k * q + k - 1) / k = q := by
        rw [show k * q + k - 1 = (k - 1) + k * q by omega, Nat.add_mul_div_left _ _ hk, Nat.div_eq_of_lt (by omega), Nat.zero_add]
      have a2 : (k * q + k) / k = q + 1 := by
        rw [Nat.add_div_right _ hk, Nat.mul_div_cancel_left _ hk]
      rw [a1, a2]
    · have h1 : ([N].countP fun i : Nat => i % k == 0) = 0 := by simp [h]
      rw [h1, Nat.add_zero]
      have hlt := Nat.mod_lt N hk
      obtain ⟨q, r, hq, hr1, hr2⟩ : ∃ q r, N = k * q + r ∧ 0 < r ∧ r < k := ⟨N / k, N % k, by omega, by omega, hlt⟩
      subst hq
      have a1 : (k * q + r + k - 1) / k = q + 1 := by
        rw [show k * q + r + k - 1 = (r - 1) + k * (q + 1) by rw [Nat.mul_succ]; omega, Nat.add_mul_div_left _ _ hk, Nat.div_eq_of_lt (by omega), Nat.zero_add]
      have a2 : (k * q + r + k) / k = q + 1 := by
        rw [show k * q + r + k = r + k * (q + 1) by rw [Nat.mul_succ]; omega, Nat.add_mul_div_left _ _ hk, Nat.div_eq_of_lt hr2, Nat.zero_add]
      rw [a1, a2]
/-- the last multiple -/
theorem last_mult {k n : Nat} (hk : 0 < k) (hn : 0 < n) : (n - 1) / k * k < n ∧ (n - 1) / k * k % k = 0 ∧ ∀ i, i < n → i % k = 0 → i ≤ (n - 1) / k * k := by
  have h1 := Nat.div_mul_le_self (n - 1) k
  refine ⟨by omega, Nat.mul_mod_left _ _, fun i hi hm => ?_⟩
  obtain ⟨q, rfl⟩ : ∃ q, i = q * k := ⟨i / k, by have := Nat.div_add_mod i k; rw [hm, Nat.add_zero, Nat.mul_comm] at this; exact this.symm⟩
  exact Nat.mul_le_mul_right k ((Nat.le_div_iff_mul_le hk).2 (by omega))
/-- all of the law -/
theorem near {k n m : Nat} (hk : 0 < k) (hm : m < n) (f : Nat → α) :
    ∃ a : Nat, ahead (mults k n f) m = some ((a : Int), f a) ∧ a ≤ m ∧ m < a + k ∧ a % k = 0 ∧ a < n ∧
      (m ≤ (n - 1) / k * k → ∃ b : Nat, behind (mults k n f) m = some ((b : Int), f b) ∧ m ≤ b ∧ b < m + k ∧ b < n) ∧ (¬ m ≤ (n - 1) / k * k → behind (mults k n f) m = none) ∧
      (mults k n f).length - (keep (mults k n f) ((a : Int) + 1) (((n - 1) / k * k : Nat) : Int)).length = a / k + 1 ∧ ahead (keep (mults k n f) ((a : Int) + 1) (((n - 1) / k * k : Nat) : Int)) m = none := by
  have hr := mults_rising k n f
  obtain ⟨l1, l2, l3⟩ := last_mult hk (show 0 < n by omega)
  obtain ⟨lt, hlt⟩ : ∃ l, (n - 1) / k * k = l := ⟨_, rfl⟩
  rw [hlt] at l1 l2 l3 ⊢
  cases ha : ahead (mults k n f) (m : Int) with
  | none =>
    have := ahead_none ha ((0 : Nat), f 0) (mults_mem.2 ⟨0, by omega, by simp, rfl⟩)
    simp at this
  | some x =>
    obtain ⟨h1, h2, h3⟩ := ahead_some hr ha
    obtain ⟨a, h4, h5, rfl⟩ := mults_mem.1 h1
    have h2' : a ≤ m := by have : (a : Int) ≤ m := h2; omega
    have h6 : m < a + k := by
      rcases Nat.lt_or_ge m (a + k) with h | h
      · exact h
      · exfalso
        have := h3 (((a + k : Nat) : Int), f (a + k)) (mults_mem.2 ⟨a + k, by omega, by rw [Nat.add_mod_right]; exact h5, rfl⟩) (by show ((a + k : Nat) : Int) ≤ m; omega)
        have h7 : ((a + k : Nat) : Int) ≤ (a : Int) := this
        omega
    refine ⟨a, rfl, h2', h6, h5, h4, fun hl => ?_, fun hl => ?_, ?_, ?_⟩
    · cases hb : behind (mults k n f) (m : Int) with
      | none =>
        have := behind_none hb (((lt : Nat) : Int), f lt) (mults_mem.2 ⟨_, l1, l2, rfl⟩)
        exact absurd (show (m : Int) ≤ ((lt : Nat) : Int) by omega) this
      | some y =>
        obtain ⟨g1, g2, g3⟩ := behind_some hr hb
        obtain ⟨b, g4, g5, rfl⟩ := mults_mem.1 g1
        have g2' : m ≤ b := by have : (m : Int) ≤ b := g2; omega
        refine ⟨b, rfl, g2', ?_, g4⟩
        rcases Nat.lt_or_ge b (m + k) with h | h
        · exact h
        · exfalso
          have hz : (b - k) % k = 0 := by
            have : (b - k + k) % k = b % k := by rw [Nat.sub_add_cancel (by omega)]
            rw [Nat.add_mod_right] at this
            omega
          have := g3 (((b - k : Nat) : Int), f (b - k)) (mults_mem.2 ⟨b - k, by omega, hz, rfl⟩) (by show (m : Int) ≤ ((b - k : Nat) : Int); omega)
          have g7 : (b : Int) ≤ ((b - k : Nat) : Int) := this
          omega
    · cases hb : behind (mults k n f) (m : Int) with
      | none => rfl
      | some y =>
        exfalso
        obtain ⟨g1, g2, _⟩ := behind_some hr hb
        obtain ⟨b, g4, g5, rfl⟩ := mults_mem.1 g1
        have g2' : (m : Int) ≤ b := g2
        have := l3 b g4 g5
        omega
    · have e1 : (keep (mults k n f) ((a : Int) + 1) ((lt : Nat) : Int)).length + (mults k n f).countP (fun p => decide (p.1 ≤ (a : Int))) = (mults k n f).length := by
        unfold keep
        rw [← List.countP_eq_length_filter, Nat.add_comm, List.length_eq_countP_add_countP (fun p : Int × α => decide (p.1 ≤ (a : Int)))]
        congr 1
        apply List.countP_congr
        intro p hp
        obtain ⟨i, i1, i2, rfl⟩ := mults_mem.1 hp
        have := l3 i i1 i2
        simp
        omega
      have e2 : (mults k n f).countP (fun p => decide (p.1 ≤ (a : Int))) = a / k + 1 := by
        unfold mults
        rw [List.countP_map, List.countP_filter]
        have e3 : (List.range n).countP (fun i => ((fun p : Int × α => decide (p.1 ≤ (a : Int))) ∘ fun i : Nat => ((i : Int), f i)) i && (i % k == 0)) = (List.range (a + 1)).countP (fun i : Nat => i % k == 0) := by
          obtain ⟨d, hd⟩ : ∃ d, n = a + 1 + d := ⟨n - (a + 1), by omega⟩
          rw [hd, List.range_add, List.countP_append, List.countP_map]
          have z : (List.range d).countP ((fun i => ((fun p : Int × α => decide (p.1 ≤ (a : Int))) ∘ fun i : Nat => ((i : Int), f i)) i && (i % k == 0)) ∘ fun x => a + 1 + x) = 0 := by
            apply List.countP_eq_zero.2
            intro i hi
            simp
            intro h
            omega
          rw [z, Nat.add_zero]
          apply List.countP_congr
          intro i hi
          have := List.mem_range.1 hi
          simp
          omega
        rw [e3, count_mults k hk, show a + 1 + k - 1 = a + k by omega, Nat.add_div_right _ hk]
      omega
    · cases hb : ahead (keep (mults k n f) ((a : Int) + 1) ((lt : Nat) : Int)) (m : Int) with
      | none => rfl
      | some y =>
        exfalso
        obtain ⟨g1, g2, _⟩ := ahead_some (keep_rising hr _ _) hb
        obtain ⟨g3, g4⟩ := List.mem_filter.1 g1
        obtain ⟨b, g5, g6, rfl⟩ := mults_mem.1 g3
        simp only [Bool.and_eq_true, decide_eq_true_eq] at g4
        have g2' : (b : Int) ≤ m := g2
        have := h3 _ g3 g2
        have g8 : (b : Int) ≤ a := this
        omega
end SM
end Go.Proofs.Ytfidmpkblmebeaa
