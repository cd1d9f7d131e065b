/-
  The plain law of OrderBlanks, of chapter 29: blanks more change nothing; lists alone, no program in sight.
  Conditions: as each theorem states them.
-/
import Derived.Test.YtjfpepinmbbnbaaDoorOrdM
namespace Go.Proofs.YtjfpepinmbbnbaaDoor.OM
open Go.Proofs.YtjfpepinmbbnbaaDoor
set_option linter.unusedVariables false
abbrev bl (k : Nat) : Bytes := List.replicate k 32
theorem bl_succ (k : Nat) : bl (k + 1) = 32 :: bl k := rfl
def wide (B : Bytes) (l : Bytes) : Bytes := l.flatMap fun c => if c = 32 then B else [c]
theorem wide_nil (B : Bytes) : wide B [] = [] := rfl
theorem wide_blank (B r : Bytes) : wide B (32 :: r) = B ++ wide B r := by simp [wide]
theorem wide_word (B r : Bytes) (c : UInt8) (h : c ≠ 32) : wide B (c :: r) = c :: wide B r := by simp [wide, h]
theorem wide_snoc (B l : Bytes) (c : UInt8) : wide B (l ++ [c]) = wide B l ++ (if c = 32 then B else [c]) := by simp [wide, List.flatMap_append]
theorem wide_len (B l : Bytes) (h : 1 ≤ B.length) : (wide B l).length ≤ B.length * l.length := by
  induction l with
  | nil => simp [wide]
  | cons c r ih =>
    by_cases hc : c = 32
    · subst hc; rw [wide_blank, List.length_append, List.length_cons, Nat.mul_succ]; omega
    · rw [wide_word _ _ _ hc, List.length_cons, List.length_cons, Nat.mul_succ]; omega
theorem wds_shift : ∀ (n : Nat) (l : Bytes) (p k : Nat), l.length ≤ n → wds (p + k) l = (wds p l).map fun z => (z.1 + k, z.2) := by
  intro n
  induction n with
  | zero => intro l p k h; obtain rfl : l = [] := List.length_eq_zero_iff.1 (by omega); rw [wds_nil, wds_nil]; rfl
  | succ n ih =>
    intro l p k h
    cases l with
    | nil => rw [wds_nil, wds_nil]; rfl
    | cons c r =>
      simp only [List.length_cons] at h
      by_cases hc : c = 32
      · subst hc; rw [wds_blank, wds_blank, show p + k + 1 = p + 1 + k by omega]; exact ih r (p + 1) k (by omega)
      · have hd := (List.dropWhile_sublist nb (l := r)).length_le
        rw [wds_word _ _ _ hc, wds_word _ _ _ hc, List.map_cons, show p + k + 1 + (r.takeWhile nb).length = p + 1 + (r.takeWhile nb).length + k by omega, ih _ _ _ (by omega)]
theorem wds_pre (l : Bytes) : ∀ (k p : Nat), wds p (bl k ++ l) = wds (p + k) l := by
  intro k
  induction k with
  | zero => intro p; rfl
  | succ k ih => intro p; rw [bl_succ, List.cons_append, wds_blank, ih]; congr 1; omega
theorem take_post (k : Nat) (r : Bytes) : (r ++ bl k).takeWhile nb = r.takeWhile nb ∧ (r ++ bl k).dropWhile nb = r.dropWhile nb ++ bl k := by
  induction r with
  | nil =>
    cases k with
    | zero => exact ⟨rfl, rfl⟩
    | succ k => rw [List.nil_append, bl_succ]; exact ⟨by simp [nb], by simp [nb]⟩
  | cons c r ih =>
    rw [List.cons_append, List.takeWhile_cons, List.takeWhile_cons, List.dropWhile_cons, List.dropWhile_cons]
    cases nb c with
    | true => simp only [if_true]; exact ⟨by rw [ih.1], ih.2⟩
    | false => simp
theorem wds_post : ∀ (n : Nat) (l : Bytes) (p k : Nat), l.length ≤ n → wds p (l ++ bl k) = wds p l := by
  intro n
  induction n with
  | zero =>
    intro l p k h
    obtain rfl : l = [] := List.length_eq_zero_iff.1 (by omega)
    have := wds_pre [] k p
    rw [List.append_nil] at this
    rw [List.nil_append, this, wds_nil, wds_nil]
  | succ n ih =>
    intro l p k h
    cases l with
    | nil =>
      have := wds_pre [] k p
      rw [List.append_nil] at this
      rw [List.nil_append, this, wds_nil, wds_nil]
    | cons c r =>
      simp only [List.length_cons] at h
      rw [List.cons_append]
      by_cases hc : c = 32
      · subst hc; rw [wds_blank, wds_blank]; exact ih r _ k (by omega)
      · have hd := (List.dropWhile_sublist nb (l := r)).length_le
        obtain ⟨h1, h2⟩ := take_post k r
        rw [wds_word _ _ _ hc, wds_word _ _ _ hc, h1, h2, ih _ _ k (by omega)]
theorem take_wide (k : Nat) (r : Bytes) : (wide (bl (k + 1)) r).takeWhile nb = r.takeWhile nb ∧ (wide (bl (k + 1)) r).dropWhile nb = wide (bl (k + 1)) (r.dropWhile nb) := by
  induction r with
  | nil => exact ⟨rfl, rfl⟩
  | cons c r ih =>
    by_cases hc : c = 32
    · subst hc
      have hb : nb 32 = false := by decide
      rw [List.takeWhile_cons, List.dropWhile_cons, hb, wide_blank, bl_succ, List.cons_append, List.takeWhile_cons, List.dropWhile_cons, hb]
      simp only [Bool.false_eq_true, if_false]
      refine ⟨trivial, ?_⟩
      rw [wide_blank]; rfl
    · have hb : nb c = true := by simp [nb, hc]
      rw [wide_word _ _ _ hc, List.takeWhile_cons, List.takeWhile_cons, List.dropWhile_cons, List.dropWhile_cons, hb]
      simp only [if_true]
      exact ⟨by rw [ih.1], ih.2⟩
theorem wds_wide (k : Nat) : ∀ (n : Nat) (l : Bytes) (p q : Nat), l.length ≤ n → (wds p (wide (bl (k + 1)) l)).map (·.2) = (wds q l).map (·.2) := by
  intro n
  induction n with
  | zero => intro l p q h; obtain rfl : l = [] := List.length_eq_zero_iff.1 (by omega); rw [wide_nil, wds_nil, wds_nil]
  | succ n ih =>
    intro l p q h
    cases l with
    | nil => rw [wide_nil, wds_nil, wds_nil]
    | cons c r =>
      simp only [List.length_cons] at h
      by_cases hc : c = 32
      · subst hc; rw [wide_blank, wds_pre, wds_blank]; exact ih r _ _ (by omega)
      · have hd := (List.dropWhile_sublist nb (l := r)).length_le
        obtain ⟨h1, h2⟩ := take_wide k r
        rw [wide_word _ _ _ hc, wds_word _ _ _ hc, wds_word _ _ _ hc, h1, h2, List.map_cons, List.map_cons, ih _ _ _ (by omega)]
/-- a line's words alone -/
def W (l : Bytes) : List Bytes := (wds 0 l).map (·.2)
theorem W_pos (l : Bytes) (p : Nat) : (wds p l).map (·.2) = W l := by
  have := wds_shift l.length l 0 p (Nat.le_refl _)
  rw [Nat.zero_add] at this
  rw [this, List.map_map]; rfl
theorem W_wide (k : Nat) (l : Bytes) : W (bl (k + 1) ++ wide (bl (k + 1)) l) = W l := by
  unfold W; rw [wds_pre]; exact wds_wide k l.length l _ _ (Nat.le_refl _)
theorem W_both (k : Nat) (l : Bytes) : W (bl k ++ (l ++ bl k)) = W l := by
  unfold W; rw [wds_pre, wds_post _ l _ k (Nat.le_refl _)]; exact W_pos l _
theorem fin_kind {x : Ord × Int} {c : Int} (h : x.1.kind ≠ c) (h0 : c ≠ 0) : (fin x).1.kind ≠ c := by
  unfold fin; split
  · exact h
  · exact fun e => h0 e.symm
theorem breaks_kind (l : List Bytes) : (breaks l).1.kind = 7 := by unfold breaks; split <;> first | rfl | (split <;> rfl)
theorem list_kind (l : List Bytes) : (list l).1.kind = 13 := by unfold list; (repeat' split) <;> rfl
theorem named_kind (w : Bytes) (l : List Bytes) : (named w l).1.kind ≠ 8 := by unfold named; (repeat' split) <;> first | (show (0 : Int) ≠ 8; decide) | (show (16 : Int) ≠ 8; decide) | (show (14 : Int) ≠ 8; decide)
theorem read_kind (r : Int × Bool × Bool × Bool) (l : List Bytes) : (read r l).1.kind = r.1 := by
  unfold read
  cases l with
  | nil => rfl
  | cons x rest => simp only; (repeat' split) <;> rfl
theorem rule_kind {s : Bytes} {r : Int × Bool × Bool × Bool} (h : ruleOf s = some r) : r.1 ≠ 8 := by
  have : ∀ p ∈ rulesT, p.2.1 ≠ 8 := by decide
  unfold ruleOf at h
  have hm : ∃ k, (k, r) ∈ rulesT := by
    clear this
    generalize rulesT = l at h
    induction l with
    | nil => cases h
    | cons a l ih =>
      obtain ⟨k, q⟩ := a
      simp only [List.lookup] at h
      cases hx : (s == k) with
      | true => rw [hx] at h; cases h; exact ⟨k, by simp⟩
      | false => rw [hx] at h; obtain ⟨k', h'⟩ := ih h; exact ⟨k', by simp [h']⟩
  obtain ⟨k, hk⟩ := hm
  exact this _ hk
/-- what a line says whose first word is not watch -/
def rest (l : List Bytes) : Ord × Int :=
  match l with
  | [] => (none, 30)
  | w :: r =>
    if w = breakW then fin (breaks r)
    else if w = listW then fin (list r)
    else if w = showW ∨ w = fileW then fin (named w r)
    else match ruleOf w with | .none => (none, 30) | some q => fin (read q r)
theorem rest_kind (l : List Bytes) : (rest l).1.kind ≠ 8 := by
  unfold rest
  cases l with
  | nil => decide
  | cons w r =>
    simp only
    split
    · exact fin_kind (by rw [breaks_kind]; decide) (by decide)
    · split
      · exact fin_kind (by rw [list_kind]; decide) (by decide)
      · split
        · exact fin_kind (named_kind _ _) (by decide)
        · cases h : ruleOf w with
          | none => show (0 : Int) ≠ 8; decide
          | some q => exact fin_kind (by rw [read_kind]; exact rule_kind h) (by decide)
theorem parse_rest (l : Bytes) (h : ∀ r, W l ≠ watchW :: r) : parse l = rest (W l) := by
  unfold parse W at *
  cases hz : wds 0 l with
  | nil => rfl
  | cons z zs =>
    obtain ⟨p, w⟩ := z
    rw [hz] at h
    have hw : w ≠ watchW := fun e => h (zs.map (·.2)) (by rw [e]; rfl)
    simp only [parseW, rest, if_neg hw, List.map_cons]
    rfl
theorem watch_one (l : Bytes) (h : W l = [watchW]) : parse l = (none, 9) := by
  unfold parse W at *
  obtain ⟨⟨p, w⟩, hz, rfl⟩ : ∃ z : Nat × Bytes, wds 0 l = [z] ∧ z.2 = watchW := by
    cases hz : wds 0 l with
    | nil => rw [hz] at h; cases h
    | cons z zs =>
      rw [hz] at h
      simp only [List.map_cons, List.cons.injEq, List.map_eq_nil_iff] at h
      exact ⟨z, by rw [h.2], h.1⟩
  rw [hz]; rfl
theorem watch_two (l : Bytes) (x : Bytes) (r : List Bytes) (h : W l = watchW :: x :: r) : ∃ p0 p zs, wds 0 l = (p0, watchW) :: (p, x) :: zs ∧ parse l = (⟨8, 0, 0, l.drop p⟩, 0) := by
  unfold parse W at *
  cases hz : wds 0 l with
  | nil => rw [hz] at h; cases h
  | cons z zs =>
    rw [hz] at h
    cases zs with
    | nil => simp at h
    | cons y q =>
      simp only [List.map_cons, List.cons.injEq] at h
      obtain ⟨p0, a⟩ := z
      obtain ⟨p, b⟩ := y
      obtain ⟨rfl, rfl, _⟩ := h
      exact ⟨p0, p, q, rfl, rfl⟩
theorem wds_lt : ∀ (n : Nat) (l : Bytes) (p : Nat), l.length ≤ n → ∀ z ∈ wds p l, z.1 < p + l.length := by
  intro n
  induction n with
  | zero => intro l p h z hz; obtain rfl : l = [] := List.length_eq_zero_iff.1 (by omega); rw [wds_nil] at hz; cases hz
  | succ n ih =>
    intro l p h z hz
    cases l with
    | nil => rw [wds_nil] at hz; cases hz
    | cons c r =>
      simp only [List.length_cons] at h ⊢
      by_cases hc : c = 32
      · subst hc; rw [wds_blank] at hz; have := ih r (p + 1) (by omega) z hz; omega
      · rw [wds_word _ _ _ hc] at hz
        have hs : (r.takeWhile nb).length + (r.dropWhile nb).length = r.length := by rw [← List.length_append, List.takeWhile_append_dropWhile]
        rcases List.mem_cons.1 hz with rfl | hz
        · simp only; omega
        · have := ih (r.dropWhile nb) (p + 1 + (r.takeWhile nb).length) (by omega) z hz; omega
/-- OrderBlanks -/
theorem blanks_law (k : Nat) (l : Bytes) : ((parse l).1.kind = 8 → (parse l).2 = (parse (bl (k + 1) ++ wide (bl (k + 1)) l)).2 ∧ (parse (bl (k + 1) ++ wide (bl (k + 1)) l)).2 = (parse (bl (k + 1) ++ (l ++ bl (k + 1)))).2 ∧ (parse (bl (k + 1) ++ wide (bl (k + 1)) l)).1.kind = 8 ∧
      (parse (bl (k + 1) ++ (l ++ bl (k + 1)))).1.s = (parse l).1.s ++ bl (k + 1)) ∧
    ((parse l).1.kind ≠ 8 → parse (bl (k + 1) ++ wide (bl (k + 1)) l) = parse l ∧ parse (bl (k + 1) ++ (l ++ bl (k + 1))) = parse l) := by
  have h1 := W_wide k l
  have h2 := W_both (k + 1) l
  by_cases hw : ∀ r, W l ≠ watchW :: r
  · have e := parse_rest l hw
    have e1 := parse_rest (bl (k + 1) ++ wide (bl (k + 1)) l) (by rw [h1]; exact hw)
    have e2 := parse_rest (bl (k + 1) ++ (l ++ bl (k + 1))) (by rw [h2]; exact hw)
    rw [h1] at e1
    rw [h2] at e2
    rw [e, e1, e2]
    exact ⟨fun h => absurd h (rest_kind _), fun _ => ⟨rfl, rfl⟩⟩
  · obtain ⟨r, hr⟩ : ∃ r, W l = watchW :: r := Classical.byContradiction fun h => hw fun r e => h ⟨r, e⟩
    rw [hr] at h1 h2
    cases r with
    | nil => rw [watch_one _ hr, watch_one _ h1, watch_one _ h2]; exact ⟨fun h => absurd h (by decide), fun _ => ⟨rfl, rfl⟩⟩
    | cons x r =>
      obtain ⟨a0, a, za, ea, ha⟩ := watch_two _ _ _ hr
      obtain ⟨b0, b, zb, eb, hb⟩ := watch_two _ _ _ h1
      obtain ⟨c0, c, zc, ec, hc⟩ := watch_two _ _ _ h2
      rw [ha, hb, hc]
      refine ⟨fun _ => ⟨rfl, rfl, rfl, ?_⟩, fun h => absurd rfl h⟩
      have hal := wds_lt l.length l 0 (Nat.le_refl _) (a, x) (by rw [ea]; simp)
      rw [wds_pre, wds_post _ l _ _ (Nat.le_refl _), wds_shift l.length l 0 (k + 1) (Nat.le_refl _), ea] at ec
      simp only [List.map_cons, List.cons.injEq, Prod.mk.injEq] at ec
      obtain ⟨_, ⟨rfl, _⟩, _⟩ := ec
      show (bl (k + 1) ++ (l ++ bl (k + 1))).drop (a + (k + 1)) = l.drop a ++ bl (k + 1)
      simp only at hal
      rw [show a + (k + 1) = (bl (k + 1)).length + a by simp; omega, List.drop_length_add_append, List.drop_append_of_le_length (by omega)]
/-- a watch's text is no longer than its line -/
theorem watch_len (l : Bytes) (h : (parse l).1.kind = 8) : (parse l).1.s.length ≤ l.length := by
  by_cases hw : ∀ r, W l ≠ watchW :: r
  · rw [parse_rest l hw] at h; exact absurd h (rest_kind _)
  · obtain ⟨r, hr⟩ : ∃ r, W l = watchW :: r := Classical.byContradiction fun h => hw fun r e => h ⟨r, e⟩
    cases r with
    | nil => rw [watch_one _ hr] at h; exact absurd h (by decide)
    | cons x r =>
      obtain ⟨a0, a, za, ea, ha⟩ := watch_two _ _ _ hr
      rw [ha]
      simp
end Go.Proofs.YtjfpepinmbbnbaaDoor.OM
