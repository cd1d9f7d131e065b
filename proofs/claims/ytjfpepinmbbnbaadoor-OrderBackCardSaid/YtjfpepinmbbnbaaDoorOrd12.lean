/-
  The plain law of OrderTells, of chapter 29: the reference's way through a line is the program's; lists alone, no program in sight.
  Conditions: as each theorem states them.
-/
import Derived.Test.YtjfpepinmbbnbaaDoorOrdB
namespace Go.Proofs.YtjfpepinmbbnbaaDoor.OM
open Go.Proofs.YtjfpepinmbbnbaaDoor
set_option linter.unusedVariables false
/-- the numbers behind an order's words, one by one -/
def rg (k : Int) (may must : Nat) : Nat → Ord → List Bytes → Ord × Int
  | j, o, [] => if j < must then (none, 9) else (o, 0)
  | j, o, x :: r => if may ≤ j then (none, 9) else if (num x).2 ≠ 0 then (none, (num x).2) else if k ≤ 4 ∧ ((num x).1 < 1 ∨ 100000 < (num x).1) then (none, 3)
    else rg k may must (j + 1) (if j = 0 then { o with n := (num x).1 } else { o with m := (num x).1 }) r
theorem rg_steps (k : Int) (hk : k ≤ 4) (rs : List Bytes) : fin (read (k, true, true, true) rs) = rg k 1 0 0 ⟨k, 1, 0, []⟩ rs := by
  cases rs with
  | nil => rfl
  | cons x r =>
    by_cases h1 : (num x).2 = 0
    · by_cases h2 : (num x).1 < 1 ∨ 100000 < (num x).1
      · simp [read, rg, fin, h1, h2, hk]
      · cases r with
        | nil => simp [read, rg, fin, h1, h2]
        | cons y q => simp [read, rg, fin, h1, h2]
    · simp [read, rg, fin, h1]
theorem rg_one (k : Int) (hk : 4 < k) (rs : List Bytes) : fin (read (k, true, false, false) rs) = rg k 1 1 0 ⟨k, 0, 0, []⟩ rs := by
  have hk' : ¬ k ≤ 4 := by omega
  cases rs with
  | nil => rfl
  | cons x r =>
    by_cases h1 : (num x).2 = 0
    · cases r with
      | nil => simp [read, rg, fin, h1, hk']
      | cons y q => simp [read, rg, fin, h1, hk']
    · simp [read, rg, fin, h1]
theorem rg_none (k : Int) (rs : List Bytes) : fin (read (k, false, false, false) rs) = rg k 0 0 0 ⟨k, 0, 0, []⟩ rs := by
  cases rs with
  | nil => rfl
  | cons x r => simp [read, rg, fin]
theorem rg_list (rs : List Bytes) : fin (list rs) = rg 13 2 0 0 ⟨13, 0, 200, []⟩ rs := by
  cases rs with
  | nil => rfl
  | cons x r =>
    by_cases h1 : (num x).2 = 0
    · cases r with
      | nil => simp [list, rg, fin, h1]
      | cons y q =>
        by_cases h2 : (num y).2 = 0
        · cases q with
          | nil => simp [list, rg, fin, h1, h2]
          | cons z q => simp [list, rg, fin, h1, h2]
        · simp [list, rg, fin, h1, h2]
    · simp [list, rg, fin, h1]
theorem rg_break (w : Bytes) (hw : w = cmdW ∨ w = lineW) (rs : List Bytes) : fin (breaks (w :: rs)) = rg 7 1 1 0 ⟨7, 0, if w = lineW then 1 else 0, []⟩ rs := by
  cases rs with
  | nil => rfl
  | cons x r =>
    by_cases h1 : (num x).2 = 0
    · cases r with
      | nil => simp [breaks, rg, fin, h1, hw]
      | cons y q => simp [breaks, rg, fin, h1, hw]
    · simp [breaks, rg, fin, h1, hw]
theorem break_not (w : Bytes) (hw : ¬ (w = cmdW ∨ w = lineW)) (rs : List Bytes) : fin (breaks (w :: rs)) = (none, 9) := by
  cases rs with
  | nil => rfl
  | cons x r => simp only [breaks, if_neg hw]; rfl
theorem rg_show (y : Bytes) (hy : y ∈ shownW) (rs : List Bytes) : fin (named showW (y :: rs)) = rg 14 0 0 0 ⟨14, 0, 0, y⟩ rs := by
  cases rs <;> simp [named, rg, fin, hy, show ¬ showW = fileW by decide]
theorem show_not (y : Bytes) (hy : ¬ y ∈ shownW) (rs : List Bytes) : fin (named showW (y :: rs)) = (none, 9) := by
  simp [named, fin, hy, show ¬ showW = fileW by decide]
theorem rg_file (y : Bytes) (hy : isName y = true) (rs : List Bytes) : fin (named fileW (y :: rs)) = rg 16 0 0 0 ⟨16, 0, 0, y⟩ rs := by
  cases rs <;> simp [named, rg, fin, hy]
theorem file_not (y : Bytes) (hy : isName y = false) (rs : List Bytes) : fin (named fileW (y :: rs)) = (none, 4) := by
  simp [named, fin, hy]
def namesW : List Bytes := [[], [115, 116, 101, 112], [110, 101, 120, 116], [99, 111, 110, 116], [98, 97, 99, 107], [114, 101, 118, 101, 114, 116], [103, 111, 116, 111], breakW, watchW,
  [100, 101, 108, 101, 116, 101], [101, 110, 97, 98, 108, 101], [100, 105, 115, 97, 98, 108, 101], [115, 116, 111, 112, 115], listW, showW, [111, 117, 116], fileW, [119, 104, 101, 114, 101]]
theorem rest_not (x : Bytes) (h : ¬ x ∈ namesW) (rs : List Bytes) : rest1 x rs = (none, 30) ∧ x ≠ watchW := by
  have h1 : x ≠ breakW := fun e => h (by rw [e]; decide)
  have h2 : x ≠ listW := fun e => h (by rw [e]; decide)
  have h3 : ¬ (x = showW ∨ x = fileW) := fun e => h (by rcases e with rfl | rfl <;> decide)
  have h4 : ruleOf x = .none := by
    have hall : ∀ p ∈ rulesT, p.1 ∈ namesW := by decide
    unfold ruleOf
    clear h1 h2 h3
    generalize rulesT = l at hall
    induction l with
    | nil => rfl
    | cons a l ih =>
      obtain ⟨q, v⟩ := a
      have hq : (x == q) = false := by
        rw [beq_eq_false_iff_ne]; rintro rfl; exact h (hall (x, v) (by simp))
      rw [List.lookup_cons, hq]
      exact ih (fun p hp => hall p (by simp [hp]))
  exact ⟨by unfold rest1; rw [if_neg h1, if_neg h2, if_neg h3, h4], fun e => h (by rw [e]; decide)⟩
/-- by its words alone: a line whose first word is not watch -/
theorem parse_W {L x : Bytes} {r : List Bytes} (h : W L = x :: r) (hx : x ≠ watchW) : parse L = rest1 x r := by
  rw [parse_rest L (fun q hq => hx (by rw [h] at hq; injection hq)), h]; rfl
theorem parse_nil {L : Bytes} (h : W L = []) : parse L = (none, 30) := by
  rw [parse_rest L (fun q hq => by rw [h] at hq; cases hq), h]; rfl
/-- a word is not empty -/
theorem wds_ne : ∀ (n : Nat) (l : Bytes) (p : Nat), l.length ≤ n → ∀ z ∈ wds p l, z.2 ≠ [] := by
  intro n
  induction n with
  | zero => intro l p h z hz; obtain rfl : l = [] := List.length_eq_zero_iff.1 (by omega); rw [wds_nil] at hz; cases hz
  | succ n ih =>
    intro l p h z hz
    cases l with
    | nil => rw [wds_nil] at hz; cases hz
    | cons c r =>
      simp only [List.length_cons] at h
      by_cases hc : c = 32
      · subst hc; rw [wds_blank] at hz; exact ih r (p + 1) (by omega) z hz
      · rw [wds_word _ _ _ hc] at hz
        have hs : (r.takeWhile nb).length + (r.dropWhile nb).length = r.length := by rw [← List.length_append, List.takeWhile_append_dropWhile]
        rcases List.mem_cons.1 hz with rfl | hz
        · simp
        · exact ih (r.dropWhile nb) (p + 1 + (r.takeWhile nb).length) (by omega) z hz
theorem W_ne {L x : Bytes} {r : List Bytes} (h : W L = x :: r) : x ≠ [] := by
  unfold W at h
  cases hz : wds 0 L with
  | nil => rw [hz] at h; cases h
  | cons z q => rw [hz] at h; injection h with h1 h2; rw [← h1]; exact wds_ne L.length L 0 (Nat.le_refl _) z (by rw [hz]; simp)
/-- where a line's first word lies -/
theorem wds_inv : ∀ (n : Nat) (l : Bytes) (a : Nat), l.length ≤ n → ∀ p x zs, wds a l = (p, x) :: zs → ∃ k t, p = a + k ∧ l = bl k ++ (x ++ t) ∧ wds (p + x.length) t = zs ∧ (∀ c q, t = c :: q → c = 32) ∧ ∃ c q, x = c :: q ∧ c ≠ 32 := by
  intro n
  induction n with
  | zero => intro l a h p x zs hz; obtain rfl : l = [] := List.length_eq_zero_iff.1 (by omega); rw [wds_nil] at hz; cases hz
  | succ n ih =>
    intro l a h p x zs hz
    cases l with
    | nil => rw [wds_nil] at hz; cases hz
    | cons c r =>
      simp only [List.length_cons] at h
      by_cases hc : c = 32
      · subst hc
        rw [wds_blank] at hz
        obtain ⟨k, t, rfl, e, h1, h2, h3⟩ := ih r (a + 1) (by omega) p x zs hz
        exact ⟨k + 1, t, by omega, by rw [e]; rfl, h1, h2, h3⟩
      · rw [wds_word _ _ _ hc] at hz
        injection hz with h1 h2
        injection h1 with h1 h3
        subst h1; subst h3
        refine ⟨0, r.dropWhile nb, by omega, by simp [List.takeWhile_append_dropWhile], ?_, fun c' q e => ?_, c, _, rfl, hc⟩
        · rw [← h2, List.length_cons]; congr 1; omega
        · have := List.head?_dropWhile_not nb r
          rw [e] at this
          simpa [nb] using this
/-- a watch's text: where it begins -/
theorem watch_at {L y : Bytes} {r : List Bytes} (h : W L = watchW :: y :: r) : ∃ i p, parse L = (⟨8, 0, 0, L.drop p⟩, 0) ∧ i + 5 < p ∧ p < L.length ∧ (∀ j (hj : j < L.length), j < i → L[j] = 32) ∧ (∀ hj : i < L.length, L[i] ≠ 32) ∧ (∀ j (hj : j < L.length), i + 5 ≤ j → j < p → L[j] = 32) ∧ (∀ hj : p < L.length, L[p] ≠ 32) := by
  obtain ⟨p0, p, zs, e, hp⟩ := watch_two L y r h
  obtain ⟨k, t, rfl, e1, h1, h2, _⟩ := wds_inv L.length L 0 (Nat.le_refl _) _ _ _ e
  obtain ⟨m, t2, rfl, e2, h3, h4, y0, yr, rfl, hy1⟩ := wds_inv t.length t _ (Nat.le_refl _) _ _ _ h1
  have hm : 0 < m := by
    cases m with
    | zero => exact absurd (h2 y0 (yr ++ t2) (by rw [e2]; rfl)) hy1
    | succ m => omega
  have hwl : watchW.length = 5 := rfl
  have e3 : L = bl k ++ (watchW ++ (bl m ++ (y0 :: (yr ++ t2)))) := by rw [e1, e2]; rfl
  have key : ∀ j, L[j]? = if j < k then some 32 else if j < k + 5 then watchW[j - k]? else if j < k + 5 + m then some 32 else (y0 :: (yr ++ t2))[j - (k + 5 + m)]? := fun j => by
    rw [e3, List.getElem?_append, List.length_replicate]
    by_cases c1 : j < k
    · rw [if_pos c1, if_pos c1, List.getElem?_replicate, if_pos c1]
    · rw [if_neg c1, if_neg c1, List.getElem?_append, hwl]
      by_cases c2 : j < k + 5
      · rw [if_pos c2, if_pos (by omega)]
      · rw [if_neg c2, if_neg (by omega), List.getElem?_append, List.length_replicate]
        by_cases c3 : j < k + 5 + m
        · rw [if_pos c3, if_pos (by omega), List.getElem?_replicate, if_pos (by omega)]
        · rw [if_neg c3, if_neg (by omega), show j - k - 5 - m = j - (k + 5 + m) by omega]
  have hlen : k + 5 + m < L.length := by rw [e3]; simp [hwl]; omega
  refine ⟨k, k + 5 + m, ?_, by omega, hlen, fun j hj h => ?_, fun hj => ?_, fun j hj ha hb => ?_, fun hj => ?_⟩
  · rw [hp, show 0 + k + watchW.length + m = k + 5 + m by omega]
  · have := key j
    rw [if_pos h, List.getElem?_eq_getElem hj] at this
    injection this
  · have := key k
    rw [if_neg (by omega), if_pos (by omega), List.getElem?_eq_getElem hj, Nat.sub_self] at this
    injection this with this
    rw [this]; decide
  · have := key j
    rw [if_neg (by omega), if_neg (by omega), if_pos hb, List.getElem?_eq_getElem hj] at this
    injection this
  · have := key (k + 5 + m)
    rw [if_neg (by omega), if_neg (by omega), if_neg (by omega), List.getElem?_eq_getElem hj, Nat.sub_self] at this
    injection this with this
    rw [this]; exact hy1
/-- what is told of a place among some -/
theorem idx_get {xs : List Bytes} {v : Bytes} {k : Nat} (h : idx xs v = (k : Int)) : xs[k]? = some v := by
  unfold idx at h
  cases hf : xs.findIdx? (· == v) with
  | none => rw [hf] at h; simp only at h; omega
  | some i =>
    rw [hf] at h
    simp only at h
    obtain rfl : i = k := by omega
    obtain ⟨hi, hv, _⟩ := List.findIdx?_eq_some_iff_getElem.1 hf
    rw [List.getElem?_eq_getElem hi]
    simpa using hv
end Go.Proofs.YtjfpepinmbbnbaaDoor.OM
