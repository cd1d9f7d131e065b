/-
  The plain law of OrderBack, of chapter 29: the order of any line has a line that tells just it; lists alone, no program in sight.
  Conditions: as each theorem states them.
-/
import Derived.Test.YtjfpepinmbbnbaaDoorOrd12
import Derived.Test.YtjfpepinmbbnbaaDoorBack0
namespace Go.Proofs.YtjfpepinmbbnbaaDoor.OM
open Go.Proofs.YtjfpepinmbbnbaaDoor
set_option linter.unusedVariables false
set_option linter.unusedSimpArgs false
def ruleTxt (o : Ord) : Bytes := match rulesT.find? (fun p => p.2.1 == o.kind) with | some p => (if p.2.2.1 = true then p.1 ++ (32 :: Lib.itoa o.n) else p.1) | .none => []
/-- a line of an order -/
def textOf (o : Ord) : Bytes :=
  if o.kind = 7 then (if o.m = 0 then breakW ++ (32 :: (cmdW ++ (32 :: Lib.itoa o.n))) else breakW ++ (32 :: (lineW ++ (32 :: Lib.itoa o.n))))
  else if o.kind = 8 then watchW ++ (32 :: o.s)
  else if o.kind = 13 then listW ++ (32 :: (Lib.itoa o.n ++ (32 :: Lib.itoa o.m)))
  else if o.kind = 14 then showW ++ (32 :: o.s)
  else if o.kind = 16 then fileW ++ (32 :: o.s)
  else ruleTxt o
def Wd (a : Bytes) : Prop := a ≠ [] ∧ a.all nb = true
theorem take_all (a : Bytes) (h : a.all nb = true) (r : Bytes) : (a ++ 32 :: r).takeWhile nb = a ∧ (a ++ 32 :: r).dropWhile nb = 32 :: r ∧ a.takeWhile nb = a ∧ a.dropWhile nb = [] := by
  induction a with
  | nil => exact ⟨rfl, rfl, rfl, rfl⟩
  | cons c a ih =>
    simp only [List.all_cons, Bool.and_eq_true] at h
    obtain ⟨h1, h2, h3, h4⟩ := ih h.2
    simp [List.takeWhile_cons, List.dropWhile_cons, h.1, h1, h2, h3, h4]
theorem wds_two {a : Bytes} (h : Wd a) (p : Nat) (r : Bytes) : wds p (a ++ 32 :: r) = (p, a) :: wds (p + a.length + 1) r := by
  obtain ⟨h0, h1⟩ := h
  obtain ⟨c, q, rfl⟩ := List.exists_cons_of_ne_nil h0
  simp only [List.all_cons, Bool.and_eq_true] at h1
  obtain ⟨e1, e2, _, _⟩ := take_all q h1.2 r
  have hc : c ≠ 32 := by simpa [nb] using h1.1
  rw [List.cons_append, wds_word _ _ _ hc, e1, e2, wds_blank]
  congr 2
  simp only [List.length_cons]; omega
theorem wds_one {a : Bytes} (h : Wd a) (p : Nat) : wds p a = [(p, a)] := by
  obtain ⟨h0, h1⟩ := h
  obtain ⟨c, q, rfl⟩ := List.exists_cons_of_ne_nil h0
  simp only [List.all_cons, Bool.and_eq_true] at h1
  obtain ⟨_, _, e3, e4⟩ := take_all q h1.2 []
  have hc : c ≠ 32 := by simpa [nb] using h1.1
  rw [wds_word _ _ _ hc, e3, e4, wds_nil]
theorem W_one {a : Bytes} (h : Wd a) : W a = [a] := by unfold W; rw [wds_one h]; rfl
theorem W_two {a b : Bytes} (h : Wd a) (hb : Wd b) : W (a ++ 32 :: b) = [a, b] := by unfold W; rw [wds_two h, wds_one hb]; rfl
theorem W_three {a b c : Bytes} (h : Wd a) (hb : Wd b) (hc : Wd c) : W (a ++ 32 :: (b ++ 32 :: c)) = [a, b, c] := by unfold W; rw [wds_two h, wds_two hb, wds_one hc]; rfl
theorem wd_num {n : Int} (h : 0 ≤ n) : Wd (Lib.itoa n) := by
  obtain ⟨u, rfl⟩ : ∃ u : Nat, n = u := ⟨n.toNat, by omega⟩
  rw [Lib.itoa_nonneg]
  refine ⟨dd_ne u, ?_⟩
  rw [List.all_eq_true]
  intro c hc
  have := dd_dig u c hc
  simp only [dig, Bool.and_eq_true, decide_eq_true_eq] at this
  simp only [nb, decide_eq_true_eq]
  rintro rfl
  revert this; decide
theorem num_back {n : Int} (h : 0 ≤ n) (h2 : n ≤ 2147483648) : num (Lib.itoa n) = (n, 0) := by
  obtain ⟨u, rfl⟩ : ∃ u : Nat, n = u := ⟨n.toNat, by omega⟩
  rw [Lib.itoa_nonneg]
  have hall : (Lib.decDigits u).all dig = true := by rw [List.all_eq_true]; exact dd_dig u
  have ht : (Lib.decDigits u).takeWhile dig = Lib.decDigits u := by
    generalize Lib.decDigits u = l at hall
    induction l with
    | nil => rfl
    | cons c l ih => simp only [List.all_cons, Bool.and_eq_true] at hall; rw [List.takeWhile_cons, if_pos hall.1, ih hall.2]
  have hs : numS (Lib.decDigits u) 0 2147483648 = ((u : Int), (0 : Int) + (Lib.decDigits u).length, 0) := by
    unfold numS
    rw [if_neg (by omega)]
    simp only [Int.toNat_zero, List.drop_zero, ht]
    rw [if_neg (by simpa using dd_ne u), dd_val, if_neg (by omega)]
  unfold num
  rw [if_pos hall, hs]
theorem num_bd {x : Bytes} (h : (num x).2 = 0) : 0 ≤ (num x).1 ∧ (num x).1 ≤ 2147483648 := by
  unfold num at *
  by_cases hd : x.all dig = true
  · rw [if_pos hd] at *
    unfold numS at *
    rw [if_neg (by omega)] at *
    simp only [Int.toNat_zero, List.drop_zero] at *
    by_cases h1 : (x.takeWhile dig).isEmpty = true
    · rw [if_pos h1] at h; simp at h
    · rw [if_neg h1] at *
      by_cases h2 : 2147483648 < valD (x.takeWhile dig)
      · rw [if_pos h2] at h; simp at h
      · rw [if_neg h2]
        refine ⟨valD_nonneg _ (fun c hc => ?_), by simp only; omega⟩
        rw [List.all_eq_true] at hd
        exact hd c ((List.takeWhile_sublist dig).subset hc)
  · rw [if_neg hd] at h; simp at h
theorem rg0_inv {k : Int} {o0 o : Ord} {rs : List Bytes} (h : rg k 0 0 0 o0 rs = (o, 0)) : o = o0 := by
  cases rs with
  | nil => simp [rg] at h; exact h.symm
  | cons x r => simp [rg] at h
theorem rg1_inv {k n0 m0 : Int} {must : Nat} (hm : must ≤ 1) {s0 : Bytes} {o : Ord} {rs : List Bytes} (h : rg k 1 must 0 ⟨k, n0, m0, s0⟩ rs = (o, 0)) :
    (must = 0 ∧ o = ⟨k, n0, m0, s0⟩) ∨ ∃ n, o = ⟨k, n, m0, s0⟩ ∧ 0 ≤ n ∧ n ≤ 2147483648 ∧ (k ≤ 4 → 1 ≤ n ∧ n ≤ 100000) := by
  cases rs with
  | nil =>
    left
    simp only [rg] at h
    by_cases h0 : 0 < must
    · rw [if_pos h0] at h; simp at h
    · rw [if_neg h0] at h; injection h with h _; exact ⟨by omega, h.symm⟩
  | cons x r =>
    right
    simp only [rg] at h
    rw [if_neg (by omega)] at h
    by_cases h1 : (num x).2 ≠ 0
    · rw [if_pos h1] at h; injection h with _ h; exact absurd h h1
    · rw [if_neg h1] at h
      by_cases h2 : k ≤ 4 ∧ ((num x).1 < 1 ∨ 100000 < (num x).1)
      · rw [if_pos h2] at h; simp at h
      · rw [if_neg h2] at h
        obtain ⟨b1, b2⟩ := num_bd (Classical.not_not.1 h1)
        cases r with
        | nil =>
          simp only [rg, if_true] at h
          rw [if_neg (by omega)] at h
          injection h with h _
          exact ⟨(num x).1, h.symm, b1, b2, fun hk => by
            have : ¬ ((num x).1 < 1 ∨ 100000 < (num x).1) := fun e => h2 ⟨hk, e⟩
            omega⟩
        | cons y q => simp [rg] at h
theorem rg2_inv {n0 m0 : Int} {o : Ord} {rs : List Bytes} (hn : 0 ≤ n0 ∧ n0 ≤ 2147483648) (hm : 0 ≤ m0 ∧ m0 ≤ 2147483648) (h : rg 13 2 0 0 ⟨13, n0, m0, []⟩ rs = (o, 0)) :
    ∃ n m, o = ⟨13, n, m, []⟩ ∧ 0 ≤ n ∧ n ≤ 2147483648 ∧ 0 ≤ m ∧ m ≤ 2147483648 := by
  cases rs with
  | nil => simp [rg] at h; exact ⟨n0, m0, h.symm, hn.1, hn.2, hm.1, hm.2⟩
  | cons x r =>
    simp only [rg] at h
    rw [if_neg (by omega)] at h
    by_cases h1 : (num x).2 ≠ 0
    · rw [if_pos h1] at h; injection h with _ h; exact absurd h h1
    · rw [if_neg h1, if_neg (by omega)] at h
      obtain ⟨b1, b2⟩ := num_bd (Classical.not_not.1 h1)
      cases r with
      | nil => simp [rg] at h; exact ⟨_, m0, h.symm, b1, b2, hm.1, hm.2⟩
      | cons y q =>
        simp only [rg, if_true] at h
        rw [if_neg (by omega)] at h
        by_cases h2 : (num y).2 ≠ 0
        · rw [if_pos h2] at h; injection h with _ h; exact absurd h h2
        · rw [if_neg h2, if_neg (by omega)] at h
          obtain ⟨b3, b4⟩ := num_bd (Classical.not_not.1 h2)
          cases q with
          | nil => simp [rg] at h; exact ⟨_, _, h.symm, b1, b2, b3, b4⟩
          | cons z q => simp [rg] at h
theorem back_rule (w : Bytes) (k n : Int) (m st : Bool) (hw : Wd w) (hx : w ≠ watchW) (hr : ∀ rs, rest1 w rs = fin (read (k, true, m, st) rs)) (h0 : 0 ≤ n) (h1 : n ≤ 2147483648) (h2 : st = true → 1 ≤ n ∧ n ≤ 100000) : parse (w ++ (32 :: Lib.itoa n)) = (⟨k, n, 0, []⟩, 0) := by
  rw [parse_W (W_two hw (wd_num h0)) hx, hr]
  simp only [read, num_back h0 h1, if_true]
  have hn : ¬ (st = true ∧ (n < 1 ∨ 100000 < n)) := fun e => by have := h2 e.1; omega
  simp [fin, hn]
theorem back_none (w : Bytes) (k : Int) (hw : Wd w) (hx : w ≠ watchW) (hr : ∀ rs, rest1 w rs = fin (read (k, false, false, false) rs)) : parse w = (⟨k, 0, 0, []⟩, 0) := by
  rw [parse_W (W_one hw) hx, hr]; simp [read, fin]
theorem back_watch (S : Bytes) (hS : ∀ c q, S = c :: q → c ≠ 32) (hn : S ≠ []) : parse (watchW ++ (32 :: S)) = (⟨8, 0, 0, S⟩, 0) := by
  have hw : Wd watchW := ⟨by decide, by decide⟩
  obtain ⟨c, q, rfl⟩ := List.exists_cons_of_ne_nil hn
  unfold parse
  rw [wds_two hw, wds_word _ _ _ (hS c q rfl)]
  rfl
/-- each order that a line tells has a line -/
theorem text_back (L : Bytes) (o : Ord) (h : parse L = (o, 0)) : parse (textOf o) = (o, 0) := by
  cases hz : W L with
  | nil => rw [parse_nil hz] at h; simp at h
  | cons x r =>
    by_cases hx : x = watchW
    · subst hx
      cases r with
      | nil => rw [watch_one L hz] at h; simp at h
      | cons y q =>
        obtain ⟨i, p, hp, h1, h2, _, _, _, h6⟩ := watch_at hz
        rw [hp] at h
        injection h with h _
        subst h
        refine back_watch _ (fun c t e => ?_) (by simp; omega)
        have := List.drop_eq_getElem_cons h2
        rw [this] at e
        injection e with e1 e2
        rw [← e1]; exact h6 h2
    · by_cases hm : x ∈ namesW
      · rw [parse_W hz hx] at h
        have hx0 := W_ne hz
        clear hz
        simp only [namesW, List.mem_cons, List.not_mem_nil, or_false] at hm
        rcases hm with rfl | rfl | rfl | rfl | rfl | rfl | rfl | rfl | rfl | rfl | rfl | rfl | rfl | rfl | rfl | rfl | rfl | rfl
        · exact absurd rfl hx0
        · rw [show rest1 [115, 116, 101, 112] r = fin (read (1, true, true, true) r) from rfl, rg_steps 1 (by omega)] at h
          rcases rg1_inv (by omega) h with ⟨_, rfl⟩ | ⟨n, rfl, b1, b2, b3⟩
          · exact back_rule _ 1 1 true true ⟨by decide, by decide⟩ (by decide) (fun _ => rfl) (by omega) (by omega) (fun _ => by omega)
          · exact back_rule _ 1 n true true ⟨by decide, by decide⟩ (by decide) (fun _ => rfl) b1 b2 (fun _ => b3 (by omega))
        · rw [show rest1 [110, 101, 120, 116] r = fin (read (2, true, true, true) r) from rfl, rg_steps 2 (by omega)] at h
          rcases rg1_inv (by omega) h with ⟨_, rfl⟩ | ⟨n, rfl, b1, b2, b3⟩
          · exact back_rule _ 2 1 true true ⟨by decide, by decide⟩ (by decide) (fun _ => rfl) (by omega) (by omega) (fun _ => by omega)
          · exact back_rule _ 2 n true true ⟨by decide, by decide⟩ (by decide) (fun _ => rfl) b1 b2 (fun _ => b3 (by omega))
        · rw [show rest1 [99, 111, 110, 116] r = fin (read (3, false, false, false) r) from rfl, rg_none 3] at h
          rw [rg0_inv h]
          exact back_none _ 3 ⟨by decide, by decide⟩ (by decide) (fun _ => rfl)
        · rw [show rest1 [98, 97, 99, 107] r = fin (read (4, true, true, true) r) from rfl, rg_steps 4 (by omega)] at h
          rcases rg1_inv (by omega) h with ⟨_, rfl⟩ | ⟨n, rfl, b1, b2, b3⟩
          · exact back_rule _ 4 1 true true ⟨by decide, by decide⟩ (by decide) (fun _ => rfl) (by omega) (by omega) (fun _ => by omega)
          · exact back_rule _ 4 n true true ⟨by decide, by decide⟩ (by decide) (fun _ => rfl) b1 b2 (fun _ => b3 (by omega))
        · rw [show rest1 [114, 101, 118, 101, 114, 116] r = fin (read (5, false, false, false) r) from rfl, rg_none 5] at h
          rw [rg0_inv h]
          exact back_none _ 5 ⟨by decide, by decide⟩ (by decide) (fun _ => rfl)
        · rw [show rest1 [103, 111, 116, 111] r = fin (read (6, true, false, false) r) from rfl, rg_one 6 (by omega)] at h
          rcases rg1_inv (by omega) h with ⟨e, _⟩ | ⟨n, rfl, b1, b2, b3⟩
          · omega
          · exact back_rule _ 6 n false false ⟨by decide, by decide⟩ (by decide) (fun _ => rfl) b1 b2 (fun e => by cases e)
        · rw [show rest1 breakW r = fin (breaks r) from rfl] at h
          cases r with
          | nil => simp [breaks, fin] at h
          | cons w rs =>
            by_cases hw : w = cmdW ∨ w = lineW
            · rw [rg_break w hw] at h
              rcases rg1_inv (by omega) h with ⟨e, _⟩ | ⟨n, rfl, b1, b2, b3⟩
              · omega
              · rcases hw with rfl | rfl
                · show parse (breakW ++ (32 :: (cmdW ++ (32 :: Lib.itoa n)))) = _
                  rw [parse_W (W_three ⟨by decide, by decide⟩ ⟨by decide, by decide⟩ (wd_num b1)) (by decide), show rest1 breakW [cmdW, Lib.itoa n] = fin (breaks [cmdW, Lib.itoa n]) from rfl]
                  simp [breaks, fin, num_back b1 b2, show ¬ cmdW = lineW by decide]
                · show parse (breakW ++ (32 :: (lineW ++ (32 :: Lib.itoa n)))) = _
                  rw [parse_W (W_three ⟨by decide, by decide⟩ ⟨by decide, by decide⟩ (wd_num b1)) (by decide), show rest1 breakW [lineW, Lib.itoa n] = fin (breaks [lineW, Lib.itoa n]) from rfl]
                  simp [breaks, fin, num_back b1 b2]
            · rw [break_not w hw] at h; simp at h
        · exact absurd rfl hx
        · rw [show rest1 [100, 101, 108, 101, 116, 101] r = fin (read (9, true, false, false) r) from rfl, rg_one 9 (by omega)] at h
          rcases rg1_inv (by omega) h with ⟨e, _⟩ | ⟨n, rfl, b1, b2, b3⟩
          · omega
          · exact back_rule _ 9 n false false ⟨by decide, by decide⟩ (by decide) (fun _ => rfl) b1 b2 (fun e => by cases e)
        · rw [show rest1 [101, 110, 97, 98, 108, 101] r = fin (read (10, true, false, false) r) from rfl, rg_one 10 (by omega)] at h
          rcases rg1_inv (by omega) h with ⟨e, _⟩ | ⟨n, rfl, b1, b2, b3⟩
          · omega
          · exact back_rule _ 10 n false false ⟨by decide, by decide⟩ (by decide) (fun _ => rfl) b1 b2 (fun e => by cases e)
        · rw [show rest1 [100, 105, 115, 97, 98, 108, 101] r = fin (read (11, true, false, false) r) from rfl, rg_one 11 (by omega)] at h
          rcases rg1_inv (by omega) h with ⟨e, _⟩ | ⟨n, rfl, b1, b2, b3⟩
          · omega
          · exact back_rule _ 11 n false false ⟨by decide, by decide⟩ (by decide) (fun _ => rfl) b1 b2 (fun e => by cases e)
        · rw [show rest1 [115, 116, 111, 112, 115] r = fin (read (12, false, false, false) r) from rfl, rg_none 12] at h
          rw [rg0_inv h]
          exact back_none _ 12 ⟨by decide, by decide⟩ (by decide) (fun _ => rfl)
        · rw [show rest1 listW r = fin (list r) from rfl, rg_list] at h
          obtain ⟨n, m, rfl, b1, b2, b3, b4⟩ := rg2_inv (by omega) (by omega) h
          show parse (listW ++ (32 :: (Lib.itoa n ++ (32 :: Lib.itoa m)))) = _
          rw [parse_W (W_three ⟨by decide, by decide⟩ (wd_num b1) (wd_num b3)) (by decide), show rest1 listW [Lib.itoa n, Lib.itoa m] = fin (list [Lib.itoa n, Lib.itoa m]) from rfl]
          simp [list, fin, num_back b1 b2, num_back b3 b4]
        · rw [show rest1 showW r = fin (named showW r) from rfl] at h
          cases r with
          | nil => simp [named, fin] at h
          | cons y q =>
            by_cases hy : y ∈ shownW
            · rw [rg_show y hy] at h
              rw [rg0_inv h]
              have hwd : Wd y := by
                have hall : ∀ z ∈ shownW, z ≠ [] ∧ z.all nb = true := by decide
                exact hall y hy
              show parse (showW ++ (32 :: y)) = _
              rw [parse_W (W_two ⟨by decide, by decide⟩ hwd) (by decide), show rest1 showW [y] = fin (named showW [y]) from rfl, rg_show y hy]; rfl
            · rw [show_not y hy] at h; simp at h
        · rw [show rest1 [111, 117, 116] r = fin (read (15, false, false, false) r) from rfl, rg_none 15] at h
          rw [rg0_inv h]
          exact back_none _ 15 ⟨by decide, by decide⟩ (by decide) (fun _ => rfl)
        · rw [show rest1 fileW r = fin (named fileW r) from rfl] at h
          cases r with
          | nil => simp [named, fin] at h
          | cons y q =>
            cases hy : isName y with
            | true =>
              rw [rg_file y hy] at h
              rw [rg0_inv h]
              have hwd : Wd y := by
                unfold isName at hy
                simp only [Bool.and_eq_true, decide_eq_true_eq] at hy
                refine ⟨fun e => by rw [e] at hy; simp at hy, ?_⟩
                rw [List.all_eq_true] at *
                intro c hc
                have := hy.2 c hc
                simp only [Bool.and_eq_true, decide_eq_true_eq] at this
                simp only [nb, decide_eq_true_eq]
                rintro rfl
                revert this; decide
              show parse (fileW ++ (32 :: y)) = _
              rw [parse_W (W_two ⟨by decide, by decide⟩ hwd) (by decide), show rest1 fileW [y] = fin (named fileW [y]) from rfl, rg_file y hy]; rfl
            | false => rw [file_not y hy] at h; simp at h
        · rw [show rest1 [119, 104, 101, 114, 101] r = fin (read (17, false, false, false) r) from rfl, rg_none 17] at h
          rw [rg0_inv h]
          exact back_none _ 17 ⟨by decide, by decide⟩ (by decide) (fun _ => rfl)
      · rw [parse_W hz hx, (rest_not x hm r).1] at h; simp at h
theorem rg_form {k : Int} {may must : Nat} : ∀ {rs : List Bytes} {j : Nat} {o0 o : Ord}, rg k may must j o0 rs = (o, 0) → (0 ≤ o0.n ∧ o0.n ≤ 2147483648) → (0 ≤ o0.m ∧ o0.m ≤ 2147483648) → o.kind = o0.kind ∧ o.s = o0.s ∧ (0 ≤ o.n ∧ o.n ≤ 2147483648) ∧ (0 ≤ o.m ∧ o.m ≤ 2147483648) := by
  intro rs
  induction rs with
  | nil =>
    intro j o0 o h hn hm
    simp only [rg] at h
    by_cases h0 : j < must
    · rw [if_pos h0] at h; simp at h
    · rw [if_neg h0] at h; injection h with h _; subst h; exact ⟨rfl, rfl, hn, hm⟩
  | cons x r ih =>
    intro j o0 o h hn hm
    simp only [rg] at h
    by_cases h0 : may ≤ j
    · rw [if_pos h0] at h; simp at h
    · rw [if_neg h0] at h
      by_cases h1 : (num x).2 ≠ 0
      · rw [if_pos h1] at h; injection h with _ h; exact absurd h h1
      · rw [if_neg h1] at h
        by_cases h2 : k ≤ 4 ∧ ((num x).1 < 1 ∨ 100000 < (num x).1)
        · rw [if_pos h2] at h; simp at h
        · rw [if_neg h2] at h
          have hb := num_bd (Classical.not_not.1 h1)
          by_cases hj : j = 0
          · rw [if_pos hj] at h; have hh := ih h hb hm; exact hh
          · rw [if_neg hj] at h; have hh := ih h hn hb; exact hh
def Small (L : Bytes) (o : Ord) : Prop := (0 ≤ o.kind ∧ o.kind ≤ 17) ∧ (0 ≤ o.n ∧ o.n ≤ 2147483648) ∧ (0 ≤ o.m ∧ o.m ≤ 2147483648) ∧ o.s.length ≤ 64 + L.length ∧ (L.length ≤ 300 → o.s.length ≤ 300)
theorem small_rg {L : Bytes} {k n0 m0 : Int} {may must : Nat} {s0 : Bytes} {o : Ord} {rs : List Bytes} (h : rg k may must 0 ⟨k, n0, m0, s0⟩ rs = (o, 0)) (hk : 0 ≤ k ∧ k ≤ 17) (hn : 0 ≤ n0 ∧ n0 ≤ 2147483648) (hm : 0 ≤ m0 ∧ m0 ≤ 2147483648) (hs : s0.length ≤ 64) : Small L o := by
  obtain ⟨a, b, c, d⟩ := rg_form h hn hm
  simp only at a b
  exact ⟨by omega, c, d, by rw [b]; omega, fun _ => by rw [b]; omega⟩
theorem parse_small_all {L : Bytes} {o : Ord} (h : parse L = (o, 0)) : Small L o := by
  cases hz : W L with
  | nil => rw [parse_nil hz] at h; simp at h
  | cons x r =>
    by_cases hx : x = watchW
    · subst hx
      cases r with
      | nil => rw [watch_one L hz] at h; simp at h
      | cons y q =>
        obtain ⟨i, p, hp, _⟩ := watch_at hz
        rw [hp] at h
        injection h with h _
        subst h
        exact ⟨by simp only; omega, by simp only; omega, by simp only; omega, by simp only [List.length_drop]; omega, fun _ => by simp only [List.length_drop]; omega⟩
    · by_cases hm : x ∈ namesW
      · rw [parse_W hz hx] at h
        have hx0 := W_ne hz
        clear hz
        simp only [namesW, List.mem_cons, List.not_mem_nil, or_false] at hm
        rcases hm with rfl | rfl | rfl | rfl | rfl | rfl | rfl | rfl | rfl | rfl | rfl | rfl | rfl | rfl | rfl | rfl | rfl | rfl
        · exact absurd rfl hx0
        · rw [show rest1 [115, 116, 101, 112] r = fin (read (1, true, true, true) r) from rfl, rg_steps 1 (by omega)] at h
          exact small_rg h (by omega) (by omega) (by omega) (by simp)
        · rw [show rest1 [110, 101, 120, 116] r = fin (read (2, true, true, true) r) from rfl, rg_steps 2 (by omega)] at h
          exact small_rg h (by omega) (by omega) (by omega) (by simp)
        · rw [show rest1 [99, 111, 110, 116] r = fin (read (3, false, false, false) r) from rfl, rg_none 3] at h
          exact small_rg h (by omega) (by omega) (by omega) (by simp)
        · rw [show rest1 [98, 97, 99, 107] r = fin (read (4, true, true, true) r) from rfl, rg_steps 4 (by omega)] at h
          exact small_rg h (by omega) (by omega) (by omega) (by simp)
        · rw [show rest1 [114, 101, 118, 101, 114, 116] r = fin (read (5, false, false, false) r) from rfl, rg_none 5] at h
          exact small_rg h (by omega) (by omega) (by omega) (by simp)
        · rw [show rest1 [103, 111, 116, 111] r = fin (read (6, true, false, false) r) from rfl, rg_one 6 (by omega)] at h
          exact small_rg h (by omega) (by omega) (by omega) (by simp)
        · rw [show rest1 breakW r = fin (breaks r) from rfl] at h
          cases r with
          | nil => simp [breaks, fin] at h
          | cons w rs =>
            by_cases hw : w = cmdW ∨ w = lineW
            · rw [rg_break w hw] at h
              exact small_rg h (by omega) (by omega) (by split <;> omega) (by simp)
            · rw [break_not w hw] at h; simp at h
        · exact absurd rfl hx
        · rw [show rest1 [100, 101, 108, 101, 116, 101] r = fin (read (9, true, false, false) r) from rfl, rg_one 9 (by omega)] at h
          exact small_rg h (by omega) (by omega) (by omega) (by simp)
        · rw [show rest1 [101, 110, 97, 98, 108, 101] r = fin (read (10, true, false, false) r) from rfl, rg_one 10 (by omega)] at h
          exact small_rg h (by omega) (by omega) (by omega) (by simp)
        · rw [show rest1 [100, 105, 115, 97, 98, 108, 101] r = fin (read (11, true, false, false) r) from rfl, rg_one 11 (by omega)] at h
          exact small_rg h (by omega) (by omega) (by omega) (by simp)
        · rw [show rest1 [115, 116, 111, 112, 115] r = fin (read (12, false, false, false) r) from rfl, rg_none 12] at h
          exact small_rg h (by omega) (by omega) (by omega) (by simp)
        · rw [show rest1 listW r = fin (list r) from rfl, rg_list] at h
          exact small_rg h (by omega) (by omega) (by omega) (by simp)
        · rw [show rest1 showW r = fin (named showW r) from rfl] at h
          cases r with
          | nil => simp [named, fin] at h
          | cons y q =>
            by_cases hy : y ∈ shownW
            · rw [rg_show y hy] at h
              have hall : ∀ z ∈ shownW, z.length ≤ 64 := by decide
              exact small_rg h (by omega) (by omega) (by omega) (hall y hy)
            · rw [show_not y hy] at h; simp at h
        · rw [show rest1 [111, 117, 116] r = fin (read (15, false, false, false) r) from rfl, rg_none 15] at h
          exact small_rg h (by omega) (by omega) (by omega) (by simp)
        · rw [show rest1 fileW r = fin (named fileW r) from rfl] at h
          cases r with
          | nil => simp [named, fin] at h
          | cons y q =>
            cases hy : isName y with
            | true =>
              rw [rg_file y hy] at h
              unfold isName at hy
              simp only [Bool.and_eq_true, decide_eq_true_eq] at hy
              exact small_rg h (by omega) (by omega) (by omega) hy.1.2
            | false => rw [file_not y hy] at h; simp at h
        · rw [show rest1 [119, 104, 101, 114, 101] r = fin (read (17, false, false, false) r) from rfl, rg_none 17] at h
          exact small_rg h (by omega) (by omega) (by omega) (by simp)
      · rw [parse_W hz hx, (rest_not x hm r).1] at h; simp at h
theorem parse_form {L : Bytes} {o : Ord} (h : parse L = (o, 0)) : (0 ≤ o.kind ∧ o.kind ≤ 17) ∧ (0 ≤ o.n ∧ o.n ≤ 2147483648) ∧ (0 ≤ o.m ∧ o.m ≤ 2147483648) ∧ o.s.length ≤ 64 + L.length :=
  let ⟨a, b, c, d, _⟩ := parse_small_all h; ⟨a, b, c, d⟩
theorem parse_s_len {L : Bytes} {o : Ord} (h : parse L = (o, 0)) (hl : L.length ≤ 300) : o.s.length ≤ 300 := (parse_small_all h).2.2.2.2 hl
end Go.Proofs.YtjfpepinmbbnbaaDoor.OM
