/-
  The plain law of conditions: a text with something ahead of it and behind it; of chapter 27.
  Conditions: as each theorem states them.
-/
import Derived.Test.YtlaafamodaogmaaCondX
import Derived.Test.YtlaafamodaogmaaCondS
namespace Go.Proofs.Ytlaafamodaogmaa
set_option linter.unusedVariables false
set_option linter.unusedSimpArgs false
theorem octS_app {s : List UInt8} {x : UInt8} (h : octS s = .ok x) (t : List UInt8) : octS (s ++ t) = .ok x := by
  match s, h with
  | [], h => simp [octS] at h
  | [a], h =>
    exfalso
    unfold octS at h
    simp only at h
    split at h <;> cases h
  | [a, b], h =>
    exfalso
    unfold octS at h
    simp only at h
    split at h
    · cases h
    · split at h <;> cases h
  | a :: b :: c :: r, h => exact h
theorem escS_app {s : List UInt8} {x : UInt8 × Nat} (h : escS s = .ok x) (t : List UInt8) : escS (s ++ t) = .ok x := by
  cases s with
  | nil => simp [escS] at h
  | cons d r =>
    unfold escS at h ⊢
    simp only [List.cons_append] at h ⊢
    cases ho : oneS d with
    | some y => rw [ho] at h; exact h
    | none =>
      rw [ho] at h
      simp only at h ⊢
      cases hq : octS (d :: r) with
      | error e => rw [hq] at h; cases h
      | ok y =>
        rw [hq] at h
        have := octS_app hq t
        rw [List.cons_append] at this
        rw [this]; exact h
theorem unqS_app (k : Nat) (t : List UInt8) : ∀ (n : Nat) (s out : List UInt8) (a : Nat), s.length ≤ n → (unqS out a s).2.2 = 0 → unqS out (a + k) (s ++ t) = ((unqS out a s).1, (unqS out a s).2.1 + k, 0)
  | n, [], out, a, _, h => by rw [unqS_nil] at h; simp at h
  | 0, c :: r, out, a, hn, h => by simp at hn
  | n + 1, c :: r, out, a, hn, h => by
    simp only [List.length_cons] at hn
    rw [List.cons_append]
    by_cases h1 : c = 34
    · subst h1
      rw [unqS_end, unqS_end]
      simp only [Prod.mk.injEq, true_and, and_true]
      omega
    · by_cases h2 : c = 92
      · subst h2
        cases he : escS r with
        | error e =>
          exfalso
          rw [unqS_err _ _ _ _ he] at h
          simp only at h
          subst h
          have := escS_err he
          omega
        | ok x =>
          obtain ⟨x, m⟩ := x
          have hm := escS_len he
          rw [unqS_esc _ _ _ _ _ he] at h ⊢
          rw [unqS_esc _ _ _ _ _ (escS_app he t)]
          rw [List.drop_append_of_le_length hm.2]
          have := unqS_app k t n (r.drop m) (out ++ [x]) (a + 1 + m) (by rw [List.length_drop]; omega) h
          rw [show a + k + 1 + m = a + 1 + m + k by omega]
          exact this
      · rw [unqS_plain _ _ _ _ h1 h2] at h ⊢
        rw [unqS_plain _ _ _ _ h1 h2]
        have := unqS_app k t n r (out ++ [c]) (a + 1) (by omega) h
        rw [show a + k + 1 = a + 1 + k by omega]
        exact this
namespace CM
/-- what may stand behind a text -/
def Post (t : List UInt8) : Prop := t = [] ∨ ∃ r, t = 41 :: r ∨ t = 32 :: r
theorem tw_post {p : UInt8 → Bool} (h1 : p 41 = false) (h2 : p 32 = false) {t : List UInt8} (ht : Post t) (l : List UInt8) : (l ++ t).takeWhile p = l.takeWhile p := by
  have h0 : t.takeWhile p = [] := by
    rcases ht with rfl | ⟨r, rfl | rfl⟩
    · rfl
    · rw [List.takeWhile_cons, h1]; rfl
    · rw [List.takeWhile_cons, h2]; rfl
  rw [List.takeWhile_append]
  split
  · rename_i he
    rw [h0, List.append_nil]
    exact ((List.takeWhile_prefix p).eq_of_length he).symm
  · rfl
theorem sign_two (a b : UInt8) (r r' : List UInt8) : signS (a :: b :: r) = signS (a :: b :: r') := by
  rw [sign_hits, sign_hits]
  simp only [Lib.hasPrefix, List.isPrefixOf, Bool.and_true]
theorem sign_post {t : List UInt8} (h : signS t ≠ []) {u : List UInt8} (hu : Post u) : signS (t ++ u) = signS t := by
  match t, h with
  | [], h => exact absurd rfl h
  | [a], h =>
    rcases hu with rfl | ⟨r, rfl | rfl⟩
    · rfl
    · rw [sign_hits, sign_hits]
      simp [Lib.hasPrefix, List.isPrefixOf]
    · rw [sign_hits, sign_hits]
      simp [Lib.hasPrefix, List.isPrefixOf]
  | a :: b :: r, h => exact sign_two a b _ _
theorem drop_ctx (pre s post : List UInt8) (i : Nat) (h : i ≤ s.length) : (pre ++ s ++ post).drop (i + pre.length) = s.drop i ++ post := by
  rw [List.append_assoc, Nat.add_comm, ← List.drop_drop, List.drop_left, List.drop_append_of_le_length h]
/-- the pieces of a text are those of a longer one -/
theorem nx_ctx {pre s post : List UInt8} (hp : Post post) {y : Pc} {c : Nat} (hy : nextS (pre ++ s ++ post) (s.length + pre.length) = .ok (y, c)) : Nx s (pre ++ s ++ post) pre.length y c := by
  intro i x j hi hx
  obtain ⟨S, hS⟩ : ∃ S, pre ++ s ++ post = S := ⟨_, rfl⟩
  have hd : ∀ i, i ≤ s.length → S.drop (i + pre.length) = s.drop i ++ post := fun i h => hS ▸ drop_ctx pre s post i h
  rw [hS] at hy ⊢
  have hsk := skip_le s i hi
  have hbl : blank 41 = false := rfl
  unfold nextS at hx
  obtain ⟨b, hb⟩ : ∃ b, skip s i = b := ⟨_, rfl⟩
  rw [hb] at hsk hx
  by_cases hlt : b < s.length
  · -- a piece begins within s
    have hskS : skip S (i + pre.length) = b + pre.length := by
      unfold skip at hb ⊢
      rw [hd i hi, List.takeWhile_append, if_neg]
      · omega
      · intro e
        rw [List.length_drop] at e
        omega
    have hcons : s.drop b = s[b] :: s.drop (b + 1) := List.drop_eq_getElem_cons hlt
    have hnx : nextS S (i + pre.length) = pieceS S (b + pre.length) (s.drop b ++ post) := by
      unfold nextS
      rw [hskS, hd b (by omega)]
    rw [hnx]
    unfold pieceS at hx ⊢
    rw [hcons] at hx ⊢
    simp only [List.cons_append] at hx ⊢
    by_cases h1 : low s[b] = true
    · rw [if_pos h1] at hx ⊢
      have e : (s[b] :: (s.drop (b + 1) ++ post)).takeWhile low = (s[b] :: s.drop (b + 1)).takeWhile low := tw_post (p := low) rfl rfl hp (s[b] :: s.drop (b + 1))
      rw [e]
      split at hx
      · rename_i hw
        simp only [Except.ok.injEq, Prod.mk.injEq] at hx
        obtain ⟨rfl, rfl⟩ := hx
        rw [if_pos hw]
        exact ⟨fun _ => by simp; omega, fun h => by simp at h⟩
      · cases hx
    · rw [if_neg h1] at hx ⊢
      by_cases h2 : dig s[b] = true
      · rw [if_pos h2] at hx ⊢
        have hbl2 : b + pre.length ≤ S.length := by rw [← hS]; simp; omega
        split at hx
        · rename_i hz
          simp only [Except.ok.injEq, Prod.mk.injEq] at hx
          obtain ⟨rfl, rfl⟩ := hx
          have eN : numS S ((b + pre.length : Nat) : Int) 2147483648 = ((numS s b 2147483648).1, (numS s b 2147483648).2.1 + pre.length, 0) := by
            have n1 : ¬ ((b : Int) < 0 ∨ (s.length : Int) < (b : Int)) := by omega
            have n2 : ¬ (((b + pre.length : Nat) : Int) < 0 ∨ (S.length : Int) < ((b + pre.length : Nat) : Int)) := by omega
            unfold numS at hz ⊢
            simp only [if_neg n1, if_neg n2, Int.toNat_natCast] at hz ⊢
            rw [hd b (by omega), tw_post (p := dig) (by decide) (by decide) hp]
            split at hz
            · simp at hz
            · rename_i z1
              simp only [if_neg z1]
              split at hz
              · simp at hz
              · rename_i z2
                simp only [if_neg z2]
                simp only [Prod.mk.injEq, true_and, and_true]
                omega
          rw [eN]
          obtain ⟨e, g1, g2, g3⟩ := numS_range s b _ hz
          rw [g1]
          simp only [if_true]
          exact ⟨fun _ => by simp; omega, fun h => by simp at h⟩
        · cases hx
      · rw [if_neg h2] at hx ⊢
        by_cases h3 : s[b] = 34
        · rw [if_pos h3] at hx ⊢
          split at hx
          · rename_i hz
            simp only [Except.ok.injEq, Prod.mk.injEq] at hx
            obtain ⟨rfl, rfl⟩ := hx
            have hbl2 : b + pre.length ≤ S.length := by rw [← hS]; simp; omega
            have eU : unquoteS S ((b + pre.length : Nat) : Int) = ((unquoteS s b).1, (unquoteS s b).2.1 + pre.length, 0) := by
              unfold unquoteS at hz ⊢
              rw [if_neg (by omega)] at hz
              rw [if_neg (by omega), if_neg (by omega)]
              simp only [Int.toNat_natCast] at hz ⊢
              rw [hd b (by omega), hcons]
              rw [hcons] at hz
              simp only [List.cons_append] at hz ⊢
              rw [if_neg (by simpa using h3)] at hz
              rw [if_neg (by simpa using h3), if_neg (by simpa using h3)]
              rw [show b + pre.length + 1 = b + 1 + pre.length by omega]
              exact unqS_app pre.length post _ _ [] (b + 1) (Nat.le_refl _) hz
            rw [eU]
            obtain ⟨e, g1, g2, g3⟩ := unquote_range s b hz
            rw [g1]
            simp only [if_true]
            exact ⟨fun _ => by simp; omega, fun h => by simp at h⟩
          · cases hx
        · rw [if_neg h3] at hx ⊢
          by_cases h4 : s[b] = 40 ∨ s[b] = 41
          · rw [if_pos h4] at hx ⊢
            simp only [Except.ok.injEq, Prod.mk.injEq] at hx
            obtain ⟨rfl, rfl⟩ := hx
            exact ⟨fun _ => by simp; omega, fun h => by simp at h⟩
          · rw [if_neg h4] at hx ⊢
            split at hx
            · cases hx
            · rename_i hz
              simp only [Except.ok.injEq, Prod.mk.injEq] at hx
              obtain ⟨rfl, rfl⟩ := hx
              have es : signS (s[b] :: (s.drop (b + 1) ++ post)) = signS (s[b] :: s.drop (b + 1)) := sign_post (t := s[b] :: s.drop (b + 1)) hz hp
              rw [es, if_neg hz]
              exact ⟨fun _ => by simp; omega, fun h => by simp at h⟩
  · -- only blanks are left
    have hbe : b = s.length := by omega
    rw [hbe, List.drop_eq_nil_of_le (Nat.le_refl _)] at hx
    simp only [pieceS, Except.ok.injEq, Prod.mk.injEq] at hx
    obtain ⟨rfl, rfl⟩ := hx
    refine ⟨fun h => absurd rfl h, fun _ => ?_⟩
    rw [← hy]
    have hskS : skip S (i + pre.length) = skip S (s.length + pre.length) := by
      unfold skip at hb ⊢
      rw [hd i hi, hd s.length (Nat.le_refl _), List.takeWhile_append, if_pos (by rw [List.length_drop]; omega), List.drop_eq_nil_of_le (Nat.le_refl _), List.nil_append, List.length_append, List.length_drop]
      omega
    unfold nextS
    rw [hskS]
end CM
end Go.Proofs.Ytlaafamodaogmaa
