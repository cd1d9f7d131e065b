/-
  The plain law of conditions: a text with something ahead of it and behind it; of chapter 27.
  Conditions: as each theorem states them.
-/
import Derived.Test.YtlaafamodaogmaaCondX
import Derived.Test.YtlaafamodaogmaaCondS
namespace Go.Proofs.Ytlaafamodaogmaa
set_option linter.unusedVariables false
set_option linter.unusedSimpArgs false
theorem octS_app {s : List UInt8} {x : UInt8} (h : octS s = .ok x) (t : List UInt8) : octS (s ++ t) = .ok x := by
  match s, h with
  | [], h => simp [octS] at h
  | [a], h =>
    exfalso
    unfold octS at h
    simp only at h
    split at h <;> cases h
  | [a, b], h =>
    exfalso
    unfold octS at h
    simp only at h
    split at h
    · cases h
    · split at h <;> cases h
  | a :: b :: c :: r, h => exact h
theorem escS_app {s : List UInt8} {x : UInt8 × Nat} (h : escS s = .ok x) (t : List UInt8) : escS (s ++ t) = .ok x := by
  cases s with
  | nil => simp [escS] at h
  | cons d r =>
    unfold escS at h ⊢
    simp only [List.cons_append] at h ⊢
    cases ho : oneS d with
    | some y => rw [ho] at h; exact h
    | none =>
      rw [ho] at h
      simp only at h ⊢
      cases hq : octS (d :: r) with
      | error e => rw [hq] at h; cases h
      | ok y =>
        rw [hq] at h
        have := octS_app hq t
        rw [List.cons_append] at this
        rw [this]; exact h
theorem unqS_app (k : Nat) (t : List UInt8) : ∀ (n : Nat) (s out : List UInt8) (a : Nat), s.length ≤ n → (unqS out a s).2.2 = 0 → unqS out (a + k) (s ++ t) = ((unqS out a s).1, (unqS out a s).2.1 + k, 0)
  | n, [], out, a, _, h => by rw [unqS_nil] at h; simp at h
  | 0, c :: r, out, a, hn, h => by simp at hn
  | n + 1, c :: r, out, a, hn, h => by
    simp only [List.length_cons] at hn
    rw [List.cons_append]
    by_cases h1 : c = 34
    · subst h1
      rw [unqS_end, unqS_end]
      simp only [Prod.mk.injEq, true_and, and_true]
      omega
    · by_cases h2 : c = 92
      · subst h2
        cases he : escS r with
        | error e =>
          exfalso
          rw [unqS_err _ _ _ _ he] at h
          simp only at h
          subst h
          have := escS_err he
          omega
        | ok x =>
          obtain ⟨x, m⟩ := x
          have hm := escS_len he
          rw [unqS_esc _ _ _ _ _ he] at h ⊢
          rw [unqS_esc _ _ _ _ _ (escS_app he t)]
          rw [List.drop_append_of_le_length hm.2]
          have := unqS_app k t n (r.drop m) (out ++ [x]) (a + 1 + m) (by rw [List.length_drop]; omega) h
          rw [show a + k + 1 + m = a + 1 + m + k by omega]
          exact this
      · rw [unqS_plain _ _ _ _ h1 h2] at h ⊢
        rw [unqS_plain _ _ _ _ h1 h2]
        have := unqS_app k t n r (out ++ [c]) (a + 1) (by omega) h
        rw [show a + k + 1 = a + 1 + k by omega]
        exact this
namespace CM
/-- what may stand behind a text -/
def Post (t : List UInt8) : Prop := t = [] ∨ ∃ r, t = 41 :: r ∨ t = 32 :: r
theorem tw_post {p : UInt8 → Bool} (h1 : p 41 = false) (h2 : p 32 = false) {t : List UInt8} (ht : Post t) (l : List UInt8) : (l ++ t).takeWhile p = l.takeWhile p := by
  have h0 : t.takeWhile p = [] := by
    rcases ht with rfl | ⟨r, rfl | rfl⟩
    · rfl
    · rw [List.takeWhile_cons, h1]; rfl
    · rw [List.takeWhile_cons, h2]; rfl
  rw [List.takeWhile_append]
  split
  · rename_i he
    rw [h0, List.append_nil]
    exact ((List.takeWhile_prefix p).eq_of_length he).symm
  · rfl
theorem sign_two (a b : UInt8) (r r' : List UInt8) : signS (a :: b :: r) = signS (a :: b :: r') := by
  rw [sign_hits, sign_hits]
  simp only [Lib.hasPrefix, List.isPrefixOf, Bool.and_true]
theorem sign_post {t : List UInt8} (h : signS t ≠ []) {u : List UInt8} (hu : Post u) : signS (t ++ u) = signS t := by
  match t, h with
  | [], h => exact absurd rfl h
  | [a], h =>
    rcases hu with rfl | ⟨r, rfl | rfl⟩
    · rfl
    · rw [sign_hits, sign_hits]
      simp [Lib.hasPrefix, List.isPrefixOf]
    · rw [sign_hits, sign_hits]
      simp [Lib.hasPrefix, List.isPrefixOf]
  | a :: b :: r, h => exact sign_two a b _ _
theorem drop_ctx (pre s post : List UInt8) (i : Nat) (h : i ≤ s.length) : (pre ++ s ++ post).drop (i + pre.length) = s.drop i ++ post := by
  rw [List.append_assoc, Nat.add_comm, ← List.drop_drop, List.drop_left, List.drop_append_of_le_length h]
/-- the pieces of a text are those of a longer one -/
theorem nx_ctx {pre s post : List UInt8} (hp : Post post) {y : Pc} {c : Nat} (hy : nextS (pre ++ s ++ post) (s.length + pre.length) = .ok (y, c)) : Nx s (pre ++ s ++ post) pre.length y c := by
  intro i x j hi hx
  obtain ⟨S, hS⟩ : ∃ S, pre ++ s ++ post = S := ⟨_, rfl⟩
  have hd : ∀ i, i ≤ s.length → S.drop (i + pre.length) = s.drop i ++ post := fun i h => hS ▸ drop_ctx pre s post i h
  rw [hS] at hy ⊢
  have hsk := skip_le s i hi
  have hbl : blank 41 = false := rfl
  unfold nextS at hx
  obtain ⟨b, hb⟩ : ∃ b, skip s i = b := ⟨_, rfl⟩
  rw [hb] at hsk hx
  by_cases hlt : b < s.length
  · -- a piece begins within s
    have hskS : skip S (i + pre.length) = b + pre.length := by
      unfold skip at hb ⊢
      rw [hd i hi, List.takeWhile_append, if_neg]
      · omega
      · intro e
        rw [List.length_drop] at e
        omega
    have hcons : s.drop b = s[b] :: s.drop (b + 1) := List.drop_eq_getElem_cons hlt
    have hnx : nextS S (i + pre.length) = pieceS S (b + pre.length) (s.drop b ++ post) := by
      unfold nextS
      rw [hskS, hd b (by omega)]
    rw [hnx]
    unfold pieceS at hx ⊢
    rw [hcons] at hx ⊢
    simp only [List.cons_append] at hx ⊢
    by_cases h1 : low s[b] = true
    · rw [if_pos h1] at hx ⊢
      have e : (s[b] :: (s.drop (b + 1) ++ post)).takeWhile low = (s[b] :: s.drop (b + 1)).takeWhile low := tw_post (p := low) rfl rfl hp (s[b] :: s.drop (b + 1))
      rw [e]
      split at hx
      · rename_i hw
        simp only [Except.ok.injEq, Prod.mk.injEq] at hx
        obtain ⟨rfl, rfl⟩ := hx
        rw [if_pos hw]
        exact ⟨fun _ => by simp; omega, fun h => by simp at h⟩
      · cases hx
    · rw [if_neg h1] at hx ⊢
      by_cases h2 : dig s[b] = true
      · rw [if_pos h2] at hx ⊢
        have hbl2 : b + pre.length ≤ S.length := by rw [← hS]; simp; omega
        split at hx
        · rename_i hz
          simp only [Except.ok.injEq, Prod.mk.injEq] at hx
          obtain ⟨rfl, rfl⟩ := hx
          have eN : numS S ((b + pre.length : Nat) : Int) 2147483648 = ((numS s b 2147483648).1, (numS s b 2147483648).2.1 + pre.length, 0) := by
            have n1 : ¬ ((b : Int) < 0 ∨ (s.length : Int) < (b : Int)) := by omega
            have n2 : ¬ (((b + pre.length : Nat) : Int) < 0 ∨ (S.length : Int) < ((b + pre.length : Nat) : Int)) := by omega
            unfold numS at hz ⊢
            simp only [if_neg n1, if_neg n2, Int.toNat_natCast] at hz ⊢
            rw [hd b (by omega), tw_post (p := dig) (by decide) (by decide) hp]
            split at hz
            · simp at hz
            · rename_i z1
              simp only [if_neg z1]
              split at hz
              · simp at hz
              · rename_i z2
                simp only [if_neg z2]
                simp only [Prod.mk.injEq, true_and, and_true]
                omega
          rw [eN]
          obtain ⟨e, g1, g2, g3⟩ := numS_range s b _ hz
          rw [g1]
          simp only [if_true]
          exact ⟨fun _ => by simp; omega, fun h => by simp at h⟩
        · cases hx
      · rw [if_neg h2] at hx ⊢
        by_cases h3 : s[b] = 34
        · rw [if_pos h3] at hx ⊢
          split at hx
          · rename_i hz
            simp only [Except.ok.injEq, Prod.mk.injEq] at hx
            obtain ⟨rfl, rfl⟩ := hx
            have hbl2 : b + pre.length ≤ S.length := by rw [← hS]; simp; omega
            have eU : unquoteS S ((b + pre.length : Nat) : Int) = ((unquoteS s b).1, (unquoteS s b).2.1 + pre.length, 0) := by
              unfold unquoteS at hz ⊢
              rw [if_neg (by omega)] at hz
              rw [if_neg (by omega), if_neg (by omega)]
              simp only [Int.toNat_natCast] at hz ⊢
              rw [hd b (by omega), hcons]
              rw [hcons] at hz
              simp only [List.cons_append] at hz ⊢
              rw [if_neg (by simpa using h3)] at hz
              rw [if_neg (by simpa using h3), if_neg (by simpa using h3)]
              rw [show b + pre.length + 1 = b + 1 + pre.length by omega]
              exact unqS_app pre.length post _ _ [] (b + 1) (Nat.le_refl _) hz
            rw [eU]
            obtain ⟨e, g1, g2, g3⟩ := unquote_range s b hz
            rw [g1]
            simp only [if_true]
            exact ⟨fun _ => by simp; omega, fun h => by simp at h⟩
          · cases hx
        · rw [if_neg h3] at hx ⊢
          by_cases h4 : s[b] = 40 ∨ s[b] = 41
          · rw [if_pos h4] at hx ⊢
            simp only [Except.ok.injEq, Prod.mk.injEq] at hx
            obtain ⟨rfl, rfl⟩ := hx
            exact ⟨fun _ => by simp; omega, fun h => by simp at h⟩
          · rw [if_neg h4] at hx ⊢
            split at hx
            · cases hx
            · rename_i hz
              simp only [Except.ok.injEq, Prod.mk.injEq] at hx
              obtain ⟨rfl, rfl⟩ := hx
              have es : signS (s[b] :: (s.drop (b + 1) ++ post)) = signS (s[b] :: s.drop (b + 1)) := sign_post (t := s[b] :: s.drop (b + 1)) hz hp
              rw [es, if_neg hz]
              exact ⟨fun _ => by simp; omega, fun h => by simp at h⟩
  · -- only blanks are left
    have hbe : b = s.length := by omega
    rw [hbe, List.drop_eq_nil_of_le (Nat.le_refl _)] at hx
    simp only [pieceS, Except.ok.injEq, Prod.mk.injEq] at hx
    obtain ⟨rfl, rfl⟩ := hx
    refine ⟨fun h => absurd rfl h, fun _ => ?_⟩
    rw [← hy]
    have hskS : skip S (i + pre.length) = skip S (s.length + pre.length) := by
      unfold skip at hb ⊢
      rw [hd i hi, hd s.length (Nat.le_refl _), List.takeWhile_append, if_pos (by rw [List.length_drop]; omega), List.drop_eq_nil_of_le (Nat.le_refl _), List.nil_append, List.length_append, List.length_drop]
      omega
    unfold nextS
    rw [hskS]
end CM
end Go.Proofs.Ytlaafamodaogmaa
/-
  The plain law of conditions: two conditions in brackets, with and, or, not; of chapter 27.
  Conditions: as each theorem states them.
-/
namespace Go.Proofs.Ytlaafamodaogmaa
set_option linter.unusedVariables false
set_option linter.unusedSimpArgs false
namespace CM
def Whole (a : List UInt8) (phi : M) : Prop := ∃ x b r, nextS a 0 = .ok (x, b) ∧ run a (fuel a) .either ⟨x, b, 0⟩ = .ok (phi, r) ∧ r.pc.kind = 0
theorem whole_of {a : List UInt8} {phi : M} (h : parseS a = .ok phi) : a.length ≤ 4096 ∧ Whole a phi := by
  unfold parseS at h
  split at h
  · cases h
  · rename_i hl
    refine ⟨by omega, ?_⟩
    split at h
    · cases h
    · rename_i x b hn
      split at h
      · cases h
      · rename_i f r hr
        split at h
        · rename_i hk
          simp only [Except.ok.injEq] at h
          subst h
          exact ⟨x, b, r, hn, hr, hk⟩
        · cases h
/-- a result, or it is too deep -/
def F7 (R : Except Er (M × Ps)) (phi : M) (q : Ps) : Prop := R = .ok (phi, q) ∨ ∃ e, R = .error (e, 7)
theorem parse_F7 {S : List UInt8} (hl : S.length ≤ 4096) {x : Pc} {b : Nat} {phi : M} {r : Ps} (h1 : nextS S 0 = .ok (x, b)) (h2 : F7 (run S (fuel S) .either ⟨x, b, 0⟩) phi r) (h3 : r.pc.kind = 0) : parseS S = .ok phi ∨ ∃ e, parseS S = .error (e, 7) := by
  unfold parseS
  rw [if_neg (by omega), h1]
  simp only
  rcases h2 with h2 | ⟨e, h2⟩
  · rw [h2]; simp only; rw [if_pos h3]; exact .inl rfl
  · rw [h2]; exact .inr ⟨e, rfl⟩
theorem within {pre a post : List UInt8} {phi : M} {y : Pc} {c d : Nat} (hW : Whole a phi) (hp : Post post) (hy : nextS (pre ++ a ++ post) (a.length + pre.length) = .ok (y, c)) (hand : y.is 1 andW = false) (hor : y.is 1 orW = false) :
    ∃ x b, nextS (pre ++ a ++ post) pre.length = .ok (x, b) ∧ ((∀ n, fuel a ≤ n → run (pre ++ a ++ post) n .either ⟨x, b, d⟩ = .ok (phi, ⟨y, c, d⟩)) ∨ (d ≠ 0 ∧ ∃ e, ∀ n, fuel a ≤ n → run (pre ++ a ++ post) n .either ⟨x, b, d⟩ = .error (e, 7))) := by
  obtain ⟨x, b, r, h1, h2, h3⟩ := hW
  have hN := nx_ctx hp hy
  obtain ⟨n1, n2⟩ := hN 0 x b (Nat.zero_le _) h1
  rw [Nat.zero_add] at n1 n2
  have hle := next_le (Nat.zero_le _) h1
  have hok : Ok a ⟨x, b, 0⟩ := ⟨hle.1, hle.2.1, by simp, hle.2.2.2.2⟩
  have hrd := (run_less a _ _ _ _ _ hok h2).1.deep
  have key : ∀ x' b', nextS (pre ++ a ++ post) pre.length = .ok (x', b') → Sim pre.length d y c ⟨x, b, 0⟩ ⟨x', b', d⟩ →
      ∃ x b, nextS (pre ++ a ++ post) pre.length = .ok (x, b) ∧ ((∀ n, fuel a ≤ n → run (pre ++ a ++ post) n .either ⟨x, b, d⟩ = .ok (phi, ⟨y, c, d⟩)) ∨ (d ≠ 0 ∧ ∃ e, ∀ n, fuel a ≤ n → run (pre ++ a ++ post) n .either ⟨x, b, d⟩ = .error (e, 7))) := by
    intro x' b' e1 hs
    refine ⟨x', b', e1, ?_⟩
    rcases sim hN _ .either _ _ _ _ hok hs h2 (fun _ => ⟨hand, hor⟩) with ⟨q', e2, s2⟩ | ⟨hd, e, e2⟩
    · refine .inl fun n hn => ?_
      have e3 := run_mono _ _ _ _ _ e2 (by simp) n hn
      rw [e3]
      have hq : q' = ⟨y, c, d⟩ := by
        rcases s2.pc with ⟨h, _⟩ | ⟨_, g1, g2⟩
        · exact absurd h3 h
        · have g3 := s2.deep
          rw [hrd] at g3
          cases q'
          simp only at g1 g2 g3
          simp only [Nat.zero_add] at g3
          rw [g1, g2, g3]
      rw [hq]
    · exact .inr ⟨hd, e, fun n hn => run_mono _ _ _ _ _ e2 (by simp) n hn⟩
  by_cases h0 : x.kind = 0
  · exact key y c (n2 h0) ⟨by simp, .inr ⟨h0, rfl, rfl⟩⟩
  · exact key _ _ (n1 h0) ⟨by simp, .inl ⟨h0, rfl, rfl⟩⟩
/-- a bracket at a place -/
theorem next_close {S : List UInt8} {i : Nat} {t : List UInt8} (h : S.drop i = 41 :: t) : nextS S i = .ok (⟨5, i, 0, [41]⟩, i + 1) := by
  have hs : skip S i = i := by unfold skip; rw [h]; rfl
  unfold nextS
  rw [hs, h]
  rfl
theorem next_open {S : List UInt8} {i : Nat} {t : List UInt8} (h : S.drop i = 40 :: t) : nextS S i = .ok (⟨5, i, 0, [40]⟩, i + 1) := by
  have hs : skip S i = i := by unfold skip; rw [h]; rfl
  unfold nextS
  rw [hs, h]
  rfl
theorem next_blank {S : List UInt8} {i : Nat} {t : List UInt8} (h : S.drop i = 32 :: t) : nextS S i = nextS S (i + 1) := by
  have hs : skip S i = skip S (i + 1) := by
    unfold skip
    have h2 : S.drop (i + 1) = t := by rw [← List.drop_drop, h]; rfl
    rw [h, h2, List.takeWhile_cons, if_pos (by rfl), List.length_cons]; omega
  unfold nextS
  rw [hs]
theorem next_end {S : List UInt8} {i : Nat} (h : S.drop i = []) (hi : i ≤ S.length) : nextS S i = .ok (⟨0, i, 0, []⟩, i) := by
  have hs : skip S i = i := by unfold skip; rw [h]; rfl
  unfold nextS
  rw [hs, h]
  rfl
theorem next_word {S : List UInt8} {i : Nat} {w t : List UInt8} (h : S.drop i = w ++ t) (hw : ∀ c ∈ w, low c = true) (hn : w ≠ []) (ht : t = [] ∨ ∃ c r, t = c :: r ∧ low c = false) (hi : isWord w = true) : nextS S i = .ok (⟨1, i, 0, w⟩, i + w.length) := by
  obtain ⟨c, w', rfl⟩ := List.exists_cons_of_ne_nil hn
  have hc := hw c (by simp)
  have hb : blank c = false := by
    unfold blank
    rw [low_is] at hc
    simp only [beq_eq_false_iff_ne, ne_eq]
    intro e
    rw [e] at hc
    simp at hc
  have hs : skip S i = i := by unfold skip; rw [h, List.cons_append, List.takeWhile_cons, hb]; rfl
  have htw : ((c :: w') ++ t).takeWhile low = c :: w' := by
    have hall : (c :: w').takeWhile low = c :: w' := by
      have : ∀ l : List UInt8, (∀ c ∈ l, low c = true) → l.takeWhile low = l := by
        intro l
        induction l with
        | nil => intro _; rfl
        | cons d l ih => intro h; rw [List.takeWhile_cons, if_pos (h d (by simp)), ih (fun c hc => h c (by simp [hc]))]
      exact this _ hw
    rw [List.takeWhile_append, if_pos (by rw [hall]), ]
    rcases ht with rfl | ⟨e, r, rfl, he⟩
    · simp
    · rw [List.takeWhile_cons, he]; simp
  unfold nextS
  rw [hs, h]
  rw [List.cons_append] at htw ⊢
  unfold pieceS
  simp only [if_pos hc]
  rw [htw, if_pos hi]
theorem paren {pre a post : List UInt8} {phi : M} {d : Nat} {z : Pc} {cz : Nat} (hW : Whole a phi) (hd : d < 20) (hz : nextS (pre ++ a ++ (41 :: post)) (a.length + pre.length + 1) = .ok (z, cz)) (p : Ps) (h1 : p.pc.is 5 [40] = true) (h2 : p.at_ = pre.length) (h3 : p.deep = d) (n : Nat) (hn : fuel a + 1 ≤ n) :
    F7 (run (pre ++ a ++ (41 :: post)) n .part p) phi ⟨z, cz, d⟩ := by
  obtain ⟨m, rfl⟩ : ∃ m, n = m + 1 := ⟨n - 1, by omega⟩
  have hdr : (pre ++ a ++ (41 :: post)).drop (a.length + pre.length) = 41 :: post := by
    have := drop_ctx pre a (41 :: post) a.length (Nat.le_refl _)
    rw [List.drop_eq_nil_of_le (Nat.le_refl _), List.nil_append] at this
    exact this
  have hy := next_close hdr
  obtain ⟨x, b, e1, e2⟩ := within (d := d + 1) hW (.inr ⟨post, .inl rfl⟩) hy rfl rfl
  have hno : p.pc.is 1 notW = false := by
    have := (is_kind h1).1
    unfold Pc.is
    rw [this]; rfl
  have hdeep : deeperS (pre ++ a ++ (41 :: post)) p = .ok ⟨x, b, d + 1⟩ := by
    unfold deeperS
    rw [if_neg (by omega)]
    unfold Ps.next
    simp only
    rw [h2, e1, h3]
  unfold F7
  simp only [run]
  rw [if_neg (by rw [hno]; simp), if_pos h1, hdeep]
  simp only
  rcases e2 with e2 | ⟨_, e, e2⟩
  · rw [e2 m (by omega)]
    simp only
    rw [if_pos (show (Pc.is ⟨5, a.length + pre.length, 0, [41]⟩ 5 [41]) = true from rfl)]
    left
    unfold Ps.next
    simp only
    rw [hz]
    simp
  · rw [e2 m (by omega)]
    exact .inr ⟨e, rfl⟩
section
variable {S : List UInt8} {n : Nat} {p q t u : Ps} {phi psi : M}
theorem both_one (h : F7 (run S (n + 1) .part p) phi q) (hq : q.pc.is 1 andW = false) : F7 (run S (n + 2) .both p) phi q := by
  rcases h with h | ⟨e, h⟩
  · left
    rw [run, h]
    simp only [run]
    rw [if_neg (by rw [hq]; simp)]
  · right
    exact ⟨e, by rw [run, h]⟩
theorem either_one (h : F7 (run S (n + 1) .both p) phi q) (hq : q.pc.is 1 orW = false) : F7 (run S (n + 2) .either p) phi q := by
  rcases h with h | ⟨e, h⟩
  · left
    rw [run, h]
    simp only [run]
    rw [if_neg (by rw [hq]; simp)]
  · right
    exact ⟨e, by rw [run, h]⟩
theorem both_two (h : F7 (run S (n + 2) .part p) phi q) (hq : q.pc.is 1 andW = true) (ht : q.next S = .ok t) (h2 : F7 (run S (n + 1) .part t) psi u) (hu : u.pc.is 1 andW = false) : F7 (run S (n + 3) .both p) (fun a b => phi a b && psi a b) u := by
  rcases h with h | ⟨e, h⟩
  · rw [run, h]
    simp only
    rw [run, if_pos hq, ht]
    simp only
    rcases h2 with h2 | ⟨e, h2⟩
    · rw [h2]
      simp only [run]
      rw [if_neg (by rw [hu]; simp)]
      exact .inl rfl
    · rw [h2]; exact .inr ⟨e, rfl⟩
  · right
    exact ⟨e, by rw [run, h]⟩
theorem either_two (h : F7 (run S (n + 2) .both p) phi q) (hq : q.pc.is 1 orW = true) (ht : q.next S = .ok t) (h2 : F7 (run S (n + 1) .both t) psi u) (hu : u.pc.is 1 orW = false) : F7 (run S (n + 3) .either p) (fun a b => phi a b || psi a b) u := by
  rcases h with h | ⟨e, h⟩
  · rw [run, h]
    simp only
    rw [run, if_pos hq, ht]
    simp only
    rcases h2 with h2 | ⟨e, h2⟩
    · rw [h2]
      simp only [run]
      rw [if_neg (by rw [hu]; simp)]
      exact .inl rfl
    · rw [h2]; exact .inr ⟨e, rfl⟩
  · right
    exact ⟨e, by rw [run, h]⟩
theorem not_one (hp : p.pc.is 1 notW = true) (hd : p.deep = 0) (ht : nextS S p.at_ = .ok (t.pc, t.at_)) (htd : t.deep = 1) (h : F7 (run S n .part t) phi q) (hqd : q.deep = 1) : F7 (run S (n + 1) .part p) (fun a b => !phi a b) ⟨q.pc, q.at_, 0⟩ := by
  have hdeep : deeperS S p = .ok t := by
    unfold deeperS
    rw [if_neg (by omega)]
    unfold Ps.next
    simp only
    rw [ht, hd]
    cases t
    simp only at htd ⊢
    rw [htd]
  rw [run, if_pos hp, hdeep]
  simp only
  rcases h with h | ⟨e, h⟩
  · rw [h]
    simp only
    rw [hqd]
    exact .inl rfl
  · rw [h]; exact .inr ⟨e, rfl⟩
end
end CM
end Go.Proofs.Ytlaafamodaogmaa
/-
  The plain law of conditions: what CondLogic says of two texts; of chapter 27.
  Conditions: as each theorem states them.
-/
namespace Go.Proofs.Ytlaafamodaogmaa
set_option linter.unusedVariables false
set_option linter.unusedSimpArgs false
namespace CM
theorem drop_at {pre t : List UInt8} {i : Nat} (h : i = pre.length) : (pre ++ t).drop i = t := by subst h; simp
/-- ( a ) with something behind it, as the first part; ( b ) as the second -/
theorem parse_and {a b : List UInt8} {phi psi : M} (ha : parseS a = .ok phi) (hb : parseS b = .ok psi) (hl : a.length + b.length ≤ 300) :
    parseS ([40] ++ a ++ [41, 32, 97, 110, 100, 32, 40] ++ b ++ [41]) = .ok (fun w n => phi w n && psi w n) ∨ ∃ e, parseS ([40] ++ a ++ [41, 32, 97, 110, 100, 32, 40] ++ b ++ [41]) = .error (e, 7) := by
  obtain ⟨_, hA⟩ := whole_of ha
  obtain ⟨_, hB⟩ := whole_of hb
  obtain ⟨S, hS⟩ : ∃ S, [40] ++ a ++ [41, 32, 97, 110, 100, 32, 40] ++ b ++ [41] = S := ⟨_, rfl⟩
  have e1 : [40] ++ a ++ (41 :: ([32, 97, 110, 100, 32, 40] ++ b ++ [41])) = S := by rw [← hS]; simp
  have e2 : ([40] ++ a ++ [41, 32, 97, 110, 100, 32, 40]) ++ b ++ (41 :: []) = S := hS
  have hlen : S.length = a.length + b.length + 9 := by rw [← hS]; simp; omega
  have n0 : nextS S 0 = .ok (⟨5, 0, 0, [40]⟩, 1) := next_open (t := a ++ [41, 32, 97, 110, 100, 32, 40] ++ b ++ [41]) (by rw [← hS]; simp)
  have n1 : nextS S (a.length + 1 + 1) = .ok (⟨1, a.length + 3, 0, andW⟩, a.length + 6) := by
    rw [next_blank (t := [97, 110, 100, 32, 40] ++ b ++ [41]) (by rw [← hS, show [40] ++ a ++ [41, 32, 97, 110, 100, 32, 40] ++ b ++ [41] = ([40] ++ a ++ [41]) ++ (32 :: ([97, 110, 100, 32, 40] ++ b ++ [41])) by simp]; exact drop_at (by simp <;> omega))]
    exact next_word (w := andW) (t := [32, 40] ++ b ++ [41]) (by rw [← hS, show [40] ++ a ++ [41, 32, 97, 110, 100, 32, 40] ++ b ++ [41] = ([40] ++ a ++ [41, 32]) ++ (andW ++ ([32, 40] ++ b ++ [41])) by simp]; exact drop_at (by simp <;> omega)) (by decide) (by decide) (.inr ⟨32, [40] ++ b ++ [41], rfl, rfl⟩) (by decide)
  have n2 : nextS S (a.length + 6) = .ok (⟨5, a.length + 7, 0, [40]⟩, a.length + 8) := by
    rw [next_blank (t := [40] ++ b ++ [41]) (by rw [← hS, show [40] ++ a ++ [41, 32, 97, 110, 100, 32, 40] ++ b ++ [41] = ([40] ++ a ++ [41, 32, 97, 110, 100]) ++ (32 :: ([40] ++ b ++ [41])) by simp]; exact drop_at (by simp <;> omega))]
    exact next_open (t := b ++ [41]) (by rw [← hS, show [40] ++ a ++ [41, 32, 97, 110, 100, 32, 40] ++ b ++ [41] = ([40] ++ a ++ [41, 32, 97, 110, 100, 32]) ++ (40 :: (b ++ [41])) by simp]; exact drop_at (by simp <;> omega))
  have n3k := fun k (hk : k = S.length) => (show nextS S k = .ok (⟨0, S.length, 0, []⟩, S.length) by rw [hk]; exact next_end (by simp) (Nat.le_refl _))
  rw [hS]
  obtain ⟨m, hm⟩ : ∃ m, fuel S = m + 5 := ⟨fuel S - 5, by unfold fuel; omega⟩
  have f1 : fuel a + 1 ≤ m + 3 := by unfold fuel at hm ⊢; omega
  have f2 : fuel b + 1 ≤ m + 2 := by unfold fuel at hm ⊢; omega
  have p1 : F7 (run S (m + 3) .part ⟨⟨5, 0, 0, [40]⟩, 1, 0⟩) phi ⟨⟨1, a.length + 3, 0, andW⟩, a.length + 6, 0⟩ := by
    have := paren (pre := [40]) (a := a) (post := [32, 97, 110, 100, 32, 40] ++ b ++ [41]) (d := 0) hA (by omega) (by rw [e1]; exact n1) ⟨⟨5, 0, 0, [40]⟩, 1, 0⟩ rfl rfl rfl (m + 3) f1
    rw [e1] at this
    exact this
  have p2 : F7 (run S (m + 2) .part ⟨⟨5, a.length + 7, 0, [40]⟩, a.length + 8, 0⟩) psi ⟨⟨0, S.length, 0, []⟩, S.length, 0⟩ := by
    have := paren (pre := [40] ++ a ++ [41, 32, 97, 110, 100, 32, 40]) (a := b) (post := []) (d := 0) (z := ⟨0, S.length, 0, []⟩) (cz := S.length) hB (by omega) (by rw [e2]; exact n3k _ (by simp <;> omega)) ⟨⟨5, a.length + 7, 0, [40]⟩, a.length + 8, 0⟩ rfl (by simp <;> omega) rfl (m + 2) f2
    rw [e2] at this
    exact this
  have hbt := both_two (n := m + 1) p1 rfl (t := ⟨⟨5, a.length + 7, 0, [40]⟩, a.length + 8, 0⟩) (by unfold Ps.next; simp only; rw [n2]) p2 rfl
  have hei := either_one (n := m + 3) hbt rfl
  exact parse_F7 (by omega) n0 (by rw [hm]; exact hei) rfl
theorem parse_or {a b : List UInt8} {phi psi : M} (ha : parseS a = .ok phi) (hb : parseS b = .ok psi) (hl : a.length + b.length ≤ 300) :
    parseS ([40] ++ a ++ [41, 111, 114, 40] ++ b ++ [41]) = .ok (fun w n => phi w n || psi w n) ∨ ∃ e, parseS ([40] ++ a ++ [41, 111, 114, 40] ++ b ++ [41]) = .error (e, 7) := by
  obtain ⟨_, hA⟩ := whole_of ha
  obtain ⟨_, hB⟩ := whole_of hb
  obtain ⟨S, hS⟩ : ∃ S, [40] ++ a ++ [41, 111, 114, 40] ++ b ++ [41] = S := ⟨_, rfl⟩
  have e1 : [40] ++ a ++ (41 :: ([111, 114, 40] ++ b ++ [41])) = S := by rw [← hS]; simp
  have e2 : ([40] ++ a ++ [41, 111, 114, 40]) ++ b ++ (41 :: []) = S := hS
  have hlen : S.length = a.length + b.length + 6 := by rw [← hS]; simp; omega
  have n0 : nextS S 0 = .ok (⟨5, 0, 0, [40]⟩, 1) := next_open (t := a ++ [41, 111, 114, 40] ++ b ++ [41]) (by rw [← hS]; simp)
  have n1 : nextS S (a.length + 1 + 1) = .ok (⟨1, a.length + 2, 0, orW⟩, a.length + 4) :=
    next_word (w := orW) (t := [40] ++ b ++ [41]) (by rw [← hS, show [40] ++ a ++ [41, 111, 114, 40] ++ b ++ [41] = ([40] ++ a ++ [41]) ++ (orW ++ ([40] ++ b ++ [41])) by simp]; exact drop_at (by simp <;> omega)) (by decide) (by decide) (.inr ⟨40, b ++ [41], rfl, rfl⟩) (by decide)
  have n2 : nextS S (a.length + 4) = .ok (⟨5, a.length + 4, 0, [40]⟩, a.length + 5) :=
    next_open (t := b ++ [41]) (by rw [← hS, show [40] ++ a ++ [41, 111, 114, 40] ++ b ++ [41] = ([40] ++ a ++ [41, 111, 114]) ++ (40 :: (b ++ [41])) by simp]; exact drop_at (by simp <;> omega))
  have n3k := fun k (hk : k = S.length) => (show nextS S k = .ok (⟨0, S.length, 0, []⟩, S.length) by rw [hk]; exact next_end (by simp) (Nat.le_refl _))
  rw [hS]
  obtain ⟨m, hm⟩ : ∃ m, fuel S = m + 5 := ⟨fuel S - 5, by unfold fuel; omega⟩
  have f1 : fuel a + 1 ≤ m + 3 := by unfold fuel at hm ⊢; omega
  have f2 : fuel b + 1 ≤ m + 2 := by unfold fuel at hm ⊢; omega
  have p1 : F7 (run S (m + 3) .part ⟨⟨5, 0, 0, [40]⟩, 1, 0⟩) phi ⟨⟨1, a.length + 2, 0, orW⟩, a.length + 4, 0⟩ := by
    have := paren (pre := [40]) (a := a) (post := [111, 114, 40] ++ b ++ [41]) (d := 0) hA (by omega) (by rw [e1]; exact n1) ⟨⟨5, 0, 0, [40]⟩, 1, 0⟩ rfl rfl rfl (m + 3) f1
    rw [e1] at this
    exact this
  have p2 : F7 (run S (m + 2) .part ⟨⟨5, a.length + 4, 0, [40]⟩, a.length + 5, 0⟩) psi ⟨⟨0, S.length, 0, []⟩, S.length, 0⟩ := by
    have := paren (pre := [40] ++ a ++ [41, 111, 114, 40]) (a := b) (post := []) (d := 0) (z := ⟨0, S.length, 0, []⟩) (cz := S.length) hB (by omega) (by rw [e2]; exact n3k _ (by simp <;> omega)) ⟨⟨5, a.length + 4, 0, [40]⟩, a.length + 5, 0⟩ rfl (by simp <;> omega) rfl (m + 2) f2
    rw [e2] at this
    exact this
  have b1 := both_one (n := m + 2) p1 rfl
  have b2 := both_one (n := m + 1) p2 rfl
  have hei := either_two (n := m + 2) b1 rfl (t := ⟨⟨5, a.length + 4, 0, [40]⟩, a.length + 5, 0⟩) (by unfold Ps.next; simp only; rw [n2]) b2 rfl
  exact parse_F7 (by omega) n0 (by rw [hm]; exact hei) rfl
end CM
end Go.Proofs.Ytlaafamodaogmaa
/-
  The plain law of conditions: what CondLogic says of two texts, the rest; of chapter 27.
  Conditions: as each theorem states them.
-/
namespace Go.Proofs.Ytlaafamodaogmaa
set_option linter.unusedVariables false
set_option linter.unusedSimpArgs false
namespace CM
theorem run_F7 {S : List UInt8} {n m : Nat} {md : Md} {p q : Ps} {phi : M} (h : F7 (run S n md p) phi q) (hm : n ≤ m) : F7 (run S m md p) phi q := by
  rcases h with h | ⟨e, h⟩
  · exact .inl (run_mono _ _ _ _ _ h (by simp) m hm)
  · exact .inr ⟨e, run_mono _ _ _ _ _ h (by simp) m hm⟩
theorem parse_not {a : List UInt8} {phi : M} (ha : parseS a = .ok phi) (hl : a.length ≤ 300) :
    parseS ([110, 111, 116, 32, 40] ++ a ++ [41]) = .ok (fun w n => !phi w n) ∨ ∃ e, parseS ([110, 111, 116, 32, 40] ++ a ++ [41]) = .error (e, 7) := by
  obtain ⟨_, hA⟩ := whole_of ha
  obtain ⟨S, hS⟩ : ∃ S, [110, 111, 116, 32, 40] ++ a ++ [41] = S := ⟨_, rfl⟩
  have hlen : S.length = a.length + 6 := by rw [← hS]; simp <;> omega
  have e1 : [110, 111, 116, 32, 40] ++ a ++ (41 :: []) = S := hS
  have n0 : nextS S 0 = .ok (⟨1, 0, 0, notW⟩, 3) := next_word (w := notW) (t := [32, 40] ++ a ++ [41]) (by rw [← hS]; simp) (by decide) (by decide) (.inr ⟨32, [40] ++ a ++ [41], by simp, rfl⟩) (by decide)
  have n1 : nextS S 3 = .ok (⟨5, 4, 0, [40]⟩, 5) := by
    rw [next_blank (t := [40] ++ a ++ [41]) (by rw [← hS]; simp)]
    exact next_open (t := a ++ [41]) (by rw [← hS]; simp)
  have n3k := fun k (hk : k = S.length) => (show nextS S k = .ok (⟨0, S.length, 0, []⟩, S.length) by rw [hk]; exact next_end (by simp) (Nat.le_refl _))
  rw [hS]
  obtain ⟨m, hm⟩ : ∃ m, fuel S = m + 4 := ⟨fuel S - 4, by unfold fuel; omega⟩
  have f1 : fuel a + 1 ≤ m + 1 := by unfold fuel at hm ⊢; omega
  have p1 : F7 (run S (m + 1) .part ⟨⟨5, 4, 0, [40]⟩, 5, 1⟩) phi ⟨⟨0, S.length, 0, []⟩, S.length, 1⟩ := by
    have := paren (pre := [110, 111, 116, 32, 40]) (a := a) (post := []) (d := 1) (z := ⟨0, S.length, 0, []⟩) (cz := S.length) hA (by omega) (by rw [e1]; exact n3k _ (by simp <;> omega)) ⟨⟨5, 4, 0, [40]⟩, 5, 1⟩ rfl rfl rfl (m + 1) f1
    rw [e1] at this
    exact this
  have q1 := not_one (p := ⟨⟨1, 0, 0, notW⟩, 3, 0⟩) (t := ⟨⟨5, 4, 0, [40]⟩, 5, 1⟩) rfl rfl n1 rfl p1 rfl
  have hei := either_one (n := m + 2) (both_one (n := m + 1) q1 rfl) rfl
  exact parse_F7 (by omega) n0 (by rw [hm]; exact hei) rfl
theorem parse_nor {a b : List UInt8} {phi psi : M} (ha : parseS a = .ok phi) (hb : parseS b = .ok psi) (hl : a.length + b.length ≤ 300) :
    parseS ([110, 111, 116, 40] ++ a ++ [41, 32, 111, 114, 32, 110, 111, 116, 32, 40] ++ b ++ [41]) = .ok (fun w n => !phi w n || !psi w n) ∨ ∃ e, parseS ([110, 111, 116, 40] ++ a ++ [41, 32, 111, 114, 32, 110, 111, 116, 32, 40] ++ b ++ [41]) = .error (e, 7) := by
  obtain ⟨_, hA⟩ := whole_of ha
  obtain ⟨_, hB⟩ := whole_of hb
  obtain ⟨S, hS⟩ : ∃ S, [110, 111, 116, 40] ++ a ++ [41, 32, 111, 114, 32, 110, 111, 116, 32, 40] ++ b ++ [41] = S := ⟨_, rfl⟩
  have e1 : [110, 111, 116, 40] ++ a ++ (41 :: ([32, 111, 114, 32, 110, 111, 116, 32, 40] ++ b ++ [41])) = S := by rw [← hS]; simp
  have e2 : ([110, 111, 116, 40] ++ a ++ [41, 32, 111, 114, 32, 110, 111, 116, 32, 40]) ++ b ++ (41 :: []) = S := hS
  have hlen : S.length = a.length + b.length + 15 := by rw [← hS]; simp <;> omega
  have n0 : nextS S 0 = .ok (⟨1, 0, 0, notW⟩, 3) := next_word (w := notW) (t := [40] ++ a ++ [41, 32, 111, 114, 32, 110, 111, 116, 32, 40] ++ b ++ [41]) (by rw [← hS]; simp) (by decide) (by decide) (.inr ⟨40, a ++ [41, 32, 111, 114, 32, 110, 111, 116, 32, 40] ++ b ++ [41], by simp, rfl⟩) (by decide)
  have n1 : nextS S 3 = .ok (⟨5, 3, 0, [40]⟩, 4) := next_open (t := a ++ [41, 32, 111, 114, 32, 110, 111, 116, 32, 40] ++ b ++ [41]) (by rw [← hS]; simp)
  have n2 : nextS S (a.length + 4 + 1) = .ok (⟨1, a.length + 6, 0, orW⟩, a.length + 8) := by
    rw [next_blank (t := [111, 114, 32, 110, 111, 116, 32, 40] ++ b ++ [41]) (by rw [← hS, show [110, 111, 116, 40] ++ a ++ [41, 32, 111, 114, 32, 110, 111, 116, 32, 40] ++ b ++ [41] = ([110, 111, 116, 40] ++ a ++ [41]) ++ (32 :: ([111, 114, 32, 110, 111, 116, 32, 40] ++ b ++ [41])) by simp]; exact drop_at (by simp <;> omega))]
    exact next_word (w := orW) (t := [32, 110, 111, 116, 32, 40] ++ b ++ [41]) (by rw [← hS, show [110, 111, 116, 40] ++ a ++ [41, 32, 111, 114, 32, 110, 111, 116, 32, 40] ++ b ++ [41] = ([110, 111, 116, 40] ++ a ++ [41, 32]) ++ (orW ++ ([32, 110, 111, 116, 32, 40] ++ b ++ [41])) by simp]; exact drop_at (by simp <;> omega)) (by decide) (by decide) (.inr ⟨32, [110, 111, 116, 32, 40] ++ b ++ [41], by simp, rfl⟩) (by decide)
  have n4 : nextS S (a.length + 8) = .ok (⟨1, a.length + 9, 0, notW⟩, a.length + 12) := by
    rw [next_blank (t := [110, 111, 116, 32, 40] ++ b ++ [41]) (by rw [← hS, show [110, 111, 116, 40] ++ a ++ [41, 32, 111, 114, 32, 110, 111, 116, 32, 40] ++ b ++ [41] = ([110, 111, 116, 40] ++ a ++ [41, 32, 111, 114]) ++ (32 :: ([110, 111, 116, 32, 40] ++ b ++ [41])) by simp]; exact drop_at (by simp <;> omega))]
    exact next_word (w := notW) (t := [32, 40] ++ b ++ [41]) (by rw [← hS, show [110, 111, 116, 40] ++ a ++ [41, 32, 111, 114, 32, 110, 111, 116, 32, 40] ++ b ++ [41] = ([110, 111, 116, 40] ++ a ++ [41, 32, 111, 114, 32]) ++ (notW ++ ([32, 40] ++ b ++ [41])) by simp]; exact drop_at (by simp <;> omega)) (by decide) (by decide) (.inr ⟨32, [40] ++ b ++ [41], by simp, rfl⟩) (by decide)
  have n5 : nextS S (a.length + 12) = .ok (⟨5, a.length + 13, 0, [40]⟩, a.length + 14) := by
    rw [next_blank (t := [40] ++ b ++ [41]) (by rw [← hS, show [110, 111, 116, 40] ++ a ++ [41, 32, 111, 114, 32, 110, 111, 116, 32, 40] ++ b ++ [41] = ([110, 111, 116, 40] ++ a ++ [41, 32, 111, 114, 32, 110, 111, 116]) ++ (32 :: ([40] ++ b ++ [41])) by simp]; exact drop_at (by simp <;> omega))]
    exact next_open (t := b ++ [41]) (by rw [← hS, show [110, 111, 116, 40] ++ a ++ [41, 32, 111, 114, 32, 110, 111, 116, 32, 40] ++ b ++ [41] = ([110, 111, 116, 40] ++ a ++ [41, 32, 111, 114, 32, 110, 111, 116, 32]) ++ (40 :: (b ++ [41])) by simp]; exact drop_at (by simp <;> omega))
  have n3k := fun k (hk : k = S.length) => (show nextS S k = .ok (⟨0, S.length, 0, []⟩, S.length) by rw [hk]; exact next_end (by simp) (Nat.le_refl _))
  rw [hS]
  obtain ⟨m, hm⟩ : ∃ m, fuel S = m + 6 := ⟨fuel S - 6, by unfold fuel; omega⟩
  have f1 : fuel a + 1 ≤ m + 2 := by unfold fuel at hm ⊢; omega
  have f2 : fuel b + 1 ≤ m + 1 := by unfold fuel at hm ⊢; omega
  have p1 : F7 (run S (m + 2) .part ⟨⟨5, 3, 0, [40]⟩, 4, 1⟩) phi ⟨⟨1, a.length + 6, 0, orW⟩, a.length + 8, 1⟩ := by
    have := paren (pre := [110, 111, 116, 40]) (a := a) (post := [32, 111, 114, 32, 110, 111, 116, 32, 40] ++ b ++ [41]) (d := 1) hA (by omega) (by rw [e1]; exact n2) ⟨⟨5, 3, 0, [40]⟩, 4, 1⟩ rfl rfl rfl (m + 2) f1
    rw [e1] at this
    exact this
  have p2 : F7 (run S (m + 1) .part ⟨⟨5, a.length + 13, 0, [40]⟩, a.length + 14, 1⟩) psi ⟨⟨0, S.length, 0, []⟩, S.length, 1⟩ := by
    have := paren (pre := [110, 111, 116, 40] ++ a ++ [41, 32, 111, 114, 32, 110, 111, 116, 32, 40]) (a := b) (post := []) (d := 1) (z := ⟨0, S.length, 0, []⟩) (cz := S.length) hB (by omega) (by rw [e2]; exact n3k _ (by simp <;> omega)) ⟨⟨5, a.length + 13, 0, [40]⟩, a.length + 14, 1⟩ rfl (by simp <;> omega) rfl (m + 1) f2
    rw [e2] at this
    exact this
  have q1 := not_one (p := ⟨⟨1, 0, 0, notW⟩, 3, 0⟩) (t := ⟨⟨5, 3, 0, [40]⟩, 4, 1⟩) rfl rfl n1 rfl p1 rfl
  have q2 := not_one (p := ⟨⟨1, a.length + 9, 0, notW⟩, a.length + 12, 0⟩) (t := ⟨⟨5, a.length + 13, 0, [40]⟩, a.length + 14, 1⟩) rfl rfl n5 rfl p2 rfl
  have b1 := both_one (n := m + 2) q1 rfl
  have b2 := both_one (n := m + 1) q2 rfl
  have hei := either_two (n := m + 2) b1 rfl (t := ⟨⟨1, a.length + 9, 0, notW⟩, a.length + 12, 0⟩) (by unfold Ps.next; simp only; rw [n4]) b2 rfl
  exact parse_F7 (by omega) n0 (by rw [hm]; exact run_F7 (n := m + 5) (m := m + 6) hei (by omega)) rfl
theorem parse_pad {a : List UInt8} {phi : M} (ha : parseS a = .ok phi) (hl : a.length ≤ 300) : parseS ([32, 32] ++ a ++ [32, 32]) = .ok phi := by
  obtain ⟨_, hA⟩ := whole_of ha
  obtain ⟨S, hS⟩ : ∃ S, [32, 32] ++ a ++ [32, 32] = S := ⟨_, rfl⟩
  have hlen : S.length = a.length + 4 := by rw [← hS]; simp <;> omega
  have n3 : nextS S (a.length + 2) = .ok (⟨0, S.length, 0, []⟩, S.length) := by
    rw [next_blank (t := [32]) (by rw [← hS, show [32, 32] ++ a ++ [32, 32] = ([32, 32] ++ a) ++ (32 :: [32]) by simp]; exact drop_at (by simp <;> omega)), next_blank (t := []) (by rw [← hS, show [32, 32] ++ a ++ [32, 32] = ([32, 32] ++ a ++ [32]) ++ (32 :: []) by simp]; exact drop_at (by simp <;> omega)), show a.length + 2 + 1 + 1 = S.length by omega]
    exact next_end (by simp) (Nat.le_refl _)
  have n0 : nextS S 0 = nextS S 2 := by
    rw [next_blank (t := 32 :: (a ++ [32, 32])) (by rw [← hS]; simp), next_blank (t := a ++ [32, 32]) (by rw [← hS]; simp)]
  obtain ⟨x, b, e1, e2⟩ := within (pre := [32, 32]) (a := a) (post := [32, 32]) (d := 0) hA (.inr ⟨[32], .inr rfl⟩) (by rw [hS]; exact n3) rfl rfl
  rw [hS] at e1 e2 ⊢
  rcases e2 with e2 | ⟨h, _⟩
  · have e3 := e2 (fuel S) (by unfold fuel; omega)
    rcases parse_F7 (S := S) (by omega) (n0.trans e1) (.inl e3) rfl with h | ⟨e, h⟩
    · exact h
    · exfalso
      unfold parseS at h
      rw [if_neg (by omega), n0.trans e1] at h
      simp only at h
      rw [e3] at h
      simp at h
  · exact absurd rfl h
/-- what stands ahead of the rest of a disjunction -/
theorem either_or {S : List UInt8} (g : M) : ∀ (n : Nat) (h chi : M) (q r : Ps), run S n (.eitherL h) q = .ok (chi, r) → run S n (.eitherL (fun w m => g w m || h w m)) q = .ok (fun w m => g w m || chi w m, r)
  | 0, h, chi, q, r, e => by simp [run] at e
  | n + 1, h, chi, q, r, e => by
    rw [run] at e ⊢
    split at e
    · rename_i hi
      rw [if_pos hi]
      split at e
      · cases e
      · split at e
        · cases e
        · rename_i b u hb
          have := either_or g n _ _ _ _ e
          simp only [Bool.or_assoc]
          exact this
    · rename_i hi
      rw [if_neg hi]
      simp only [Except.ok.injEq, Prod.mk.injEq] at e
      obtain ⟨rfl, rfl⟩ := e
      rfl
/-- a disjunction's rest on a longer text goes on behind the shorter one -/
theorem sim_rest {s s' : List UInt8} {k : Nat} {y : Pc} {c : Nat} (hN : Nx s s' k y c) (hy : y.is 1 andW = false) : ∀ (n : Nat) (h0 h : M) (p p' q : Ps), Ok s p → Sim k 0 y c p p' → run s n (.eitherL h0) p = .ok (h, q) → q.pc.kind = 0 →
    ∃ q', Sim k 0 y c q q' ∧ ∀ R : Nat → Except Er (M × Ps), (∀ m, run s' m (.eitherL h) q' = R m) → ∀ N, n ≤ N → ∃ M, N ≤ M + n ∧ run s' N (.eitherL h0) p' = R M
  | 0, h0, h, p, p', q, hp, hs, e, hq => by simp [run] at e
  | n + 1, h0, h, p, p', q, hp, hs, e, hq => by
    by_cases hk : p.pc.kind = 0
    · obtain ⟨rfl, rfl⟩ := loop_end (.inr rfl) hk e
      exact ⟨p', hs, fun R hR N hN => ⟨N, by omega, hR N⟩⟩
    · rw [run] at e
      split at e
      · rename_i hi
        split at e
        · cases e
        · rename_i t ht
          obtain ⟨t', e1, s1⟩ := hs.next hN hk hp.le ht
          have a1 := (next_less hp hk ht).1
          split at e
          · cases e
          · rename_i b u hb
            obtain ⟨a2, _⟩ := run_less s n _ _ _ _ a1.ok hb
            rcases sim hN n .both _ _ _ _ a1.ok s1 hb (fun _ => hy) with ⟨u', e2, s2⟩ | ⟨hd, _⟩
            · obtain ⟨q', s3, hgo⟩ := sim_rest hN hy n _ _ _ _ _ a2.ok s2 e hq
              refine ⟨q', s3, fun R hR N hN => ?_⟩
              obtain ⟨N, rfl⟩ : ∃ N', N = N' + 1 := ⟨N - 1, by omega⟩
              obtain ⟨M, hM, he⟩ := hgo R hR N (by omega)
              refine ⟨M, by omega, ?_⟩
              rw [run, hs.is hk, if_pos hi, e1]
              simp only
              rw [run_mono _ _ _ _ _ e2 (by simp) N (by omega)]
              exact he
            · exact absurd rfl hd
      · rename_i hi
        simp only [Except.ok.injEq, Prod.mk.injEq] at e
        obtain ⟨rfl, rfl⟩ := e
        exact ⟨p', hs, fun R hR N hN => ⟨N, by omega, hR N⟩⟩
theorem parse_alt {a b : List UInt8} {phi psi : M} (ha : parseS a = .ok phi) (hb : parseS b = .ok psi) (hl : a.length + b.length ≤ 300) : parseS (a ++ [32, 111, 114, 32] ++ b) = .ok (fun w n => phi w n || psi w n) := by
  obtain ⟨_, hA⟩ := whole_of ha
  obtain ⟨_, hB⟩ := whole_of hb
  obtain ⟨S, hS⟩ : ∃ S, a ++ [32, 111, 114, 32] ++ b = S := ⟨_, rfl⟩
  have hlen : S.length = a.length + b.length + 4 := by rw [← hS]; simp <;> omega
  have e1 : [] ++ a ++ ([32, 111, 114, 32] ++ b) = S := by rw [← hS]; simp
  have e2 : (a ++ [32, 111, 114, 32]) ++ b ++ [] = S := by rw [← hS]; simp
  have n1 : nextS S a.length = .ok (⟨1, a.length + 1, 0, orW⟩, a.length + 3) := by
    rw [next_blank (t := [111, 114, 32] ++ b) (by rw [← hS, show a ++ [32, 111, 114, 32] ++ b = (a) ++ (32 :: ([111, 114, 32] ++ b)) by simp]; exact drop_at (by simp <;> omega))]
    exact next_word (w := orW) (t := [32] ++ b) (by rw [← hS, show a ++ [32, 111, 114, 32] ++ b = (a ++ [32]) ++ (orW ++ ([32] ++ b)) by simp]; exact drop_at (by simp <;> omega)) (by decide) (by decide) (.inr ⟨32, b, rfl, rfl⟩) (by decide)
  have n2 : nextS S (a.length + 3) = nextS S (a.length + 4) := next_blank (t := b) (by rw [← hS, show a ++ [32, 111, 114, 32] ++ b = (a ++ [32, 111, 114]) ++ (32 :: b) by simp]; exact drop_at (by simp <;> omega))
  have n3k := fun k (hk : k = S.length) => (show nextS S k = .ok (⟨0, S.length, 0, []⟩, S.length) by rw [hk]; exact next_end (by simp) (Nat.le_refl _))
  -- b, behind
  obtain ⟨x2, b2, g1, g2⟩ := within (pre := a ++ [32, 111, 114, 32]) (a := b) (post := []) (d := 0) (y := ⟨0, S.length, 0, []⟩) (c := S.length) hB (.inl rfl) (by rw [e2]; exact n3k _ (by simp <;> omega)) rfl rfl
  rw [e2] at g1 g2
  have g2 : ∀ n, fuel b ≤ n → run S n .either ⟨x2, b2, 0⟩ = .ok (psi, ⟨⟨0, S.length, 0, []⟩, S.length, 0⟩) := g2.resolve_right (fun h => h.1 rfl)
  have g1' : nextS S (a.length + 3) = .ok (x2, b2) := by
    rw [n2]
    have : (a ++ [32, 111, 114, 32]).length = a.length + 4 := by simp
    rw [this] at g1
    exact g1
  -- a, ahead
  obtain ⟨x, b1, r, h1, h2, h3⟩ := hA
  have hy : nextS ([] ++ a ++ ([32, 111, 114, 32] ++ b)) (a.length + ([] : List UInt8).length) = .ok (⟨1, a.length + 1, 0, orW⟩, a.length + 3) := by rw [e1]; exact n1
  have hN := nx_ctx (pre := []) (s := a) (post := [32, 111, 114, 32] ++ b) (.inr ⟨[111, 114, 32] ++ b, .inr rfl⟩) hy
  rw [e1] at hN
  have hle := next_le (Nat.zero_le _) h1
  have hok : Ok a ⟨x, b1, 0⟩ := ⟨hle.1, hle.2.1, by simp, hle.2.2.2.2⟩
  obtain ⟨n1', n2'⟩ := hN 0 x b1 (Nat.zero_le _) h1
  have hst : ∃ x' b', nextS S 0 = .ok (x', b') ∧ Sim 0 0 ⟨1, a.length + 1, 0, orW⟩ (a.length + 3) ⟨x, b1, 0⟩ ⟨x', b', 0⟩ := by
    by_cases h0 : x.kind = 0
    · exact ⟨_, _, n2' h0, rfl, .inr ⟨h0, rfl, rfl⟩⟩
    · exact ⟨_, _, n1' h0, rfl, .inl ⟨h0, rfl, rfl⟩⟩
  obtain ⟨x', b', m1, ms⟩ := hst
  obtain ⟨f, hf⟩ : ∃ f, fuel a = f + 1 := ⟨fuel a - 1, by unfold fuel; omega⟩
  rw [hf, run] at h2
  split at h2
  · cases h2
  · rename_i c0 q1 hq1
    obtain ⟨a1, _⟩ := run_less a f _ _ _ _ hok hq1
    rcases sim hN f .both _ _ _ _ hok ms hq1 (fun _ => rfl) with ⟨q1', z1, z2⟩ | ⟨hd, _⟩
    · obtain ⟨q', z3, hgo⟩ := sim_rest hN rfl f _ _ _ _ _ a1.ok z2 h2 h3
      have hrd := (run_less a f _ _ _ _ a1.ok h2).1.deep
      have hrd2 := a1.deep
      have hq' : q' = ⟨⟨1, a.length + 1, 0, orW⟩, a.length + 3, 0⟩ := by
        rcases z3.pc with ⟨h, _⟩ | ⟨_, w1, w2⟩
        · exact absurd h3 h
        · have w3 := z3.deep
          rw [hrd, hrd2] at w3
          cases q'
          simp only at w1 w2 w3
          rw [w1, w2, w3]
      subst hq'
      obtain ⟨F, hF⟩ : ∃ F, fuel S = F + 1 := ⟨fuel S - 1, by unfold fuel; omega⟩
      obtain ⟨M, hM, hrun⟩ := hgo _ (fun m => rfl) F (by unfold fuel at *; omega)
      have hMb : fuel b + 1 ≤ M := by unfold fuel at *; omega
      obtain ⟨M, rfl⟩ : ∃ M', M = M' + 1 := ⟨M - 1, by omega⟩
      -- b's disjunction
      have g3 := g2 (M + 1) (by omega)
      rw [run] at g3
      have hfin : run S (M + 1) (.eitherL phi) ⟨⟨1, a.length + 1, 0, orW⟩, a.length + 3, 0⟩ = .ok (fun w n => phi w n || psi w n, ⟨⟨0, S.length, 0, []⟩, S.length, 0⟩) := by
        rw [run, if_pos (show (Pc.is ⟨1, a.length + 1, 0, orW⟩ 1 orW) = true from rfl)]
        unfold Ps.next
        simp only
        rw [g1']
        simp only
        split at g3
        · cases g3
        · rename_i c1 u hu
          exact either_or phi M c1 psi u _ g3
      rw [hfin] at hrun
      have hall : run S (fuel S) .either ⟨x', b', 0⟩ = .ok (fun w n => phi w n || psi w n, ⟨⟨0, S.length, 0, []⟩, S.length, 0⟩) := by
        rw [hF, run, run_mono _ _ _ _ _ z1 (by simp) F (by unfold fuel at *; omega)]
        exact hrun
      rw [hS]
      unfold parseS
      rw [if_neg (by omega), m1]
      simp only
      rw [hall]
      rfl
    · exact absurd rfl hd
end CM
end Go.Proofs.Ytlaafamodaogmaa
