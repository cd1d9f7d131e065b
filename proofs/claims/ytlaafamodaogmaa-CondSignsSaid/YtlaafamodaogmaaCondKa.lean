/-
  The plain law of conditions: two conditions in brackets, with and, or, not; of chapter 27.
  Conditions: as each theorem states them.
-/
import Derived.Test.YtlaafamodaogmaaCondK
namespace Go.Proofs.Ytlaafamodaogmaa
set_option linter.unusedVariables false
set_option linter.unusedSimpArgs false
namespace CM
def Whole (a : List UInt8) (phi : M) : Prop := ∃ x b r, nextS a 0 = .ok (x, b) ∧ run a (fuel a) .either ⟨x, b, 0⟩ = .ok (phi, r) ∧ r.pc.kind = 0
theorem whole_of {a : List UInt8} {phi : M} (h : parseS a = .ok phi) : a.length ≤ 4096 ∧ Whole a phi := by
  unfold parseS at h
  split at h
  · cases h
  · rename_i hl
    refine ⟨by omega, ?_⟩
    split at h
    · cases h
    · rename_i x b hn
      split at h
      · cases h
      · rename_i f r hr
        split at h
        · rename_i hk
          simp only [Except.ok.injEq] at h
          subst h
          exact ⟨x, b, r, hn, hr, hk⟩
        · cases h
/-- a result, or it is too deep -/
def F7 (R : Except Er (M × Ps)) (phi : M) (q : Ps) : Prop := R = .ok (phi, q) ∨ ∃ e, R = .error (e, 7)
theorem parse_F7 {S : List UInt8} (hl : S.length ≤ 4096) {x : Pc} {b : Nat} {phi : M} {r : Ps} (h1 : nextS S 0 = .ok (x, b)) (h2 : F7 (run S (fuel S) .either ⟨x, b, 0⟩) phi r) (h3 : r.pc.kind = 0) : parseS S = .ok phi ∨ ∃ e, parseS S = .error (e, 7) := by
  unfold parseS
  rw [if_neg (by omega), h1]
  simp only
  rcases h2 with h2 | ⟨e, h2⟩
  · rw [h2]; simp only; rw [if_pos h3]; exact .inl rfl
  · rw [h2]; exact .inr ⟨e, rfl⟩
theorem within {pre a post : List UInt8} {phi : M} {y : Pc} {c d : Nat} (hW : Whole a phi) (hp : Post post) (hy : nextS (pre ++ a ++ post) (a.length + pre.length) = .ok (y, c)) (hand : y.is 1 andW = false) (hor : y.is 1 orW = false) :
    ∃ x b, nextS (pre ++ a ++ post) pre.length = .ok (x, b) ∧ ((∀ n, fuel a ≤ n → run (pre ++ a ++ post) n .either ⟨x, b, d⟩ = .ok (phi, ⟨y, c, d⟩)) ∨ (d ≠ 0 ∧ ∃ e, ∀ n, fuel a ≤ n → run (pre ++ a ++ post) n .either ⟨x, b, d⟩ = .error (e, 7))) := by
  obtain ⟨x, b, r, h1, h2, h3⟩ := hW
  have hN := nx_ctx hp hy
  obtain ⟨n1, n2⟩ := hN 0 x b (Nat.zero_le _) h1
  rw [Nat.zero_add] at n1 n2
  have hle := next_le (Nat.zero_le _) h1
  have hok : Ok a ⟨x, b, 0⟩ := ⟨hle.1, hle.2.1, by simp, hle.2.2.2.2⟩
  have hrd := (run_less a _ _ _ _ _ hok h2).1.deep
  have key : ∀ x' b', nextS (pre ++ a ++ post) pre.length = .ok (x', b') → Sim pre.length d y c ⟨x, b, 0⟩ ⟨x', b', d⟩ →
      ∃ x b, nextS (pre ++ a ++ post) pre.length = .ok (x, b) ∧ ((∀ n, fuel a ≤ n → run (pre ++ a ++ post) n .either ⟨x, b, d⟩ = .ok (phi, ⟨y, c, d⟩)) ∨ (d ≠ 0 ∧ ∃ e, ∀ n, fuel a ≤ n → run (pre ++ a ++ post) n .either ⟨x, b, d⟩ = .error (e, 7))) := by
    intro x' b' e1 hs
    refine ⟨x', b', e1, ?_⟩
    rcases sim hN _ .either _ _ _ _ hok hs h2 (fun _ => ⟨hand, hor⟩) with ⟨q', e2, s2⟩ | ⟨hd, e, e2⟩
    · refine .inl fun n hn => ?_
      have e3 := run_mono _ _ _ _ _ e2 (by simp) n hn
      rw [e3]
      have hq : q' = ⟨y, c, d⟩ := by
        rcases s2.pc with ⟨h, _⟩ | ⟨_, g1, g2⟩
        · exact absurd h3 h
        · have g3 := s2.deep
          rw [hrd] at g3
          cases q'
          simp only at g1 g2 g3
          simp only [Nat.zero_add] at g3
          rw [g1, g2, g3]
      rw [hq]
    · exact .inr ⟨hd, e, fun n hn => run_mono _ _ _ _ _ e2 (by simp) n hn⟩
  by_cases h0 : x.kind = 0
  · exact key y c (n2 h0) ⟨by simp, .inr ⟨h0, rfl, rfl⟩⟩
  · exact key _ _ (n1 h0) ⟨by simp, .inl ⟨h0, rfl, rfl⟩⟩
/-- a bracket at a place -/
theorem next_close {S : List UInt8} {i : Nat} {t : List UInt8} (h : S.drop i = 41 :: t) : nextS S i = .ok (⟨5, i, 0, [41]⟩, i + 1) := by
  have hs : skip S i = i := by unfold skip; rw [h]; rfl
  unfold nextS
  rw [hs, h]
  rfl
theorem next_open {S : List UInt8} {i : Nat} {t : List UInt8} (h : S.drop i = 40 :: t) : nextS S i = .ok (⟨5, i, 0, [40]⟩, i + 1) := by
  have hs : skip S i = i := by unfold skip; rw [h]; rfl
  unfold nextS
  rw [hs, h]
  rfl
theorem next_blank {S : List UInt8} {i : Nat} {t : List UInt8} (h : S.drop i = 32 :: t) : nextS S i = nextS S (i + 1) := by
  have hs : skip S i = skip S (i + 1) := by
    unfold skip
    have h2 : S.drop (i + 1) = t := by rw [← List.drop_drop, h]; rfl
    rw [h, h2, List.takeWhile_cons, if_pos (by rfl), List.length_cons]; omega
  unfold nextS
  rw [hs]
theorem next_end {S : List UInt8} {i : Nat} (h : S.drop i = []) (hi : i ≤ S.length) : nextS S i = .ok (⟨0, i, 0, []⟩, i) := by
  have hs : skip S i = i := by unfold skip; rw [h]; rfl
  unfold nextS
  rw [hs, h]
  rfl
theorem next_word {S : List UInt8} {i : Nat} {w t : List UInt8} (h : S.drop i = w ++ t) (hw : ∀ c ∈ w, low c = true) (hn : w ≠ []) (ht : t = [] ∨ ∃ c r, t = c :: r ∧ low c = false) (hi : isWord w = true) : nextS S i = .ok (⟨1, i, 0, w⟩, i + w.length) := by
  obtain ⟨c, w', rfl⟩ := List.exists_cons_of_ne_nil hn
  have hc := hw c (by simp)
  have hb : blank c = false := by
    unfold blank
    rw [low_is] at hc
    simp only [beq_eq_false_iff_ne, ne_eq]
    intro e
    rw [e] at hc
    simp at hc
  have hs : skip S i = i := by unfold skip; rw [h, List.cons_append, List.takeWhile_cons, hb]; rfl
  have htw : ((c :: w') ++ t).takeWhile low = c :: w' := by
    have hall : (c :: w').takeWhile low = c :: w' := by
      have : ∀ l : List UInt8, (∀ c ∈ l, low c = true) → l.takeWhile low = l := by
        intro l
        induction l with
        | nil => intro _; rfl
        | cons d l ih => intro h; rw [List.takeWhile_cons, if_pos (h d (by simp)), ih (fun c hc => h c (by simp [hc]))]
      exact this _ hw
    rw [List.takeWhile_append, if_pos (by rw [hall]), ]
    rcases ht with rfl | ⟨e, r, rfl, he⟩
    · simp
    · rw [List.takeWhile_cons, he]; simp
  unfold nextS
  rw [hs, h]
  rw [List.cons_append] at htw ⊢
  unfold pieceS
  simp only [if_pos hc]
  rw [htw, if_pos hi]
theorem paren {pre a post : List UInt8} {phi : M} {d : Nat} {z : Pc} {cz : Nat} (hW : Whole a phi) (hd : d < 20) (hz : nextS (pre ++ a ++ (41 :: post)) (a.length + pre.length + 1) = .ok (z, cz)) (p : Ps) (h1 : p.pc.is 5 [40] = true) (h2 : p.at_ = pre.length) (h3 : p.deep = d) (n : Nat) (hn : fuel a + 1 ≤ n) :
    F7 (run (pre ++ a ++ (41 :: post)) n .part p) phi ⟨z, cz, d⟩ := by
  obtain ⟨m, rfl⟩ : ∃ m, n = m + 1 := ⟨n - 1, by omega⟩
  have hdr : (pre ++ a ++ (41 :: post)).drop (a.length + pre.length) = 41 :: post := by
    have := drop_ctx pre a (41 :: post) a.length (Nat.le_refl _)
    rw [List.drop_eq_nil_of_le (Nat.le_refl _), List.nil_append] at this
    exact this
  have hy := next_close hdr
  obtain ⟨x, b, e1, e2⟩ := within (d := d + 1) hW (.inr ⟨post, .inl rfl⟩) hy rfl rfl
  have hno : p.pc.is 1 notW = false := by
    have := (is_kind h1).1
    unfold Pc.is
    rw [this]; rfl
  have hdeep : deeperS (pre ++ a ++ (41 :: post)) p = .ok ⟨x, b, d + 1⟩ := by
    unfold deeperS
    rw [if_neg (by omega)]
    unfold Ps.next
    simp only
    rw [h2, e1, h3]
  unfold F7
  simp only [run]
  rw [if_neg (by rw [hno]; simp), if_pos h1, hdeep]
  simp only
  rcases e2 with e2 | ⟨_, e, e2⟩
  · rw [e2 m (by omega)]
    simp only
    rw [if_pos (show (Pc.is ⟨5, a.length + pre.length, 0, [41]⟩ 5 [41]) = true from rfl)]
    left
    unfold Ps.next
    simp only
    rw [hz]
    simp
  · rw [e2 m (by omega)]
    exact .inr ⟨e, rfl⟩
section
variable {S : List UInt8} {n : Nat} {p q t u : Ps} {phi psi : M}
theorem both_one (h : F7 (run S (n + 1) .part p) phi q) (hq : q.pc.is 1 andW = false) : F7 (run S (n + 2) .both p) phi q := by
  rcases h with h | ⟨e, h⟩
  · left
    rw [run, h]
    simp only [run]
    rw [if_neg (by rw [hq]; simp)]
  · right
    exact ⟨e, by rw [run, h]⟩
theorem either_one (h : F7 (run S (n + 1) .both p) phi q) (hq : q.pc.is 1 orW = false) : F7 (run S (n + 2) .either p) phi q := by
  rcases h with h | ⟨e, h⟩
  · left
    rw [run, h]
    simp only [run]
    rw [if_neg (by rw [hq]; simp)]
  · right
    exact ⟨e, by rw [run, h]⟩
theorem both_two (h : F7 (run S (n + 2) .part p) phi q) (hq : q.pc.is 1 andW = true) (ht : q.next S = .ok t) (h2 : F7 (run S (n + 1) .part t) psi u) (hu : u.pc.is 1 andW = false) : F7 (run S (n + 3) .both p) (fun a b => phi a b && psi a b) u := by
  rcases h with h | ⟨e, h⟩
  · rw [run, h]
    simp only
    rw [run, if_pos hq, ht]
    simp only
    rcases h2 with h2 | ⟨e, h2⟩
    · rw [h2]
      simp only [run]
      rw [if_neg (by rw [hu]; simp)]
      exact .inl rfl
    · rw [h2]; exact .inr ⟨e, rfl⟩
  · right
    exact ⟨e, by rw [run, h]⟩
theorem either_two (h : F7 (run S (n + 2) .both p) phi q) (hq : q.pc.is 1 orW = true) (ht : q.next S = .ok t) (h2 : F7 (run S (n + 1) .both t) psi u) (hu : u.pc.is 1 orW = false) : F7 (run S (n + 3) .either p) (fun a b => phi a b || psi a b) u := by
  rcases h with h | ⟨e, h⟩
  · rw [run, h]
    simp only
    rw [run, if_pos hq, ht]
    simp only
    rcases h2 with h2 | ⟨e, h2⟩
    · rw [h2]
      simp only [run]
      rw [if_neg (by rw [hu]; simp)]
      exact .inl rfl
    · rw [h2]; exact .inr ⟨e, rfl⟩
  · right
    exact ⟨e, by rw [run, h]⟩
theorem not_one (hp : p.pc.is 1 notW = true) (hd : p.deep = 0) (ht : nextS S p.at_ = .ok (t.pc, t.at_)) (htd : t.deep = 1) (h : F7 (run S n .part t) phi q) (hqd : q.deep = 1) : F7 (run S (n + 1) .part p) (fun a b => !phi a b) ⟨q.pc, q.at_, 0⟩ := by
  have hdeep : deeperS S p = .ok t := by
    unfold deeperS
    rw [if_neg (by omega)]
    unfold Ps.next
    simp only
    rw [ht, hd]
    cases t
    simp only at htd ⊢
    rw [htd]
  rw [run, if_pos hp, hdeep]
  simp only
  rcases h with h | ⟨e, h⟩
  · rw [h]
    simp only
    rw [hqd]
    exact .inl rfl
  · rw [h]; exact .inr ⟨e, rfl⟩
end
end CM
end Go.Proofs.Ytlaafamodaogmaa
