/-
  The plain law of conditions: a text within another one is parsed as by itself; of chapter 27.
  Conditions: as each theorem states them.
-/
import Derived.Test.YtlaafamodaogmaaCondL
namespace Go.Proofs.Ytlaafamodaogmaa
set_option linter.unusedVariables false
set_option linter.unusedSimpArgs false
namespace CM
/-- more fuel, the same answer -/
theorem run_mono (s : List UInt8) : ∀ (n : Nat) (m : Md) (p : Ps) (R : Except Er (M × Ps)), run s n m p = R → R ≠ .error (0, 99) → ∀ n', n ≤ n' → run s n' m p = R
  | 0, m, p, R, h, hR, n', hn => by
    simp [run] at h
    exact absurd h.symm hR
  | n + 1, m, p, R, h, hR, 0, hn => by omega
  | n + 1, m, p, R, h, hR, k + 1, hn => by
    have ih := fun m p R h hR => run_mono s n m p R h hR k (by omega)
    cases m with
    | part =>
      simp only [run] at h ⊢
      split
      · rename_i hi
        rw [if_pos hi] at h
        cases hq : deeperS s p with
        | error e => rw [hq] at h; exact h
        | ok q =>
          rw [hq] at h
          simp only at h ⊢
          cases hr : run s n .part q with
          | error e => rw [hr] at h; rw [ih _ _ _ hr (by rw [← h] at hR; exact hR)]; exact h
          | ok r => rw [hr] at h; rw [ih _ _ _ hr (by simp)]; exact h
      · rename_i hi
        rw [if_neg hi] at h
        split
        · rename_i hj
          rw [if_pos hj] at h
          cases hq : deeperS s p with
          | error e => rw [hq] at h; exact h
          | ok q =>
            rw [hq] at h
            simp only at h ⊢
            cases hr : run s n .either q with
            | error e => rw [hr] at h; rw [ih _ _ _ hr (by rw [← h] at hR; exact hR)]; exact h
            | ok r => rw [hr] at h; rw [ih _ _ _ hr (by simp)]; exact h
        · rename_i hj
          rw [if_neg hj] at h
          exact h
    | both =>
      simp only [run] at h ⊢
      cases hr : run s n .part p with
      | error e => rw [hr] at h; rw [ih _ _ _ hr (by rw [← h] at hR; exact hR)]; exact h
      | ok r => rw [hr] at h; rw [ih _ _ _ hr (by simp)]; exact ih _ _ _ h hR
    | either =>
      simp only [run] at h ⊢
      cases hr : run s n .both p with
      | error e => rw [hr] at h; rw [ih _ _ _ hr (by rw [← h] at hR; exact hR)]; exact h
      | ok r => rw [hr] at h; rw [ih _ _ _ hr (by simp)]; exact ih _ _ _ h hR
    | bothL h0 =>
      simp only [run] at h ⊢
      split
      · rename_i hi
        rw [if_pos hi] at h
        cases hq : p.next s with
        | error e => rw [hq] at h; exact h
        | ok q =>
          rw [hq] at h
          simp only at h ⊢
          cases hr : run s n .part q with
          | error e => rw [hr] at h; rw [ih _ _ _ hr (by rw [← h] at hR; exact hR)]; exact h
          | ok r => rw [hr] at h; rw [ih _ _ _ hr (by simp)]; exact ih _ _ _ h hR
      · rename_i hi
        rw [if_neg hi] at h
        exact h
    | eitherL h0 =>
      simp only [run] at h ⊢
      split
      · rename_i hi
        rw [if_pos hi] at h
        cases hq : p.next s with
        | error e => rw [hq] at h; exact h
        | ok q =>
          rw [hq] at h
          simp only at h ⊢
          cases hr : run s n .both q with
          | error e => rw [hr] at h; rw [ih _ _ _ hr (by rw [← h] at hR; exact hR)]; exact h
          | ok r => rw [hr] at h; rw [ih _ _ _ hr (by simp)]; exact ih _ _ _ h hR
      · rename_i hi
        rw [if_neg hi] at h
        exact h
/-- the parser on the longer text, beside that on the shorter one -/
structure Sim (k d : Nat) (y : Pc) (c : Nat) (p p' : Ps) : Prop where
  deep : p'.deep = p.deep + d
  pc : (p.pc.kind ≠ 0 ∧ p'.pc = ⟨p.pc.kind, p.pc.at_ + k, p.pc.n, p.pc.s⟩ ∧ p'.at_ = p.at_ + k) ∨ (p.pc.kind = 0 ∧ p'.pc = y ∧ p'.at_ = c)
/-- the shorter text's pieces are the longer one's -/
def Nx (s s' : List UInt8) (k : Nat) (y : Pc) (c : Nat) : Prop := ∀ i x j, i ≤ s.length → nextS s i = .ok (x, j) → (x.kind ≠ 0 → nextS s' (i + k) = .ok (⟨x.kind, x.at_ + k, x.n, x.s⟩, j + k)) ∧ (x.kind = 0 → nextS s' (i + k) = .ok (y, c))
section
variable {s s' : List UInt8} {k d : Nat} {y : Pc} {c : Nat} {p p' q : Ps}
theorem Sim.at (h : Sim k d y c p p') (hk : p.pc.kind ≠ 0) : p'.pc = ⟨p.pc.kind, p.pc.at_ + k, p.pc.n, p.pc.s⟩ ∧ p'.at_ = p.at_ + k := by
  rcases h.pc with ⟨_, h⟩ | ⟨h, _⟩
  · exact h
  · exact absurd h hk
theorem Sim.next (hN : Nx s s' k y c) (h : Sim k d y c p p') (hk : p.pc.kind ≠ 0) (hp : p.at_ ≤ s.length) (hn : p.next s = .ok q) : ∃ q', p'.next s' = .ok q' ∧ Sim k d y c q q' := by
  obtain ⟨h1, h2⟩ := h.at hk
  unfold Ps.next at hn ⊢
  split at hn
  · cases hn
  · rename_i x b hx
    simp only [Except.ok.injEq] at hn
    subst hn
    obtain ⟨n1, n2⟩ := hN _ _ _ hp hx
    rw [h2]
    by_cases h0 : x.kind = 0
    · rw [n2 h0]
      exact ⟨_, rfl, h.deep, .inr ⟨h0, rfl, rfl⟩⟩
    · rw [n1 h0]
      exact ⟨_, rfl, h.deep, .inl ⟨h0, rfl, rfl⟩⟩
theorem Sim.is (h : Sim k d y c p p') (hk : p.pc.kind ≠ 0) (j : Nat) (w : List UInt8) : p'.pc.is j w = p.pc.is j w := by
  rw [(h.at hk).1]; rfl
theorem not_is {x : Pc} (h : x.kind = 0) (j : Nat) (w : List UInt8) : x.is (j + 1) w = false := by
  unfold Pc.is
  rw [h]; simp
theorem Sim.take (hN : Nx s s' k y c) (h : Sim k d y c p p') (hp : Ok s p) {j : Nat} {x : Pc} (he : p.take s (j + 1) = .ok (x, q)) : ∃ x' q', p'.take s' (j + 1) = .ok (x', q') ∧ x'.s = x.s ∧ x'.n = x.n ∧ Sim k d y c q q' := by
  unfold Ps.take at he ⊢
  split at he
  · rename_i hk
    have hk0 : p.pc.kind ≠ 0 := by omega
    split at he
    · cases he
    · rename_i q1 hn
      simp only [Except.ok.injEq, Prod.mk.injEq] at he
      obtain ⟨rfl, rfl⟩ := he
      obtain ⟨q', e, hs⟩ := h.next hN hk0 hp.le hn
      have h1 := (h.at hk0).1
      rw [h1, if_pos hk, e]
      exact ⟨_, _, rfl, rfl, rfl, hs⟩
  · cases he
theorem take_kind {j : Nat} {x : Pc} (he : p.take s (j + 1) = .ok (x, q)) : p.pc.kind ≠ 0 := by
  unfold Ps.take at he
  split at he
  · omega
  · cases he
theorem Sim.number (hN : Nx s s' k y c) (h : Sim k d y c p p') (hp : Ok s p) {get : Sv → Int} {f : M} (he : numberS s get p = .ok (f, q)) : ∃ q', numberS s' get p' = .ok (f, q') ∧ Sim k d y c q q' := by
  unfold numberS at he ⊢
  split at he
  · rename_i hi
    have hk := is_some hi
    rw [h.is hk, if_pos hi]
    split at he
    · cases he
    · rename_i q1 hn
      obtain ⟨q', e, hs⟩ := h.next hN hk hp.le hn
      simp only [Except.ok.injEq, Prod.mk.injEq] at he
      obtain ⟨rfl, rfl⟩ := he
      rw [e]; exact ⟨_, rfl, hs⟩
  · rename_i hi
    split at he
    · cases he
    · rename_i x q1 hn
      have hk := take_kind hn
      rw [h.is hk, if_neg hi]
      obtain ⟨x', q', e, e1, e2, hs⟩ := h.take hN hp hn
      rw [e]
      have h1 := take_less hp hn
      split at he
      · cases he
      · rename_i z r hm
        obtain ⟨z', r', e', e3, e4, hs'⟩ := hs.take hN h1.ok hm
        simp only [Except.ok.injEq, Prod.mk.injEq] at he
        obtain ⟨rfl, rfl⟩ := he
        simp only [e']
        rw [e1, e4]
        exact ⟨_, rfl, hs'⟩
theorem Sim.text (hN : Nx s s' k y c) (h : Sim k d y c p p') (hp : Ok s p) {get : Sv → List UInt8} {f : M} (he : textS s get p = .ok (f, q)) : ∃ q', textS s' get p' = .ok (f, q') ∧ Sim k d y c q q' := by
  unfold textS at he ⊢
  split at he
  · rename_i hi
    have hk := is_some hi
    rw [h.is hk, if_pos hi]
    split at he
    · cases he
    · rename_i q1 hn
      obtain ⟨q', e, hs⟩ := h.next hN hk hp.le hn
      simp only [Except.ok.injEq, Prod.mk.injEq] at he
      obtain ⟨rfl, rfl⟩ := he
      rw [e]; exact ⟨_, rfl, hs⟩
  · rename_i hi
    split at he
    · rename_i hj
      have hk := is_some hj
      rw [h.is hk, h.is hk, if_neg hi, if_pos hj]
      split at he
      · cases he
      · rename_i q1 hn
        have h1 := (next_less hp hk hn).1
        obtain ⟨q', e, hs⟩ := h.next hN hk hp.le hn
        rw [e]
        split at he
        · cases he
        · rename_i z r hm
          obtain ⟨z', r', e', e3, e4, hs'⟩ := hs.take hN h1.ok hm
          simp only [Except.ok.injEq, Prod.mk.injEq] at he
          obtain ⟨rfl, rfl⟩ := he
          simp only [e']
          rw [e3]
          exact ⟨_, rfl, hs'⟩
    · rename_i hj
      split at he
      · rename_i hl
        have hk := is_some hl
        rw [h.is hk, h.is hk, h.is hk, if_neg hi, if_neg hj, if_pos hl]
        split at he
        · cases he
        · rename_i q1 hn
          have h1 := (next_less hp hk hn).1
          obtain ⟨q', e, hs⟩ := h.next hN hk hp.le hn
          rw [e]
          split at he
          · cases he
          · rename_i z r hm
            obtain ⟨z', r', e', e3, e4, hs'⟩ := hs.take hN h1.ok hm
            simp only [Except.ok.injEq, Prod.mk.injEq] at he
            obtain ⟨rfl, rfl⟩ := he
            simp only [e']
            rw [e3]
            exact ⟨_, rfl, hs'⟩
      · cases he
theorem Sim.phase (hN : Nx s s' k y c) (h : Sim k d y c p p') (hp : Ok s p) {f : M} (he : phaseS s p = .ok (f, q)) : ∃ q', phaseS s' p' = .ok (f, q') ∧ Sim k d y c q q' := by
  unfold phaseS at he ⊢
  split at he
  · rename_i hk1
    have hk : p.pc.kind ≠ 0 := by omega
    rw [(h.at hk).1, if_pos hk1]
    simp only
    split at he
    · cases he
    · rename_i n hn
      split at he
      · cases he
      · rename_i q1 hq
        obtain ⟨q', e, hs⟩ := h.next hN hk hp.le hq
        simp only [Except.ok.injEq, Prod.mk.injEq] at he
        obtain ⟨rfl, rfl⟩ := he
        simp only [e]
        exact ⟨_, rfl, hs⟩
  · cases he
theorem Sim.atom (hN : Nx s s' k y c) (h : Sim k d y c p p') (hp : Ok s p) {f : M} (he : atomS s p = .ok (f, q)) : ∃ q', atomS s' p' = .ok (f, q') ∧ Sim k d y c q q' := by
  unfold atomS at he ⊢
  split at he
  · rename_i hk1
    have hk : p.pc.kind ≠ 0 := by omega
    rw [(h.at hk).1, if_pos hk1]
    simp only
    split at he
    · rename_i g _ _ e0
      split at he
      · cases he
      · rename_i q1 hq
        obtain ⟨q', e, hs⟩ := h.next hN hk hp.le hq
        simp only [Except.ok.injEq, Prod.mk.injEq] at he
        obtain ⟨rfl, rfl⟩ := he
        simp only [e]
        exact ⟨_, rfl, hs⟩
    · rename_i g _ e0 e1
      split at he
      · cases he
      · rename_i q1 hq
        obtain ⟨q', e, hs⟩ := h.next hN hk hp.le hq
        simp only [e]
        exact hs.number hN (next_less hp hk hq).1.ok he
    · rename_i g e0 e1 e2
      split at he
      · cases he
      · rename_i q1 hq
        obtain ⟨q', e, hs⟩ := h.next hN hk hp.le hq
        simp only [e]
        exact hs.text hN (next_less hp hk hq).1.ok he
    · rename_i e0 e1 e2
      split at he
      · rename_i hph
        simp only [if_pos hph]
        split at he
        · cases he
        · rename_i q1 hq
          obtain ⟨q', e, hs⟩ := h.next hN hk hp.le hq
          simp only [e]
          exact hs.phase hN (next_less hp hk hq).1.ok he
      · cases he
  · cases he
theorem Sim.deeper (hN : Nx s s' k y c) (h : Sim k d y c p p') (hk : p.pc.kind ≠ 0) (hp : Ok s p) (he : deeperS s p = .ok q) : (∃ q', deeperS s' p' = .ok q' ∧ Sim k d y c q q') ∨ (d ≠ 0 ∧ ∃ b, deeperS s' p' = .error (b, 7)) := by
  unfold deeperS at he ⊢
  split at he
  · cases he
  · rename_i h20
    have hd := h.deep
    by_cases h2 : p'.deep = 20
    · rw [if_pos h2]
      exact .inr ⟨by omega, _, rfl⟩
    · rw [if_neg h2]
      obtain ⟨h1, h3⟩ := h.at hk
      have hs : Sim k d y c ⟨p.pc, p.at_, p.deep + 1⟩ ⟨p'.pc, p'.at_, p'.deep + 1⟩ := ⟨by simp only; omega, .inl ⟨hk, h1, h3⟩⟩
      exact .inl (hs.next hN hk hp.le he)
theorem loop_end {n : Nat} {f g : M} {m : Md} (hm : m = .bothL f ∨ m = .eitherL f) (hk : p.pc.kind = 0) (he : run s n m p = .ok (g, q)) : q = p ∧ g = f := by
  cases n with
  | zero => simp [run] at he
  | succ n =>
    rcases hm with rfl | rfl
    · simp only [run] at he
      rw [not_is hk, if_neg (by simp)] at he
      simp only [Except.ok.injEq, Prod.mk.injEq] at he
      exact ⟨he.2.symm, he.1.symm⟩
    · simp only [run] at he
      rw [not_is hk, if_neg (by simp)] at he
      simp only [Except.ok.injEq, Prod.mk.injEq] at he
      exact ⟨he.2.symm, he.1.symm⟩
/-- what must not stand behind the shorter text -/
def Md.free (y : Pc) : Md → Prop
  | .part => True
  | .both => y.is 1 andW = false
  | .bothL _ => y.is 1 andW = false
  | .either => y.is 1 andW = false ∧ y.is 1 orW = false
  | .eitherL _ => y.is 1 andW = false ∧ y.is 1 orW = false
theorem sim (hN : Nx s s' k y c) : ∀ (n : Nat) (m : Md) (p p' q : Ps) (f : M), Ok s p → Sim k d y c p p' → run s n m p = .ok (f, q) → (q.pc.kind = 0 → m.free y) →
    (∃ q', run s' n m p' = .ok (f, q') ∧ Sim k d y c q q') ∨ (d ≠ 0 ∧ ∃ b, run s' n m p' = .error (b, 7))
  | 0, m, p, p', q, f, hp, h, he, hy => by simp [run] at he
  | n + 1, .part, p, p', q, f, hp, h, he, hy => by
    have ih := sim hN n
    simp only [run] at he ⊢
    split at he
    · rename_i hi
      have hk := is_some hi
      rw [h.is hk, if_pos hi]
      split at he
      · cases he
      · rename_i q1 h1
        obtain ⟨a1, a2, a3⟩ := deeper_less hp hk h1
        rcases h.deeper hN hk hp h1 with ⟨q1', e1, s1⟩ | ⟨hd, b, e1⟩
        · rw [e1]
          split at he
          · cases he
          · rename_i h2 r hr
            simp only [Except.ok.injEq, Prod.mk.injEq] at he
            obtain ⟨rfl, rfl⟩ := he
            have a4 := (run_less s n _ _ _ _ a1 hr).1.deep
            rcases ih .part _ _ _ _ a1 s1 hr (fun _ => trivial) with ⟨r', e2, s2⟩ | ⟨hd, b, e2⟩
            · simp only [e2]
              refine .inl ⟨_, rfl, ⟨?_, s2.pc⟩⟩
              have := s2.deep
              simp only; omega
            · simp only [e2]; exact .inr ⟨hd, _, rfl⟩
        · rw [e1]; exact .inr ⟨hd, _, rfl⟩
    · rename_i hi
      split at he
      · rename_i hj
        have hk := is_some hj
        rw [h.is hk, h.is hk, if_neg hi, if_pos hj]
        split at he
        · cases he
        · rename_i q1 h1
          obtain ⟨a1, a2, a3⟩ := deeper_less hp hk h1
          rcases h.deeper hN hk hp h1 with ⟨q1', e1, s1⟩ | ⟨hd, b, e1⟩
          · rw [e1]
            split at he
            · cases he
            · rename_i h2 r hr
              split at he
              · rename_i hc
                have hrk := is_some hc
                obtain ⟨a5, _⟩ := run_less s n _ _ _ _ a1 hr
                have a4 := a5.deep
                split at he
                · cases he
                · rename_i t ht
                  simp only [Except.ok.injEq, Prod.mk.injEq] at he
                  obtain ⟨rfl, rfl⟩ := he
                  rcases ih .either _ _ _ _ a1 s1 hr (fun h => absurd h hrk) with ⟨r', e2, s2⟩ | ⟨hd, b, e2⟩
                  · simp only [e2]
                    rw [s2.is hrk, if_pos hc]
                    have s3 : Sim k d y c ⟨r.pc, r.at_, r.deep - 1⟩ ⟨r'.pc, r'.at_, r'.deep - 1⟩ := ⟨by have := s2.deep; simp only; omega, s2.pc⟩
                    obtain ⟨t', e3, s4⟩ := s3.next hN hrk a5.ok.le ht
                    simp only [e3]
                    exact .inl ⟨_, rfl, s4⟩
                  · simp only [e2]; exact .inr ⟨hd, _, rfl⟩
              · cases he
          · rw [e1]; exact .inr ⟨hd, _, rfl⟩
      · rename_i hj
        have hk : p.pc.kind ≠ 0 := by
          unfold atomS at he
          split at he
          · omega
          · cases he
        rw [h.is hk, h.is hk, if_neg hi, if_neg hj]
        exact .inl (h.atom hN hp he)
  | n + 1, .both, p, p', q, f, hp, h, he, hy => by
    have ih := sim hN n
    simp only [run] at he ⊢
    split at he
    · cases he
    · rename_i g q1 hr
      obtain ⟨a1, _⟩ := run_less s n _ _ _ _ hp hr
      rcases ih .part _ _ _ _ hp h hr (fun _ => trivial) with ⟨q1', e1, s1⟩ | ⟨hd, b, e1⟩
      · simp only [e1]
        exact ih (.bothL g) _ _ _ _ a1.ok s1 he hy
      · simp only [e1]; exact .inr ⟨hd, _, rfl⟩
  | n + 1, .either, p, p', q, f, hp, h, he, hy => by
    have ih := sim hN n
    simp only [run] at he ⊢
    split at he
    · cases he
    · rename_i g q1 hr
      obtain ⟨a1, _⟩ := run_less s n _ _ _ _ hp hr
      have hy1 : q1.pc.kind = 0 → (Md.both).free y := fun hk => by
        have := (loop_end (.inr rfl) hk he).1
        subst this
        exact (hy hk).1
      rcases ih .both _ _ _ _ hp h hr hy1 with ⟨q1', e1, s1⟩ | ⟨hd, b, e1⟩
      · simp only [e1]
        exact ih (.eitherL g) _ _ _ _ a1.ok s1 he hy
      · simp only [e1]; exact .inr ⟨hd, _, rfl⟩
  | n + 1, .bothL g, p, p', q, f, hp, h, he, hy => by
    have ih := sim hN n
    by_cases hk : p.pc.kind = 0
    · obtain ⟨rfl, rfl⟩ := loop_end (.inl rfl) hk he
      have hy0 := hy hk
      simp only [run]
      rcases h.pc with ⟨h0, _⟩ | ⟨_, h1, h2⟩
      · exact absurd hk h0
      · rw [h1, if_neg (by rw [show y.is 1 andW = false from hy0]; simp)]
        exact .inl ⟨_, rfl, h⟩
    · simp only [run] at he ⊢
      rw [h.is hk]
      split at he
      · rename_i hi
        rw [if_pos hi]
        split at he
        · cases he
        · rename_i q1 hn
          obtain ⟨q1', e1, s1⟩ := h.next hN hk hp.le hn
          have a1 := (next_less hp hk hn).1
          simp only [e1]
          split at he
          · cases he
          · rename_i b r hr
            obtain ⟨a2, _⟩ := run_less s n _ _ _ _ a1.ok hr
            rcases ih .part _ _ _ _ a1.ok s1 hr (fun _ => trivial) with ⟨q2', e2, s2⟩ | ⟨hd, b, e2⟩
            · simp only [e2]
              exact ih _ _ _ _ _ a2.ok s2 he hy
            · simp only [e2]; exact .inr ⟨hd, _, rfl⟩
      · rename_i hi
        rw [if_neg hi]
        simp only [Except.ok.injEq, Prod.mk.injEq] at he
        obtain ⟨rfl, rfl⟩ := he
        exact .inl ⟨_, rfl, h⟩
  | n + 1, .eitherL g, p, p', q, f, hp, h, he, hy => by
    have ih := sim hN n
    by_cases hk : p.pc.kind = 0
    · obtain ⟨rfl, rfl⟩ := loop_end (.inr rfl) hk he
      have hy0 := hy hk
      simp only [run]
      rcases h.pc with ⟨h0, _⟩ | ⟨_, h1, h2⟩
      · exact absurd hk h0
      · rw [h1, if_neg (by rw [show y.is 1 orW = false from hy0.2]; simp)]
        exact .inl ⟨_, rfl, h⟩
    · simp only [run] at he ⊢
      rw [h.is hk]
      split at he
      · rename_i hi
        rw [if_pos hi]
        split at he
        · cases he
        · rename_i q1 hn
          obtain ⟨q1', e1, s1⟩ := h.next hN hk hp.le hn
          have a1 := (next_less hp hk hn).1
          simp only [e1]
          split at he
          · cases he
          · rename_i b r hr
            obtain ⟨a2, _⟩ := run_less s n _ _ _ _ a1.ok hr
            have hy1 : r.pc.kind = 0 → (Md.both).free y := fun hk => by
              have := (loop_end (.inr rfl) hk he).1
              subst this
              exact (hy hk).1
            rcases ih .both _ _ _ _ a1.ok s1 hr hy1 with ⟨q2', e2, s2⟩ | ⟨hd, b, e2⟩
            · simp only [e2]
              exact ih _ _ _ _ _ a2.ok s2 he hy
            · simp only [e2]; exact .inr ⟨hd, _, rfl⟩
      · rename_i hi
        rw [if_neg hi]
        simp only [Except.ok.injEq, Prod.mk.injEq] at he
        obtain ⟨rfl, rfl⟩ := he
        exact .inl ⟨_, rfl, h⟩
end
end CM
end Go.Proofs.Ytlaafamodaogmaa
