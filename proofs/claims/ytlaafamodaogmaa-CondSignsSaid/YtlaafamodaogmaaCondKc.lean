/-
  The plain law of conditions: what CondLogic says of two texts, the rest; of chapter 27.
  Conditions: as each theorem states them.
-/
import Derived.Test.YtlaafamodaogmaaCondKb
namespace Go.Proofs.Ytlaafamodaogmaa
set_option linter.unusedVariables false
set_option linter.unusedSimpArgs false
namespace CM
theorem run_F7 {S : List UInt8} {n m : Nat} {md : Md} {p q : Ps} {phi : M} (h : F7 (run S n md p) phi q) (hm : n ≤ m) : F7 (run S m md p) phi q := by
  rcases h with h | ⟨e, h⟩
  · exact .inl (run_mono _ _ _ _ _ h (by simp) m hm)
  · exact .inr ⟨e, run_mono _ _ _ _ _ h (by simp) m hm⟩
theorem parse_not {a : List UInt8} {phi : M} (ha : parseS a = .ok phi) (hl : a.length ≤ 300) :
    parseS ([110, 111, 116, 32, 40] ++ a ++ [41]) = .ok (fun w n => !phi w n) ∨ ∃ e, parseS ([110, 111, 116, 32, 40] ++ a ++ [41]) = .error (e, 7) := by
  obtain ⟨_, hA⟩ := whole_of ha
  obtain ⟨S, hS⟩ : ∃ S, [110, 111, 116, 32, 40] ++ a ++ [41] = S := ⟨_, rfl⟩
  have hlen : S.length = a.length + 6 := by rw [← hS]; simp <;> omega
  have e1 : [110, 111, 116, 32, 40] ++ a ++ (41 :: []) = S := hS
  have n0 : nextS S 0 = .ok (⟨1, 0, 0, notW⟩, 3) := next_word (w := notW) (t := [32, 40] ++ a ++ [41]) (by rw [← hS]; simp) (by decide) (by decide) (.inr ⟨32, [40] ++ a ++ [41], by simp, rfl⟩) (by decide)
  have n1 : nextS S 3 = .ok (⟨5, 4, 0, [40]⟩, 5) := by
    rw [next_blank (t := [40] ++ a ++ [41]) (by rw [← hS]; simp)]
    exact next_open (t := a ++ [41]) (by rw [← hS]; simp)
  have n3k := fun k (hk : k = S.length) => (show nextS S k = .ok (⟨0, S.length, 0, []⟩, S.length) by rw [hk]; exact next_end (by simp) (Nat.le_refl _))
  rw [hS]
  obtain ⟨m, hm⟩ : ∃ m, fuel S = m + 4 := ⟨fuel S - 4, by unfold fuel; omega⟩
  have f1 : fuel a + 1 ≤ m + 1 := by unfold fuel at hm ⊢; omega
  have p1 : F7 (run S (m + 1) .part ⟨⟨5, 4, 0, [40]⟩, 5, 1⟩) phi ⟨⟨0, S.length, 0, []⟩, S.length, 1⟩ := by
    have := paren (pre := [110, 111, 116, 32, 40]) (a := a) (post := []) (d := 1) (z := ⟨0, S.length, 0, []⟩) (cz := S.length) hA (by omega) (by rw [e1]; exact n3k _ (by simp <;> omega)) ⟨⟨5, 4, 0, [40]⟩, 5, 1⟩ rfl rfl rfl (m + 1) f1
    rw [e1] at this
    exact this
  have q1 := not_one (p := ⟨⟨1, 0, 0, notW⟩, 3, 0⟩) (t := ⟨⟨5, 4, 0, [40]⟩, 5, 1⟩) rfl rfl n1 rfl p1 rfl
  have hei := either_one (n := m + 2) (both_one (n := m + 1) q1 rfl) rfl
  exact parse_F7 (by omega) n0 (by rw [hm]; exact hei) rfl
theorem parse_nor {a b : List UInt8} {phi psi : M} (ha : parseS a = .ok phi) (hb : parseS b = .ok psi) (hl : a.length + b.length ≤ 300) :
    parseS ([110, 111, 116, 40] ++ a ++ [41, 32, 111, 114, 32, 110, 111, 116, 32, 40] ++ b ++ [41]) = .ok (fun w n => !phi w n || !psi w n) ∨ ∃ e, parseS ([110, 111, 116, 40] ++ a ++ [41, 32, 111, 114, 32, 110, 111, 116, 32, 40] ++ b ++ [41]) = .error (e, 7) := by
  obtain ⟨_, hA⟩ := whole_of ha
  obtain ⟨_, hB⟩ := whole_of hb
  obtain ⟨S, hS⟩ : ∃ S, [110, 111, 116, 40] ++ a ++ [41, 32, 111, 114, 32, 110, 111, 116, 32, 40] ++ b ++ [41] = S := ⟨_, rfl⟩
  have e1 : [110, 111, 116, 40] ++ a ++ (41 :: ([32, 111, 114, 32, 110, 111, 116, 32, 40] ++ b ++ [41])) = S := by rw [← hS]; simp
  have e2 : ([110, 111, 116, 40] ++ a ++ [41, 32, 111, 114, 32, 110, 111, 116, 32, 40]) ++ b ++ (41 :: []) = S := hS
  have hlen : S.length = a.length + b.length + 15 := by rw [← hS]; simp <;> omega
  have n0 : nextS S 0 = .ok (⟨1, 0, 0, notW⟩, 3) := next_word (w := notW) (t := [40] ++ a ++ [41, 32, 111, 114, 32, 110, 111, 116, 32, 40] ++ b ++ [41]) (by rw [← hS]; simp) (by decide) (by decide) (.inr ⟨40, a ++ [41, 32, 111, 114, 32, 110, 111, 116, 32, 40] ++ b ++ [41], by simp, rfl⟩) (by decide)
  have n1 : nextS S 3 = .ok (⟨5, 3, 0, [40]⟩, 4) := next_open (t := a ++ [41, 32, 111, 114, 32, 110, 111, 116, 32, 40] ++ b ++ [41]) (by rw [← hS]; simp)
  have n2 : nextS S (a.length + 4 + 1) = .ok (⟨1, a.length + 6, 0, orW⟩, a.length + 8) := by
    rw [next_blank (t := [111, 114, 32, 110, 111, 116, 32, 40] ++ b ++ [41]) (by rw [← hS, show [110, 111, 116, 40] ++ a ++ [41, 32, 111, 114, 32, 110, 111, 116, 32, 40] ++ b ++ [41] = ([110, 111, 116, 40] ++ a ++ [41]) ++ (32 :: ([111, 114, 32, 110, 111, 116, 32, 40] ++ b ++ [41])) by simp]; exact drop_at (by simp <;> omega))]
    exact next_word (w := orW) (t := [32, 110, 111, 116, 32, 40] ++ b ++ [41]) (by rw [← hS, show [110, 111, 116, 40] ++ a ++ [41, 32, 111, 114, 32, 110, 111, 116, 32, 40] ++ b ++ [41] = ([110, 111, 116, 40] ++ a ++ [41, 32]) ++ (orW ++ ([32, 110, 111, 116, 32, 40] ++ b ++ [41])) by simp]; exact drop_at (by simp <;> omega)) (by decide) (by decide) (.inr ⟨32, [110, 111, 116, 32, 40] ++ b ++ [41], by simp, rfl⟩) (by decide)
  have n4 : nextS S (a.length + 8) = .ok (⟨1, a.length + 9, 0, notW⟩, a.length + 12) := by
    rw [next_blank (t := [110, 111, 116, 32, 40] ++ b ++ [41]) (by rw [← hS, show [110, 111, 116, 40] ++ a ++ [41, 32, 111, 114, 32, 110, 111, 116, 32, 40] ++ b ++ [41] = ([110, 111, 116, 40] ++ a ++ [41, 32, 111, 114]) ++ (32 :: ([110, 111, 116, 32, 40] ++ b ++ [41])) by simp]; exact drop_at (by simp <;> omega))]
    exact next_word (w := notW) (t := [32, 40] ++ b ++ [41]) (by rw [← hS, show [110, 111, 116, 40] ++ a ++ [41, 32, 111, 114, 32, 110, 111, 116, 32, 40] ++ b ++ [41] = ([110, 111, 116, 40] ++ a ++ [41, 32, 111, 114, 32]) ++ (notW ++ ([32, 40] ++ b ++ [41])) by simp]; exact drop_at (by simp <;> omega)) (by decide) (by decide) (.inr ⟨32, [40] ++ b ++ [41], by simp, rfl⟩) (by decide)
  have n5 : nextS S (a.length + 12) = .ok (⟨5, a.length + 13, 0, [40]⟩, a.length + 14) := by
    rw [next_blank (t := [40] ++ b ++ [41]) (by rw [← hS, show [110, 111, 116, 40] ++ a ++ [41, 32, 111, 114, 32, 110, 111, 116, 32, 40] ++ b ++ [41] = ([110, 111, 116, 40] ++ a ++ [41, 32, 111, 114, 32, 110, 111, 116]) ++ (32 :: ([40] ++ b ++ [41])) by simp]; exact drop_at (by simp <;> omega))]
    exact next_open (t := b ++ [41]) (by rw [← hS, show [110, 111, 116, 40] ++ a ++ [41, 32, 111, 114, 32, 110, 111, 116, 32, 40] ++ b ++ [41] = ([110, 111, 116, 40] ++ a ++ [41, 32, 111, 114, 32, 110, 111, 116, 32]) ++ (40 :: (b ++ [41])) by simp]; exact drop_at (by simp <;> omega))
  have n3k := fun k (hk : k = S.length) => (show nextS S k = .ok (⟨0, S.length, 0, []⟩, S.length) by rw [hk]; exact next_end (by simp) (Nat.le_refl _))
  rw [hS]
  obtain ⟨m, hm⟩ : ∃ m, fuel S = m + 6 := ⟨fuel S - 6, by unfold fuel; omega⟩
  have f1 : fuel a + 1 ≤ m + 2 := by unfold fuel at hm ⊢; omega
  have f2 : fuel b + 1 ≤ m + 1 := by unfold fuel at hm ⊢; omega
  have p1 : F7 (run S (m + 2) .part ⟨⟨5, 3, 0, [40]⟩, 4, 1⟩) phi ⟨⟨1, a.length + 6, 0, orW⟩, a.length + 8, 1⟩ := by
    have := paren (pre := [110, 111, 116, 40]) (a := a) (post := [32, 111, 114, 32, 110, 111, 116, 32, 40] ++ b ++ [41]) (d := 1) hA (by omega) (by rw [e1]; exact n2) ⟨⟨5, 3, 0, [40]⟩, 4, 1⟩ rfl rfl rfl (m + 2) f1
    rw [e1] at this
    exact this
  have p2 : F7 (run S (m + 1) .part ⟨⟨5, a.length + 13, 0, [40]⟩, a.length + 14, 1⟩) psi ⟨⟨0, S.length, 0, []⟩, S.length, 1⟩ := by
    have := paren (pre := [110, 111, 116, 40] ++ a ++ [41, 32, 111, 114, 32, 110, 111, 116, 32, 40]) (a := b) (post := []) (d := 1) (z := ⟨0, S.length, 0, []⟩) (cz := S.length) hB (by omega) (by rw [e2]; exact n3k _ (by simp <;> omega)) ⟨⟨5, a.length + 13, 0, [40]⟩, a.length + 14, 1⟩ rfl (by simp <;> omega) rfl (m + 1) f2
    rw [e2] at this
    exact this
  have q1 := not_one (p := ⟨⟨1, 0, 0, notW⟩, 3, 0⟩) (t := ⟨⟨5, 3, 0, [40]⟩, 4, 1⟩) rfl rfl n1 rfl p1 rfl
  have q2 := not_one (p := ⟨⟨1, a.length + 9, 0, notW⟩, a.length + 12, 0⟩) (t := ⟨⟨5, a.length + 13, 0, [40]⟩, a.length + 14, 1⟩) rfl rfl n5 rfl p2 rfl
  have b1 := both_one (n := m + 2) q1 rfl
  have b2 := both_one (n := m + 1) q2 rfl
  have hei := either_two (n := m + 2) b1 rfl (t := ⟨⟨1, a.length + 9, 0, notW⟩, a.length + 12, 0⟩) (by unfold Ps.next; simp only; rw [n4]) b2 rfl
  exact parse_F7 (by omega) n0 (by rw [hm]; exact run_F7 (n := m + 5) (m := m + 6) hei (by omega)) rfl
theorem parse_pad {a : List UInt8} {phi : M} (ha : parseS a = .ok phi) (hl : a.length ≤ 300) : parseS ([32, 32] ++ a ++ [32, 32]) = .ok phi := by
  obtain ⟨_, hA⟩ := whole_of ha
  obtain ⟨S, hS⟩ : ∃ S, [32, 32] ++ a ++ [32, 32] = S := ⟨_, rfl⟩
  have hlen : S.length = a.length + 4 := by rw [← hS]; simp <;> omega
  have n3 : nextS S (a.length + 2) = .ok (⟨0, S.length, 0, []⟩, S.length) := by
    rw [next_blank (t := [32]) (by rw [← hS, show [32, 32] ++ a ++ [32, 32] = ([32, 32] ++ a) ++ (32 :: [32]) by simp]; exact drop_at (by simp <;> omega)), next_blank (t := []) (by rw [← hS, show [32, 32] ++ a ++ [32, 32] = ([32, 32] ++ a ++ [32]) ++ (32 :: []) by simp]; exact drop_at (by simp <;> omega)), show a.length + 2 + 1 + 1 = S.length by omega]
    exact next_end (by simp) (Nat.le_refl _)
  have n0 : nextS S 0 = nextS S 2 := by
    rw [next_blank (t := 32 :: (a ++ [32, 32])) (by rw [← hS]; simp), next_blank (t := a ++ [32, 32]) (by rw [← hS]; simp)]
  obtain ⟨x, b, e1, e2⟩ := within (pre := [32, 32]) (a := a) (post := [32, 32]) (d := 0) hA (.inr ⟨[32], .inr rfl⟩) (by rw [hS]; exact n3) rfl rfl
  rw [hS] at e1 e2 ⊢
  rcases e2 with e2 | ⟨h, _⟩
  · have e3 := e2 (fuel S) (by unfold fuel; omega)
    rcases parse_F7 (S := S) (by omega) (n0.trans e1) (.inl e3) rfl with h | ⟨e, h⟩
    · exact h
    · exfalso
      unfold parseS at h
      rw [if_neg (by omega), n0.trans e1] at h
      simp only at h
      rw [e3] at h
      simp at h
  · exact absurd rfl h
/-- what stands ahead of the rest of a disjunction -/
theorem either_or {S : List UInt8} (g : M) : ∀ (n : Nat) (h chi : M) (q r : Ps), run S n (.eitherL h) q = .ok (chi, r) → run S n (.eitherL (fun w m => g w m || h w m)) q = .ok (fun w m => g w m || chi w m, r)
  | 0, h, chi, q, r, e => by simp [run] at e
  | n + 1, h, chi, q, r, e => by
    rw [run] at e ⊢
    split at e
    · rename_i hi
      rw [if_pos hi]
      split at e
      · cases e
      · split at e
        · cases e
        · rename_i b u hb
          have := either_or g n _ _ _ _ e
          simp only [Bool.or_assoc]
          exact this
    · rename_i hi
      rw [if_neg hi]
      simp only [Except.ok.injEq, Prod.mk.injEq] at e
      obtain ⟨rfl, rfl⟩ := e
      rfl
/-- a disjunction's rest on a longer text goes on behind the shorter one -/
theorem sim_rest {s s' : List UInt8} {k : Nat} {y : Pc} {c : Nat} (hN : Nx s s' k y c) (hy : y.is 1 andW = false) : ∀ (n : Nat) (h0 h : M) (p p' q : Ps), Ok s p → Sim k 0 y c p p' → run s n (.eitherL h0) p = .ok (h, q) → q.pc.kind = 0 →
    ∃ q', Sim k 0 y c q q' ∧ ∀ R : Nat → Except Er (M × Ps), (∀ m, run s' m (.eitherL h) q' = R m) → ∀ N, n ≤ N → ∃ M, N ≤ M + n ∧ run s' N (.eitherL h0) p' = R M
  | 0, h0, h, p, p', q, hp, hs, e, hq => by simp [run] at e
  | n + 1, h0, h, p, p', q, hp, hs, e, hq => by
    by_cases hk : p.pc.kind = 0
    · obtain ⟨rfl, rfl⟩ := loop_end (.inr rfl) hk e
      exact ⟨p', hs, fun R hR N hN => ⟨N, by omega, hR N⟩⟩
    · rw [run] at e
      split at e
      · rename_i hi
        split at e
        · cases e
        · rename_i t ht
          obtain ⟨t', e1, s1⟩ := hs.next hN hk hp.le ht
          have a1 := (next_less hp hk ht).1
          split at e
          · cases e
          · rename_i b u hb
            obtain ⟨a2, _⟩ := run_less s n _ _ _ _ a1.ok hb
            rcases sim hN n .both _ _ _ _ a1.ok s1 hb (fun _ => hy) with ⟨u', e2, s2⟩ | ⟨hd, _⟩
            · obtain ⟨q', s3, hgo⟩ := sim_rest hN hy n _ _ _ _ _ a2.ok s2 e hq
              refine ⟨q', s3, fun R hR N hN => ?_⟩
              obtain ⟨N, rfl⟩ : ∃ N', N = N' + 1 := ⟨N - 1, by omega⟩
              obtain ⟨M, hM, he⟩ := hgo R hR N (by omega)
              refine ⟨M, by omega, ?_⟩
              rw [run, hs.is hk, if_pos hi, e1]
              simp only
              rw [run_mono _ _ _ _ _ e2 (by simp) N (by omega)]
              exact he
            · exact absurd rfl hd
      · rename_i hi
        simp only [Except.ok.injEq, Prod.mk.injEq] at e
        obtain ⟨rfl, rfl⟩ := e
        exact ⟨p', hs, fun R hR N hN => ⟨N, by omega, hR N⟩⟩
theorem parse_alt {a b : List UInt8} {phi psi : M} (ha : parseS a = .ok phi) (hb : parseS b = .ok psi) (hl : a.length + b.length ≤ 300) : parseS (a ++ [32, 111, 114, 32] ++ b) = .ok (fun w n => phi w n || psi w n) := by
  obtain ⟨_, hA⟩ := whole_of ha
  obtain ⟨_, hB⟩ := whole_of hb
  obtain ⟨S, hS⟩ : ∃ S, a ++ [32, 111, 114, 32] ++ b = S := ⟨_, rfl⟩
  have hlen : S.length = a.length + b.length + 4 := by rw [← hS]; simp <;> omega
  have e1 : [] ++ a ++ ([32, 111, 114, 32] ++ b) = S := by rw [← hS]; simp
  have e2 : (a ++ [32, 111, 114, 32]) ++ b ++ [] = S := by rw [← hS]; simp
  have n1 : nextS S a.length = .ok (⟨1, a.length + 1, 0, orW⟩, a.length + 3) := by
    rw [next_blank (t := [111, 114, 32] ++ b) (by rw [← hS, show a ++ [32, 111, 114, 32] ++ b = (a) ++ (32 :: ([111, 114, 32] ++ b)) by simp]; exact drop_at (by simp <;> omega))]
    exact next_word (w := orW) (t := [32] ++ b) (by rw [← hS, show a ++ [32, 111, 114, 32] ++ b = (a ++ [32]) ++ (orW ++ ([32] ++ b)) by simp]; exact drop_at (by simp <;> omega)) (by decide) (by decide) (.inr ⟨32, b, rfl, rfl⟩) (by decide)
  have n2 : nextS S (a.length + 3) = nextS S (a.length + 4) := next_blank (t := b) (by rw [← hS, show a ++ [32, 111, 114, 32] ++ b = (a ++ [32, 111, 114]) ++ (32 :: b) by simp]; exact drop_at (by simp <;> omega))
  have n3k := fun k (hk : k = S.length) => (show nextS S k = .ok (⟨0, S.length, 0, []⟩, S.length) by rw [hk]; exact next_end (by simp) (Nat.le_refl _))
  -- b, behind
  obtain ⟨x2, b2, g1, g2⟩ := within (pre := a ++ [32, 111, 114, 32]) (a := b) (post := []) (d := 0) (y := ⟨0, S.length, 0, []⟩) (c := S.length) hB (.inl rfl) (by rw [e2]; exact n3k _ (by simp <;> omega)) rfl rfl
  rw [e2] at g1 g2
  have g2 : ∀ n, fuel b ≤ n → run S n .either ⟨x2, b2, 0⟩ = .ok (psi, ⟨⟨0, S.length, 0, []⟩, S.length, 0⟩) := g2.resolve_right (fun h => h.1 rfl)
  have g1' : nextS S (a.length + 3) = .ok (x2, b2) := by
    rw [n2]
    have : (a ++ [32, 111, 114, 32]).length = a.length + 4 := by simp
    rw [this] at g1
    exact g1
  -- a, ahead
  obtain ⟨x, b1, r, h1, h2, h3⟩ := hA
  have hy : nextS ([] ++ a ++ ([32, 111, 114, 32] ++ b)) (a.length + ([] : List UInt8).length) = .ok (⟨1, a.length + 1, 0, orW⟩, a.length + 3) := by rw [e1]; exact n1
  have hN := nx_ctx (pre := []) (s := a) (post := [32, 111, 114, 32] ++ b) (.inr ⟨[111, 114, 32] ++ b, .inr rfl⟩) hy
  rw [e1] at hN
  have hle := next_le (Nat.zero_le _) h1
  have hok : Ok a ⟨x, b1, 0⟩ := ⟨hle.1, hle.2.1, by simp, hle.2.2.2.2⟩
  obtain ⟨n1', n2'⟩ := hN 0 x b1 (Nat.zero_le _) h1
  have hst : ∃ x' b', nextS S 0 = .ok (x', b') ∧ Sim 0 0 ⟨1, a.length + 1, 0, orW⟩ (a.length + 3) ⟨x, b1, 0⟩ ⟨x', b', 0⟩ := by
    by_cases h0 : x.kind = 0
    · exact ⟨_, _, n2' h0, rfl, .inr ⟨h0, rfl, rfl⟩⟩
    · exact ⟨_, _, n1' h0, rfl, .inl ⟨h0, rfl, rfl⟩⟩
  obtain ⟨x', b', m1, ms⟩ := hst
  obtain ⟨f, hf⟩ : ∃ f, fuel a = f + 1 := ⟨fuel a - 1, by unfold fuel; omega⟩
  rw [hf, run] at h2
  split at h2
  · cases h2
  · rename_i c0 q1 hq1
    obtain ⟨a1, _⟩ := run_less a f _ _ _ _ hok hq1
    rcases sim hN f .both _ _ _ _ hok ms hq1 (fun _ => rfl) with ⟨q1', z1, z2⟩ | ⟨hd, _⟩
    · obtain ⟨q', z3, hgo⟩ := sim_rest hN rfl f _ _ _ _ _ a1.ok z2 h2 h3
      have hrd := (run_less a f _ _ _ _ a1.ok h2).1.deep
      have hrd2 := a1.deep
      have hq' : q' = ⟨⟨1, a.length + 1, 0, orW⟩, a.length + 3, 0⟩ := by
        rcases z3.pc with ⟨h, _⟩ | ⟨_, w1, w2⟩
        · exact absurd h3 h
        · have w3 := z3.deep
          rw [hrd, hrd2] at w3
          cases q'
          simp only at w1 w2 w3
          rw [w1, w2, w3]
      subst hq'
      obtain ⟨F, hF⟩ : ∃ F, fuel S = F + 1 := ⟨fuel S - 1, by unfold fuel; omega⟩
      obtain ⟨M, hM, hrun⟩ := hgo _ (fun m => rfl) F (by unfold fuel at *; omega)
      have hMb : fuel b + 1 ≤ M := by unfold fuel at *; omega
      obtain ⟨M, rfl⟩ : ∃ M', M = M' + 1 := ⟨M - 1, by omega⟩
      -- b's disjunction
      have g3 := g2 (M + 1) (by omega)
      rw [run] at g3
      have hfin : run S (M + 1) (.eitherL phi) ⟨⟨1, a.length + 1, 0, orW⟩, a.length + 3, 0⟩ = .ok (fun w n => phi w n || psi w n, ⟨⟨0, S.length, 0, []⟩, S.length, 0⟩) := by
        rw [run, if_pos (show (Pc.is ⟨1, a.length + 1, 0, orW⟩ 1 orW) = true from rfl)]
        unfold Ps.next
        simp only
        rw [g1']
        simp only
        split at g3
        · cases g3
        · rename_i c1 u hu
          exact either_or phi M c1 psi u _ g3
      rw [hfin] at hrun
      have hall : run S (fuel S) .either ⟨x', b', 0⟩ = .ok (fun w n => phi w n || psi w n, ⟨⟨0, S.length, 0, []⟩, S.length, 0⟩) := by
        rw [hF, run, run_mono _ _ _ _ _ z1 (by simp) F (by unfold fuel at *; omega)]
        exact hrun
      rw [hS]
      unfold parseS
      rw [if_neg (by omega), m1]
      simp only
      rw [hall]
      rfl
    · exact absurd rfl hd
end CM
end Go.Proofs.Ytlaafamodaogmaa
