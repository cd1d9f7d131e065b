/-
  The plain law of conditions: what CondLogic says of two texts; of chapter 27.
  Conditions: as each theorem states them.
-/
import Derived.Test.YtlaafamodaogmaaCondKa
namespace Go.Proofs.Ytlaafamodaogmaa
set_option linter.unusedVariables false
set_option linter.unusedSimpArgs false
namespace CM
theorem drop_at {pre t : List UInt8} {i : Nat} (h : i = pre.length) : (pre ++ t).drop i = t := by subst h; simp
/-- ( a ) with something behind it, as the first part; ( b ) as the second -/
theorem parse_and {a b : List UInt8} {phi psi : M} (ha : parseS a = .ok phi) (hb : parseS b = .ok psi) (hl : a.length + b.length ≤ 300) :
    parseS ([40] ++ a ++ [41, 32, 97, 110, 100, 32, 40] ++ b ++ [41]) = .ok (fun w n => phi w n && psi w n) ∨ ∃ e, parseS ([40] ++ a ++ [41, 32, 97, 110, 100, 32, 40] ++ b ++ [41]) = .error (e, 7) := by
  obtain ⟨_, hA⟩ := whole_of ha
  obtain ⟨_, hB⟩ := whole_of hb
  obtain ⟨S, hS⟩ : ∃ S, [40] ++ a ++ [41, 32, 97, 110, 100, 32, 40] ++ b ++ [41] = S := ⟨_, rfl⟩
  have e1 : [40] ++ a ++ (41 :: ([32, 97, 110, 100, 32, 40] ++ b ++ [41])) = S := by rw [← hS]; simp
  have e2 : ([40] ++ a ++ [41, 32, 97, 110, 100, 32, 40]) ++ b ++ (41 :: []) = S := hS
  have hlen : S.length = a.length + b.length + 9 := by rw [← hS]; simp; omega
  have n0 : nextS S 0 = .ok (⟨5, 0, 0, [40]⟩, 1) := next_open (t := a ++ [41, 32, 97, 110, 100, 32, 40] ++ b ++ [41]) (by rw [← hS]; simp)
  have n1 : nextS S (a.length + 1 + 1) = .ok (⟨1, a.length + 3, 0, andW⟩, a.length + 6) := by
    rw [next_blank (t := [97, 110, 100, 32, 40] ++ b ++ [41]) (by rw [← hS, show [40] ++ a ++ [41, 32, 97, 110, 100, 32, 40] ++ b ++ [41] = ([40] ++ a ++ [41]) ++ (32 :: ([97, 110, 100, 32, 40] ++ b ++ [41])) by simp]; exact drop_at (by simp <;> omega))]
    exact next_word (w := andW) (t := [32, 40] ++ b ++ [41]) (by rw [← hS, show [40] ++ a ++ [41, 32, 97, 110, 100, 32, 40] ++ b ++ [41] = ([40] ++ a ++ [41, 32]) ++ (andW ++ ([32, 40] ++ b ++ [41])) by simp]; exact drop_at (by simp <;> omega)) (by decide) (by decide) (.inr ⟨32, [40] ++ b ++ [41], rfl, rfl⟩) (by decide)
  have n2 : nextS S (a.length + 6) = .ok (⟨5, a.length + 7, 0, [40]⟩, a.length + 8) := by
    rw [next_blank (t := [40] ++ b ++ [41]) (by rw [← hS, show [40] ++ a ++ [41, 32, 97, 110, 100, 32, 40] ++ b ++ [41] = ([40] ++ a ++ [41, 32, 97, 110, 100]) ++ (32 :: ([40] ++ b ++ [41])) by simp]; exact drop_at (by simp <;> omega))]
    exact next_open (t := b ++ [41]) (by rw [← hS, show [40] ++ a ++ [41, 32, 97, 110, 100, 32, 40] ++ b ++ [41] = ([40] ++ a ++ [41, 32, 97, 110, 100, 32]) ++ (40 :: (b ++ [41])) by simp]; exact drop_at (by simp <;> omega))
  have n3k := fun k (hk : k = S.length) => (show nextS S k = .ok (⟨0, S.length, 0, []⟩, S.length) by rw [hk]; exact next_end (by simp) (Nat.le_refl _))
  rw [hS]
  obtain ⟨m, hm⟩ : ∃ m, fuel S = m + 5 := ⟨fuel S - 5, by unfold fuel; omega⟩
  have f1 : fuel a + 1 ≤ m + 3 := by unfold fuel at hm ⊢; omega
  have f2 : fuel b + 1 ≤ m + 2 := by unfold fuel at hm ⊢; omega
  have p1 : F7 (run S (m + 3) .part ⟨⟨5, 0, 0, [40]⟩, 1, 0⟩) phi ⟨⟨1, a.length + 3, 0, andW⟩, a.length + 6, 0⟩ := by
    have := paren (pre := [40]) (a := a) (post := [32, 97, 110, 100, 32, 40] ++ b ++ [41]) (d := 0) hA (by omega) (by rw [e1]; exact n1) ⟨⟨5, 0, 0, [40]⟩, 1, 0⟩ rfl rfl rfl (m + 3) f1
    rw [e1] at this
    exact this
  have p2 : F7 (run S (m + 2) .part ⟨⟨5, a.length + 7, 0, [40]⟩, a.length + 8, 0⟩) psi ⟨⟨0, S.length, 0, []⟩, S.length, 0⟩ := by
    have := paren (pre := [40] ++ a ++ [41, 32, 97, 110, 100, 32, 40]) (a := b) (post := []) (d := 0) (z := ⟨0, S.length, 0, []⟩) (cz := S.length) hB (by omega) (by rw [e2]; exact n3k _ (by simp <;> omega)) ⟨⟨5, a.length + 7, 0, [40]⟩, a.length + 8, 0⟩ rfl (by simp <;> omega) rfl (m + 2) f2
    rw [e2] at this
    exact this
  have hbt := both_two (n := m + 1) p1 rfl (t := ⟨⟨5, a.length + 7, 0, [40]⟩, a.length + 8, 0⟩) (by unfold Ps.next; simp only; rw [n2]) p2 rfl
  have hei := either_one (n := m + 3) hbt rfl
  exact parse_F7 (by omega) n0 (by rw [hm]; exact hei) rfl
theorem parse_or {a b : List UInt8} {phi psi : M} (ha : parseS a = .ok phi) (hb : parseS b = .ok psi) (hl : a.length + b.length ≤ 300) :
    parseS ([40] ++ a ++ [41, 111, 114, 40] ++ b ++ [41]) = .ok (fun w n => phi w n || psi w n) ∨ ∃ e, parseS ([40] ++ a ++ [41, 111, 114, 40] ++ b ++ [41]) = .error (e, 7) := by
  obtain ⟨_, hA⟩ := whole_of ha
  obtain ⟨_, hB⟩ := whole_of hb
  obtain ⟨S, hS⟩ : ∃ S, [40] ++ a ++ [41, 111, 114, 40] ++ b ++ [41] = S := ⟨_, rfl⟩
  have e1 : [40] ++ a ++ (41 :: ([111, 114, 40] ++ b ++ [41])) = S := by rw [← hS]; simp
  have e2 : ([40] ++ a ++ [41, 111, 114, 40]) ++ b ++ (41 :: []) = S := hS
  have hlen : S.length = a.length + b.length + 6 := by rw [← hS]; simp; omega
  have n0 : nextS S 0 = .ok (⟨5, 0, 0, [40]⟩, 1) := next_open (t := a ++ [41, 111, 114, 40] ++ b ++ [41]) (by rw [← hS]; simp)
  have n1 : nextS S (a.length + 1 + 1) = .ok (⟨1, a.length + 2, 0, orW⟩, a.length + 4) :=
    next_word (w := orW) (t := [40] ++ b ++ [41]) (by rw [← hS, show [40] ++ a ++ [41, 111, 114, 40] ++ b ++ [41] = ([40] ++ a ++ [41]) ++ (orW ++ ([40] ++ b ++ [41])) by simp]; exact drop_at (by simp <;> omega)) (by decide) (by decide) (.inr ⟨40, b ++ [41], rfl, rfl⟩) (by decide)
  have n2 : nextS S (a.length + 4) = .ok (⟨5, a.length + 4, 0, [40]⟩, a.length + 5) :=
    next_open (t := b ++ [41]) (by rw [← hS, show [40] ++ a ++ [41, 111, 114, 40] ++ b ++ [41] = ([40] ++ a ++ [41, 111, 114]) ++ (40 :: (b ++ [41])) by simp]; exact drop_at (by simp <;> omega))
  have n3k := fun k (hk : k = S.length) => (show nextS S k = .ok (⟨0, S.length, 0, []⟩, S.length) by rw [hk]; exact next_end (by simp) (Nat.le_refl _))
  rw [hS]
  obtain ⟨m, hm⟩ : ∃ m, fuel S = m + 5 := ⟨fuel S - 5, by unfold fuel; omega⟩
  have f1 : fuel a + 1 ≤ m + 3 := by unfold fuel at hm ⊢; omega
  have f2 : fuel b + 1 ≤ m + 2 := by unfold fuel at hm ⊢; omega
  have p1 : F7 (run S (m + 3) .part ⟨⟨5, 0, 0, [40]⟩, 1, 0⟩) phi ⟨⟨1, a.length + 2, 0, orW⟩, a.length + 4, 0⟩ := by
    have := paren (pre := [40]) (a := a) (post := [111, 114, 40] ++ b ++ [41]) (d := 0) hA (by omega) (by rw [e1]; exact n1) ⟨⟨5, 0, 0, [40]⟩, 1, 0⟩ rfl rfl rfl (m + 3) f1
    rw [e1] at this
    exact this
  have p2 : F7 (run S (m + 2) .part ⟨⟨5, a.length + 4, 0, [40]⟩, a.length + 5, 0⟩) psi ⟨⟨0, S.length, 0, []⟩, S.length, 0⟩ := by
    have := paren (pre := [40] ++ a ++ [41, 111, 114, 40]) (a := b) (post := []) (d := 0) (z := ⟨0, S.length, 0, []⟩) (cz := S.length) hB (by omega) (by rw [e2]; exact n3k _ (by simp <;> omega)) ⟨⟨5, a.length + 4, 0, [40]⟩, a.length + 5, 0⟩ rfl (by simp <;> omega) rfl (m + 2) f2
    rw [e2] at this
    exact this
  have b1 := both_one (n := m + 2) p1 rfl
  have b2 := both_one (n := m + 1) p2 rfl
  have hei := either_two (n := m + 2) b1 rfl (t := ⟨⟨5, a.length + 4, 0, [40]⟩, a.length + 5, 0⟩) (by unfold Ps.next; simp only; rw [n2]) b2 rfl
  exact parse_F7 (by omega) n0 (by rw [hm]; exact hei) rfl
end CM
end Go.Proofs.Ytlaafamodaogmaa
