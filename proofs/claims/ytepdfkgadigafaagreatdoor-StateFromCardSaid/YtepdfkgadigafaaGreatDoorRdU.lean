/-
  How far a quote reaches, how long what it says is; a text up to a byte; lists alone, no program in sight.
  Conditions: as each theorem states them.
-/
import Derived.Test.YtepdfkgadigafaaGreatDoorFldM
import Derived.Lib.IndexLaws
namespace Go.Proofs.YtepdfkgadigafaaGreatDoor
set_option linter.unusedVariables false
set_option linter.unusedSimpArgs false
theorem unqS_range : ∀ (n : Nat) (s out : List UInt8) (a : Nat), s.length ≤ n → (unqS out a s).2.2 = 0 → ∃ b : Nat, (unqS out a s).2.1 = b ∧ a < b ∧ b ≤ a + s.length
  | n, [], out, a, _, h => by rw [unqS_nil] at h; simp at h
  | 0, c :: r, out, a, hn, h => by simp at hn
  | n + 1, c :: r, out, a, hn, h => by
    simp only [List.length_cons] at hn
    by_cases h1 : c = 34
    · subst h1
      rw [unqS_end]
      exact ⟨a + 1, by simp, by omega, by simp⟩
    · by_cases h2 : c = 92
      · subst h2
        cases he : escS r with
        | error e =>
          rw [unqS_err _ _ _ _ he] at h
          exfalso
          simp only at h
          subst h
          unfold escS at he
          split at he
          · injection he with he; simp at he
          · split at he
            · cases he
            · split at he
              · cases he
              · rename_i e h2
                injection he with he
                subst he
                unfold octS at h2
                repeat' split at h2
                all_goals first | (injection h2 with h2; simp at h2; done) | (cases h2; done) | (simp only at h2; split at h2 <;> first | (injection h2 with h2; simp at h2; done) | cases h2)
        | ok x =>
          obtain ⟨x, k⟩ := x
          rw [unqS_esc _ _ _ _ _ he] at h ⊢
          have hk := escS_len he
          obtain ⟨b, e, h3, h4⟩ := unqS_range n (r.drop k) (out ++ [x]) (a + 1 + k) (by simp; omega) h
          refine ⟨b, e, by omega, ?_⟩
          simp only [List.length_drop, List.length_cons] at h4 ⊢; omega
      · rw [unqS_plain _ _ _ _ h1 h2] at h ⊢
        obtain ⟨b, e, h3, h4⟩ := unqS_range n r (out ++ [c]) (a + 1) (by omega) h
        exact ⟨b, e, by omega, by simp only [List.length_cons]; omega⟩
theorem unquote_range (s : List UInt8) (a : Nat) (h : (unquoteS s a).2.2 = 0) : ∃ b : Nat, (unquoteS s a).2.1 = b ∧ a < b ∧ b ≤ s.length := by
  unfold unquoteS at h ⊢
  split at h
  · simp at h
  · rename_i h0
    rw [if_neg h0]
    simp only [Int.toNat_natCast] at h ⊢
    cases hd : s.drop a with
    | nil => rw [hd] at h; simp at h
    | cons c r =>
      rw [hd] at h
      simp only at h ⊢
      split at h
      · simp at h
      · rename_i h1
        rw [if_neg h1]
        obtain ⟨b, e, h3, h4⟩ := unqS_range _ r [] (a + 1) (Nat.le_refl _) h
        refine ⟨b, e, by omega, ?_⟩
        have := congrArg List.length hd
        simp only [List.length_drop, List.length_cons] at this; omega
theorem unqS_le : ∀ (n : Nat) (out : List UInt8) (a : Nat) (r : List UInt8), r.length ≤ n → (unqS out a r).1.length ≤ out.length + r.length
  | n, out, a, [], _ => by rw [unqS_nil]; simp
  | 0, out, a, c :: r, h => by simp at h
  | n + 1, out, a, c :: r, h => by
    simp only [List.length_cons] at h
    by_cases h1 : c = 34
    · subst h1; rw [unqS_end]; simp
    · by_cases h2 : c = 92
      · subst h2
        cases he : escS r with
        | error e => rw [unqS_err out a r e he]; simp
        | ok xn =>
          obtain ⟨x, m⟩ := xn
          rw [unqS_esc out a r x m he]
          have := unqS_le n (out ++ [x]) (a + 1 + m) (r.drop m) (by rw [List.length_drop]; omega)
          rw [List.length_append, List.length_drop] at this
          simp only [List.length_cons, List.length_nil] at this ⊢
          omega
      · rw [unqS_plain out a c r h1 h2]
        have := unqS_le n (out ++ [c]) (a + 1) r (by omega)
        rw [List.length_append] at this
        simp only [List.length_cons, List.length_nil] at this ⊢
        omega
theorem unquote_le (s : List UInt8) : (unquoteS s 0).1.length ≤ s.length := by
  unfold unquoteS
  split
  · simp
  · cases h : s.drop (0 : Int).toNat with
    | nil => simp
    | cons c r =>
      simp only
      split
      · simp
      · have := unqS_le r.length [] ((0 : Int).toNat + 1) r (Nat.le_refl _)
        have hl : (s.drop (0 : Int).toNat).length = r.length + 1 := by rw [h]; simp
        rw [List.length_drop] at hl
        simp only [List.length_nil] at this
        omega
theorem upto_nil (d : UInt8) : FM.upto d [] = [] := rfl
theorem idx_upto (d : UInt8) : ∀ s : List UInt8, (Lib.indexByte s d = -1 ∧ FM.upto d s = s ∧ FM.behind d s = []) ∨ (Lib.indexByte s d = ((FM.upto d s).length : Int) ∧ (FM.upto d s).length < s.length ∧ FM.upto d s = s.take (FM.upto d s).length ∧ FM.behind d s = s.drop (FM.upto d s).length)
  | [] => .inl ⟨rfl, rfl, rfl⟩
  | c :: r => by
    by_cases h : c = d
    · subst h
      right
      have e1 : FM.upto c (c :: r) = [] := by simp [FM.upto]
      have e2 : FM.behind c (c :: r) = c :: r := by simp [FM.behind]
      rw [e1, e2]
      simp [Lib.indexByte]
    · have e1 : FM.upto d (c :: r) = c :: FM.upto d r := by simp [FM.upto, h]
      have e2 : FM.behind d (c :: r) = FM.behind d r := by simp [FM.behind, h]
      rw [e1, e2]
      rcases idx_upto d r with ⟨h1, h2, h3⟩ | ⟨h1, h2, h3, h4⟩
      · left; exact ⟨by simp [Lib.indexByte, h, h1], by rw [h2], h3⟩
      · right
        refine ⟨?_, by simpa using h2, ?_, ?_⟩
        · have : ¬ Lib.indexByte r d = -1 := by omega
          simp [Lib.indexByte, h, this]; omega
        · simp only [List.length_cons, List.take_succ_cons]; rw [← h3]
        · simp only [List.length_cons, List.drop_succ_cons]; exact h4
end Go.Proofs.YtepdfkgadigafaaGreatDoor
