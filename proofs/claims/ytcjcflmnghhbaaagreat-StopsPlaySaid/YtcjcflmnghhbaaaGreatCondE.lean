/-
  The plain law of conditions: no error is 0; of chapter 27.
  Conditions: as each theorem states them.
-/
import Derived.Test.YtcjcflmnghhbaaaGreatCondMl
namespace Go.Proofs.YtcjcflmnghhbaaaGreat
set_option linter.unusedVariables false
set_option linter.unusedSimpArgs false
namespace CM
theorem piece_err {s : List UInt8} {b a : Nat} {t : List UInt8} {x : Int} (h : pieceS s b t = .error (a, x)) : x ≠ 0 := by
  unfold pieceS at h
  split at h
  · cases h
  · split at h
    · simp only at h
      split at h
      · cases h
      · simp only [Except.error.injEq, Prod.mk.injEq] at h; omega
    · split at h
      · simp only at h
        split at h
        · cases h
        · rename_i hz
          simp only [Except.error.injEq, Prod.mk.injEq] at h
          rw [← h.2]; exact hz
      · split at h
        · simp only at h
          split at h
          · cases h
          · rename_i hz
            simp only [Except.error.injEq, Prod.mk.injEq] at h
            rw [← h.2]; exact hz
        · split at h
          · cases h
          · split at h
            · simp only [Except.error.injEq, Prod.mk.injEq] at h; omega
            · cases h
theorem next_er {s : List UInt8} {p : Ps} {a : Nat} {x : Int} (h : p.next s = .error (a, x)) : x ≠ 0 := by
  unfold Ps.next at h
  split at h
  · rename_i e he
    simp only [Except.error.injEq] at h
    subst h
    exact piece_err he
  · cases h
theorem nine {a b : Nat} {x : Int} {α : Type} (h : (Except.error (a, 9) : Except Er α) = .error (b, x)) : x ≠ 0 := by
  simp only [Except.error.injEq, Prod.mk.injEq] at h; omega
theorem take_er {s : List UInt8} {p : Ps} {k a : Nat} {x : Int} (h : p.take s k = .error (a, x)) : x ≠ 0 := by
  unfold Ps.take at h
  split at h
  · split at h
    · rename_i e he
      simp only [Except.error.injEq] at h
      subst h
      exact next_er he
    · cases h
  · exact nine h
theorem same_er {e : Er} {a : Nat} {x : Int} {α : Type} (h : (Except.error e : Except Er α) = .error (a, x)) : e = (a, x) := by injection h
theorem number_er {s : List UInt8} {get : Sv → Int} {p : Ps} {a : Nat} {x : Int} (h : numberS s get p = .error (a, x)) : x ≠ 0 := by
  unfold numberS at h
  repeat' split at h
  all_goals first
    | (cases h; done)
    | exact nine h
    | (obtain rfl := same_er h; first | (exact next_er (by assumption)) | (exact take_er (by assumption)))
theorem text_er {s : List UInt8} {get : Sv → List UInt8} {p : Ps} {a : Nat} {x : Int} (h : textS s get p = .error (a, x)) : x ≠ 0 := by
  unfold textS at h
  repeat' split at h
  all_goals first
    | (cases h; done)
    | exact nine h
    | (obtain rfl := same_er h; first | (exact next_er (by assumption)) | (exact take_er (by assumption)))
theorem phase_er {s : List UInt8} {p : Ps} {a : Nat} {x : Int} (h : phaseS s p = .error (a, x)) : x ≠ 0 := by
  unfold phaseS at h
  repeat' split at h
  all_goals first
    | (cases h; done)
    | exact nine h
    | (obtain rfl := same_er h; exact next_er (by assumption))
theorem atom_er {s : List UInt8} {p : Ps} {a : Nat} {x : Int} (h : atomS s p = .error (a, x)) : x ≠ 0 := by
  unfold atomS at h
  repeat' split at h
  all_goals first
    | (cases h; done)
    | exact number_er h
    | exact text_er h
    | exact phase_er h
    | exact nine h
    | (obtain rfl := same_er h; exact next_er (by assumption))
theorem deeper_er {s : List UInt8} {p : Ps} {a : Nat} {x : Int} (h : deeperS s p = .error (a, x)) : x ≠ 0 := by
  unfold deeperS at h
  split at h
  · simp only [Except.error.injEq, Prod.mk.injEq] at h; omega
  · exact next_er h
theorem run_er (s : List UInt8) : ∀ (n : Nat) (m : Md) (p : Ps) (a : Nat) (x : Int), run s n m p = .error (a, x) → x ≠ 0
  | 0, m, p, a, x, h => by simp only [run, Except.error.injEq, Prod.mk.injEq] at h; omega
  | n + 1, m, p, a, x, h => by
    have ih := fun m p a x h => run_er s n m p a x h
    cases m <;> simp only [run] at h <;> (repeat' split at h)
    all_goals first
      | (cases h; done)
      | exact atom_er h
      | exact nine h
      | exact ih _ _ _ _ h
      | (obtain rfl := same_er h; first | (exact next_er (by assumption)) | (exact deeper_er (by assumption)) | (exact ih _ _ _ _ (by assumption)))
theorem parse_er {s : List UInt8} {a : Nat} {x : Int} (h : parseS s = .error (a, x)) : x ≠ 0 := by
  unfold parseS at h
  split at h
  · simp only [Except.error.injEq, Prod.mk.injEq] at h; omega
  · split at h
    · rename_i e he
      obtain rfl := same_er h
      exact piece_err he
    · split at h
      · rename_i e he
        obtain rfl := same_er h
        exact run_er _ _ _ _ _ _ he
      · split at h
        · cases h
        · exact nine h
end CM
end Go.Proofs.YtcjcflmnghhbaaaGreat
