/-
  The plain law of Unquote, of chapter 04: what a quote says; lists alone, no program in sight.
  Conditions: as each theorem states them.
-/
import Derived.Test.YtlaafamodaogmaaMarkQ
import Derived.Test.YtlaafamodaogmaaUnqD
namespace Go.Proofs.Ytlaafamodaogmaa.SH
open Go.Proofs.Ytlaafamodaogmaa
set_option linter.unusedVariables false
set_option linter.unusedSimpArgs false
theorem esc_mark (c : UInt8) (h : c.toNat ≠ 34) (hp : ¬ (32 ≤ c.toNat ∧ c.toNat < 127 ∧ c.toNat ≠ 92)) (r : List UInt8) : ∃ q n, markS c = 92 :: q ∧ escS (q ++ r) = .ok (c, n) ∧ n = q.length := by
  have key : ∀ n : Nat, n < 256 → n ≠ 34 → ¬ (32 ≤ n ∧ n < 127 ∧ n ≠ 92) → (n = 92 ∨ (7 ≤ n ∧ n < 14) ∨ (¬ (7 ≤ n ∧ n < 14) ∧ ¬ (32 ≤ n ∧ n < 127) ∧ n ≠ 92)) := by omega
  have hc := UInt8.toNat_lt c
  rcases key c.toNat hc h hp with h1 | h1 | ⟨h1, h2, h3⟩
  · refine ⟨[92], 1, by unfold markS; rw [if_pos h1], ?_, rfl⟩
    have : c = 92 := UInt8.toNat_inj.1 h1
    subst this; rfl
  · have h9 : c.toNat ≠ 92 := by omega
    refine ⟨[lettersW.getD (c.toNat - 7) 0], 1, by unfold markS; rw [if_neg h9, if_pos h1], ?_, rfl⟩
    have h8 : c.toNat = 7 ∨ c.toNat = 8 ∨ c.toNat = 9 ∨ c.toNat = 10 ∨ c.toNat = 11 ∨ c.toNat = 12 ∨ c.toNat = 13 := by omega
    have hu : ∀ m : Nat, c.toNat = m → c = UInt8.ofNat m := fun m hm => by rw [← hm]; simp
    rcases h8 with e | e | e | e | e | e | e <;> (rw [hu _ e]; rfl)
  · refine ⟨oct3 c.toNat, 3, by unfold markS; rw [if_neg h3, if_neg h1, if_neg h2], ?_, rfl⟩
    have ht : ∀ m : Nat, m < 256 → (UInt8.ofNat m).toNat = m := fun m hm => ofNat_toNat hm
    have a0 := ht (48 + c.toNat / 64) (by omega)
    have a1 := ht (48 + c.toNat / 8 % 8) (by omega)
    have a2 := ht (48 + c.toNat % 8) (by omega)
    have o0 : octB (UInt8.ofNat (48 + c.toNat / 64)) = true := by unfold octB; rw [a0]; simp; omega
    have o1 : octB (UInt8.ofNat (48 + c.toNat / 8 % 8)) = true := by unfold octB; rw [a1]; simp; omega
    have o2 : octB (UInt8.ofNat (48 + c.toNat % 8)) = true := by unfold octB; rw [a2]; simp; omega
    have hone : oneS (UInt8.ofNat (48 + c.toNat / 64)) = none := by
      have : ∀ m : Nat, m < 4 → oneS (UInt8.ofNat (48 + m)) = none := by decide
      exact this _ (by omega)
    unfold escS oct3
    simp only [List.cons_append, List.nil_append, hone]
    unfold octS
    simp only [o0, o1, o2, a0, a1, a2]
    have e : (48 + c.toNat / 64 - 48) * 64 + (48 + c.toNat / 8 % 8 - 48) * 8 + (48 + c.toNat % 8 - 48) = c.toNat := by omega
    rw [e]
    simp [show ¬ 255 < c.toNat by omega]
/-- what is quoted is read as it was -/
theorem unq_quote : ∀ (l out : List UInt8) (a : Nat) (r : List UInt8), (unqS out a (l.flatMap quoteB ++ 34 :: r)).1 = out ++ l ∧ (unqS out a (l.flatMap quoteB ++ 34 :: r)).2.2 = 0 := by
  intro l
  induction l with
  | nil => intro out a r; rw [List.flatMap_nil, List.nil_append, unqS_end]; simp
  | cons c l ih =>
    intro out a r
    rw [List.flatMap_cons, List.append_assoc]
    by_cases h34 : c.toNat = 34
    · have : c = 34 := UInt8.toNat_inj.1 h34
      subst this
      rw [show quoteB 34 = [92, 34] from rfl, List.cons_append, List.cons_append, List.nil_append, unqS_esc out a (34 :: (l.flatMap quoteB ++ 34 :: r)) 34 1 rfl]
      have := ih (out ++ [34]) (a + 1 + 1) r
      simpa using this
    · have hq : quoteB c = markS c := by unfold quoteB; rw [if_neg h34]
      rw [hq]
      by_cases hp : 32 ≤ c.toNat ∧ c.toNat < 127 ∧ c.toNat ≠ 92
      · have hm : markS c = [c] := by unfold markS; rw [if_neg hp.2.2, if_neg (by omega), if_pos ⟨hp.1, hp.2.1⟩]
        rw [hm, List.cons_append, List.nil_append, unqS_plain _ _ _ _ (fun e => h34 (by rw [e]; rfl)) (fun e => hp.2.2 (by rw [e]; rfl))]
        have := ih (out ++ [c]) (a + 1) r
        simpa using this
      · obtain ⟨q, n, hm, he, hn⟩ := esc_mark c h34 hp (l.flatMap quoteB ++ 34 :: r)
        rw [hm, List.cons_append, unqS_esc out a _ c n he, hn, List.drop_left]
        have := ih (out ++ [c]) (a + 1 + q.length) r
        simpa using this
theorem unquote_quote (l : List UInt8) : (unquoteS (quoteS l) 0).1 = l ∧ (unquoteS (quoteS l) 0).2.2 = 0 := by
  have h := unq_quote l [] 1 []
  unfold unquoteS quoteS
  rw [if_neg (by simp; omega)]
  simpa using h
/-- .. and the place behind it -/
theorem unq_full : ∀ (l out : List UInt8) (a : Nat) (r : List UInt8), unqS out a (l.flatMap quoteB ++ 34 :: r) = (out ++ l, ((a + (l.flatMap quoteB).length + 1 : Nat) : Int), 0) := by
  intro l
  induction l with
  | nil => intro out a r; rw [List.flatMap_nil, List.nil_append, unqS_end]; simp
  | cons c l ih =>
    intro out a r
    rw [List.flatMap_cons, List.append_assoc]
    by_cases h34 : c.toNat = 34
    · have : c = 34 := UInt8.toNat_inj.1 h34
      subst this
      rw [show quoteB 34 = [92, 34] from rfl, List.cons_append, List.cons_append, List.nil_append, unqS_esc out a (34 :: (l.flatMap quoteB ++ 34 :: r)) 34 1 rfl]
      have := ih (out ++ [34]) (a + 1 + 1) r
      rw [List.drop_succ_cons, List.drop_zero, this]
      simp only [List.append_assoc, List.cons_append, List.nil_append, List.length_cons, Prod.mk.injEq, and_true, true_and]
      omega
    · have hq : quoteB c = markS c := by unfold quoteB; rw [if_neg h34]
      rw [hq]
      by_cases hp : 32 ≤ c.toNat ∧ c.toNat < 127 ∧ c.toNat ≠ 92
      · have hm : markS c = [c] := by unfold markS; rw [if_neg hp.2.2, if_neg (by omega), if_pos ⟨hp.1, hp.2.1⟩]
        rw [hm, List.cons_append, List.nil_append, unqS_plain _ _ _ _ (fun e => h34 (by rw [e]; rfl)) (fun e => hp.2.2 (by rw [e]; rfl))]
        have := ih (out ++ [c]) (a + 1) r
        rw [this]
        simp only [List.append_assoc, List.cons_append, List.nil_append, List.length_cons, Prod.mk.injEq, and_true, true_and]
        omega
      · obtain ⟨q, n, hm, he, hn⟩ := esc_mark c h34 hp (l.flatMap quoteB ++ 34 :: r)
        rw [hm, List.cons_append, unqS_esc out a _ c n he, hn, List.drop_left]
        have := ih (out ++ [c]) (a + 1 + q.length) r
        rw [this]
        simp only [List.append_assoc, List.cons_append, List.nil_append, List.length_cons, List.length_append, Prod.mk.injEq, and_true, true_and]
        omega
end Go.Proofs.Ytlaafamodaogmaa.SH
