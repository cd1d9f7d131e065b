/-
  The plain law of Unquote, of chapter 04: what a quote says; lists alone, no program in sight.
  Conditions: as each theorem states them.
-/
import Derived.Test.YtjfpepinmbbnbaaDoorShow2
namespace Go.Proofs.YtjfpepinmbbnbaaDoor
set_option linter.unusedVariables false
set_option linter.unusedSimpArgs false
/-- the byte of a letter behind a backslash; none: it is none -/
def oneS (d : UInt8) : Option UInt8 := if d = 34 then some 34 else if d = 92 then some 92 else match lettersW.findIdx? (· == d) with | some k => some (UInt8.ofNat (7 + k)) | none => none
def octB (c : UInt8) : Bool := decide (48 ≤ c.toNat) && decide (c.toNat ≤ 55)
/-- three digits behind a backslash: the byte, or an error -/
def octS (s : List UInt8) : Except Int UInt8 :=
  match s with
  | [] => .error 2
  | a :: r => if octB a = false then .error 10 else
    match r with
    | [] => .error 2
    | b :: q => if octB b = false then .error 10 else
      match q with
      | [] => .error 2
      | c :: _ => if octB c = false then .error 10 else
        let n := (a.toNat - 48) * 64 + (b.toNat - 48) * 8 + (c.toNat - 48)
        if 255 < n then .error 10 else .ok (UInt8.ofNat n)
/-- what stands behind a backslash: the byte, and how many bytes it takes -/
def escS (s : List UInt8) : Except Int (UInt8 × Nat) :=
  match s with
  | [] => .error 2
  | d :: _ => match oneS d with
    | some x => .ok (x, 1)
    | none => match octS s with | .ok x => .ok (x, 3) | .error e => .error e
theorem escS_len {s : List UInt8} {x : UInt8} {n : Nat} (h : escS s = .ok (x, n)) : 1 ≤ n ∧ n ≤ s.length := by
  unfold escS at h
  cases s with
  | nil => cases h
  | cons d r =>
    simp only at h
    cases ho : oneS d with
    | some y => rw [ho] at h; injection h with h; injection h with _ h; subst h; simp
    | none =>
      rw [ho] at h
      simp only at h
      cases hq : octS (d :: r) with
      | error e => rw [hq] at h; cases h
      | ok y =>
        rw [hq] at h
        injection h with h; injection h with _ h; subst h
        unfold octS at hq
        cases r with
        | nil => simp only at hq; split at hq <;> cases hq
        | cons b q =>
          cases q with
          | nil => simp only at hq; (repeat' split at hq) <;> cases hq
          | cons c t => simp
/-- the rest of a quote, read from a place on: the bytes, the place behind, an error's number -/
def unqS (out : List UInt8) (at_ : Nat) (s : List UInt8) : List UInt8 × Int × Int :=
  match s with
  | [] => ([], 0, 2)
  | c :: r =>
    if c = 34 then (out, (at_ : Int) + 1, 0)
    else if c = 92 then
      match h : escS r with
      | .error e => ([], 0, e)
      | .ok (x, n) => unqS (out ++ [x]) (at_ + 1 + n) (r.drop n)
    else unqS (out ++ [c]) (at_ + 1) r
termination_by s.length
decreasing_by
  · have := escS_len h; simp only [List.length_drop, List.length_cons]; omega
  · simp
theorem unqS_nil (out : List UInt8) (a : Nat) : unqS out a [] = ([], 0, 2) := by rw [unqS]
theorem unqS_end (out : List UInt8) (a : Nat) (r : List UInt8) : unqS out a (34 :: r) = (out, (a : Int) + 1, 0) := by rw [unqS, if_pos rfl]
theorem unqS_plain (out : List UInt8) (a : Nat) (c : UInt8) (r : List UInt8) (h1 : c ≠ 34) (h2 : c ≠ 92) : unqS out a (c :: r) = unqS (out ++ [c]) (a + 1) r := by rw [unqS, if_neg h1, if_neg h2]
theorem unqS_err (out : List UInt8) (a : Nat) (r : List UInt8) (e : Int) (h : escS r = .error e) : unqS out a (92 :: r) = ([], 0, e) := by
  rw [unqS, if_neg (by decide), if_pos rfl]
  split
  · rename_i e' h'; rw [h] at h'; injection h' with h'; rw [h']
  · rename_i x n h'; rw [h] at h'; cases h'
theorem unqS_esc (out : List UInt8) (a : Nat) (r : List UInt8) (x : UInt8) (n : Nat) (h : escS r = .ok (x, n)) : unqS out a (92 :: r) = unqS (out ++ [x]) (a + 1 + n) (r.drop n) := by
  rw [unqS, if_neg (by decide), if_pos rfl]
  split
  · rename_i e' h'; rw [h] at h'; cases h'
  · rename_i x' n' h'; rw [h] at h'; injection h' with h'; injection h' with h1 h2; subst h1; subst h2; rfl
/-- a quote: what it says, from a place on -/
def unquoteS (s : List UInt8) (at_ : Int) : List UInt8 × Int × Int :=
  if at_ < 0 ∨ (s.length : Int) < at_ then ([], 0, 1)
  else match s.drop at_.toNat with
    | [] => ([], 0, 9)
    | c :: r => if c ≠ 34 then ([], 0, 9) else unqS [] (at_.toNat + 1) r
/-- a mark is read as its byte -/
theorem esc_mark (c : UInt8) (h : c.toNat ≠ 34) (hp : ¬ (32 ≤ c.toNat ∧ c.toNat < 127 ∧ c.toNat ≠ 92)) (r : List UInt8) : ∃ q n, markS c = 92 :: q ∧ escS (q ++ r) = .ok (c, n) ∧ n = q.length := by
  have key : ∀ n : Nat, n < 256 → n ≠ 34 → ¬ (32 ≤ n ∧ n < 127 ∧ n ≠ 92) → (n = 92 ∨ (7 ≤ n ∧ n < 14) ∨ (¬ (7 ≤ n ∧ n < 14) ∧ ¬ (32 ≤ n ∧ n < 127) ∧ n ≠ 92)) := by omega
  have hc := UInt8.toNat_lt c
  rcases key c.toNat hc h hp with h1 | h1 | ⟨h1, h2, h3⟩
  · refine ⟨[92], 1, by unfold markS; rw [if_pos h1], ?_, rfl⟩
    have : c = 92 := UInt8.toNat_inj.1 h1
    subst this; rfl
  · have h9 : c.toNat ≠ 92 := by omega
    refine ⟨[lettersW.getD (c.toNat - 7) 0], 1, by unfold markS; rw [if_neg h9, if_pos h1], ?_, rfl⟩
    have h8 : c.toNat = 7 ∨ c.toNat = 8 ∨ c.toNat = 9 ∨ c.toNat = 10 ∨ c.toNat = 11 ∨ c.toNat = 12 ∨ c.toNat = 13 := by omega
    have hu : ∀ m : Nat, c.toNat = m → c = UInt8.ofNat m := fun m hm => by rw [← hm]; simp
    rcases h8 with e | e | e | e | e | e | e <;> (rw [hu _ e]; rfl)
  · refine ⟨oct3 c.toNat, 3, by unfold markS; rw [if_neg h3, if_neg h1, if_neg h2], ?_, rfl⟩
    have ht : ∀ m : Nat, m < 256 → (UInt8.ofNat m).toNat = m := fun m hm => ofNat_toNat hm
    have a0 := ht (48 + c.toNat / 64) (by omega)
    have a1 := ht (48 + c.toNat / 8 % 8) (by omega)
    have a2 := ht (48 + c.toNat % 8) (by omega)
    have o0 : octB (UInt8.ofNat (48 + c.toNat / 64)) = true := by unfold octB; rw [a0]; simp; omega
    have o1 : octB (UInt8.ofNat (48 + c.toNat / 8 % 8)) = true := by unfold octB; rw [a1]; simp; omega
    have o2 : octB (UInt8.ofNat (48 + c.toNat % 8)) = true := by unfold octB; rw [a2]; simp; omega
    have hone : oneS (UInt8.ofNat (48 + c.toNat / 64)) = none := by
      have : ∀ m : Nat, m < 4 → oneS (UInt8.ofNat (48 + m)) = none := by decide
      exact this _ (by omega)
    unfold escS oct3
    simp only [List.cons_append, List.nil_append, hone]
    unfold octS
    simp only [o0, o1, o2, a0, a1, a2]
    have e : (48 + c.toNat / 64 - 48) * 64 + (48 + c.toNat / 8 % 8 - 48) * 8 + (48 + c.toNat % 8 - 48) = c.toNat := by omega
    rw [e]
    simp [show ¬ 255 < c.toNat by omega]
/-- what is quoted is read as it was -/
theorem unq_quote : ∀ (l out : List UInt8) (a : Nat) (r : List UInt8), (unqS out a (l.flatMap quoteB ++ 34 :: r)).1 = out ++ l ∧ (unqS out a (l.flatMap quoteB ++ 34 :: r)).2.2 = 0 := by
  intro l
  induction l with
  | nil => intro out a r; rw [List.flatMap_nil, List.nil_append, unqS_end]; simp
  | cons c l ih =>
    intro out a r
    rw [List.flatMap_cons, List.append_assoc]
    by_cases h34 : c.toNat = 34
    · have : c = 34 := UInt8.toNat_inj.1 h34
      subst this
      rw [show quoteB 34 = [92, 34] from rfl, List.cons_append, List.cons_append, List.nil_append, unqS_esc out a (34 :: (l.flatMap quoteB ++ 34 :: r)) 34 1 rfl]
      have := ih (out ++ [34]) (a + 1 + 1) r
      simpa using this
    · have hq : quoteB c = markS c := by unfold quoteB; rw [if_neg h34]
      rw [hq]
      by_cases hp : 32 ≤ c.toNat ∧ c.toNat < 127 ∧ c.toNat ≠ 92
      · have hm : markS c = [c] := by unfold markS; rw [if_neg hp.2.2, if_neg (by omega), if_pos ⟨hp.1, hp.2.1⟩]
        rw [hm, List.cons_append, List.nil_append, unqS_plain _ _ _ _ (fun e => h34 (by rw [e]; rfl)) (fun e => hp.2.2 (by rw [e]; rfl))]
        have := ih (out ++ [c]) (a + 1) r
        simpa using this
      · obtain ⟨q, n, hm, he, hn⟩ := esc_mark c h34 hp (l.flatMap quoteB ++ 34 :: r)
        rw [hm, List.cons_append, unqS_esc out a _ c n he, hn, List.drop_left]
        have := ih (out ++ [c]) (a + 1 + q.length) r
        simpa using this
theorem unquote_quote (l : List UInt8) : (unquoteS (quoteS l) 0).1 = l ∧ (unquoteS (quoteS l) 0).2.2 = 0 := by
  have h := unq_quote l [] 1 []
  unfold unquoteS quoteS
  rw [if_neg (by simp; omega)]
  simpa using h
/-- of a quote no byte lies below 32 or above 126 -/
theorem mark_seen (c : UInt8) : ∀ x ∈ markS c, 32 ≤ x.toNat ∧ x.toNat ≤ 126 := by
  have hc := UInt8.toNat_lt c
  intro x hx
  unfold markS at hx
  split at hx
  · simp at hx; subst hx; decide
  · split at hx
    · rename_i h7
      simp only [List.mem_cons, List.not_mem_nil, or_false] at hx
      rcases hx with rfl | rfl
      · decide
      · have : ∀ m : Nat, m < 7 → 32 ≤ (lettersW.getD m 0).toNat ∧ (lettersW.getD m 0).toNat ≤ 126 := by decide
        exact this _ (by omega)
    · split at hx
      · simp at hx; subst hx; omega
      · simp only [oct3, List.mem_cons, List.not_mem_nil, or_false] at hx
        have ht : ∀ m : Nat, m < 256 → (UInt8.ofNat m).toNat = m := fun m hm => ofNat_toNat hm
        rcases hx with rfl | rfl | rfl | rfl
        · decide
        · rw [ht _ (by omega)]; omega
        · rw [ht _ (by omega)]; omega
        · rw [ht _ (by omega)]; omega
theorem quote_seen (l : List UInt8) : ∀ x ∈ quoteS l, 32 ≤ x.toNat ∧ x.toNat ≤ 126 := by
  intro x hx
  simp only [quoteS, List.mem_cons, List.mem_append, List.mem_flatMap, List.not_mem_nil, or_false] at hx
  rcases hx with rfl | ⟨c, _, hx⟩ | rfl
  · decide
  · unfold quoteB at hx
    split at hx
    · simp at hx; rcases hx with rfl | rfl <;> decide
    · exact mark_seen c x hx
  · decide
end Go.Proofs.YtjfpepinmbbnbaaDoor
