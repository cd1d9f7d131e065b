/-
  The plain law of Unquote, of chapter 04, without that of Quote: what a quote says; lists alone, no program in sight.
  Conditions: as each theorem states them.
-/
import Derived.Test.YtepdfkgadigafaaGreatDoorBase
namespace Go.Proofs.YtepdfkgadigafaaGreatDoor
set_option linter.unusedVariables false
set_option linter.unusedSimpArgs false
/-- the letters of the marks of the bytes from 7 on -/
def lettersW : List UInt8 := [97, 98, 116, 110, 118, 102, 114]
/-- the byte of a letter behind a backslash; none: it is none -/
def oneS (d : UInt8) : Option UInt8 := if d = 34 then some 34 else if d = 92 then some 92 else match lettersW.findIdx? (· == d) with | some k => some (UInt8.ofNat (7 + k)) | none => none
def octB (c : UInt8) : Bool := decide (48 ≤ c.toNat) && decide (c.toNat ≤ 55)
/-- three digits behind a backslash: the byte, or an error -/
def octS (s : List UInt8) : Except Int UInt8 :=
  match s with
  | [] => .error 2
  | a :: r => if octB a = false then .error 10 else
    match r with
    | [] => .error 2
    | b :: q => if octB b = false then .error 10 else
      match q with
      | [] => .error 2
      | c :: _ => if octB c = false then .error 10 else
        let n := (a.toNat - 48) * 64 + (b.toNat - 48) * 8 + (c.toNat - 48)
        if 255 < n then .error 10 else .ok (UInt8.ofNat n)
/-- what stands behind a backslash: the byte, and how many bytes it takes -/
def escS (s : List UInt8) : Except Int (UInt8 × Nat) :=
  match s with
  | [] => .error 2
  | d :: _ => match oneS d with
    | some x => .ok (x, 1)
    | none => match octS s with | .ok x => .ok (x, 3) | .error e => .error e
theorem escS_len {s : List UInt8} {x : UInt8} {n : Nat} (h : escS s = .ok (x, n)) : 1 ≤ n ∧ n ≤ s.length := by
  unfold escS at h
  cases s with
  | nil => cases h
  | cons d r =>
    simp only at h
    cases ho : oneS d with
    | some y => rw [ho] at h; injection h with h; injection h with _ h; subst h; simp
    | none =>
      rw [ho] at h
      simp only at h
      cases hq : octS (d :: r) with
      | error e => rw [hq] at h; cases h
      | ok y =>
        rw [hq] at h
        injection h with h; injection h with _ h; subst h
        unfold octS at hq
        cases r with
        | nil => simp only at hq; split at hq <;> cases hq
        | cons b q =>
          cases q with
          | nil => simp only at hq; (repeat' split at hq) <;> cases hq
          | cons c t => simp
/-- the rest of a quote, read from a place on: the bytes, the place behind, an error's number -/
def unqS (out : List UInt8) (at_ : Nat) (s : List UInt8) : List UInt8 × Int × Int :=
  match s with
  | [] => ([], 0, 2)
  | c :: r =>
    if c = 34 then (out, (at_ : Int) + 1, 0)
    else if c = 92 then
      match h : escS r with
      | .error e => ([], 0, e)
      | .ok (x, n) => unqS (out ++ [x]) (at_ + 1 + n) (r.drop n)
    else unqS (out ++ [c]) (at_ + 1) r
termination_by s.length
decreasing_by
  · have := escS_len h; simp only [List.length_drop, List.length_cons]; omega
  · simp
theorem unqS_nil (out : List UInt8) (a : Nat) : unqS out a [] = ([], 0, 2) := by rw [unqS]
theorem unqS_end (out : List UInt8) (a : Nat) (r : List UInt8) : unqS out a (34 :: r) = (out, (a : Int) + 1, 0) := by rw [unqS, if_pos rfl]
theorem unqS_plain (out : List UInt8) (a : Nat) (c : UInt8) (r : List UInt8) (h1 : c ≠ 34) (h2 : c ≠ 92) : unqS out a (c :: r) = unqS (out ++ [c]) (a + 1) r := by rw [unqS, if_neg h1, if_neg h2]
theorem unqS_err (out : List UInt8) (a : Nat) (r : List UInt8) (e : Int) (h : escS r = .error e) : unqS out a (92 :: r) = ([], 0, e) := by
  rw [unqS, if_neg (by decide), if_pos rfl]
  split
  · rename_i e' h'; rw [h] at h'; injection h' with h'; rw [h']
  · rename_i x n h'; rw [h] at h'; cases h'
theorem unqS_esc (out : List UInt8) (a : Nat) (r : List UInt8) (x : UInt8) (n : Nat) (h : escS r = .ok (x, n)) : unqS out a (92 :: r) = unqS (out ++ [x]) (a + 1 + n) (r.drop n) := by
  rw [unqS, if_neg (by decide), if_pos rfl]
  split
  · rename_i e' h'; rw [h] at h'; cases h'
  · rename_i x' n' h'; rw [h] at h'; injection h' with h'; injection h' with h1 h2; subst h1; subst h2; rfl
/-- a quote: what it says, from a place on -/
def unquoteS (s : List UInt8) (at_ : Int) : List UInt8 × Int × Int :=
  if at_ < 0 ∨ (s.length : Int) < at_ then ([], 0, 1)
  else match s.drop at_.toNat with
    | [] => ([], 0, 9)
    | c :: r => if c ≠ 34 then ([], 0, 9) else unqS [] (at_.toNat + 1) r
end Go.Proofs.YtepdfkgadigafaaGreatDoor
