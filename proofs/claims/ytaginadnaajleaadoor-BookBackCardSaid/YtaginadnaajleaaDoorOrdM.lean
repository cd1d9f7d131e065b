/-
  The plain law of chapter 29: what a line of the debugger says; lists alone, no program in sight.
  Conditions: as each theorem states them.
-/
import Derived.Test.YtaginadnaajleaaDoorNum
namespace Go.Proofs.YtaginadnaajleaaDoor.OM
open Go.Proofs.YtaginadnaajleaaDoor
set_option linter.unusedVariables false
abbrev Bytes := List UInt8
structure Ord where
  kind : Int
  n : Int
  m : Int
  s : Bytes
def none : Ord := ⟨0, 0, 0, []⟩
def nb (c : UInt8) : Bool := decide (c ≠ 32)
/-- a line's words, and where each begins -/
def wds (pos : Nat) (l : Bytes) : List (Nat × Bytes) :=
  match l with
  | [] => []
  | c :: r => if c = 32 then wds (pos + 1) r else (pos, c :: r.takeWhile nb) :: wds (pos + 1 + (r.takeWhile nb).length) (r.dropWhile nb)
termination_by l.length
decreasing_by
  · simp
  · simp only [List.length_cons]
    have := (List.dropWhile_sublist nb (l := r)).length_le
    omega
theorem wds_nil (p : Nat) : wds p [] = [] := by rw [wds]
theorem wds_blank (p : Nat) (r : Bytes) : wds p (32 :: r) = wds (p + 1) r := by rw [wds]; simp
theorem wds_word (p : Nat) (c : UInt8) (r : Bytes) (h : c ≠ 32) : wds p (c :: r) = (p, c :: r.takeWhile nb) :: wds (p + 1 + (r.takeWhile nb).length) (r.dropWhile nb) := by rw [wds, if_neg h]
/-- whether a name is one -/
def isName (s : Bytes) : Bool := decide (1 ≤ s.length) && decide (s.length ≤ 64) && s.all fun c => decide (33 ≤ c.toNat) && decide (c.toNat ≤ 126)
/-- a number, and an error's number -/
def num (s : Bytes) : Int × Int :=
  if s.all dig = true then ((numS s 0 2147483648).1, (numS s 0 2147483648).2.2) else (0, 9)
def cmdW : Bytes := [99, 109, 100]
def lineW : Bytes := [108, 105, 110, 101]
def watchW : Bytes := [119, 97, 116, 99, 104]
def breakW : Bytes := [98, 114, 101, 97, 107]
def listW : Bytes := [108, 105, 115, 116]
def showW : Bytes := [115, 104, 111, 119]
def fileW : Bytes := [102, 105, 108, 101]
def shownW : List Bytes := [[112, 97, 116, 116, 101, 114, 110], [104, 111, 108, 100], [114, 101, 115, 116], [111, 117, 116], [112, 108, 97, 99, 101], [114, 101, 103, 115], [119, 97, 105, 116, 115], [102, 105, 108, 101, 115]]
/-- where a word stands among some; -1: it doesn't -/
def idx (l : List Bytes) (s : Bytes) : Int := match l.findIdx? (· == s) with | some i => (i : Int) | .none => -1
def rulesT : List (Bytes × (Int × Bool × Bool × Bool)) := [
  ([115, 116, 101, 112], (1, true, true, true)), ([110, 101, 120, 116], (2, true, true, true)), ([98, 97, 99, 107], (4, true, true, true)),
  ([99, 111, 110, 116], (3, false, false, false)), ([114, 101, 118, 101, 114, 116], (5, false, false, false)), ([103, 111, 116, 111], (6, true, false, false)),
  ([100, 101, 108, 101, 116, 101], (9, true, false, false)), ([101, 110, 97, 98, 108, 101], (10, true, false, false)), ([100, 105, 115, 97, 98, 108, 101], (11, true, false, false)),
  ([115, 116, 111, 112, 115], (12, false, false, false)), ([111, 117, 116], (15, false, false, false)), ([119, 104, 101, 114, 101], (17, false, false, false))]
def ruleOf (s : Bytes) : Option (Int × Bool × Bool × Bool) := rulesT.lookup s
/-- what stands behind a first word that has a rule -/
def read (r : Int × Bool × Bool × Bool) (l : List Bytes) : Ord × Int :=
  let o : Ord := ⟨r.1, if r.2.2.1 = true then 1 else 0, 0, []⟩
  match l with
  | [] => (o, if r.2.1 = true ∧ r.2.2.1 = false then 9 else 0)
  | x :: rest =>
    if r.2.1 = true then
      let n := (num x).1
      let e := if (num x).2 = 0 ∧ r.2.2.2 = true ∧ (n < 1 ∨ 100000 < n) then 3 else (num x).2
      if e ≠ 0 then (o, e) else ({ o with n := n }, if rest = [] then 0 else 9)
    else (o, 9)
def breaks (l : List Bytes) : Ord × Int :=
  match l with
  | [] => (⟨7, 0, 0, []⟩, 9)
  | [_] => (⟨7, 0, 0, []⟩, 9)
  | w :: x :: r =>
    if w = cmdW ∨ w = lineW then (⟨7, (num x).1, if w = lineW then 1 else 0, []⟩, if (num x).2 = 0 ∧ r ≠ [] then 9 else (num x).2)
    else (⟨7, 0, 0, []⟩, 9)
def list (l : List Bytes) : Ord × Int :=
  match l with
  | [] => (⟨13, 0, 200, []⟩, 0)
  | x :: r =>
    if (num x).2 ≠ 0 then (⟨13, 0, 200, []⟩, (num x).2) else
    match r with
    | [] => (⟨13, (num x).1, 200, []⟩, 0)
    | y :: q => if (num y).2 ≠ 0 then (⟨13, (num x).1, 200, []⟩, (num y).2) else (⟨13, (num x).1, (num y).1, []⟩, if q = [] then 0 else 9)
def named (first : Bytes) (l : List Bytes) : Ord × Int :=
  match l with
  | [] => (none, 9)
  | x :: r =>
    if first = fileW then (⟨16, 0, 0, x⟩, if isName x = true then (if r = [] then 0 else 9) else 4)
    else (⟨14, 0, 0, x⟩, if x ∈ shownW then (if r = [] then 0 else 9) else 9)
def fin (x : Ord × Int) : Ord × Int := if x.2 = 0 then x else (none, x.2)
/-- what a line says whose first word is not watch -/
def rest1 (w : Bytes) (r : List Bytes) : Ord × Int :=
  if w = breakW then fin (breaks r)
  else if w = listW then fin (list r)
  else if w = showW ∨ w = fileW then fin (named w r)
  else match ruleOf w with | .none => (none, 30) | some q => fin (read q r)
/-- what a line says, by its words -/
def parseW (line : Bytes) (l : List (Nat × Bytes)) : Ord × Int :=
  match l with
  | [] => (none, 30)
  | (_, w) :: r =>
    if w = watchW then match r with | [] => (none, 9) | (p, _) :: _ => (⟨8, 0, 0, line.drop p⟩, 0)
    else if w = breakW then fin (breaks (r.map (·.2)))
    else if w = listW then fin (list (r.map (·.2)))
    else if w = showW ∨ w = fileW then fin (named w (r.map (·.2)))
    else match ruleOf w with | .none => (none, 30) | some q => fin (read q (r.map (·.2)))
def parse (line : Bytes) : Ord × Int := parseW line (wds 0 line)
end Go.Proofs.YtaginadnaajleaaDoor.OM
