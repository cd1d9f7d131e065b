/-
  The plain law of chapter 32: what a book says; lists alone, no program in sight.
  Conditions: as each theorem states them.
-/
import Derived.Test.YtaginadnaajleaaDoorUnqD
import Derived.Test.YtaginadnaajleaaDoorOrdM
namespace Go.Proofs.YtaginadnaajleaaDoor.BM
open Go.Proofs.YtaginadnaajleaaDoor
set_option linter.unusedVariables false
set_option linter.unusedSimpArgs false
abbrev Bytes := List UInt8
/-- a case -/
structure Cs where
  sed : Bytes
  quiet : Bool
  separate : Bool
  place : Bool
  extended : Bool
  inputs : List Bytes
  files : List (Bytes × Bytes)
  cap : Int
  period : Int
  fuel : Int
  lines : List Bytes
def init : Cs := ⟨[], false, false, false, false, [], [], 100, 10, 10000, []⟩
def zero : Cs := ⟨[], false, false, false, false, [], [], 0, 0, 0, []⟩
/-- what stands ahead of the first blank, what behind it, and whether there is one -/
def cut (s : Bytes) : Bytes × Bytes × Bool := (s.takeWhile OM.nb, s.drop ((s.takeWhile OM.nb).length + 1), decide ((s.takeWhile OM.nb).length < s.length))
/-- a quote that goes to the end -/
def quoteAll (s : Bytes) : Bytes × Int := if (unquoteS s 0).2.2 = 0 ∧ (unquoteS s 0).2.1 < s.length then ((unquoteS s 0).1, 9) else ((unquoteS s 0).1, (unquoteS s 0).2.2)
/-- a number that goes to the end -/
def numAll (s : Bytes) : Int × Int := if s.all dig = true then ((numS s 0 1073741824).1, (numS s 0 1073741824).2.2) else (0, 9)
def sedW : Bytes := [115, 101, 100]
def optionW : Bytes := [111, 112, 116, 105, 111, 110]
def inputW : Bytes := [105, 110, 112, 117, 116]
def fileW : Bytes := [102, 105, 108, 101]
def capacityW : Bytes := [99, 97, 112, 97, 99, 105, 116, 121]
def periodW : Bytes := [112, 101, 114, 105, 111, 100]
def fuelW : Bytes := [102, 117, 101, 108]
def doW : Bytes := [100, 111]
def quietW : Bytes := [113, 117, 105, 101, 116]
def separateW : Bytes := [115, 101, 112, 97, 114, 97, 116, 101]
def placeW : Bytes := [112, 108, 97, 99, 101]
def extendedW : Bytes := [101, 120, 116, 101, 110, 100, 101, 100]
/-- what each reader reads: an error's number, and the case then -/
def sedR (r : Bytes) (c : Cs) : Int × Cs := if (quoteAll r).2 = 0 then (0, { c with sed := c.sed ++ (quoteAll r).1 }) else ((quoteAll r).2, c)
def optionR (r : Bytes) (c : Cs) : Int × Cs :=
  if r = [] ∨ 32 ∈ r then (9, c) else if r = quietW then (0, { c with quiet := true }) else if r = separateW then (0, { c with separate := true })
  else if r = placeW then (0, { c with place := true }) else if r = extendedW then (0, { c with extended := true }) else (30, c)
def inputR (r : Bytes) (c : Cs) : Int × Cs := if r = [] ∨ 32 ∈ r then (9, c) else (0, { c with inputs := c.inputs ++ [r] })
def fileR (r : Bytes) (c : Cs) : Int × Cs :=
  if (cut r).2.2 = false ∨ (cut r).1 = [] then (9, c) else if (quoteAll (cut r).2.1).2 = 0 then (0, { c with files := c.files ++ [((cut r).1, (quoteAll (cut r).2.1).1)] }) else ((quoteAll (cut r).2.1).2, c)
def capR (r : Bytes) (c : Cs) : Int × Cs := if (numAll r).2 = 0 then (0, { c with cap := (numAll r).1 }) else ((numAll r).2, c)
def periodR (r : Bytes) (c : Cs) : Int × Cs := if (numAll r).2 = 0 then (0, { c with period := (numAll r).1 }) else ((numAll r).2, c)
def fuelR (r : Bytes) (c : Cs) : Int × Cs := if (numAll r).2 = 0 then (0, { c with fuel := (numAll r).1 }) else ((numAll r).2, c)
def doR (r : Bytes) (c : Cs) : Int × Cs := (0, { c with lines := c.lines ++ [r] })
/-- the readers by their words -/
def readers : List (Bytes × (Bytes → Cs → Int × Cs)) := [(sedW, sedR), (optionW, optionR), (inputW, inputR), (fileW, fileR), (capacityW, capR), (periodW, periodR), (fuelW, fuelR), (doW, doR)]
def look (w : Bytes) : Option (Bytes → Cs → Int × Cs) := (readers.find? (fun p => p.1 == w)).map (·.2)
/-- a line -/
def lineS (l : Bytes) (c : Cs) : Int × Cs :=
  match look (cut l).1 with
  | none => (30, c)
  | some f => if (cut l).2.2 = false then (9, c) else f (cut l).2.1 c
/-- the lines of a text -/
def linesS : Bytes → List Bytes
  | [] => []
  | c :: r => if c = 10 then [] :: linesS r else match linesS r with | [] => [[c]] | h :: t => (c :: h) :: t
/-- is a line passed over? -/
def skip (l : Bytes) : Bool := decide (l = [] ∨ l.head? = some 35)
/-- the lines from the i-th on -/
def runS (i : Nat) (c : Cs) : List Bytes → Cs × Int × Int
  | [] => (c, 0, 0)
  | l :: ls => if skip l = true then runS (i + 1) c ls else if (lineS l c).1 = 0 then runS (i + 1) (lineS l c).2 ls else (zero, (i : Int) + 1, (lineS l c).1)
/-- a book: a case, a line's number, an error's -/
def parseS (t : Bytes) : Cs × Int × Int := if 65536 < t.length then (zero, 0, 8) else runS 0 init (linesS t)
/-! ### two books, one behind the other -/
theorem linesS_ne {r : Bytes} (h : r ≠ []) : linesS r ≠ [] := by
  cases r with
  | nil => exact absurd rfl h
  | cons c r =>
    unfold linesS
    split
    · simp
    · split <;> simp
theorem linesS_join (a b : Bytes) : ∃ E : List Bytes, (E = [] ∨ E = [[]]) ∧ linesS (a ++ 10 :: b) = linesS a ++ E ++ linesS b := by
  induction a with
  | nil => exact ⟨[[]], .inr rfl, by simp [linesS]⟩
  | cons c r ih =>
    obtain ⟨E, hE, e⟩ := ih
    rw [List.cons_append]
    by_cases hc : c = 10
    · refine ⟨E, hE, ?_⟩
      rw [linesS, if_pos hc, e, linesS, if_pos hc]; simp
    · cases hr : r with
      | nil =>
        subst hr
        refine ⟨[], .inl rfl, ?_⟩
        rw [linesS, if_neg hc, linesS, if_neg hc]
        simp [linesS]
      | cons d q =>
        refine ⟨E, hE, ?_⟩
        rw [← hr]
        have hn := linesS_ne (r := r) (by rw [hr]; simp)
        rw [linesS, if_neg hc, e, linesS, if_neg hc]
        cases hl : linesS r with
        | nil => exact absurd hl hn
        | cons h t => simp
theorem runS_add (i : Nat) (c : Cs) (a b : List Bytes) {c' : Cs} (h : runS i c a = (c', 0, 0)) : runS i c (a ++ b) = runS (i + a.length) c' b := by
  induction a generalizing i c with
  | nil => simp only [runS] at h; injection h with h _; subst h; simp
  | cons l a ih =>
    rw [List.cons_append, runS]
    rw [runS] at h
    have e : i + (l :: a).length = (i + 1) + a.length := by simp; omega
    rw [e]
    split
    · rename_i hs; rw [if_pos hs] at h; exact ih _ _ h
    · rename_i hs
      rw [if_neg hs] at h
      split
      · rename_i he; rw [if_pos he] at h; exact ih _ _ h
      · rename_i he
        rw [if_neg he] at h
        injection h with h1 h2
        injection h2 with h2 h3
        exact absurd h3 he
theorem runS_skip (i j : Nat) (c : Cs) (a : List Bytes) {c' : Cs} (h : runS i c a = (c', 0, 0)) : runS j c a = (c', 0, 0) := by
  induction a generalizing i j c with
  | nil => exact h
  | cons l a ih =>
    rw [runS] at h ⊢
    split
    · rename_i hs; rw [if_pos hs] at h; exact ih _ _ _ h
    · rename_i hs
      rw [if_neg hs] at h
      split
      · rename_i he; rw [if_pos he] at h; exact ih _ _ _ h
      · rename_i he
        rw [if_neg he] at h
        injection h with h1 h2
        injection h2 with h2 h3
        exact absurd h3 he
/-- z is what x says and, behind it, y -/
structure Both (x y z : Cs) : Prop where
  sed : z.sed = x.sed ++ y.sed
  quiet : z.quiet = (x.quiet || y.quiet)
  separate : z.separate = (x.separate || y.separate)
  place : z.place = (x.place || y.place)
  extended : z.extended = (x.extended || y.extended)
  inputs : z.inputs = x.inputs ++ y.inputs
  files : z.files = x.files ++ y.files
  lines : z.lines = x.lines ++ y.lines
  cap : z.cap = y.cap ∨ (y.cap = 100 ∧ z.cap = x.cap)
  period : z.period = y.period ∨ (y.period = 10 ∧ z.period = x.period)
  fuel : z.fuel = y.fuel ∨ (y.fuel = 10000 ∧ z.fuel = x.fuel)
theorem Both.start (x : Cs) : Both x init x := by
  constructor <;> simp [init]
theorem lineS_both {x y z : Cs} (h : Both x y z) (l : Bytes) (he : (lineS l y).1 = 0) : (lineS l z).1 = 0 ∧ Both x (lineS l y).2 (lineS l z).2 := by
  unfold lineS at he ⊢
  cases hl : look (cut l).1 with
  | none => rw [hl] at he; simp at he
  | some f =>
    rw [hl] at he
    simp only at he ⊢
    by_cases hb : (cut l).2.2 = false
    · rw [if_pos hb] at he; simp at he
    · rw [if_neg hb] at he ⊢
      rw [if_neg hb]
      have hf : f ∈ [sedR, optionR, inputR, fileR, capR, periodR, fuelR, doR] := by
        unfold look at hl
        rw [Option.map_eq_some_iff] at hl
        obtain ⟨p, hp, rfl⟩ := hl
        have := List.mem_of_find?_eq_some hp
        simp only [readers, List.mem_cons, List.not_mem_nil, or_false] at this
        rcases this with rfl | rfl | rfl | rfl | rfl | rfl | rfl | rfl <;> simp
      generalize (cut l).2.1 = r at *
      simp only [List.mem_cons, List.not_mem_nil, or_false] at hf
      rcases hf with rfl | rfl | rfl | rfl | rfl | rfl | rfl | rfl
      · unfold sedR at he ⊢
        split at he
        · rename_i q; simp only [if_pos q]; exact ⟨by first | rfl | trivial, { h with sed := by simp [h.sed] }⟩
        · rename_i q; exact absurd he q
      · unfold optionR at he ⊢
        by_cases q0 : r = [] ∨ 32 ∈ r
        · rw [if_pos q0] at he; simp at he
        · rw [if_neg q0] at he
          simp only [if_neg q0]
          by_cases q1 : r = quietW
          · simp only [if_pos q1]; exact ⟨by first | rfl | trivial, { h with quiet := by simp }⟩
          · rw [if_neg q1] at he
            simp only [if_neg q1]
            by_cases q2 : r = separateW
            · simp only [if_pos q2]; exact ⟨by first | rfl | trivial, { h with separate := by simp }⟩
            · rw [if_neg q2] at he
              simp only [if_neg q2]
              by_cases q3 : r = placeW
              · simp only [if_pos q3]; exact ⟨by first | rfl | trivial, { h with place := by simp }⟩
              · rw [if_neg q3] at he
                simp only [if_neg q3]
                by_cases q4 : r = extendedW
                · simp only [if_pos q4]; exact ⟨by first | rfl | trivial, { h with extended := by simp }⟩
                · rw [if_neg q4] at he; simp at he
      · unfold inputR at he ⊢
        split at he
        · simp at he
        · rename_i q; simp only [if_neg q]; exact ⟨by first | rfl | trivial, { h with inputs := by simp [h.inputs] }⟩
      · unfold fileR at he ⊢
        by_cases q0 : (cut r).2.2 = false ∨ (cut r).1 = []
        · rw [if_pos q0] at he; simp at he
        · rw [if_neg q0] at he
          simp only [if_neg q0]
          split at he
          · rename_i q; simp only [if_pos q]; exact ⟨by first | rfl | trivial, { h with files := by simp [h.files] }⟩
          · rename_i q; exact absurd he q
      · unfold capR at he ⊢
        split at he
        · rename_i q; simp only [if_pos q]; exact ⟨by first | rfl | trivial, { h with cap := .inl rfl }⟩
        · rename_i q; exact absurd he q
      · unfold periodR at he ⊢
        split at he
        · rename_i q; simp only [if_pos q]; exact ⟨by first | rfl | trivial, { h with period := .inl rfl }⟩
        · rename_i q; exact absurd he q
      · unfold fuelR at he ⊢
        split at he
        · rename_i q; simp only [if_pos q]; exact ⟨by first | rfl | trivial, { h with fuel := .inl rfl }⟩
        · rename_i q; exact absurd he q
      · unfold doR
        exact ⟨by first | rfl | trivial, { h with lines := by simp [h.lines] }⟩
theorem runS_both {x y z : Cs} (h : Both x y z) (i j : Nat) (ls : List Bytes) {y' : Cs} (hy : runS i y ls = (y', 0, 0)) : ∃ z', runS j z ls = (z', 0, 0) ∧ Both x y' z' := by
  induction ls generalizing i j y z with
  | nil => simp only [runS] at hy ⊢; injection hy with hy _; subst hy; exact ⟨z, rfl, h⟩
  | cons l ls ih =>
    rw [runS] at hy
    rw [runS]
    by_cases hs : skip l = true
    · rw [if_pos hs] at hy ⊢; exact ih h _ _ hy
    · rw [if_neg hs] at hy ⊢
      by_cases he : (lineS l y).1 = 0
      · rw [if_pos he] at hy
        obtain ⟨h1, h2⟩ := lineS_both h l he
        rw [if_pos h1]
        exact ih h2 _ _ hy
      · rw [if_neg he] at hy
        injection hy with h1 h2
        injection h2 with h2 h3
        exact absurd h3 he
/-- two books, one behind the other -/
theorem parse_join (a b : Bytes) (ha : a.length ≤ 300) (hb : b.length ≤ 300) {x y : Cs} (hx : parseS a = (x, 0, 0)) (hy : parseS b = (y, 0, 0)) : ∃ z, parseS (a ++ 10 :: b) = (z, 0, 0) ∧ Both x y z := by
  unfold parseS at hx hy ⊢
  rw [if_neg (by omega)] at hx hy
  rw [if_neg (by simp; omega)]
  obtain ⟨E, hE, e⟩ := linesS_join a b
  rw [e, List.append_assoc, runS_add 0 init (linesS a) (E ++ linesS b) hx]
  have hE2 : ∀ i, runS i x (E ++ linesS b) = runS (i + E.length) x (linesS b) := by
    intro i
    rcases hE with rfl | rfl
    · rfl
    · rw [List.cons_append, runS, if_pos (by simp [skip])]; rfl
  rw [hE2]
  exact runS_both (Both.start x) 0 _ _ hy
end Go.Proofs.YtaginadnaajleaaDoor.BM
