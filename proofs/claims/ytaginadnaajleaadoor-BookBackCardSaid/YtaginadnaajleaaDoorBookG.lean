/-
  What a book's case is, and how long its book is at most; of chapter 32.
  Conditions: as each theorem states them.
-/
import Derived.Test.YtaginadnaajleaaDoorTx3
namespace Go.Proofs.YtaginadnaajleaaDoor
open Go.RowKit
set_option linter.unusedVariables false
set_option linter.unusedSimpArgs false
open BM (Cs)
/-! ### lengths -/
def Ln (ls : List (List UInt8)) : Nat := (ls.map fun l => l.length + 1).sum
theorem Ln_app (a b : List (List UInt8)) : Ln (a ++ b) = Ln a + Ln b := by simp [Ln]
theorem Ln_text (ls : List (List UInt8)) : (ls.flatMap (· ++ [10])).length = Ln ls := by
  induction ls with
  | nil => rfl
  | cons x r ih => rw [List.flatMap_cons, List.length_append, ih]; simp [Ln]
theorem sum_le {α : Type} (f g : α → Nat) : ∀ (l : List α), (∀ x ∈ l, f x ≤ g x) → (l.map f).sum ≤ (l.map g).sum
  | [], _ => Nat.le_refl _
  | x :: l, h => by
    have h1 := h x List.mem_cons_self
    have h2 := sum_le f g l (fun y hy => h y (List.mem_cons_of_mem _ hy))
    simp only [List.map_cons, List.sum_cons]; omega
theorem sum_const {α : Type} (f : α → Nat) (B : Nat) : ∀ (l : List α), (∀ x ∈ l, f x ≤ B) → (l.map f).sum ≤ l.length * B
  | [], _ => by simp
  | x :: l, h => by
    have h1 := h x List.mem_cons_self
    have h2 := sum_const f B l (fun y hy => h y (List.mem_cons_of_mem _ hy))
    simp only [List.map_cons, List.sum_cons, List.length_cons, Nat.add_mul, Nat.one_mul]; omega
theorem sum_mem {α : Type} (f : α → Nat) : ∀ (l : List α) (x : α), x ∈ l → f x ≤ (l.map f).sum
  | [], x, h => by simp at h
  | y :: l, x, h => by
    simp only [List.map_cons, List.sum_cons]
    rcases List.mem_cons.1 h with rfl | h
    · omega
    · have := sum_mem f l x h; omega
/-- a case's weight -/
def Wt (c : Cs) : Nat := 4 * c.sed.length + (c.inputs.map fun s => s.length + 7).sum + (c.files.map fun p => p.1.length + 4 * p.2.length + 9).sum + (c.lines.map fun s => s.length + 4).sum
theorem quote_le (l : List UInt8) : (SH.quoteS l).length ≤ 4 * l.length + 2 := by
  have := SH.flat_len l
  unfold SH.quoteS; simp only [List.length_cons, List.length_append, List.length_nil]; omega
theorem text_len (c : Cs) (h1 : -9223372036854775808 ≤ c.cap ∧ c.cap ≤ 9223372036854775807) (h2 : -9223372036854775808 ≤ c.period ∧ c.period ≤ 9223372036854775807) (h3 : -9223372036854775808 ≤ c.fuel ∧ c.fuel ≤ 9223372036854775807) : (BM.textS c).length ≤ Wt c + 200 := by
  unfold BM.textS
  rw [Ln_text, textL_parts, Ln_app, Ln_app, Ln_app, Ln_app, Ln_app]
  have n1 := num_len c.cap h1
  have n2 := num_len c.period h2
  have n3 := num_len c.fuel h3
  have a1 : Ln (sedL c) ≤ 4 * c.sed.length + 7 := by
    unfold sedL
    have := quote_le c.sed
    split
    · simp only [Ln, List.map_cons, List.map_nil, List.sum_cons, List.sum_nil, List.length_append, List.length_cons, BM.sedW, List.length_nil]; omega
    · simp [Ln]
  have a2 : Ln (optL (ops4 c)) ≤ 64 := by
    have o : ∀ (b : Bool) (x : List UInt8), x.length ≤ 8 → Ln (if b then [BM.optionW ++ 32 :: x] else []) ≤ 16 := fun b x hx => by
      cases b
      · simp [Ln]
      · simp only [Ln, if_true, List.map_cons, List.map_nil, List.sum_cons, List.sum_nil, List.length_append, List.length_cons, BM.optionW, List.length_nil]; omega
    unfold optL ops4
    simp only [List.flatMap_cons, List.flatMap_nil, Ln_app]
    have o1 := o c.quiet BM.quietW (by decide)
    have o2 := o c.separate BM.separateW (by decide)
    have o3 := o c.place BM.placeW (by decide)
    have o4 := o c.extended BM.extendedW (by decide)
    have o5 : Ln ([] : List (List UInt8)) = 0 := rfl
    omega
  have a3 : Ln (inpL c.inputs) ≤ (c.inputs.map fun s => s.length + 7).sum := by
    unfold Ln inpL
    rw [List.map_map]
    exact sum_le _ _ _ (fun x _ => by simp only [Function.comp, List.length_append, List.length_cons, BM.inputW, List.length_nil]; omega)
  have a4 : Ln (filL c.files) ≤ (c.files.map fun p => p.1.length + 4 * p.2.length + 9).sum := by
    unfold Ln filL
    rw [List.map_map]
    exact sum_le _ _ _ (fun x _ => by have := quote_le x.2; simp only [Function.comp, List.length_append, List.length_cons, BM.fileW, List.length_nil]; omega)
  have a5 : Ln (numL c) ≤ 87 := by
    unfold numL
    simp only [Ln, List.map_cons, List.map_nil, List.sum_cons, List.sum_nil, List.length_append, List.length_cons, BM.capacityW, BM.periodW, BM.fuelW, List.length_nil]; omega
  have a6 : Ln (doL c.lines) ≤ (c.lines.map fun s => s.length + 4).sum := by
    unfold Ln doL
    rw [List.map_map]
    exact sum_le _ _ _ (fun x _ => by simp only [Function.comp, List.length_append, List.length_cons, BM.doW, List.length_nil]; omega)
  unfold Wt
  omega
/-- numbers of 64 bits -/
structure I64s (c : Cs) : Prop where
  cap : -9223372036854775808 ≤ c.cap ∧ c.cap ≤ 9223372036854775807
  period : -9223372036854775808 ≤ c.period ∧ c.period ≤ 9223372036854775807
  fuel : -9223372036854775808 ≤ c.fuel ∧ c.fuel ≤ 9223372036854775807
theorem seen_wt {c : Cs} (h : Seen c) : Wt c ≤ 40000 := by
  have b1 := sum_const (α := BM.Bytes) (fun s => s.length + 7) 107 c.inputs (fun x hx => by obtain ⟨j, hj, rfl⟩ := List.mem_iff_getElem.1 hx; have := h.inp j hj; omega)
  have b2 := sum_const (α := BM.Bytes × BM.Bytes) (fun p => p.1.length + 4 * p.2.length + 9) 1309 c.files (fun x hx => by obtain ⟨j, hj, rfl⟩ := List.mem_iff_getElem.1 hx; have := h.fil j hj; omega)
  have b3 := sum_const (α := BM.Bytes) (fun s => s.length + 4) 104 c.lines (fun x hx => by obtain ⟨j, hj, rfl⟩ := List.mem_iff_getElem.1 hx; have := h.lin j hj; omega)
  have h1 := h.sed
  have h2 := h.inputs
  have h3 := h.files
  have h4 := h.lines
  unfold Wt
  omega
theorem told_wt {c : Cs} (hw : Wt c ≤ 40000) (hi : I64s c) (h1 : c.inputs.length ≤ 1000) (h2 : c.files.length ≤ 1000) (h3 : c.lines.length ≤ 1000) (hm : (∀ s ∈ c.inputs, s.length ≤ 10000) ∧ (∀ p ∈ c.files, p.1.length ≤ 10000 ∧ p.2.length ≤ 10000) ∧ (∀ s ∈ c.lines, s.length ≤ 10000)) : Told c :=
  ⟨by unfold Wt at hw; omega, h1, h2, h3, hm.1, hm.2.1, hm.2.2, hi.cap, hi.period, hi.fuel, by have := text_len c hi.cap hi.period hi.fuel; omega⟩
theorem seen_told {c : Cs} (h : Seen c) (hi : I64s c) : Told c :=
  told_wt (seen_wt h) hi (by have := h.inputs; omega) (by have := h.files; omega) (by have := h.lines; omega)
    ⟨fun x hx => by obtain ⟨j, hj, rfl⟩ := List.mem_iff_getElem.1 hx; have := h.inp j hj; omega, fun x hx => by obtain ⟨j, hj, rfl⟩ := List.mem_iff_getElem.1 hx; have := h.fil j hj; omega, fun x hx => by obtain ⟨j, hj, rfl⟩ := List.mem_iff_getElem.1 hx; have := h.lin j hj; omega⟩
end Go.Proofs.YtaginadnaajleaaDoor
