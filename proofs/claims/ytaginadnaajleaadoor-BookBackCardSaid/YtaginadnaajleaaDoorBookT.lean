/-
  The plain law of chapter 32: what is told of a case is read as it; lists alone, no program in sight.
  Conditions: as each theorem states them.
-/
import Derived.Test.YtaginadnaajleaaDoorBookM
import Derived.Test.YtaginadnaajleaaDoorShw
import Derived.Lib.ItoaLen
namespace Go.Proofs.YtaginadnaajleaaDoor.BM
open Go.Proofs.YtaginadnaajleaaDoor
set_option linter.unusedVariables false
set_option linter.unusedSimpArgs false
theorem dd_small {u : Nat} (h : u < 10) : Lib.decDigits u = [UInt8.ofNat (48 + u)] := by rw [Lib.decDigits, dif_pos h]
theorem dd_step {u : Nat} (h : ¬ u < 10) : Lib.decDigits u = Lib.decDigits (u / 10) ++ [UInt8.ofNat (48 + u % 10)] := by rw [Lib.decDigits, dif_neg h]
theorem dd_dig (u : Nat) : ∀ c ∈ Lib.decDigits u, dig c = true := by
  induction u using Nat.strongRecOn with
  | _ u ih =>
    by_cases h : u < 10
    · rw [dd_small h]
      intro c hc
      simp at hc
      subst hc
      simp [dig, UInt8.toNat_ofNat']
      omega
    · rw [dd_step h]
      intro c hc
      rw [List.mem_append] at hc
      rcases hc with hc | hc
      · exact ih _ (by omega) c hc
      · simp at hc
        subst hc
        simp [dig, UInt8.toNat_ofNat']
        omega
theorem dd_val (u : Nat) : valD (Lib.decDigits u) = u := by
  induction u using Nat.strongRecOn with
  | _ u ih =>
    by_cases h : u < 10
    · rw [dd_small h]
      simp [valD, UInt8.toNat_ofNat']
      omega
    · rw [dd_step h, valD_snoc, ih _ (by omega)]
      simp [UInt8.toNat_ofNat']
      omega
theorem dd_ne (u : Nat) : Lib.decDigits u ≠ [] := by
  by_cases h : u < 10
  · rw [dd_small h]; simp
  · rw [dd_step h]; simp
/-- a number's text -/
def numT (n : Int) : Bytes := Lib.itoa n
theorem numT_nat (u : Nat) : numT (u : Int) = Lib.decDigits u := by unfold numT; rw [Lib.itoa_nonneg]
theorem numAll_back (u : Nat) (hu : u ≤ 1073741824) : numAll (numT (u : Int)) = ((u : Int), 0) := by
  rw [numT_nat]
  have h1 : (Lib.decDigits u).all dig = true := by rw [List.all_eq_true]; exact dd_dig u
  have h2 : (Lib.decDigits u).takeWhile dig = Lib.decDigits u := by
    have := List.takeWhile_append_of_pos (p := dig) (l₁ := Lib.decDigits u) (l₂ := []) (dd_dig u)
    simpa using this
  unfold numAll numS
  rw [if_pos h1, if_neg (by omega)]
  simp only [Int.toNat_zero, List.drop_zero, h2]
  rw [if_neg (by simpa using dd_ne u), dd_val, if_neg (by omega)]
/-! ### the place behind a quote -/
theorem unq_at : ∀ (l out : List UInt8) (a : Nat) (r : List UInt8), (unqS out a (l.flatMap SH.quoteB ++ 34 :: r)).2.1 = (a : Int) + (l.flatMap SH.quoteB).length + 1 := by
  intro l
  induction l with
  | nil => intro out a r; rw [List.flatMap_nil, List.nil_append, unqS_end]; simp
  | cons c l ih =>
    intro out a r
    rw [List.flatMap_cons, List.append_assoc]
    by_cases h34 : c.toNat = 34
    · have : c = 34 := UInt8.toNat_inj.1 h34
      subst this
      rw [show SH.quoteB 34 = [92, 34] from rfl, List.cons_append, List.cons_append, List.nil_append, unqS_esc out a (34 :: (l.flatMap SH.quoteB ++ 34 :: r)) 34 1 rfl]
      have := ih (out ++ [34]) (a + 1 + 1) r
      simp only [List.drop_succ_cons, List.drop_zero] at this ⊢
      rw [this]; simp; omega
    · have hq : SH.quoteB c = SH.markS c := by unfold SH.quoteB; rw [if_neg h34]
      rw [hq]
      by_cases hp : 32 ≤ c.toNat ∧ c.toNat < 127 ∧ c.toNat ≠ 92
      · have hm : SH.markS c = [c] := by unfold SH.markS; rw [if_neg hp.2.2, if_neg (by omega), if_pos ⟨hp.1, hp.2.1⟩]
        rw [hm, List.cons_append, List.nil_append, unqS_plain _ _ _ _ (fun e => h34 (by rw [e]; rfl)) (fun e => hp.2.2 (by rw [e]; rfl))]
        rw [ih (out ++ [c]) (a + 1) r]
        simp; omega
      · obtain ⟨q, n, hm, he, hn⟩ := SH.esc_mark c h34 hp (l.flatMap SH.quoteB ++ 34 :: r)
        rw [hm, List.cons_append, unqS_esc out a _ c n he, hn, List.drop_left]
        rw [ih (out ++ [c]) (a + 1 + q.length) r]
        simp; omega
theorem quoteAll_back (l : Bytes) : quoteAll (SH.quoteS l) = (l, 0) := by
  obtain ⟨h1, h2⟩ := SH.unquote_quote l
  have h3 : (unquoteS (SH.quoteS l) 0).2.1 = (SH.quoteS l).length := by
    have : unquoteS (SH.quoteS l) 0 = unqS [] 1 (l.flatMap SH.quoteB ++ [34]) := by
      unfold unquoteS SH.quoteS
      simp
      intro h; exfalso; omega
    rw [this, unq_at]
    unfold SH.quoteS
    simp; omega
  unfold quoteAll
  rw [if_neg (by rw [h3]; omega), h1, h2]
/-! ### a book's lines -/
theorem linesS_line {l : Bytes} (h : 10 ∉ l) (r : Bytes) : linesS (l ++ 10 :: r) = l :: linesS r := by
  induction l with
  | nil => simp [linesS]
  | cons c l ih =>
    simp only [List.mem_cons, not_or] at h
    rw [List.cons_append, linesS, if_neg (fun e => h.1 e.symm), ih h.2]
theorem linesS_flat : ∀ (ls : List Bytes), (∀ l ∈ ls, 10 ∉ l) → linesS (ls.flatMap (· ++ [10])) = ls
  | [], _ => rfl
  | l :: ls, h => by
    rw [List.flatMap_cons, List.append_assoc, List.singleton_append, linesS_line (h l List.mem_cons_self), linesS_flat ls (fun x hx => h x (List.mem_cons_of_mem _ hx))]
theorem cut_word {w : Bytes} (h : 32 ∉ w) (r : Bytes) : cut (w ++ 32 :: r) = (w, r, true) := by
  have e : (w ++ 32 :: r).takeWhile OM.nb = w := by
    rw [List.takeWhile_append_of_pos (fun c hc => by
      have : c ≠ 32 := fun e => h (e ▸ hc)
      simpa [OM.nb] using this)]
    rw [List.takeWhile_cons, if_neg (by simp [OM.nb]), List.append_nil]
  unfold cut
  rw [e]
  simp
theorem lineS_word {w : Bytes} {f : Bytes → Cs → Int × Cs} (hl : look w = some f) (h : 32 ∉ w) (r : Bytes) (c : Cs) : lineS (w ++ 32 :: r) c = f r c := by
  unfold lineS
  rw [cut_word h]
  simp [hl]
theorem skip_word {w : Bytes} {x : UInt8} (hx : w.head? = some x) (h : x ≠ 35) (r : Bytes) : skip (w ++ 32 :: r) = false := by
  cases w with
  | nil => simp at hx
  | cons y w =>
    simp only [List.head?_cons, Option.some.injEq] at hx
    subst hx
    simp [skip, h]
theorem run_one {i : Nat} {c c' : Cs} {l : Bytes} (hs : skip l = false) (he : lineS l c = (0, c')) : runS i c [l] = (c', 0, 0) := by
  rw [runS, if_neg (by rw [hs]; simp), he, if_pos rfl, runS]
/-- what a case's book has, line by line -/
def textL (c : Cs) : List Bytes :=
  (if 0 < c.sed.length then [sedW ++ 32 :: SH.quoteS c.sed] else []) ++ (if c.quiet then [optionW ++ 32 :: quietW] else []) ++ (if c.separate then [optionW ++ 32 :: separateW] else []) ++
  (if c.place then [optionW ++ 32 :: placeW] else []) ++ (if c.extended then [optionW ++ 32 :: extendedW] else []) ++ c.inputs.map (fun n => inputW ++ 32 :: n) ++
  c.files.map (fun p => fileW ++ 32 :: (p.1 ++ 32 :: SH.quoteS p.2)) ++ [capacityW ++ 32 :: numT c.cap, periodW ++ 32 :: numT c.period, fuelW ++ 32 :: numT c.fuel] ++ c.lines.map (fun s => doW ++ 32 :: s)
/-- a case's book -/
def textS (c : Cs) : Bytes := (textL c).flatMap (· ++ [10])
/-- what a book can tell -/
structure Good (c : Cs) : Prop where
  inp : ∀ n ∈ c.inputs, n ≠ [] ∧ 32 ∉ n ∧ 10 ∉ n
  fil : ∀ p ∈ c.files, p.1 ≠ [] ∧ 32 ∉ p.1 ∧ 10 ∉ p.1
  cap : 0 ≤ c.cap ∧ c.cap ≤ 1073741824
  period : 0 ≤ c.period ∧ c.period ≤ 1073741824
  fuel : 0 ≤ c.fuel ∧ c.fuel ≤ 1073741824
  lin : ∀ s ∈ c.lines, 10 ∉ s
theorem quote_no10 (l : Bytes) : 10 ∉ SH.quoteS l := fun h => by
  have := SH.quote_seen l 10 h
  exact absurd this.1 (by decide)
theorem num_no10 {n : Int} (h : 0 ≤ n) : 10 ∉ numT n := fun h2 => by
  obtain ⟨u, rfl⟩ := Int.eq_ofNat_of_zero_le h
  rw [numT_nat] at h2
  have := dd_dig u 10 h2
  exact absurd this (by decide)
theorem text_lines {c : Cs} (g : Good c) : linesS (textS c) = textL c := by
  refine linesS_flat _ fun l hl => ?_
  unfold textL at hl
  simp only [List.mem_append, List.mem_map, List.mem_cons, List.not_mem_nil, or_false] at hl
  have pre : ∀ (w r : Bytes), 10 ∉ w → 10 ∉ r → 10 ∉ w ++ 32 :: r := fun w r h1 h2 => by simp [h1, h2]
  rcases hl with (((((((h | h) | h) | h) | h) | ⟨n, hn, rfl⟩) | ⟨p, hp, rfl⟩) | h) | ⟨s, hs, rfl⟩
  · split at h
    · simp only [List.mem_cons, List.not_mem_nil, or_false] at h; subst h; exact pre _ _ (by decide) (quote_no10 _)
    · simp at h
  · split at h
    · simp only [List.mem_cons, List.not_mem_nil, or_false] at h; subst h; exact pre _ _ (by decide) (by decide)
    · simp at h
  · split at h
    · simp only [List.mem_cons, List.not_mem_nil, or_false] at h; subst h; exact pre _ _ (by decide) (by decide)
    · simp at h
  · split at h
    · simp only [List.mem_cons, List.not_mem_nil, or_false] at h; subst h; exact pre _ _ (by decide) (by decide)
    · simp at h
  · split at h
    · simp only [List.mem_cons, List.not_mem_nil, or_false] at h; subst h; exact pre _ _ (by decide) (by decide)
    · simp at h
  · exact pre _ _ (by decide) (g.inp n hn).2.2
  · exact pre _ _ (by decide) (pre _ _ (g.fil p hp).2.2 (quote_no10 _))
  · rcases h with rfl | rfl | rfl
    · exact pre _ _ (by decide) (num_no10 g.cap.1)
    · exact pre _ _ (by decide) (num_no10 g.period.1)
    · exact pre _ _ (by decide) (num_no10 g.fuel.1)
  · exact pre _ _ (by decide) (g.lin s hs)
theorem run_inputs : ∀ (ns : List Bytes) (i : Nat) (c : Cs), (∀ n ∈ ns, n ≠ [] ∧ 32 ∉ n ∧ 10 ∉ n) → runS i c (ns.map fun n => inputW ++ 32 :: n) = ({ c with inputs := c.inputs ++ ns }, 0, 0)
  | [], i, c, _ => by simp [runS]
  | n :: ns, i, c, h => by
    have hn := h n List.mem_cons_self
    have h1 : runS i c [inputW ++ 32 :: n] = ({ c with inputs := c.inputs ++ [n] }, 0, 0) :=
      run_one (skip_word (w := inputW) (x := 105) rfl (by decide) n) (by rw [lineS_word (f := inputR) rfl (by decide)]; unfold inputR; rw [if_neg (by rintro (e | e); exact hn.1 e; exact hn.2.1 e)])
    rw [List.map_cons, ← List.singleton_append, runS_add i c _ _ h1, run_inputs ns _ _ (fun x hx => h x (List.mem_cons_of_mem _ hx))]
    simp
theorem run_files : ∀ (fs : List (Bytes × Bytes)) (i : Nat) (c : Cs), (∀ p ∈ fs, p.1 ≠ [] ∧ 32 ∉ p.1 ∧ 10 ∉ p.1) → runS i c (fs.map fun p => fileW ++ 32 :: (p.1 ++ 32 :: SH.quoteS p.2)) = ({ c with files := c.files ++ fs }, 0, 0)
  | [], i, c, _ => by simp [runS]
  | p :: fs, i, c, h => by
    have hn := h p List.mem_cons_self
    have h1 : runS i c [fileW ++ 32 :: (p.1 ++ 32 :: SH.quoteS p.2)] = ({ c with files := c.files ++ [p] }, 0, 0) :=
      run_one (skip_word (w := fileW) (x := 102) rfl (by decide) _) (by
        rw [lineS_word (f := fileR) rfl (by decide)]
        unfold fileR
        rw [cut_word hn.2.1]
        rw [if_neg (by rintro (e | e); exact absurd e (by simp); exact hn.1 e), quoteAll_back]
        simp)
    rw [List.map_cons, ← List.singleton_append, runS_add i c _ _ h1, run_files fs _ _ (fun x hx => h x (List.mem_cons_of_mem _ hx))]
    simp
theorem run_do : ∀ (ls : List Bytes) (i : Nat) (c : Cs), runS i c (ls.map fun s => doW ++ 32 :: s) = ({ c with lines := c.lines ++ ls }, 0, 0)
  | [], i, c => by simp [runS]
  | s :: ls, i, c => by
    have h1 : runS i c [doW ++ 32 :: s] = ({ c with lines := c.lines ++ [s] }, 0, 0) :=
      run_one (skip_word (w := doW) (x := 100) rfl (by decide) _) (by rw [lineS_word (f := doR) rfl (by decide)]; rfl)
    rw [List.map_cons, ← List.singleton_append, runS_add i c _ _ h1, run_do ls]
    simp
theorem numAll_int {n : Int} (h : 0 ≤ n ∧ n ≤ 1073741824) : numAll (numT n) = (n, 0) := by
  obtain ⟨u, rfl⟩ := Int.eq_ofNat_of_zero_le h.1
  exact numAll_back u (by have := h.2; omega)
theorem run_nums {n1 n2 n3 : Int} (h1 : 0 ≤ n1 ∧ n1 ≤ 1073741824) (h2 : 0 ≤ n2 ∧ n2 ≤ 1073741824) (h3 : 0 ≤ n3 ∧ n3 ≤ 1073741824) (i : Nat) (c : Cs) :
    runS i c [capacityW ++ 32 :: numT n1, periodW ++ 32 :: numT n2, fuelW ++ 32 :: numT n3] = ({ c with cap := n1, period := n2, fuel := n3 }, 0, 0) := by
  have a1 : lineS (capacityW ++ 32 :: numT n1) c = (0, { c with cap := n1 }) := by rw [lineS_word (f := capR) rfl (by decide)]; unfold capR; rw [numAll_int h1]; simp
  have a2 : ∀ c : Cs, lineS (periodW ++ 32 :: numT n2) c = (0, { c with period := n2 }) := fun c => by rw [lineS_word (f := periodR) rfl (by decide)]; unfold periodR; rw [numAll_int h2]; simp
  have a3 : ∀ c : Cs, lineS (fuelW ++ 32 :: numT n3) c = (0, { c with fuel := n3 }) := fun c => by rw [lineS_word (f := fuelR) rfl (by decide)]; unfold fuelR; rw [numAll_int h3]; simp
  rw [runS, if_neg (by rw [skip_word (w := capacityW) (x := 99) rfl (by decide)]; simp), a1, if_pos rfl, runS, if_neg (by rw [skip_word (w := periodW) (x := 112) rfl (by decide)]; simp), a2, if_pos rfl, runS, if_neg (by rw [skip_word (w := fuelW) (x := 102) rfl (by decide)]; simp), a3, if_pos rfl, runS]
theorem run_if {b : Bool} {l : Bytes} {i : Nat} {c c' : Cs} (h : b = true → runS i c [l] = (c', 0, 0)) : runS i c (if b then [l] else []) = (if b then c' else c, 0, 0) := by
  cases b with
  | true => simpa using h rfl
  | false => simp [runS]
/-- what is told of a case is read as it -/
theorem parse_text {c : Cs} (g : Good c) (hl : (textS c).length ≤ 65536) : parseS (textS c) = (c, 0, 0) := by
  unfold parseS
  rw [if_neg (by omega), text_lines g]
  unfold textL
  have s1 : runS 0 init (if 0 < c.sed.length then [sedW ++ 32 :: SH.quoteS c.sed] else []) = ({ init with sed := c.sed }, 0, 0) := by
    by_cases h : 0 < c.sed.length
    · rw [if_pos h]
      exact run_one (skip_word (w := sedW) (x := 115) rfl (by decide) _) (by rw [lineS_word (f := sedR) rfl (by decide)]; unfold sedR; rw [quoteAll_back]; simp [init])
    · rw [if_neg h]
      have : c.sed = [] := List.eq_nil_of_length_eq_zero (by omega)
      rw [this]; simp [runS, init]
  have s2 : ∀ i (c' : Cs), c'.quiet = false → runS i c' (if c.quiet then [optionW ++ 32 :: quietW] else []) = ({ c' with quiet := c.quiet }, 0, 0) := fun i c' hc => by
    cases hq : c.quiet
    · simp [runS]; rw [← hc]
    · simpa using run_one (skip_word (w := optionW) (x := 111) rfl (by decide) quietW) (by rw [lineS_word (f := optionR) rfl (by decide)]; unfold optionR; rw [if_neg (by decide), if_pos rfl])
  have s3 : ∀ i (c' : Cs), c'.separate = false → runS i c' (if c.separate then [optionW ++ 32 :: separateW] else []) = ({ c' with separate := c.separate }, 0, 0) := fun i c' hc => by
    cases hq : c.separate
    · simp [runS]; rw [← hc]
    · simpa using run_one (skip_word (w := optionW) (x := 111) rfl (by decide) separateW) (by rw [lineS_word (f := optionR) rfl (by decide)]; unfold optionR; rw [if_neg (by decide), if_neg (by decide), if_pos rfl])
  have s4 : ∀ i (c' : Cs), c'.place = false → runS i c' (if c.place then [optionW ++ 32 :: placeW] else []) = ({ c' with place := c.place }, 0, 0) := fun i c' hc => by
    cases hq : c.place
    · simp [runS]; rw [← hc]
    · simpa using run_one (skip_word (w := optionW) (x := 111) rfl (by decide) placeW) (by rw [lineS_word (f := optionR) rfl (by decide)]; unfold optionR; rw [if_neg (by decide), if_neg (by decide), if_neg (by decide), if_pos rfl])
  have s5 : ∀ i (c' : Cs), c'.extended = false → runS i c' (if c.extended then [optionW ++ 32 :: extendedW] else []) = ({ c' with extended := c.extended }, 0, 0) := fun i c' hc => by
    cases hq : c.extended
    · simp [runS]; rw [← hc]
    · simpa using run_one (skip_word (w := optionW) (x := 111) rfl (by decide) extendedW) (by rw [lineS_word (f := optionR) rfl (by decide)]; unfold optionR; rw [if_neg (by decide), if_neg (by decide), if_neg (by decide), if_neg (by decide), if_pos rfl])
  simp only [List.append_assoc]
  rw [runS_add _ _ _ _ s1, runS_add _ _ _ _ (s2 _ _ rfl), runS_add _ _ _ _ (s3 _ _ rfl), runS_add _ _ _ _ (s4 _ _ rfl), runS_add _ _ _ _ (s5 _ _ rfl), runS_add _ _ _ _ (run_inputs _ _ _ g.inp), runS_add _ _ _ _ (run_files _ _ _ g.fil), runS_add _ _ _ _ (run_nums g.cap g.period g.fuel _ _), run_do]
  simp [init]
end Go.Proofs.YtaginadnaajleaaDoor.BM
