/-
  The plain law of chapter 23: what differs between two lists of texts, put and undone; lists alone, no program in sight.
  Conditions: as each theorem states them.
-/
namespace Go.Proofs.Ytfbimghnimepjaa.DM
set_option linter.unusedVariables false
abbrev Bytes := List UInt8
/-- how much is alike from the beginning -/
def cpre : Bytes → Bytes → Nat
  | a :: x, b :: y => if a = b then cpre x y + 1 else 0
  | [], _ => 0
  | _ :: _, [] => 0
theorem cpre_le_left : ∀ x y : Bytes, cpre x y ≤ x.length
  | a :: x, b :: y => by
    have := cpre_le_left x y
    simp only [cpre]; split <;> simp <;> omega
  | [], _ => by simp [cpre]
  | _ :: _, [] => by simp [cpre]
theorem cpre_le_right : ∀ x y : Bytes, cpre x y ≤ y.length
  | a :: x, b :: y => by
    have := cpre_le_right x y
    simp only [cpre]; split <;> simp <;> omega
  | [], _ => by simp [cpre]
  | _ :: _, [] => by simp [cpre]
theorem cpre_take : ∀ x y : Bytes, x.take (cpre x y) = y.take (cpre x y)
  | a :: x, b :: y => by
    have := cpre_take x y
    simp only [cpre]; split
    · rename_i h; subst h; simp [this]
    · simp
  | [], _ => by simp [cpre]
  | _ :: _, [] => by simp [cpre]
/-- the loop's word: k of them are alike, and the next one isn't -/
theorem cpre_eq (x y : Bytes) : ∀ k, (∀ i, i < k → ∃ c, x[i]? = some c ∧ y[i]? = some c) → (∀ c d, x[k]? = some c → y[k]? = some d → c ≠ d) → cpre x y = k := by
  induction x generalizing y with
  | nil =>
    intro k h _
    cases k with
    | zero => simp [cpre]
    | succ k => obtain ⟨c, h1, _⟩ := h 0 (by omega); simp at h1
  | cons a x ih =>
    intro k h hn
    cases y with
    | nil =>
      cases k with
      | zero => simp [cpre]
      | succ k => obtain ⟨c, _, h2⟩ := h 0 (by omega); simp at h2
    | cons b y =>
      cases k with
      | zero =>
        have := hn a b (by simp) (by simp)
        simp [cpre, this]
      | succ k =>
        obtain ⟨c, h1, h2⟩ := h 0 (by omega)
        simp at h1 h2
        subst h1; subst h2
        simp only [cpre, if_true]
        rw [ih y k (fun i hi => by have := h (i + 1) (by omega); simpa using this) (fun c d h1 h2 => hn c d (by simpa using h1) (by simpa using h2))]
structure Chg where
  field : Int
  pos : Int
  old : Bytes
  new : Bytes
def Chg.turned (c : Chg) : Chg := { c with old := c.new, new := c.old }
/-- what stands in a text's place from 'pos' on -/
def put (l : List Bytes) (c : Chg) : Option (List Bytes) :=
  if 0 ≤ c.field ∧ c.field < l.length ∧ 0 ≤ c.pos ∧ c.pos ≤ (l.getD c.field.toNat []).length ∧ c.old.isPrefixOf ((l.getD c.field.toNat []).drop c.pos.toNat) = true then
    some (l.set c.field.toNat ((l.getD c.field.toNat []).take c.pos.toNat ++ c.new ++ ((l.getD c.field.toNat []).drop c.pos.toNat).drop c.old.length))
  else none
def apply : List Chg → List Bytes → Option (List Bytes)
  | [], l => some l
  | c :: d, l => (put l c).bind (apply d)
def undo (d : List Chg) (l : List Bytes) : Option (List Bytes) := apply (d.reverse.map Chg.turned) l
def size (d : List Chg) : Nat := (d.map fun c => c.old.length + c.new.length).sum
/-- how much is alike at the end of what stands behind 'pos' -/
def csuf (x y : Bytes) : Nat := cpre (x.drop (cpre x y)).reverse (y.drop (cpre x y)).reverse
def one (i : Nat) (x y : Bytes) : Chg :=
  ⟨(i : Int), (cpre x y : Int), (x.drop (cpre x y)).take (x.length - cpre x y - csuf x y), (y.drop (cpre x y)).take (y.length - cpre x y - csuf x y)⟩
def betw : Nat → List Bytes → List Bytes → List Chg
  | i, x :: a, y :: b => if x = y then betw (i + 1) a b else one i x y :: betw (i + 1) a b
  | _, [], _ => []
  | _, _ :: _, [] => []
theorem csuf_le (x y : Bytes) : csuf x y ≤ x.length - cpre x y ∧ csuf x y ≤ y.length - cpre x y := by
  have h1 := cpre_le_left (x.drop (cpre x y)).reverse (y.drop (cpre x y)).reverse
  have h2 := cpre_le_right (x.drop (cpre x y)).reverse (y.drop (cpre x y)).reverse
  simp only [List.length_reverse, List.length_drop] at h1 h2
  exact ⟨h1, h2⟩
theorem csuf_eq (x y : Bytes) : (x.drop (cpre x y)).drop (x.length - cpre x y - csuf x y) = (y.drop (cpre x y)).drop (y.length - cpre x y - csuf x y) := by
  have h := cpre_take (x.drop (cpre x y)).reverse (y.drop (cpre x y)).reverse
  rw [show cpre (x.drop (cpre x y)).reverse (y.drop (cpre x y)).reverse = csuf x y from rfl, List.take_reverse, List.take_reverse] at h
  have h' := congrArg List.reverse h
  simpa using h'
theorem put_of {l : List Bytes} {c : Chg} {pre suf : List UInt8} (hf : l[c.field.toNat]? = some (pre ++ c.old ++ suf)) (h0 : 0 ≤ c.field) (hp : c.pos = (pre.length : Int)) :
    put l c = some (l.set c.field.toNat (pre ++ c.new ++ suf)) := by
  have hlt : c.field.toNat < l.length := by
    rcases List.getElem?_eq_some_iff.1 hf with ⟨h, _⟩; exact h
  have hg : l.getD c.field.toNat [] = pre ++ c.old ++ suf := by simp [List.getD, hf]
  unfold put
  rw [hg, hp]
  rw [if_pos ⟨h0, by omega, by omega, by simp; omega, by simp⟩]
  simp
/-- what a change that fits does, and undoes -/
theorem put_some {l l' : List Bytes} {c : Chg} (h : put l c = some l') : put l' c.turned = some l := by
  unfold put at h
  split at h
  · rename_i hc
    obtain ⟨h0, h1, h2, h3, h4⟩ := hc
    rw [List.isPrefixOf_iff_prefix] at h4
    obtain ⟨suf, hs⟩ := h4
    cases h
    have hlt : c.field.toNat < l.length := by omega
    have e : l.getD c.field.toNat [] = (l.getD c.field.toNat []).take c.pos.toNat ++ c.old ++ suf := by
      rw [List.append_assoc, hs, List.take_append_drop]
    have hlen : ((l.getD c.field.toNat []).take c.pos.toNat).length = c.pos.toNat := by rw [List.length_take]; omega
    generalize hx : l.getD c.field.toNat [] = x at *
    rw [← hs]
    have : (c.old ++ suf).drop c.old.length = suf := by simp
    rw [this]
    have hp := put_of (l := l.set c.field.toNat (x.take c.pos.toNat ++ c.new ++ suf)) (c := c.turned) (pre := x.take c.pos.toNat) (suf := suf)
      (by show (l.set c.field.toNat _)[c.field.toNat]? = _; rw [List.getElem?_set_self hlt]; rfl) h0 (by show c.pos = _; rw [hlen]; omega)
    rw [hp]
    show some ((l.set c.field.toNat _).set c.field.toNat (x.take c.pos.toNat ++ c.old ++ suf)) = _
    rw [← e, List.set_set]
    congr 1
    rw [← hx]
    apply List.ext_getElem? 
    intro i
    by_cases hi : c.field.toNat = i
    · subst hi
      rw [List.getElem?_set_self hlt]
      simp [List.getD, List.getElem?_eq_getElem hlt]
    · rw [List.getElem?_set_ne hi]
  · cases h
theorem apply_append (d e : List Chg) (l : List Bytes) : apply (d ++ e) l = (apply d l).bind (apply e) := by
  induction d generalizing l with
  | nil => rfl
  | cons c d ih =>
    simp only [List.cons_append, apply]
    cases put l c with
    | none => rfl
    | some m => simp [ih]
theorem undo_apply {d : List Chg} {l m : List Bytes} (h : apply d l = some m) : undo d m = some l := by
  induction d generalizing l with
  | nil => cases h; rfl
  | cons c d ih =>
    simp only [apply] at h
    cases hp : put l c with
    | none => rw [hp] at h; cases h
    | some k =>
      rw [hp] at h
      have := ih h
      unfold undo at this ⊢
      rw [List.reverse_cons, List.map_append, apply_append, this]
      simp [apply, put_some hp]
theorem split_text (x : Bytes) (p n : Nat) : x.take p ++ (x.drop p).take (x.length - p - n) ++ (x.drop p).drop (x.length - p - n) = x := by
  rw [List.append_assoc, List.take_append_drop, List.take_append_drop]
theorem apply_betw : ∀ (a b pre : List Bytes), a.length = b.length → apply (betw pre.length a b) (pre ++ a) = some (pre ++ b) := by
  intro a
  induction a with
  | nil => intro b pre h; cases b with | nil => rfl | cons y b => simp at h
  | cons x a ih =>
    intro b pre h
    cases b with
    | nil => simp at h
    | cons y b =>
      have h' : a.length = b.length := by simpa using h
      simp only [betw]
      have key : ∀ (z : Bytes), apply (betw (pre.length + 1) a b) (pre ++ z :: a) = some (pre ++ z :: b) := fun z => by
        have := ih b (pre ++ [z]) h'
        simpa using this
      split
      · rename_i e; subst e
        exact key x
      · simp only [apply]
        have hx := split_text x (cpre x y) (csuf x y) 
        have hp := put_of (l := pre ++ x :: a) (c := one pre.length x y) (pre := x.take (cpre x y)) (suf := (x.drop (cpre x y)).drop (x.length - cpre x y - csuf x y))
          (by show (pre ++ x :: a)[((pre.length : Nat) : Int).toNat]? = some (x.take (cpre x y) ++ (x.drop (cpre x y)).take (x.length - cpre x y - csuf x y) ++ _)
              rw [hx]; simp) (by show (0 : Int) ≤ (pre.length : Int); omega) (by show (cpre x y : Int) = _; have := cpre_le_left x y; simp; omega)
        rw [hp]
        have hy := split_text y (cpre x y) (csuf x y)
        have : x.take (cpre x y) ++ (one pre.length x y).new ++ (x.drop (cpre x y)).drop (x.length - cpre x y - csuf x y) = y := by
          rw [csuf_eq, cpre_take]; exact hy
        rw [this]
        show apply _ ((pre ++ x :: a).set ((pre.length : Nat) : Int).toNat y) = _
        simp [key y]
theorem undo_betw (a b : List Bytes) (h : a.length = b.length) : undo (betw 0 a b) b = some a := by
  have := apply_betw a b [] h
  exact undo_apply (by simpa using this)
end Go.Proofs.Ytfbimghnimepjaa.DM
