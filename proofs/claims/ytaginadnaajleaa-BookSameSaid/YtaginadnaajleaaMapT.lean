/-
  What a map literal holds when some of its inserts are done.
  Conditions: as each theorem states them.
-/
import Derived.Test.YtaginadnaajleaaInvC
namespace Go.Proofs.Ytaginadnaajleaa
open Go.RowKit
set_option linter.unusedVariables false
set_option linter.unusedSimpArgs false
/-- of the inserts T (the operation, the key, the value) those are done that l says -/
def fS (l : Array Bool) (T : List (Nat × ByteArray × Value)) (s : ByteArray) : Option Value := (T.find? fun r => l.getD r.1 false && (s == r.2.1)).map (·.2.2)
theorem fS_cons (l : Array Bool) (r : Nat × ByteArray × Value) (T : List (Nat × ByteArray × Value)) (s : ByteArray) : fS l (r :: T) s = if (l.getD r.1 false && (s == r.2.1)) = true then some r.2.2 else fS l T s := by
  unfold fS
  rw [List.find?_cons]
  split
  · rename_i h; rw [h]; rfl
  · rename_i h; rw [h]; rfl
theorem fS_other {l : Array Bool} {i : Nat} (hi : i < l.size) : ∀ {T : List (Nat × ByteArray × Value)}, (∀ r ∈ T, r.1 ≠ i) → fS (l.setIfInBounds i true) T = fS l T
  | [], _ => rfl
  | r :: T, h => by
    funext s
    rw [fS_cons, fS_cons, fS_other hi (fun x hx => h x (.tail _ hx)), getD_setB hi, if_neg (show ¬ i = r.1 from fun e => h r (.head _) e.symm)]
def SameT (l : Array Bool) : List (Nat × ByteArray × Value) → List (Nat × ByteArray × Value) → Prop
  | [], [] => True
  | r :: T, r' :: T' => (r.1 = r'.1 ∧ (l.getD r.1 false = true → r = r')) ∧ SameT l T T'
  | _, _ => False
theorem fS_congr {l : Array Bool} : ∀ {T T' : List (Nat × ByteArray × Value)}, SameT l T T' → fS l T = fS l T'
  | [], [], _ => rfl
  | [], _ :: _, h => h.elim
  | _ :: _, [], h => h.elim
  | r :: T, r' :: T', h => by
    funext s
    rw [fS_cons, fS_cons, fS_congr h.2, ← h.1.1]
    cases hl : l.getD r.1 false with
    | false => simp
    | true => rw [h.1.2 hl]
theorem fS_none {l : Array Bool} {s : ByteArray} : ∀ {T : List (Nat × ByteArray × Value)}, (∀ r ∈ T, l.getD r.1 false = true → (s == r.2.1) = false) → fS l T s = none
  | [], _ => rfl
  | r :: T, h => by
    rw [fS_cons, fS_none (fun x hx => h x (.tail _ hx)), if_neg]
    intro e
    rw [Bool.and_eq_true] at e
    rw [h r (.head _) e.1] at e
    cases e.2
theorem ba_eq {t s : ByteArray} (ht : (t == s) = true) : t = s := ByteArray.ext (eq_of_beq (show (t.data == s.data) = true from ht))
theorem ba_refl (t : ByteArray) : (t == t) = true := (beq_self_eq_true t.data : (t.data == t.data) = true)
theorem fS_add {l : Array Bool} {i : Nat} (hi : i < l.size) (k : ByteArray) (v : Value) : ∀ {T : List (Nat × ByteArray × Value)}, T.Pairwise (fun r r' => r.1 ≠ r'.1 ∧ (r.2.1 == r'.2.1) = false ∧ (r'.2.1 == r.2.1) = false) → (i, k, v) ∈ T →
    ∀ t, fS (l.setIfInBounds i true) T t = if t == k then some v else fS l T t
  | [], _, h => by cases h
  | r :: T, hp, h => by
    intro t
    obtain ⟨h1, h2⟩ := List.pairwise_cons.1 hp
    rcases List.mem_cons.1 h with h | h
    · subst h
      rw [fS_cons, fS_cons, getD_setB hi, if_pos (show i = (i, k, v).1 from rfl), fS_other hi (fun x hx => (h1 x hx).1.symm)]
      cases ht : (t == k) with
      | true => simp [ht]
      | false => simp [ht]
    · have hr := h1 _ h
      have hne : ¬ i = r.1 := fun e => hr.1 e.symm
      rw [fS_cons, fS_cons, getD_setB hi, if_neg hne, fS_add hi k v h2 h]
      cases ht : (t == k) with
      | false => rfl
      | true =>
        have := ba_eq ht
        subst this
        have hk : (t == r.2.1) = false := hr.2.2
        rw [hk, Bool.and_false]
        rfl
theorem fS_new {l : Array Bool} {i : Nat} (k : ByteArray) (v : Value) (hl : l.getD i false = false) : ∀ {T : List (Nat × ByteArray × Value)}, T.Pairwise (fun r r' => r.1 ≠ r'.1 ∧ (r.2.1 == r'.2.1) = false ∧ (r'.2.1 == r.2.1) = false) → (i, k, v) ∈ T → fS l T k = none
  | [], _, h => by cases h
  | r :: T, hp, h => by
    obtain ⟨h1, h2⟩ := List.pairwise_cons.1 hp
    rcases List.mem_cons.1 h with h | h
    · subst h
      rw [fS_cons, hl, fS_none (fun x hx _ => (h1 x hx).2.1)]
      rfl
    · have hk : (k == r.2.1) = false := (h1 _ h).2.2
      rw [fS_cons, hk, Bool.and_false, fS_new k v hl h2 h]
      rfl
end Go.Proofs.Ytaginadnaajleaa
