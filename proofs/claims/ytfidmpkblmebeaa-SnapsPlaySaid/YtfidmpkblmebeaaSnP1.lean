/-
  What is kept, here and in the document's answer, and what is looked up of it; of chapter 25.
  Conditions: as each theorem states them.
-/
import Derived.Test.YtfidmpkblmebeaaSnR3
namespace Go.Proofs.Ytfidmpkblmebeaa
open Go.RowKit
set_option linter.unusedVariables false
set_option linter.unusedSimpArgs false
/-- two lists by the same numbers, what stands there in pairs -/
inductive Rel2 {α β : Type} (R : α → β → Prop) : List (Int × α) → List (Int × β) → Prop
  | nil : Rel2 R [] []
  | cons {n : Int} {a : α} {b : β} {L : List (Int × α)} {M : List (Int × β)} (h : R a b) (t : Rel2 R L M) : Rel2 R ((n, a) :: L) ((n, b) :: M)
def OptR {α β : Type} (R : α → β → Prop) : Option (Int × α) → Option (Int × β) → Prop
  | none, none => True
  | some x, some y => x.1 = y.1 ∧ R x.2 y.2
  | _, _ => False
section
variable {α β : Type} {R S : α → β → Prop} {L : List (Int × α)} {M : List (Int × β)}
theorem Rel2.len (h : Rel2 R L M) : L.length = M.length := by induction h with | nil => rfl | cons _ _ ih => simp [ih]
theorem Rel2.mono (h : Rel2 R L M) (hs : ∀ a b, R a b → S a b) : Rel2 S L M := by induction h with | nil => exact .nil | cons h _ ih => exact .cons (hs _ _ h) ih
theorem Rel2.mem (h : Rel2 R L M) {x : Int × α} (hx : x ∈ L) : ∃ y ∈ M, x.1 = y.1 ∧ R x.2 y.2 := by
  induction h with
  | nil => cases hx
  | cons h _ ih =>
    rcases List.mem_cons.1 hx with rfl | hx
    · exact ⟨_, List.mem_cons_self, rfl, h⟩
    · obtain ⟨y, hy, h2⟩ := ih hx
      exact ⟨y, by simp [hy], h2⟩
theorem Rel2.get (h : Rel2 R L M) : ∀ (i : Nat) (h1 : i < L.length) (h2 : i < M.length), (L[i]).1 = (M[i]).1 := by
  induction h with
  | nil => intro i h1; simp at h1
  | cons h _ ih =>
    intro i h1 h2
    cases i with
    | zero => rfl
    | succ i => exact ih i (by simpa using h1) (by simpa using h2)
theorem Rel2.has (h : Rel2 R L M) (k : Int) : SM.has L k = SM.has M k := by
  induction h with
  | nil => rfl
  | cons h _ ih => unfold SM.has at ih ⊢; rw [List.any_cons, List.any_cons, ih]
theorem Rel2.filter (h : Rel2 R L M) (f : Int → Bool) : Rel2 R (L.filter fun p => f p.1) (M.filter fun p => f p.1) := by
  induction h with
  | nil => exact .nil
  | @cons n a b L M h _ ih =>
    by_cases hf : f n = true
    · rw [List.filter_cons_of_pos (by simpa using hf), List.filter_cons_of_pos (by simpa using hf)]
      exact .cons h ih
    · rw [List.filter_cons_of_neg (by simpa using hf), List.filter_cons_of_neg (by simpa using hf)]
      exact ih
theorem Rel2.keep (h : Rel2 R L M) (lo hi : Int) : Rel2 R (SM.keep L lo hi) (SM.keep M lo hi) := h.filter (fun k => decide (lo ≤ k) && decide (k ≤ hi))
theorem Rel2.last (h : Rel2 R L M) : OptR R L.getLast? M.getLast? := by
  induction h with
  | nil => trivial
  | @cons n a b L M h t ih =>
    cases t with
    | nil => exact ⟨rfl, h⟩
    | cons h2 t2 => exact ih
theorem Rel2.ahead (h : Rel2 R L M) (k : Int) : OptR R (SM.ahead L k) (SM.ahead M k) := (h.filter (fun n => decide (n ≤ k))).last
theorem Rel2.behind (h : Rel2 R L M) (k : Int) : OptR R (SM.behind L k) (SM.behind M k) := by
  unfold SM.behind
  induction h with
  | nil => trivial
  | @cons n a b L M h t ih =>
    by_cases hk : k ≤ n
    · rw [List.find?_cons_of_pos (by simpa using hk), List.find?_cons_of_pos (by simpa using hk)]
      exact ⟨rfl, h⟩
    · rw [List.find?_cons_of_neg (by simpa using hk), List.find?_cons_of_neg (by simpa using hk)]
      exact ih
theorem Rel2.put (h : Rel2 R L M) (k : Int) {a : α} {b : β} (hr : R a b) : Rel2 R (SM.put k a L) (SM.put k b M) := by
  induction h with
  | nil => exact .cons hr .nil
  | @cons n x y L M h t ih =>
    unfold SM.put
    by_cases hk : k < n
    · rw [if_pos hk, if_pos hk]; exact .cons hr (.cons h t)
    · rw [if_neg hk, if_neg hk]; exact .cons h ih
theorem Rel2.snd (h : Rel2 R L M) : ∀ y ∈ M, ∃ x ∈ L, x.1 = y.1 ∧ R x.2 y.2 := by
  induction h with
  | nil => intro y hy; cases hy
  | cons h _ ih =>
    intro y hy
    rcases List.mem_cons.1 hy with rfl | hy
    · exact ⟨_, List.mem_cons_self, rfl, h⟩
    · obtain ⟨x, hx, h2⟩ := ih y hy
      exact ⟨x, by simp [hx], h2⟩
end
def lkN : Option (Int × StV) → Int
  | none => 0
  | some x => x.1
def lkV : Option (Int × StV) → StV
  | none => zeroV
  | some x => x.2
/-- that copying does what it should -/
def CopyC : Prop := ∀ (w : World) (s : StC) (V : StV) (lo hi : Nat), SIn lo hi s V w → SmallV V → Calls Try.prog 18 #[.agg s.cells.toArray] w fun e w' => ∃ s' : StC, e = .returned (.agg s'.cells.toArray) ∧ SIn w.heap.size w'.heap.size s' V w' ∧ Below w.heap.size w w'
/-- kept: the states lie in blocks from B on -/
def Kept2 (B : Nat) (w : World) (L : List (Int × StC)) (M : List (Int × StV)) : Prop := Rel2 (fun s V => SIn B w.heap.size s V w ∧ SmallV V) L M
def LooksAt (B N : Nat) (W : World) (o : Option (Int × StV)) (e : Ending) : Prop := ∃ s' : StC, e = .returned (.tuple #[.int .i64 (lkN o), .agg s'.cells.toArray, .bool o.isSome]) ∧ SIn B N s' (lkV o) W
theorem look_in {w : World} {B : Nat} {L : List (Int × StC)} {o : Option (Int × StC)} {o' : Option (Int × StV)} {lk : FuncId} {args : Array Value} {M : List (Int × StV)} (HC : CopyC) (h1 : Kept2 B w L M) (ho : OptR (fun s V => SIn B w.heap.size s V w ∧ SmallV V) o o')
    (hlk : ∀ Q : StC → StC → Nat → World → Prop, (∀ x ∈ L, Copies w x.2 (Q x.2)) → Calls Try.prog lk args w (LookIs o Q w)) : Calls Try.prog lk args w fun e w' => LooksAt w.heap.size w'.heap.size w' o' e ∧ Below w.heap.size w w' := by
  cases o with
  | none =>
    cases o' with
    | some y => cases ho
    | none =>
      refine (hlk (fun _ _ _ _ => True) (fun x hx X hX => ?_)).mono ?_
      · obtain ⟨y, hy, _, hs, hm⟩ := h1.mem hx
        refine (HC X x.2 y.2 _ _ (hs.below hX) hm).mono ?_
        rintro e w' ⟨s', rfl, _, hb⟩
        exact ⟨s', rfl, trivial, hb⟩
      · rintro e w' ⟨rfl, hb⟩
        exact ⟨⟨zeroC, rfl, zero_sin _ _ _ (Nat.le_refl _)⟩, hb⟩
  | some x0 =>
    cases o' with
    | none => cases ho
    | some y0 =>
      obtain ⟨hk, hs0, hm0⟩ := ho
      refine (hlk (fun s s' n W => s = x0.2 → SIn n W.heap.size s' y0.2 W) (fun x hx X hX => ?_)).mono ?_
      · obtain ⟨y, hy, _, hs, hm⟩ := h1.mem hx
        by_cases he : x.2 = x0.2
        · refine (HC X x.2 y0.2 _ _ ((he ▸ hs0).below hX) hm0).mono ?_
          rintro e w' ⟨s', rfl, h, hb⟩
          exact ⟨s', rfl, fun _ => h, hb⟩
        · refine (HC X x.2 y.2 _ _ (hs.below hX) hm).mono ?_
          rintro e w' ⟨s', rfl, _, hb⟩
          exact ⟨s', rfl, fun h => absurd h he, hb⟩
      · rintro e w' ⟨s', n5, w5, rfl, hq, hn, hb, hO⟩
        have h5 := hq rfl
        refine ⟨⟨s', by rw [hk]; rfl, ?_⟩, hb.trans (hO.below hb.size (fun k hk => hk.1))⟩
        exact (h5.keep (KeepI.only hO (Nat.le_refl _) (fun k h1 _ h3 => by have := h3.2; omega))).wide hn hO.size (Nat.le_refl _)
theorem rlook_in {w : World} {B N : Nat} {o : Option (Int × StC)} {o' : Option (Int × StV)} {e : Ending} (hN : N ≤ w.heap.size) (ho : OptR (fun s V => SIn B N s V w ∧ SmallV V) o o') (h : RLook o e) : LooksAt B N w o' e := by
  cases o with
  | none =>
    cases o' with
    | some y => cases ho
    | none => exact ⟨zeroC, h, zero_sin _ _ _ hN⟩
  | some x =>
    cases o' with
    | none => cases ho
    | some y => exact ⟨x.2, by have h' : e = _ := h; rw [h', ho.1]; rfl, ho.2.1⟩
theorem opt_small {B : Nat} {w : World} {o : Option (Int × StC)} {o' : Option (Int × StV)} (ho : OptR (fun s V => SIn B w.heap.size s V w ∧ SmallV V) o o') : SmallV (lkV o') := by
  cases o with
  | none =>
    cases o' with
    | some y => cases ho
    | none => exact small_of (by decide)
  | some x =>
    cases o' with
    | none => cases ho
    | some y => exact ho.2.2
theorem Kept2.below {B : Nat} {w w' : World} {L : List (Int × StC)} {M : List (Int × StV)} (h : Kept2 B w L M) (hb : Below w.heap.size w w') : Kept2 B w' L M := h.mono fun a b h => ⟨(h.1.below hb).wide (Nat.le_refl _) hb.size (Nat.le_refl _), h.2⟩
theorem Kept2.keep {B N : Nat} {w w' : World} {L : List (Int × StC)} {M : List (Int × StV)} (h : Kept2 B w L M) (hk : KeepI B w.heap.size w w') : Kept2 B w' L M := h.mono fun a b h => ⟨(h.1.keep hk).wide (Nat.le_refl _) hk.1 (Nat.le_refl _), h.2⟩
end Go.Proofs.Ytfidmpkblmebeaa
