/-
  A slice that a call builds by appends, element by element, each element's own memory frozen as it comes ('Bld'); and what the call then hands out.
  Conditions: as each theorem states them; over whatever program.
-/
import Derived.Test.YtepdfkgadigafaaGreatDoorBase
import Derived.Deep.AppendLies
import Derived.Test.YtepdfkgadigafaaGreatDoorReads
import Derived.Laws.Slices
import Derived.Test.YtepdfkgadigafaaGreatDoorProg
import Derived.Laws.BytesArg
import Derived.OwnWalk
import Derived.Laws.OwnMore
import Derived.Lib.AppendZerosOnto
namespace Go.Proofs.YtepdfkgadigafaaGreatDoor
open Go.RowKit
set_option linter.unusedVariables false
theorem ownsRow_below {w w' : World} {base e size n : Nat} {v : Value} {xs : List Value} (h : w.ownsRow base e size v n xs) (hb : Below w.heap.size w w') : w'.ownsRow base e size v n xs := by
  refine ⟨h.1, ?_⟩
  rcases h.2 with h2 | ⟨g, cap, cur, h2, h3, h4, h5⟩
  · exact .inl h2
  · exact .inr ⟨g, cap, cur, h2, h3, (hb.block g (Array.getElem?_eq_some_iff.1 h4).1).trans h4, h5⟩
theorem Sub.In.none {S : Sub} {w : World} (h : S.In w) {b : Nat} (hb : w.heap.size ≤ b) : S b = none := by
  cases e : S b with
  | none => rfl
  | some o => exact absurd (h.lt e) (by omega)
/-- a slice under construction: its row is its own; what its elements hold lies in S -/
structure Bld {α : Type} (A : Rp α) (B e : Nat) (S : Sub) (w : World) (v : Value) (xs : List α) (css : List (List Value)) : Prop where
  own : w.ownsRow B e A.n v xs.length css.flatten
  len : css.length = xs.length
  ok : ∀ i (h : i < xs.length), A.ok S (css[i]'(by omega)) xs[i]
  inn : S.In w
  apart : ∀ g, v.ownBlock = some g → S g = none
theorem Bld.nil {α : Type} {A : Rp α} {B e : Nat} {S : Sub} {w : World} (h : S.In w) : Bld A B e S w (.slice none 0 0) [] [] :=
  ⟨World.ownsRow_nil _ _ _ _, rfl, fun i h => by simp at h, h, fun g e => by cases e⟩
theorem Bld.grow {α : Type} {A : Rp α} {B e : Nat} {S T : Sub} {w w' : World} {v : Value} {xs : List α} {css : List (List Value)} (h : Bld A B e S w v xs css) (hg : Grow S w T w') : Bld A B e T w' v xs css :=
  ⟨ownsRow_below h.own hg.below, h.len, fun i hi => A.mono hg.le (h.ok i hi), hg.inn, fun g e => (hg.old g (h.own.lt g e).2).trans (h.apart g e)⟩
theorem Bld.below {α : Type} {A : Rp α} {B e : Nat} {S : Sub} {w w' : World} {v : Value} {xs : List α} {css : List (List Value)} (h : Bld A B e S w v xs css) (hb : Below w.heap.size w w') : Bld A B e S w' v xs css := h.grow (Grow.of_below h.inn hb)
/-- one element more -/
theorem Bld.snoc {α : Type} {A : Rp α} {B e : Nat} {S : Sub} {w w' : World} {v v' : Value} {xs : List α} {css : List (List Value)} (h : Bld A B e S w v xs css) {x : α} {cs : List Value} (hx : A.ok S cs x) {n : Nat}
    (hown : w'.ownsRow B e A.n v' n (css.flatten ++ cs)) (hn : n = xs.length + 1) (hg : w.grownBy w' v.ownBlock) (hv : ∀ g, v'.ownBlock = some g → v.ownBlock = some g ∨ w.heap.size ≤ g) : Bld A B e S w' v' (xs ++ [x]) (css ++ [cs]) := by
  subst hn
  refine ⟨?_, by simp [h.len], fun i hi => ?_, h.inn.grown hg (fun g e => h.apart g e), fun g e => ?_⟩
  · simpa using hown
  · by_cases hlt : i < xs.length
    · rw [List.getElem_append_left hlt, List.getElem_append_left (by rw [h.len]; exact hlt)]
      exact h.ok i hlt
    · have hi' : i = xs.length := by simp at hi; omega
      subst hi'
      have e1 : (xs ++ [x])[xs.length]'hi = x := by simp
      have e2 : (css ++ [cs])[xs.length]'(by simp [h.len]) = cs := by rw [List.getElem_append_right (by rw [h.len]; exact Nat.le_refl _)]; simp [h.len]
      rw [e1, e2]; exact hx
  · rcases hv g e with h1 | h1
    · exact h.apart g h1
    · exact h.inn.none h1
/-- what was built, handed out: it stays as it is from now on -/
theorem Bld.done {α : Type} {A : Rp α} {B e : Nat} {S : Sub} {w : World} {v : Value} {xs : List α} {css : List (List Value)} (h : Bld A B e S w v xs css) :
    ∃ T : Sub, S.le T ∧ T.In w ∧ (∀ b, b < B → T b = S b) ∧ (rSl A).ok T [v] xs := by
  obtain ⟨T, h1, h2, h3, h4⟩ := freeze h.inn h.own h.len h.ok h.apart
  exact ⟨T, h1, h2, fun b hb => h3 b (fun e => by have := (h.own.lt b e).1; omega), h4⟩
theorem Bld.form {α : Type} {A : Rp α} {B e : Nat} {S : Sub} {w : World} {v : Value} {xs : List α} {css : List (List Value)} (h : Bld A B e S w v xs css) : ∃ a c, v = .slice a xs.length c ∧ c ≤ maxLen := by
  rcases h.own.2 with ⟨rfl, h0⟩ | ⟨g, cap, cur, rfl, _, _, _, hm, _⟩
  · exact ⟨none, 0, by rw [h0], by simp [maxLen]⟩
  · exact ⟨_, _, rfl, hm⟩
theorem lies_own {v : Value} {H g n c : Nat} (h : v.ownBlock = some g ∨ g = H) : ∀ k, (Value.slice (some ⟨g, 0, none⟩) n c).ownBlock = some k → v.ownBlock = some k ∨ H ≤ k := fun k e => by
  have : g = k := by simpa [Value.ownBlock] using e
  subst this
  rcases h with h | h
  · exact .inl h
  · exact .inr (by omega)
theorem rSl_by {α β : Type} {A : Rp α} {f : β → α} {g : α → β} (hg : ∀ a, f (g a) = a) {S : Sub} {cs : List Value} {xs : List α} (h : (rSl A).ok S cs xs) : (rSl (rBy A f)).ok S cs (xs.map g) := by
  obtain ⟨a, cap, e, h1, h2, h3⟩ := h
  refine ⟨a, cap, by rw [List.length_map]; exact e, by rw [List.length_map]; exact h1, h2, fun h0 => ?_⟩
  rw [List.length_map] at h0
  obtain ⟨b, off, e1, hr⟩ := h3 h0
  refine ⟨b, off, e1, fun i hi => ?_⟩
  rw [List.length_map] at hi
  obtain ⟨cs, h4, h5⟩ := hr i hi
  exact ⟨cs, by show A.ok S cs (f _); rw [List.getElem_map, hg]; exact h4, h5⟩
end Go.Proofs.YtepdfkgadigafaaGreatDoor
/-
  Slices of bytes, of texts and of changes as they lie in memory, cut or whole; a slice expression's value under one name.
  Conditions: as each theorem states them; over whatever program.
-/
namespace Go.Proofs.YtepdfkgadigafaaGreatDoor
open Go.RowKit
set_option linter.unusedVariables false
set_option linter.unusedSimpArgs false

/-- where a cut slice begins -/
def cutA (a : Option Addr) (l m s : Nat) : Option Addr := if m = l then a else a.map (·.add (l * s))
theorem sliced_eq (a : Option Addr) (l h m s : Nat) : sliced a l h m s = .slice (cutA a l m s) (h - l) (m - l) := rfl
theorem addr_add (b o k : Nat) : (⟨b, o, none⟩ : Addr).add k = ⟨b, o + k, none⟩ := by
  unfold Addr.add
  by_cases h : k = 0 <;> simp [h]
theorem cutA_zero (a : Option Addr) (m s : Nat) : cutA a 0 m s = a := by
  unfold cutA
  split
  · rfl
  · cases a with
    | none => rfl
    | some a => simp [Addr.add]
section
variable {P : Program} (w : World) (t : TypeId) (a : Option Addr) (len cap : Nat) (ht : P.underlying t = some (.slice (P.elem t)))
include ht
theorem run_cut_lh (kl kh : IntKind) (l h : Int) (h0 : 0 ≤ l) (h1 : l ≤ h) (h2 : h ≤ cap) :
    (Instr.sliceAt t (.slice a len cap) (some (.int kl l)) (some (.int kh h)) none).run P w =
      ((sizeOf (P.elem t)).run P w).andThen fun s w => .ok (.slice (cutA a l.toNat cap s) (h.toNat - l.toNat) (cap - l.toNat)) w := by
  rw [run_sliceAt_slice w t _ _ _ _ ht, run_slice_lh w t a len cap ht kl kh l h h0 h1 h2]; rfl
theorem run_cut_h (kh : IntKind) (h : Int) (h0 : 0 ≤ h) (h2 : h ≤ cap) :
    (Instr.sliceAt t (.slice a len cap) none (some (.int kh h)) none).run P w =
      ((sizeOf (P.elem t)).run P w).andThen fun s w => .ok (.slice a h.toNat cap) w := by
  rw [run_sliceAt_slice w t _ _ _ _ ht, run_slice_h w t a len cap ht kh h h0 h2]
  simp only [sliced_eq, cutA_zero, Nat.sub_zero]
theorem run_cut_l (kl : IntKind) (l : Int) (h0 : 0 ≤ l) (h1 : l ≤ len) :
    (Instr.sliceAt t (.slice a len cap) (some (.int kl l)) none none).run P w =
      ((sizeOf (P.elem t)).run P w).andThen fun s w => .ok (.slice (cutA a l.toNat cap s) (len - l.toNat) (cap - l.toNat)) w := by
  rw [run_sliceAt_slice w t _ _ _ _ ht, run_slice_l w t a len cap ht kl l h0 h1]; rfl
end

/-- bytes at an address, in a block of K; 'own': they may be written -/
def ByAt (K : Nat → Prop) (own : Bool) (w : World) (a : Option Addr) (xs : List UInt8) : Prop :=
  0 < xs.length → ∃ b o, a = some ⟨b, o, none⟩ ∧ K b ∧ b < w.heap.size ∧ (own = true → ∀ i, i < xs.length → w.frozen? ⟨b, o + i, none⟩ = false) ∧ ByteRow w b o xs
theorem ByAt.nil (K : Nat → Prop) (own : Bool) (w : World) (a : Option Addr) : ByAt K own w a [] := fun h => by simp at h
theorem ByAt.mono {K L : Nat → Prop} {own : Bool} {w : World} {a : Option Addr} {xs : List UInt8} (h : ByAt K own w a xs) (hK : ∀ b, K b → L b) : ByAt L own w a xs :=
  fun h0 => let ⟨b, o, e, k, r⟩ := h h0; ⟨b, o, e, hK b k, r⟩
theorem ByAt.plain {K : Nat → Prop} {own : Bool} {w : World} {a : Option Addr} {xs : List UInt8} (h : ByAt K own w a xs) : ByAt K false w a xs :=
  fun h0 => let ⟨b, o, e, k, l, f, r⟩ := h h0; ⟨b, o, e, k, l, fun x => (Bool.false_ne_true x).elim, r⟩
theorem ByAt.any {K : Nat → Prop} {own : Bool} {w : World} {a : Option Addr} {xs : List UInt8} (h : ByAt K own w a xs) : ByAt (fun _ => True) false w a xs := h.plain.mono (fun _ _ => trivial)
theorem cell_keep {w w' : World} {b o : Nat} (e : w'.heap[b]? = w.heap[b]?) : w'.cell? ⟨b, o, none⟩ = w.cell? ⟨b, o, none⟩ := by
  simp only [World.cell?]; rw [e]
theorem frozen_keep {w w' : World} {b o : Nat} (e : w'.heap[b]? = w.heap[b]?) : w'.frozen? ⟨b, o, none⟩ = w.frozen? ⟨b, o, none⟩ := by
  simp only [World.frozen?]; rw [e]
theorem ByAt.keep {K : Nat → Prop} {own : Bool} {w w' : World} {a : Option Addr} {xs : List UInt8} (h : ByAt K own w a xs) (hs : w.heap.size ≤ w'.heap.size) (hk : ∀ b, K b → b < w.heap.size → w'.heap[b]? = w.heap[b]?) : ByAt K own w' a xs :=
  fun h0 => let ⟨b, o, e, k, l, f, r⟩ := h h0
    ⟨b, o, e, k, Nat.lt_of_lt_of_le l hs, fun x i hi => (frozen_keep (hk b k l)).trans (f x i hi), fun i hi => (cell_keep (hk b k l)).trans (r i hi)⟩
theorem ByAt.below {K : Nat → Prop} {own : Bool} {w w' : World} {a : Option Addr} {xs : List UInt8} (h : ByAt K own w a xs) (hb : Below w.heap.size w w') : ByAt K own w' a xs := h.keep hb.size (fun b _ l => hb.block b l)
theorem ByAt.only {K S : Nat → Prop} {own : Bool} {w w' : World} {a : Option Addr} {xs : List UInt8} (h : ByAt K own w a xs) (ho : Only S w w') (hn : ∀ b, K b → ¬ S b) : ByAt K own w' a xs := h.keep ho.size (fun b k l => ho.block b l (hn b k))
theorem ByAt.drewN {K : Nat → Prop} {own : Bool} {w : World} {a : Option Addr} {xs : List UInt8} (h : ByAt K own w a xs) (n : Nat) : ByAt K own (w.drewN n) a xs := h
theorem ByAt.drop {K : Nat → Prop} {own : Bool} {w : World} {a : Option Addr} {xs : List UInt8} (h : ByAt K own w a xs) {c : Nat} (hc : xs.length ≤ c) (l : Nat) : ByAt K own w (cutA a l c 1) (xs.drop l) := fun h0 => by
  simp only [List.length_drop] at h0
  obtain ⟨b, o, rfl, k, hl, f, r⟩ := h (by omega)
  refine ⟨b, o + l, ?_, k, hl, fun x i hi => ?_, fun i hi => ?_⟩
  · unfold cutA
    rw [if_neg (by omega), Nat.mul_one]
    simp [addr_add]
  · simp only [List.length_drop] at hi
    have := f x (l + i) (by omega)
    rwa [← Nat.add_assoc] at this
  · simp only [List.length_drop] at hi
    have := r (l + i) (by omega)
    rw [← Nat.add_assoc] at this
    simpa using this
theorem ByAt.take {K : Nat → Prop} {own : Bool} {w : World} {a : Option Addr} {xs : List UInt8} (h : ByAt K own w a xs) (n : Nat) : ByAt K own w a (xs.take n) := fun h0 => by
  simp only [List.length_take] at h0
  obtain ⟨b, o, e, k, hl, f, r⟩ := h (by omega)
  refine ⟨b, o, e, k, hl, fun x i hi => f x i (by simp only [List.length_take] at hi; omega), fun i hi => ?_⟩
  simp only [List.length_take] at hi
  have := r i (by omega)
  simpa using this
theorem ByAt.cell {K : Nat → Prop} {own : Bool} {w : World} {a : Option Addr} {xs : List UInt8} (h : ByAt K own w a xs) {i : Nat} (hi : i < xs.length) : ∃ b o, a = some ⟨b, o, none⟩ ∧ w.cell? ⟨b, o + i, none⟩ = some (.int .u8 (xs[i].toNat : Int)) := by
  obtain ⟨b, o, e, k, hl, f, r⟩ := h (by omega)
  exact ⟨b, o, e, r i hi⟩
/-- what a datum of bytes that came in is -/
theorem ByAt.of_ok {w : World} {v : Value} {xs : List UInt8} (h : (rSl rByte).ok (Sub.all w) [v] xs) : ∃ a c, v = .slice a xs.length c ∧ xs.length ≤ c ∧ c ≤ maxLen ∧ ByAt (fun _ => True) false w a xs := by
  obtain ⟨a, c, e, h1, h2, h3⟩ := h
  refine ⟨a, c, by simpa using e, h1, h2, fun h0 => ?_⟩
  obtain ⟨b, o, e, hr⟩ := h3 h0
  obtain ⟨cs, hok, hat⟩ := hr 0 h0
  exact ⟨b, o, e, trivial, hat.lt (Sub.all_in w), fun x => (Bool.false_ne_true x).elim, hr.bytes (Sub.all_in w)⟩
/-- a row that the call built -/
theorem ByAt.of_owns {w : World} {base e n : Nat} {v : Value} {xs : List UInt8} (h : w.ownsRow base e 1 v n (xs.map fun x => .int .u8 (x.toNat : Int))) (hn : n = xs.length) :
    ∃ a c, v = .slice a xs.length c ∧ xs.length ≤ c ∧ c ≤ maxLen ∧ ByAt (fun b => base ≤ b) true w a xs := by
  subst hn
  rcases h.2 with ⟨rfl, h0⟩ | ⟨g, cap, cur, rfl, hb, hh, hc, hm, hs, ht⟩
  · have : xs = [] := List.eq_nil_of_length_eq_zero (by simpa using h0)
    subst this
    exact ⟨none, 0, rfl, by simp, by simp [maxLen], ByAt.nil _ _ _ _⟩
  · refine ⟨some ⟨g, 0, none⟩, cap, rfl, hc, hm, fun h0 => ⟨g, 0, rfl, hb, (Array.getElem?_eq_some_iff.1 hh).1, fun _ i hi => ?_, fun i hi => ?_⟩⟩
    · simp only [World.frozen?]
      rw [hh]
      simp
    · simp only [World.cell?]
      rw [hh]
      have h1 := congrArg (fun l => l[i]?) ht
      simp only [List.getElem?_take, Nat.mul_one] at h1
      rw [if_pos hi] at h1
      simp only [Nat.zero_add]
      simp at h1
      simp [h1, hi]

/-! ### a list of texts -/
/-- a text among cells -/
def TxCell (K : Nat → Prop) (own : Bool) (w : World) (v : Option Value) (x : List UInt8) : Prop := ∃ a c, v = some (.slice a x.length c) ∧ x.length ≤ c ∧ c ≤ maxLen ∧ ByAt K own w a x
theorem TxCell.mono {K L : Nat → Prop} {own : Bool} {w : World} {v : Option Value} {x : List UInt8} (h : TxCell K own w v x) (hK : ∀ b, K b → L b) : TxCell L own w v x := let ⟨a, c, e, h1, h2, h3⟩ := h; ⟨a, c, e, h1, h2, h3.mono hK⟩
theorem TxCell.any {K : Nat → Prop} {own : Bool} {w : World} {v : Option Value} {x : List UInt8} (h : TxCell K own w v x) : TxCell (fun _ => True) false w v x := let ⟨a, c, e, h1, h2, h3⟩ := h; ⟨a, c, e, h1, h2, h3.any⟩
theorem TxCell.keep {K : Nat → Prop} {own : Bool} {w w' : World} {v : Option Value} {x : List UInt8} (h : TxCell K own w v x) (hs : w.heap.size ≤ w'.heap.size) (hk : ∀ b, K b → b < w.heap.size → w'.heap[b]? = w.heap[b]?) : TxCell K own w' v x :=
  let ⟨a, c, e, h1, h2, h3⟩ := h; ⟨a, c, e, h1, h2, h3.keep hs hk⟩
/-- texts at an address, in a block of K; their bytes in blocks of K -/
def TxAt (K : Nat → Prop) (own : Bool) (w : World) (a : Option Addr) (xs : List (List UInt8)) : Prop :=
  0 < xs.length → ∃ b o, a = some ⟨b, o, none⟩ ∧ K b ∧ b < w.heap.size ∧ ∀ i (h : i < xs.length), TxCell K own w (w.cell? ⟨b, o + i, none⟩) xs[i]
theorem TxAt.mono {K L : Nat → Prop} {own : Bool} {w : World} {a : Option Addr} {xs : List (List UInt8)} (h : TxAt K own w a xs) (hK : ∀ b, K b → L b) : TxAt L own w a xs :=
  fun h0 => let ⟨b, o, e, k, l, r⟩ := h h0; ⟨b, o, e, hK b k, l, fun i hi => (r i hi).mono hK⟩
theorem TxAt.any {K : Nat → Prop} {own : Bool} {w : World} {a : Option Addr} {xs : List (List UInt8)} (h : TxAt K own w a xs) : TxAt (fun _ => True) false w a xs :=
  fun h0 => let ⟨b, o, e, k, l, r⟩ := h h0; ⟨b, o, e, trivial, l, fun i hi => (r i hi).any⟩
theorem TxAt.keep {K : Nat → Prop} {own : Bool} {w w' : World} {a : Option Addr} {xs : List (List UInt8)} (h : TxAt K own w a xs) (hs : w.heap.size ≤ w'.heap.size) (hk : ∀ b, K b → b < w.heap.size → w'.heap[b]? = w.heap[b]?) : TxAt K own w' a xs :=
  fun h0 => let ⟨b, o, e, k, l, r⟩ := h h0; ⟨b, o, e, k, Nat.lt_of_lt_of_le l hs, fun i hi => by rw [cell_keep (hk b k l)]; exact (r i hi).keep hs hk⟩
theorem TxAt.below {K : Nat → Prop} {own : Bool} {w w' : World} {a : Option Addr} {xs : List (List UInt8)} (h : TxAt K own w a xs) (hb : Below w.heap.size w w') : TxAt K own w' a xs := h.keep hb.size (fun b _ l => hb.block b l)
theorem TxAt.only {K S : Nat → Prop} {own : Bool} {w w' : World} {a : Option Addr} {xs : List (List UInt8)} (h : TxAt K own w a xs) (ho : Only S w w') (hn : ∀ b, K b → ¬ S b) : TxAt K own w' a xs := h.keep ho.size (fun b k l => ho.block b l (hn b k))
theorem TxAt.lt {K : Nat → Prop} {own : Bool} {w : World} {a : Option Addr} {xs : List (List UInt8)} (h : TxAt K own w a xs) : TxAt (fun b => K b ∧ b < w.heap.size) own w a xs := fun h0 => by
  obtain ⟨b, o, e, k, l, r⟩ := h h0
  refine ⟨b, o, e, ⟨k, l⟩, l, fun i hi => ?_⟩
  obtain ⟨xa, xc, e, h1, h2, h3⟩ := r i hi
  exact ⟨xa, xc, e, h1, h2, fun h0 => let ⟨b, o, e, k, l, r⟩ := h3 h0; ⟨b, o, e, ⟨k, l⟩, l, r⟩⟩
theorem TxAt.nth {K : Nat → Prop} {own : Bool} {w : World} {a : Option Addr} {xs : List (List UInt8)} (h : TxAt K own w a xs) {i : Nat} (hi : i < xs.length) :
    ∃ b o xa xc, a = some ⟨b, o, none⟩ ∧ w.cell? ⟨b, o + i, none⟩ = some (.slice xa xs[i].length xc) ∧ xs[i].length ≤ xc ∧ xc ≤ maxLen ∧ ByAt K own w xa xs[i] := by
  obtain ⟨b, o, e, k, l, r⟩ := h (by omega)
  obtain ⟨xa, xc, e1, h1, h2, h3⟩ := r i hi
  exact ⟨b, o, xa, xc, e, e1, h1, h2, h3⟩
theorem TxAt.of_ok {w : World} {v : Value} {xs : List (List UInt8)} (h : (rSl (rSl rByte)).ok (Sub.all w) [v] xs) : ∃ a c, v = .slice a xs.length c ∧ xs.length ≤ c ∧ c ≤ maxLen ∧ TxAt (fun _ => True) false w a xs := by
  obtain ⟨a, c, e, h1, h2, h3⟩ := h
  refine ⟨a, c, by simpa using e, h1, h2, fun h0 => ?_⟩
  obtain ⟨b, o, e, hr⟩ := h3 h0
  obtain ⟨cs0, hok0, hat0⟩ := hr 0 h0
  refine ⟨b, o, e, trivial, hat0.lt (Sub.all_in w), fun i hi => ?_⟩
  obtain ⟨cs, hok, hat⟩ := hr i hi
  have hl : cs.length = 1 := (rSl rByte).len hok
  obtain ⟨v, rfl⟩ : ∃ v, cs = [v] := List.length_eq_one_iff.1 hl
  have hcell := hat.cell (Sub.all_in w) (j := 0) (by simp)
  obtain ⟨xa, xc, rfl, h4, h5, h6⟩ := ByAt.of_ok hok
  exact ⟨xa, xc, by simpa [rSl] using hcell, h4, h5, h6⟩

/-! ### a list of changes: four cells each -/
structure ChCells (K : Nat → Prop) (w : World) (b o : Nat) (f p : Int) (old new : List UInt8) : Prop where
  f : w.cell? ⟨b, o, none⟩ = some (.int .i64 f)
  p : w.cell? ⟨b, o + 1, none⟩ = some (.int .i64 p)
  old : TxCell K false w (w.cell? ⟨b, o + 2, none⟩) old
  new : TxCell K false w (w.cell? ⟨b, o + 3, none⟩) new
theorem ChCells.keep {K : Nat → Prop} {w w' : World} {b o : Nat} {f p : Int} {old new : List UInt8} (h : ChCells K w b o f p old new) (hs : w.heap.size ≤ w'.heap.size) (hb : w'.heap[b]? = w.heap[b]?) (hk : ∀ b, K b → b < w.heap.size → w'.heap[b]? = w.heap[b]?) : ChCells K w' b o f p old new :=
  ⟨(cell_keep hb).trans h.f, (cell_keep hb).trans h.p, by rw [cell_keep hb]; exact h.old.keep hs hk, by rw [cell_keep hb]; exact h.new.keep hs hk⟩
theorem ChCells.mono {K L : Nat → Prop} {w : World} {b o : Nat} {f p : Int} {old new : List UInt8} (h : ChCells K w b o f p old new) (hK : ∀ b, K b → L b) : ChCells L w b o f p old new := ⟨h.f, h.p, h.old.mono hK, h.new.mono hK⟩
end Go.Proofs.YtepdfkgadigafaaGreatDoor
/-
  The plain law of chapter 23: what differs between two lists of texts, put and undone; lists alone, no program in sight.
  Conditions: as each theorem states them.
-/
namespace Go.Proofs.YtepdfkgadigafaaGreatDoor.DM
set_option linter.unusedVariables false
abbrev Bytes := List UInt8
/-- how much is alike from the beginning -/
def cpre : Bytes → Bytes → Nat
  | a :: x, b :: y => if a = b then cpre x y + 1 else 0
  | [], _ => 0
  | _ :: _, [] => 0
theorem cpre_le_left : ∀ x y : Bytes, cpre x y ≤ x.length
  | a :: x, b :: y => by
    have := cpre_le_left x y
    simp only [cpre]; split <;> simp <;> omega
  | [], _ => by simp [cpre]
  | _ :: _, [] => by simp [cpre]
theorem cpre_le_right : ∀ x y : Bytes, cpre x y ≤ y.length
  | a :: x, b :: y => by
    have := cpre_le_right x y
    simp only [cpre]; split <;> simp <;> omega
  | [], _ => by simp [cpre]
  | _ :: _, [] => by simp [cpre]
theorem cpre_take : ∀ x y : Bytes, x.take (cpre x y) = y.take (cpre x y)
  | a :: x, b :: y => by
    have := cpre_take x y
    simp only [cpre]; split
    · rename_i h; subst h; simp [this]
    · simp
  | [], _ => by simp [cpre]
  | _ :: _, [] => by simp [cpre]
/-- the loop's word: k of them are alike, and the next one isn't -/
theorem cpre_eq (x y : Bytes) : ∀ k, (∀ i, i < k → ∃ c, x[i]? = some c ∧ y[i]? = some c) → (∀ c d, x[k]? = some c → y[k]? = some d → c ≠ d) → cpre x y = k := by
  induction x generalizing y with
  | nil =>
    intro k h _
    cases k with
    | zero => simp [cpre]
    | succ k => obtain ⟨c, h1, _⟩ := h 0 (by omega); simp at h1
  | cons a x ih =>
    intro k h hn
    cases y with
    | nil =>
      cases k with
      | zero => simp [cpre]
      | succ k => obtain ⟨c, _, h2⟩ := h 0 (by omega); simp at h2
    | cons b y =>
      cases k with
      | zero =>
        have := hn a b (by simp) (by simp)
        simp [cpre, this]
      | succ k =>
        obtain ⟨c, h1, h2⟩ := h 0 (by omega)
        simp at h1 h2
        subst h1; subst h2
        simp only [cpre, if_true]
        rw [ih y k (fun i hi => by have := h (i + 1) (by omega); simpa using this) (fun c d h1 h2 => hn c d (by simpa using h1) (by simpa using h2))]
structure Chg where
  field : Int
  pos : Int
  old : Bytes
  new : Bytes
def Chg.turned (c : Chg) : Chg := { c with old := c.new, new := c.old }
/-- what stands in a text's place from 'pos' on -/
def put (l : List Bytes) (c : Chg) : Option (List Bytes) :=
  if 0 ≤ c.field ∧ c.field < l.length ∧ 0 ≤ c.pos ∧ c.pos ≤ (l.getD c.field.toNat []).length ∧ c.old.isPrefixOf ((l.getD c.field.toNat []).drop c.pos.toNat) = true then
    some (l.set c.field.toNat ((l.getD c.field.toNat []).take c.pos.toNat ++ c.new ++ ((l.getD c.field.toNat []).drop c.pos.toNat).drop c.old.length))
  else none
def apply : List Chg → List Bytes → Option (List Bytes)
  | [], l => some l
  | c :: d, l => (put l c).bind (apply d)
def undo (d : List Chg) (l : List Bytes) : Option (List Bytes) := apply (d.reverse.map Chg.turned) l
def size (d : List Chg) : Nat := (d.map fun c => c.old.length + c.new.length).sum
/-- how much is alike at the end of what stands behind 'pos' -/
def csuf (x y : Bytes) : Nat := cpre (x.drop (cpre x y)).reverse (y.drop (cpre x y)).reverse
def one (i : Nat) (x y : Bytes) : Chg :=
  ⟨(i : Int), (cpre x y : Int), (x.drop (cpre x y)).take (x.length - cpre x y - csuf x y), (y.drop (cpre x y)).take (y.length - cpre x y - csuf x y)⟩
def betw : Nat → List Bytes → List Bytes → List Chg
  | i, x :: a, y :: b => if x = y then betw (i + 1) a b else one i x y :: betw (i + 1) a b
  | _, [], _ => []
  | _, _ :: _, [] => []
theorem csuf_le (x y : Bytes) : csuf x y ≤ x.length - cpre x y ∧ csuf x y ≤ y.length - cpre x y := by
  have h1 := cpre_le_left (x.drop (cpre x y)).reverse (y.drop (cpre x y)).reverse
  have h2 := cpre_le_right (x.drop (cpre x y)).reverse (y.drop (cpre x y)).reverse
  simp only [List.length_reverse, List.length_drop] at h1 h2
  exact ⟨h1, h2⟩
theorem csuf_eq (x y : Bytes) : (x.drop (cpre x y)).drop (x.length - cpre x y - csuf x y) = (y.drop (cpre x y)).drop (y.length - cpre x y - csuf x y) := by
  have h := cpre_take (x.drop (cpre x y)).reverse (y.drop (cpre x y)).reverse
  rw [show cpre (x.drop (cpre x y)).reverse (y.drop (cpre x y)).reverse = csuf x y from rfl, List.take_reverse, List.take_reverse] at h
  have h' := congrArg List.reverse h
  simpa using h'
theorem put_of {l : List Bytes} {c : Chg} {pre suf : List UInt8} (hf : l[c.field.toNat]? = some (pre ++ c.old ++ suf)) (h0 : 0 ≤ c.field) (hp : c.pos = (pre.length : Int)) :
    put l c = some (l.set c.field.toNat (pre ++ c.new ++ suf)) := by
  have hlt : c.field.toNat < l.length := by
    rcases List.getElem?_eq_some_iff.1 hf with ⟨h, _⟩; exact h
  have hg : l.getD c.field.toNat [] = pre ++ c.old ++ suf := by simp [List.getD, hf]
  unfold put
  rw [hg, hp]
  rw [if_pos ⟨h0, by omega, by omega, by simp; omega, by simp⟩]
  simp
/-- what a change that fits does, and undoes -/
theorem put_some {l l' : List Bytes} {c : Chg} (h : put l c = some l') : put l' c.turned = some l := by
  unfold put at h
  split at h
  · rename_i hc
    obtain ⟨h0, h1, h2, h3, h4⟩ := hc
    rw [List.isPrefixOf_iff_prefix] at h4
    obtain ⟨suf, hs⟩ := h4
    cases h
    have hlt : c.field.toNat < l.length := by omega
    have e : l.getD c.field.toNat [] = (l.getD c.field.toNat []).take c.pos.toNat ++ c.old ++ suf := by
      rw [List.append_assoc, hs, List.take_append_drop]
    have hlen : ((l.getD c.field.toNat []).take c.pos.toNat).length = c.pos.toNat := by rw [List.length_take]; omega
    generalize hx : l.getD c.field.toNat [] = x at *
    rw [← hs]
    have : (c.old ++ suf).drop c.old.length = suf := by simp
    rw [this]
    have hp := put_of (l := l.set c.field.toNat (x.take c.pos.toNat ++ c.new ++ suf)) (c := c.turned) (pre := x.take c.pos.toNat) (suf := suf)
      (by show (l.set c.field.toNat _)[c.field.toNat]? = _; rw [List.getElem?_set_self hlt]; rfl) h0 (by show c.pos = _; rw [hlen]; omega)
    rw [hp]
    show some ((l.set c.field.toNat _).set c.field.toNat (x.take c.pos.toNat ++ c.old ++ suf)) = _
    rw [← e, List.set_set]
    congr 1
    rw [← hx]
    apply List.ext_getElem? 
    intro i
    by_cases hi : c.field.toNat = i
    · subst hi
      rw [List.getElem?_set_self hlt]
      simp [List.getD, List.getElem?_eq_getElem hlt]
    · rw [List.getElem?_set_ne hi]
  · cases h
theorem apply_append (d e : List Chg) (l : List Bytes) : apply (d ++ e) l = (apply d l).bind (apply e) := by
  induction d generalizing l with
  | nil => rfl
  | cons c d ih =>
    simp only [List.cons_append, apply]
    cases put l c with
    | none => rfl
    | some m => simp [ih]
theorem undo_apply {d : List Chg} {l m : List Bytes} (h : apply d l = some m) : undo d m = some l := by
  induction d generalizing l with
  | nil => cases h; rfl
  | cons c d ih =>
    simp only [apply] at h
    cases hp : put l c with
    | none => rw [hp] at h; cases h
    | some k =>
      rw [hp] at h
      have := ih h
      unfold undo at this ⊢
      rw [List.reverse_cons, List.map_append, apply_append, this]
      simp [apply, put_some hp]
theorem split_text (x : Bytes) (p n : Nat) : x.take p ++ (x.drop p).take (x.length - p - n) ++ (x.drop p).drop (x.length - p - n) = x := by
  rw [List.append_assoc, List.take_append_drop, List.take_append_drop]
theorem apply_betw : ∀ (a b pre : List Bytes), a.length = b.length → apply (betw pre.length a b) (pre ++ a) = some (pre ++ b) := by
  intro a
  induction a with
  | nil => intro b pre h; cases b with | nil => rfl | cons y b => simp at h
  | cons x a ih =>
    intro b pre h
    cases b with
    | nil => simp at h
    | cons y b =>
      have h' : a.length = b.length := by simpa using h
      simp only [betw]
      have key : ∀ (z : Bytes), apply (betw (pre.length + 1) a b) (pre ++ z :: a) = some (pre ++ z :: b) := fun z => by
        have := ih b (pre ++ [z]) h'
        simpa using this
      split
      · rename_i e; subst e
        exact key x
      · simp only [apply]
        have hx := split_text x (cpre x y) (csuf x y) 
        have hp := put_of (l := pre ++ x :: a) (c := one pre.length x y) (pre := x.take (cpre x y)) (suf := (x.drop (cpre x y)).drop (x.length - cpre x y - csuf x y))
          (by show (pre ++ x :: a)[((pre.length : Nat) : Int).toNat]? = some (x.take (cpre x y) ++ (x.drop (cpre x y)).take (x.length - cpre x y - csuf x y) ++ _)
              rw [hx]; simp) (by show (0 : Int) ≤ (pre.length : Int); omega) (by show (cpre x y : Int) = _; have := cpre_le_left x y; simp; omega)
        rw [hp]
        have hy := split_text y (cpre x y) (csuf x y)
        have : x.take (cpre x y) ++ (one pre.length x y).new ++ (x.drop (cpre x y)).drop (x.length - cpre x y - csuf x y) = y := by
          rw [csuf_eq, cpre_take]; exact hy
        rw [this]
        show apply _ ((pre ++ x :: a).set ((pre.length : Nat) : Int).toNat y) = _
        simp [key y]
theorem undo_betw (a b : List Bytes) (h : a.length = b.length) : undo (betw 0 a b) b = some a := by
  have := apply_betw a b [] h
  exact undo_apply (by simpa using this)
end Go.Proofs.YtepdfkgadigafaaGreatDoor.DM
/-
  Contracts of what only reads, in chapter 23: front, back, Same, Great, Texts, Size.
  Conditions: as each theorem states them.
-/
namespace Go.Proofs.YtepdfkgadigafaaGreatDoor
open Go.RowKit
set_option linter.unusedVariables false
set_option linter.unusedSimpArgs false
def Alike (k : Nat) (xs ys : List UInt8) : Prop := ∀ i, i < k → ∃ c, xs[i]? = some c ∧ ys[i]? = some c
theorem Alike.zero (xs ys : List UInt8) : Alike 0 xs ys := fun i h => by omega
theorem Alike.succ {k : Nat} {xs ys : List UInt8} (h : Alike k xs ys) (h1 : k < xs.length) (h2 : k < ys.length) (e : xs[k] = ys[k]) : Alike (k + 1) xs ys := fun i hi => by
  by_cases hk : i = k
  · subst hk; exact ⟨xs[i], by simp [h1], by simp [h2, e]⟩
  · exact h i (by omega)
theorem Alike.cpre {k : Nat} {xs ys : List UInt8} (h : Alike k xs ys) (hn : ∀ (h1 : k < xs.length) (h2 : k < ys.length), xs[k] ≠ ys[k]) : DM.cpre xs ys = k :=
  DM.cpre_eq xs ys k h fun c d hc hd e => by
    obtain ⟨h1, h1'⟩ := List.getElem?_eq_some_iff.1 hc
    obtain ⟨h2, h2'⟩ := List.getElem?_eq_some_iff.1 hd
    exact hn h1 h2 (by rw [h1', h2', e])
theorem byte_eq {x y : UInt8} (h : x = y) : ((x.toNat : Int) == (y.toNat : Int)) = true := by simp [h]
theorem byte_ne {x y : UInt8} (h : ¬ x = y) : ((x.toNat : Int) == (y.toNat : Int)) = false := by
  simp only [beq_eq_false_iff_ne, ne_eq]
  intro e; exact h (UInt8.toNat_inj.1 (by omega))
theorem byte_eq' {x y : UInt8} (h : x = y) : ((x.toNat : Int) != (y.toNat : Int)) = false := by simp [h]
theorem byte_ne' {x y : UInt8} (h : ¬ x = y) : ((x.toNat : Int) != (y.toNat : Int)) = true := by
  simp only [bne_iff_ne, ne_eq]
  intro e; exact h (UInt8.toNat_inj.1 (by omega))
theorem dn (w : World) (n m : Nat) : ∃ k, (w.drewN n).drewN m = w.drewN k := ⟨n + m, by simp⟩
set_option maxHeartbeats 2000000 in
theorem front_any (ba bb : Option Addr) (xs ys : List UInt8) (c d : Nat) (w : World) (hx : xs.length ≤ 1000000) (hy : ys.length ≤ 1000000) (ha : ByAt (fun _ => True) false w ba xs) (hb : ByAt (fun _ => True) false w bb ys) :
    Calls Tryz.prog 48 #[.slice ba xs.length c, .slice bb ys.length d] w fun e w' => e = .returned (.int .i64 (DM.cpre xs ys : Nat)) ∧ ∃ m, w' = w.drewN m := by
  replace ha := Lib.hid ha
  replace hb := Lib.hid hb
  go_enter Tryz.func48, Tryz.ntmps48
  go_wp2_with fail
  go_loopw [5] (fun i wr => ∃ k m : Nat, i = .int .i64 (k : Int) ∧ k ≤ xs.length ∧ k ≤ ys.length ∧ Alike k xs ys ∧ wr = w.drewN m) (fun i _ => xs.length - (intOf i).toNat)
  case atStart => exact ⟨0, 0, rfl, by omega, by omega, Alike.zero _ _, rfl⟩
  case round =>
    obtain ⟨k, m, rfl, hk1, hk2, hal, rfl⟩ := hrel
    by_cases h1 : k < xs.length
    · by_cases h2 : k < ys.length
      · obtain ⟨b1, o1, rfl, c1⟩ := ha.out.cell h1
        obtain ⟨b2, o2, rfl, c2⟩ := hb.out.cell h2
        by_cases h3 : xs[k] = ys[k]
        · have e3 := byte_eq h3
          have hal' := hal.succ h1 h2 h3
          clear hal
          replace h3 := Lib.hid h3
          go_wp2_with (go_quiet (fail))
          all_goals go_roundw
          case measure => simp [intOf]; omega
          case rel => exact ⟨k + 1, _, by go_num, by omega, by omega, hal', rfl⟩
        · have e3 := byte_ne h3
          have hc := hal.cpre (fun _ _ => h3)
          clear hal
          replace hc := Lib.hid hc
          replace h3 := Lib.hid h3
          go_wp2_with (go_quiet (fail))
          all_goals go_ret
          all_goals exact ⟨ret_int (by rw [hc.out]), dn _ _ _⟩
      · have hd : decide (k < ys.length) = false := by simpa using h2
        have hc := hal.cpre (fun _ h => absurd h h2)
        clear hal
        replace hc := Lib.hid hc
        go_wp2_with (go_quiet (fail))
        all_goals go_ret
        all_goals exact ⟨ret_int (by rw [hc.out]), dn _ _ _⟩
    · have hd : decide (k < xs.length) = false := by simpa using h1
      have hc := hal.cpre (fun h _ => absurd h h1)
      clear hal
      replace hc := Lib.hid hc
      go_wp2_with (go_quiet (fail))
      all_goals go_ret
      all_goals exact ⟨ret_int (by rw [hc.out]), dn _ _ _⟩
set_option maxHeartbeats 4000000 in
theorem back_any (ba bb : Option Addr) (xs ys : List UInt8) (c d : Nat) (w : World) (hx : xs.length ≤ 1000000) (hy : ys.length ≤ 1000000) (ha : ByAt (fun _ => True) false w ba xs) (hb : ByAt (fun _ => True) false w bb ys) :
    Calls Tryz.prog 49 #[.slice ba xs.length c, .slice bb ys.length d] w fun e w' => e = .returned (.int .i64 (DM.cpre xs.reverse ys.reverse : Nat)) ∧ ∃ m, w' = w.drewN m := by
  replace ha := Lib.hid ha
  replace hb := Lib.hid hb
  have lx : xs.reverse.length = xs.length := List.length_reverse
  have ly : ys.reverse.length = ys.length := List.length_reverse
  replace lx := Lib.hid lx
  replace ly := Lib.hid ly
  go_enter Tryz.func49, Tryz.ntmps49
  go_wp2_with fail
  go_loopw [5] (fun i wr => ∃ k m : Nat, i = .int .i64 (k : Int) ∧ k ≤ xs.length ∧ k ≤ ys.length ∧ Alike k xs.reverse ys.reverse ∧ wr = w.drewN m) (fun i _ => xs.length - (intOf i).toNat)
  case atStart => exact ⟨0, 0, rfl, by omega, by omega, Alike.zero _ _, rfl⟩
  case round =>
    obtain ⟨k, m, rfl, hk1, hk2, hal, rfl⟩ := hrel
    by_cases h1 : k < xs.length
    · by_cases h2 : k < ys.length
      · have i1 : xs.length - 1 - k < xs.length := by omega
        have j1 : ys.length - 1 - k < ys.length := by omega
        obtain ⟨b1, o1, rfl, c1⟩ := ha.out.cell (i := xs.length - 1 - k) (by omega)
        obtain ⟨b2, o2, rfl, c2⟩ := hb.out.cell (i := ys.length - 1 - k) (by omega)
        have r1 : xs.reverse[k]'(by rw [lx.out]; omega) = xs[xs.length - 1 - k] := by rw [List.getElem_reverse]
        have r2 : ys.reverse[k]'(by rw [ly.out]; omega) = ys[ys.length - 1 - k] := by rw [List.getElem_reverse]
        have i2 : ((xs.length - 1 - k : Nat) : Int) < xs.length := by omega
        have j2 : ((ys.length - 1 - k : Nat) : Int) < ys.length := by omega
        by_cases h3 : xs[xs.length - 1 - k] = ys[ys.length - 1 - k]
        · have e3 := byte_eq h3
          have hal' := hal.succ (by rw [lx.out]; exact h1) (by rw [ly.out]; exact h2) (by rw [r1, r2]; exact h3)
          clear hal r1 r2
          replace h3 := Lib.hid h3
          go_wp2_with (go_quiet (fail))
          all_goals go_roundw
          case measure => simp [intOf]; omega
          case rel => exact ⟨k + 1, _, by go_num, by omega, by omega, hal', rfl⟩
        · have e3 := byte_ne h3
          have hc := hal.cpre (fun _ _ => by rw [r1, r2]; exact h3)
          clear hal r1 r2
          replace hc := Lib.hid hc
          replace h3 := Lib.hid h3
          go_wp2_with (go_quiet (fail))
          all_goals go_ret
          all_goals exact ⟨ret_int (by rw [hc.out]), dn _ _ _⟩
      · have hd : decide (k < ys.length) = false := by simpa using h2
        have hc := hal.cpre (fun _ h => absurd h (by rw [ly.out]; exact h2))
        clear hal
        replace hc := Lib.hid hc
        go_wp2_with (go_quiet (fail))
        all_goals go_ret
        all_goals exact ⟨ret_int (by rw [hc.out]), dn _ _ _⟩
    · have hd : decide (k < xs.length) = false := by simpa using h1
      have hc := hal.cpre (fun h _ => absurd h (by rw [lx.out]; exact h1))
      clear hal
      replace hc := Lib.hid hc
      go_wp2_with (go_quiet (fail))
      all_goals go_ret
      all_goals exact ⟨ret_int (by rw [hc.out]), dn _ _ _⟩
def eqB (x y : List UInt8) : Bool := decide (x = y)
theorem Alike.eq {xs ys : List UInt8} (h : Alike xs.length xs ys) (hl : xs.length = ys.length) : eqB xs ys = true := by
  have : xs = ys := List.ext_getElem? fun i => by
    by_cases hi : i < xs.length
    · obtain ⟨c, h1, h2⟩ := h i hi; rw [h1, h2]
    · rw [List.getElem?_eq_none (by omega), List.getElem?_eq_none (by omega)]
  simp [eqB, this]
theorem eqB_len {xs ys : List UInt8} (h : ¬ xs.length = ys.length) : eqB xs ys = false := by
  simp only [eqB, decide_eq_false_iff_not]; intro e; exact h (by rw [e])
theorem eqB_at {xs ys : List UInt8} {k : Nat} (h1 : k < xs.length) (h2 : k < ys.length) (h : xs[k] ≠ ys[k]) : eqB xs ys = false := by
  simp only [eqB, decide_eq_false_iff_not]; intro e; subst e; exact h rfl
set_option maxHeartbeats 2000000 in
theorem same_any (ba bb : Option Addr) (xs ys : List UInt8) (c d : Nat) (w : World) (hx : xs.length ≤ 1000000) (hy : ys.length ≤ 1000000) (ha : ByAt (fun _ => True) false w ba xs) (hb : ByAt (fun _ => True) false w bb ys) :
    Calls Tryz.prog 38 #[.slice ba xs.length c, .slice bb ys.length d] w fun e w' => e = .returned (.bool (eqB xs ys)) ∧ ∃ m, w' = w.drewN m := by
  replace ha := Lib.hid ha
  replace hb := Lib.hid hb
  by_cases hl : xs.length = ys.length
  · have hle := hl
    replace hl := Lib.hid hl
    have hl1 : ((xs.length : Int) != (ys.length : Int)) = false := by simp [hle]
    have hl2 : (xs.length : Int) ≤ ys.length := by omega
    have hl3 : (ys.length : Int) ≤ xs.length := by omega
    have hl4 : xs.length ≤ ys.length := by omega
    clear hle
    go_enter Tryz.func38, Tryz.ntmps38
    go_wp2_with fail
    go_loopw [5] (fun i wr => ∃ k m : Nat, i = .int .i64 (k : Int) ∧ k ≤ xs.length ∧ Alike k xs ys ∧ wr = w.drewN m) (fun i _ => xs.length - (intOf i).toNat)
    case atStart => exact ⟨0, 0, rfl, by omega, Alike.zero _ _, rfl⟩
    case round =>
      obtain ⟨k, m, rfl, hk1, hal, rfl⟩ := hrel
      by_cases h1 : k < xs.length
      · have h2 : k < ys.length := by omega
        obtain ⟨b1, o1, rfl, c1⟩ := ha.out.cell h1
        obtain ⟨b2, o2, rfl, c2⟩ := hb.out.cell h2
        by_cases h3 : xs[k] = ys[k]
        · have e3 := byte_eq' h3
          have hal' := hal.succ h1 h2 h3
          clear hal
          replace h3 := Lib.hid h3
          go_wp2_with (go_quiet (fail))
          all_goals go_roundw
          case measure => simp [intOf]; omega
          case rel => exact ⟨k + 1, _, by go_num, by omega, hal', rfl⟩
        · have e3 := byte_ne' h3
          have hc := eqB_at h1 h2 h3
          clear hal
          replace hc := Lib.hid hc
          replace h3 := Lib.hid h3
          go_wp2_with (go_quiet (fail))
          all_goals go_ret
          all_goals exact ⟨ret_bool (by rw [hc.out]), dn _ _ _⟩
      · have hkx : xs.length ≤ k := by omega
        have hc := Alike.eq (xs := xs) (ys := ys) (by have := hal; rwa [show k = xs.length by omega] at this) hl.out
        clear hal
        replace hc := Lib.hid hc
        go_wp2_with (go_quiet (fail))
        all_goals go_ret
        all_goals exact ⟨ret_bool (by rw [hc.out]), m, rfl⟩
  · have hc := eqB_len hl
    have hl1 : ((xs.length : Int) != (ys.length : Int)) = true := by simp only [bne_iff_ne, ne_eq]; omega
    replace hc := Lib.hid hc
    go_enter Tryz.func38, Tryz.ntmps38
    go_wp2_with fail
    all_goals go_ret
    all_goals exact ⟨ret_bool (by rw [hc.out]), 0, rfl⟩
/-! ### lists of texts -/
def greatD (xs : List (List UInt8)) : Bool := decide (20 < xs.length) || xs.any fun x => decide (200 < x.length)
def Small (k : Nat) (xs : List (List UInt8)) : Prop := ∀ i (h : i < xs.length), i < k → xs[i].length ≤ 200
theorem greatD_long {xs : List (List UInt8)} (h : 20 < xs.length) : greatD xs = true := by simp [greatD, h]
theorem greatD_at {xs : List (List UInt8)} {k : Nat} (h : k < xs.length) (h2 : 200 < xs[k].length) : greatD xs = true := by
  simp only [greatD, Bool.or_eq_true, List.any_eq_true, decide_eq_true_eq]
  exact .inr ⟨xs[k], List.getElem_mem h, h2⟩
theorem greatD_no {xs : List (List UInt8)} (h : xs.length ≤ 20) (h2 : Small xs.length xs) : greatD xs = false := by
  simp only [greatD, Bool.or_eq_false_iff, decide_eq_false_iff_not, List.any_eq_false, decide_eq_true_eq]
  refine ⟨by omega, fun x hx => ?_⟩
  obtain ⟨i, hi, rfl⟩ := List.mem_iff_getElem.1 hx
  have := h2 i hi hi
  omega
theorem not_great {xs : List (List UInt8)} (h : greatD xs = false) : xs.length ≤ 20 ∧ ∀ i (h : i < xs.length), xs[i].length ≤ 200 := by
  simp only [greatD, Bool.or_eq_false_iff, decide_eq_false_iff_not, List.any_eq_false, decide_eq_true_eq] at h
  exact ⟨by omega, fun i hi => by have := h.2 xs[i] (List.getElem_mem hi); omega⟩
theorem quiet_mn {P : Program} {f : FuncId} {args : Array Value} {w : World} {m x : Nat} {v : Value} (h : ∀ n, Calls P f args (w.drewN n) fun e w' => e = .returned v ∧ ∃ k, w' = (w.drewN n).drewN k) :
    Calls P f args (w.drewN (m + x)) fun e w'' => e = .returned v ∧ ∃ n, w'' = w.drewN (m + n) :=
  (h (m + x)).mono fun _ _ ⟨he, k, hk⟩ => ⟨he, x + k, by rw [hk, World.drewN_drewN, Nat.add_assoc]⟩
theorem quiet_n {P : Program} {f : FuncId} {args : Array Value} {w : World} {x : Nat} {v : Value} (h : ∀ n, Calls P f args (w.drewN n) fun e w' => e = .returned v ∧ ∃ k, w' = (w.drewN n).drewN k) :
    Calls P f args (w.drewN x) fun e w'' => e = .returned v ∧ ∃ n, w'' = w.drewN n :=
  (h x).mono fun _ _ ⟨he, k, hk⟩ => ⟨he, x + k, by rw [hk, World.drewN_drewN]⟩
def txB (x y : List (List UInt8)) : Bool := decide (x = y)
def AlikeT (k : Nat) (xs ys : List (List UInt8)) : Prop := ∀ i, i < k → ∃ c, xs[i]? = some c ∧ ys[i]? = some c
theorem eqB_true {x y : List UInt8} : eqB x y = true ↔ x = y := by simp [eqB]
theorem eqB_false {x y : List UInt8} : eqB x y = false ↔ ¬ x = y := by simp [eqB]
theorem AlikeT.succ {k : Nat} {xs ys : List (List UInt8)} (h : AlikeT k xs ys) (h1 : k < xs.length) (h2 : k < ys.length) (e : xs[k] = ys[k]) : AlikeT (k + 1) xs ys := fun i hi => by
  by_cases hk : i = k
  · subst hk; exact ⟨xs[i], by simp [h1], by simp [h2, e]⟩
  · exact h i (by omega)
theorem AlikeT.eq {xs ys : List (List UInt8)} (h : AlikeT xs.length xs ys) (hl : xs.length = ys.length) : txB xs ys = true := by
  have : xs = ys := List.ext_getElem? fun i => by
    by_cases hi : i < xs.length
    · obtain ⟨c, h1, h2⟩ := h i hi; rw [h1, h2]
    · rw [List.getElem?_eq_none (by omega), List.getElem?_eq_none (by omega)]
  simp [txB, this]
theorem txB_len {xs ys : List (List UInt8)} (h : ¬ xs.length = ys.length) : txB xs ys = false := by
  simp only [txB, decide_eq_false_iff_not]; intro e; exact h (by rw [e])
theorem txB_at {xs ys : List (List UInt8)} {k : Nat} (h1 : k < xs.length) (h2 : k < ys.length) (h : xs[k] ≠ ys[k]) : txB xs ys = false := by
  simp only [txB, decide_eq_false_iff_not]; intro e; subst e; exact h rfl
set_option maxHeartbeats 2000000 in
theorem texts_any (ba bb : Option Addr) (xs ys : List (List UInt8)) (c d : Nat) (w : World) (hx : xs.length ≤ 1000000) (hy : ys.length ≤ 1000000) (hxs : ∀ i (h : i < xs.length), xs[i].length ≤ 1000000) (hys : ∀ i (h : i < ys.length), ys[i].length ≤ 1000000)
    (ha : TxAt (fun _ => True) false w ba xs) (hb : TxAt (fun _ => True) false w bb ys) :
    Calls Tryz.prog 17 #[.slice ba xs.length c, .slice bb ys.length d] w fun e w' => e = .returned (.bool (txB xs ys)) ∧ ∃ m, w' = w.drewN m := by
  replace ha := Lib.hid ha
  replace hb := Lib.hid hb
  replace hxs := Lib.hid hxs
  replace hys := Lib.hid hys
  by_cases hl : xs.length = ys.length
  · have hle := hl
    replace hl := Lib.hid hl
    have hl1 : ((xs.length : Int) != (ys.length : Int)) = false := by simp [hle]
    have hl2 : (xs.length : Int) ≤ ys.length := by omega
    have hl3 : (ys.length : Int) ≤ xs.length := by omega
    have hl4 : xs.length ≤ ys.length := by omega
    clear hle
    go_enter Tryz.func17, Tryz.ntmps17
    go_wp2_with fail
    go_loopw [5] (fun i wr => ∃ k m : Nat, i = .int .i64 (k : Int) ∧ k ≤ xs.length ∧ AlikeT k xs ys ∧ wr = w.drewN m) (fun i _ => xs.length - (intOf i).toNat)
    case atStart => exact ⟨0, 0, rfl, by omega, fun i h => by omega, rfl⟩
    case round =>
      obtain ⟨k, m, rfl, hk1, hal, rfl⟩ := hrel
      by_cases h1 : k < xs.length
      · have h2 : k < ys.length := by omega
        obtain ⟨b1, o1, xa, xc, rfl, c1, _, _, hA⟩ := ha.out.nth h1
        obtain ⟨b2, o2, ya, yc, rfl, c2, _, _, hB⟩ := hb.out.nth h2
        have hsm := fun n => same_any xa ya xs[k] ys[k] xc yc (w.drewN n) (hxs.out k _) (hys.out k _) (hA.drewN n) (hB.drewN n)
        clear hA hB
        by_cases h3 : xs[k] = ys[k]
        · rw [eqB_true.2 h3] at hsm
          have hal' := hal.succ h1 h2 h3
          clear hal
          replace h3 := Lib.hid h3
          replace hsm := Lib.hid hsm
          go_wp2_with (go_quiet ((go_at_call 38; exact quiet_mn hsm.out)))
          all_goals go_roundw
          case measure => simp [intOf]; omega
          case rel => exact ⟨k + 1, _, by go_num, by omega, hal', rfl⟩
        · rw [eqB_false.2 h3] at hsm
          have hc := txB_at h1 h2 h3
          clear hal
          replace hc := Lib.hid hc
          replace h3 := Lib.hid h3
          replace hsm := Lib.hid hsm
          go_wp2_with (go_quiet ((go_at_call 38; exact quiet_mn hsm.out)))
          all_goals go_ret
          all_goals exact ⟨ret_bool (by rw [hc.out]), dn _ _ _⟩
      · have hkx : xs.length ≤ k := by omega
        have hc := AlikeT.eq (xs := xs) (ys := ys) (by have := hal; rwa [show k = xs.length by omega] at this) hl.out
        clear hal
        replace hc := Lib.hid hc
        go_wp2_with (go_quiet (fail))
        all_goals go_ret
        all_goals exact ⟨ret_bool (by rw [hc.out]), m, rfl⟩
  · have hc := txB_len hl
    have hl1 : ((xs.length : Int) != (ys.length : Int)) = true := by simp only [bne_iff_ne, ne_eq]; omega
    replace hc := Lib.hid hc
    go_enter Tryz.func17, Tryz.ntmps17
    go_wp2_with fail
    all_goals go_ret
    all_goals exact ⟨ret_bool (by rw [hc.out]), 0, rfl⟩
end Go.Proofs.YtepdfkgadigafaaGreatDoor
/-
  Contracts of bytes.Equal, bytes.HasPrefix, Size and the law's same, of chapter 23.
  Conditions: as each theorem states them.
-/
namespace Go.Proofs.YtepdfkgadigafaaGreatDoor
open Go.RowKit
set_option linter.unusedVariables false
set_option linter.unusedSimpArgs false
attribute [local go_sem ↓] run_cut_h run_cut_l run_cut_lh
theorem strOf (xs : List UInt8) : strOfNums (xs.map fun x => (x.toNat : Int)) = ⟨xs.toArray⟩ := by
  unfold strOfNums
  congr 2
  rw [List.map_map]
  conv => rhs; rw [← List.map_id xs]
  exact List.map_congr_left fun x _ => by simp
theorem run_conv {P : Program} {K : Nat → Prop} {own : Bool} {w : World} {a : Option Addr} {xs : List UInt8} (h : ByAt K own w a xs) (src e dst : TypeId) (hs : P.underlying src = some (.slice e)) (he : P.underlying e = some (.int .u8)) (hd : P.underlying dst = some .string) (c : Nat) :
    (convert src dst (.slice a xs.length c)).run P w = .ok (.string ⟨xs.toArray⟩) w := by
  rcases Nat.eq_zero_or_pos xs.length with h0 | h0
  · obtain rfl : xs = [] := List.eq_nil_of_length_eq_zero h0
    rw [run_convert_bytes_string w src dst e _ _ c hs he hd]
    cases a <;> simp [Conv.bytesToString, loadCells]
    all_goals rfl
  · obtain ⟨b, o, rfl, k, l, f, r⟩ := h h0
    rw [run_convert_bytes_arg (P := P) w src e hs he b o xs.length c (xs.map fun x => (x.toNat : Int)) (by simp) (fun i hi => by rw [r i hi]; simp [List.getD, hi]) dst hd, strOf]
theorem str_eqB (xs ys : List UInt8) : (xs == ys) = eqB xs ys := by
  rw [eqB, Bool.eq_iff_iff]; simp
set_option maxHeartbeats 1000000 in
theorem equal_any (ba bb : Option Addr) (xs ys : List UInt8) (c d : Nat) (w : World) (ha : ByAt (fun _ => True) false w ba xs) (hb : ByAt (fun _ => True) false w bb ys) :
    Calls Tryz.prog 37 #[.slice ba xs.length c, .slice bb ys.length d] w fun e w' => e = .returned (.bool (eqB xs ys)) ∧ w = w' := by
  have k1 := run_conv ha 22 5 9 Tryz.underlying22 Tryz.underlying5 Tryz.underlying9 c
  have k2 := run_conv hb 22 5 9 Tryz.underlying22 Tryz.underlying5 Tryz.underlying9 d
  clear ha hb
  go_enter Tryz.func37, Tryz.ntmps37
  go_wp2_with fail
  all_goals go_ret
  all_goals exact ⟨ret_bool (str_eqB _ _), rfl⟩
set_option maxHeartbeats 1000000 in
theorem prefix_any (ba bb : Option Addr) (xs ys : List UInt8) (c d : Nat) (w : World) (hc : xs.length ≤ c) (ha : ByAt (fun _ => True) false w ba xs) (hb : ByAt (fun _ => True) false w bb ys) :
    Calls Tryz.prog 51 #[.slice ba xs.length c, .slice bb ys.length d] w fun e w' => e = .returned (.bool (ys.isPrefixOf xs)) ∧ w = w' := by
  by_cases hl : ys.length ≤ xs.length
  · have hq : eqB (xs.take ys.length) ys = ys.isPrefixOf xs := by
      rw [eqB, Bool.eq_iff_iff]
      simp only [decide_eq_true_eq, List.isPrefixOf_iff_prefix, List.prefix_iff_eq_take]
      exact eq_comm
    have hq2 : (xs.take ys.length).length = ys.length := by rw [List.length_take]; omega
    have heq := equal_any ba bb (xs.take ys.length) ys c d w (ha.take _) hb
    rw [hq, hq2] at heq
    have hl1 : (ys.length : Int) ≤ xs.length := by omega
    have hl2 : (ys.length : Int) ≤ c := by omega
    clear ha hb hq hq2
    replace heq := Lib.hid heq
    go_enter Tryz.func51, Tryz.ntmps51
    go_wp2_with (go_at_call 37; refine heq.out.mono ?_; rintro e w' ⟨rfl, rfl⟩)
    all_goals go_ret
    all_goals exact ⟨rfl, rfl⟩
  · have hq : ys.isPrefixOf xs = false := by
      rw [Bool.eq_false_iff]
      simp only [ne_eq, List.isPrefixOf_iff_prefix]
      intro h
      exact hl h.length_le
    rw [hq]
    have hl1 : ¬ (ys.length : Int) ≤ xs.length := by omega
    clear ha hb hq
    go_enter Tryz.func51, Tryz.ntmps51
    go_wp2_with fail
    all_goals go_ret
    all_goals exact ⟨rfl, rfl⟩
/-! ### a list of changes -/
def ChAt (K : Nat → Prop) (w : World) (a : Option Addr) (ds : List DM.Chg) : Prop :=
  0 < ds.length → ∃ b o, a = some ⟨b, o, none⟩ ∧ K b ∧ b < w.heap.size ∧ ∀ i (h : i < ds.length), ChCells K w b (o + i * 4) ds[i].field ds[i].pos ds[i].old ds[i].new
theorem ChAt.keep {K : Nat → Prop} {w w' : World} {a : Option Addr} {ds : List DM.Chg} (h : ChAt K w a ds) (hs : w.heap.size ≤ w'.heap.size) (hk : ∀ b, K b → b < w.heap.size → w'.heap[b]? = w.heap[b]?) : ChAt K w' a ds :=
  fun h0 => let ⟨b, o, e, k, l, r⟩ := h h0; ⟨b, o, e, k, Nat.lt_of_lt_of_le l hs, fun i hi => (r i hi).keep hs (hk b k l) hk⟩
theorem ChAt.below {K : Nat → Prop} {w w' : World} {a : Option Addr} {ds : List DM.Chg} (h : ChAt K w a ds) (hb : Below w.heap.size w w') : ChAt K w' a ds := h.keep hb.size (fun b _ l => hb.block b l)
theorem ChAt.only {K S : Nat → Prop} {w w' : World} {a : Option Addr} {ds : List DM.Chg} (h : ChAt K w a ds) (ho : Only S w w') (hn : ∀ b, K b → ¬ S b) : ChAt K w' a ds := h.keep ho.size (fun b k l => ho.block b l (hn b k))
theorem ChAt.mono {K L : Nat → Prop} {w : World} {a : Option Addr} {ds : List DM.Chg} (h : ChAt K w a ds) (hK : ∀ b, K b → L b) : ChAt L w a ds :=
  fun h0 => let ⟨b, o, e, k, l, r⟩ := h h0; ⟨b, o, e, hK b k, l, fun i hi => (r i hi).mono hK⟩
theorem ByAt.lt {K : Nat → Prop} {own : Bool} {w : World} {a : Option Addr} {xs : List UInt8} (h : ByAt K own w a xs) : ByAt (fun b => K b ∧ b < w.heap.size) own w a xs := fun h0 => let ⟨b, o, e, k, l, r⟩ := h h0; ⟨b, o, e, ⟨k, l⟩, l, r⟩
theorem TxCell.lt {K : Nat → Prop} {own : Bool} {w : World} {v : Option Value} {x : List UInt8} (h : TxCell K own w v x) : TxCell (fun b => K b ∧ b < w.heap.size) own w v x := let ⟨a, c, e, h1, h2, h3⟩ := h; ⟨a, c, e, h1, h2, h3.lt⟩
theorem ChAt.lt {K : Nat → Prop} {w : World} {a : Option Addr} {ds : List DM.Chg} (h : ChAt K w a ds) : ChAt (fun b => K b ∧ b < w.heap.size) w a ds :=
  fun h0 => let ⟨b, o, e, k, l, r⟩ := h h0; ⟨b, o, e, ⟨k, l⟩, l, fun i hi => let ⟨c1, c2, c3, c4⟩ := r i hi; ⟨c1, c2, c3.lt, c4.lt⟩⟩
/-- the four cells of one change -/
theorem ChAt.nth {K : Nat → Prop} {w : World} {a : Option Addr} {ds : List DM.Chg} (h : ChAt K w a ds) {i : Nat} (hi : i < ds.length) :
    ∃ b o oa oc na nc, a = some ⟨b, o, none⟩ ∧ K b ∧ b < w.heap.size ∧ w.cell? ⟨b, o + i * 4, none⟩ = some (.int .i64 ds[i].field) ∧ w.cell? ⟨b, o + i * 4 + 1, none⟩ = some (.int .i64 ds[i].pos) ∧
      w.cell? ⟨b, o + i * 4 + 2, none⟩ = some (.slice oa ds[i].old.length oc) ∧ w.cell? ⟨b, o + i * 4 + 3, none⟩ = some (.slice na ds[i].new.length nc) ∧ ds[i].old.length ≤ oc ∧ oc ≤ maxLen ∧ ds[i].new.length ≤ nc ∧ nc ≤ maxLen ∧
      ByAt K false w oa ds[i].old ∧ ByAt K false w na ds[i].new := by
  obtain ⟨b, o, e, k, l, r⟩ := h (by omega)
  obtain ⟨c1, c2, ⟨oa, oc, c3, h3, h3', b3⟩, ⟨na, nc, c4, h4, h4', b4⟩⟩ := r i hi
  exact ⟨b, o, oa, oc, na, nc, e, k, l, c1, c2, c3, c4, h3, h3', h4, h4', b3, b4⟩
theorem size_take {ds : List DM.Chg} {k : Nat} (h : k < ds.length) : DM.size (ds.take (k + 1)) = DM.size (ds.take k) + (ds[k].old.length + ds[k].new.length) := by
  unfold DM.size
  rw [List.take_succ_eq_append_getElem h, List.map_append, List.sum_append]
  simp only [List.map_cons, List.map_nil, List.sum_cons, List.sum_nil, Nat.add_zero]
theorem size_le (ds : List DM.Chg) (k : Nat) : DM.size (ds.take k) ≤ DM.size ds := by
  conv => rhs; rw [← List.take_append_drop k ds]
  unfold DM.size
  rw [List.map_append, List.sum_append]
  exact Nat.le_add_right _ _
set_option maxHeartbeats 2000000 in
theorem size_any (a : Option Addr) (ds : List DM.Chg) (c : Nat) (w : World) (hn : ds.length ≤ 1000000) (hs : DM.size ds ≤ 1000000) (ha : ChAt (fun _ => True) w a ds) :
    Calls Tryz.prog 21 #[.slice a ds.length c] w fun e w' => e = .returned (.int .i64 (DM.size ds : Nat)) ∧ Below w.heap.size w w' := by
  replace ha := Lib.hid ha
  go_enter Tryz.func21, Tryz.ntmps21
  go_wp2_with fail
  go_loopw [3, 8] (fun n i wr => ∃ k : Nat, i = .int .i64 (k : Int) ∧ n = .int .i64 (DM.size (ds.take k) : Nat) ∧ k ≤ ds.length ∧ Below w.heap.size w wr) (fun _ i _ => ds.length - (intOf i).toNat)
  case atStart => exact ⟨0, rfl, rfl, by omega, Below.refl _ _⟩
  case round =>
    obtain ⟨k, rfl, rfl, hk, hbel⟩ := hrel
    by_cases h1 : k < ds.length
    · obtain ⟨b, o, oa, oc, na, nc, rfl, _, hb, c1, c2, c3, c4, _, _, _, _, _, _⟩ := (ha.out.below hbel).nth h1
      have e1 := size_take h1
      have e2 := size_le ds (k + 1)
      have e3 : ds[k].old.length ≤ 1000000 := by omega
      have e4 : ds[k].new.length ≤ 1000000 := by omega
      have e5 : DM.size (ds.take k) + (ds[k].old.length + ds[k].new.length) ≤ 1000000 := by omega
      replace e1 := Lib.hid e1
      clear e2
      generalize DM.size (ds.take k) = s at *
      go_wp2_with fail
      all_goals go_roundw
      case measure => simp [intOf]; omega
      case rel => exact ⟨k + 1, by go_num, by rw [e1.out]; go_num, by omega, bl_alloc hbel _⟩
    · have hkx : k = ds.length := by omega
      have e1 : DM.size (ds.take k) = DM.size ds := by rw [hkx, List.take_length]
      rw [e1]
      clear e1 hkx
      go_wp2_with fail
      all_goals go_ret
      all_goals exact ⟨rfl, hbel⟩
def tup (c : DM.Chg) : Int × Int × List UInt8 × List UInt8 := (c.field, c.pos, c.old, c.new)
theorem tup_inj {c d : DM.Chg} (h : tup c = tup d) : c = d := by
  cases c; cases d; simp only [tup, Prod.mk.injEq] at h; obtain ⟨rfl, rfl, rfl, rfl⟩ := h; rfl
def chB (ds es : List DM.Chg) : Bool := decide (ds.map tup = es.map tup)
theorem chB_iff {ds es : List DM.Chg} : chB ds es = true ↔ ds = es := by
  simp only [chB, decide_eq_true_eq]
  refine ⟨fun h => ?_, fun h => by rw [h]⟩
  exact (List.map_inj_right fun _ _ e => tup_inj e).1 h
theorem chB_len {xs ys : List DM.Chg} (h : ¬ xs.length = ys.length) : chB xs ys = false := by
  rw [Bool.eq_false_iff, ne_eq, chB_iff]; intro e; exact h (by rw [e])
theorem chB_at {xs ys : List DM.Chg} {k : Nat} (h1 : k < xs.length) (h2 : k < ys.length) (h : xs[k] ≠ ys[k]) : chB xs ys = false := by
  rw [Bool.eq_false_iff, ne_eq, chB_iff]; intro e; subst e; exact h rfl
def AlikeC (k : Nat) (xs ys : List DM.Chg) : Prop := ∀ i, i < k → ∃ c, xs[i]? = some c ∧ ys[i]? = some c
theorem AlikeC.succ {k : Nat} {xs ys : List DM.Chg} (h : AlikeC k xs ys) (h1 : k < xs.length) (h2 : k < ys.length) (e : xs[k] = ys[k]) : AlikeC (k + 1) xs ys := fun i hi => by
  by_cases hk : i = k
  · subst hk; exact ⟨xs[i], by simp [h1], by simp [h2, e]⟩
  · exact h i (by omega)
theorem AlikeC.eq {xs ys : List DM.Chg} (h : AlikeC xs.length xs ys) (hl : xs.length = ys.length) : chB xs ys = true :=
  chB_iff.2 (List.ext_getElem? fun i => by
    by_cases hi : i < xs.length
    · obtain ⟨c, h1, h2⟩ := h i hi; rw [h1, h2]
    · rw [List.getElem?_eq_none (by omega), List.getElem?_eq_none (by omega)])
theorem int_ne {a b : Int} (h : ¬ a = b) : (a != b) = true := by simpa using h
theorem int_eq {a b : Int} (h : a = b) : (a != b) = false := by simpa using h
end Go.Proofs.YtepdfkgadigafaaGreatDoor
/-
  Contracts of Copy, slices.Clone (of bytes, of texts), slices.Grow of nil, slices.Concat, as chapter 23 calls them.
  Conditions: as each theorem states them.
-/
namespace Go.Proofs.YtepdfkgadigafaaGreatDoor
open Go.RowKit
set_option linter.unusedVariables false
set_option linter.unusedSimpArgs false
theorem run_append_nil1 {P : Program} {w : World} (base : Nat) (t ty e : TypeId) (i : TypeInfo) (size : Nat) (ht : P.underlying t = some (.slice e)) (hi : P.info? e = some i)
    (v : Value) (n c : Nat) (xs : List Value) (hown : w.ownsRow base e size v n xs) :
    (Builtin.append_ #[t, t] ty #[v, .slice none 0 c]).run P w = .ok v w := by
  rcases hown.2 with ⟨rfl, rfl⟩ | ⟨g, cap, cur, rfl, _, _, hnc, _⟩
  · simp [Builtin.append_, run_underlying ht, sizeOf, typeInfo, hi, Builtin.lenOf, Builtin.firstCells]
  · simp [Builtin.append_, run_underlying ht, sizeOf, typeInfo, hi, Builtin.lenOf, Builtin.firstCells, hnc, storeCells]
/-- values at an address, or none -/
def ValsAt (w : World) (a : Option Addr) (vs : List Value) : Prop := (a = none ∧ vs = []) ∨ ∃ ad, a = some ad ∧ ∀ j u, vs[j]? = some u → w.cell? (ad.add j) = some u
/-- 'append(buf, xs...)', buf the call's own, xs whatever slice of one-cell values -/
theorem wpList_append_vs {P : Program} {w : World} {ops : Array Oper} {rest : List Oper} {o : Oper} {a : Act} {Q : Exit → Act → World → Prop} (hgd : o.guard = none) (s x : Operand) (t : TypeId)
    (ho : o.op = .call { callee := .builtin .append, args := #[s, x], argTypes := #[t, t] })
    (base : Nat) (e : TypeId) (i : TypeInfo) (z : Value) (bytes : Nat) (ht : P.underlying t = some (.slice e)) (hi : P.info? e = some i) (hz : i.zero = some z) (hsize : i.size = 1) (hby : i.bytes = bytes) (hzs : z.cells.size = 1)
    (v : Value) (n : Nat) (ys : List Value) (hs : a.eval s = v) (hown : w.ownsRow base e 1 v n ys)
    (ba : Option Addr) (m c : Nat) (vs : List Value) (hm : vs.length = m) (hx : a.eval x = .slice ba m c) (hsrc : ValsAt w ba vs) (hone : ∀ u ∈ vs, u.oneCell' = true)
    (h63 : n + m ≤ maxLen) (hbound : (n + m) * bytes ≤ 140737488355328) (hbase : base ≤ w.heap.size)
    (h : ∀ v' w', w'.ownsRow base e 1 v' (n + m) (ys ++ vs) → w.grownBy w' v.ownBlock → wpList P ops Q rest (a.put o.dst v') w') : wpList P ops Q (o :: rest) a w := by
  subst hm
  rcases hsrc with ⟨rfl, rfl⟩ | ⟨ad, rfl, hc⟩
  · refine wpList_plain hgd fun K hK => ?_
    have hrun := run_append_nil1 (P := P) (w := w) base t o.type e i 1 ht hi v n c ys hown
    unfold Oper.wp
    simp only [List.length_nil] at hx
    simp [execOp, ho, resolve, invoke, builtin, hs, hx, hrun, Result.andThen]
    exact hK _ _ (h v w (by simpa using hown) (World.grownBy.refl _ _))
  · exact wpList_append_own w hgd s x t ho base e i z 1 bytes ht hi hz hsize hby hzs (by omega) v n ys hs hown ad vs.length c vs hx (by simp) hc hone h63 hbound hbase (fun v' w' h1 h2 _ => h v' w' h1 h2)
def bv (x : UInt8) : Value := .int .u8 (x.toNat : Int)
theorem bv_one (xs : List UInt8) : ∀ u ∈ xs.map bv, u.oneCell' = true := fun u hu => by
  obtain ⟨x, _, rfl⟩ := List.mem_map.1 hu; rfl
theorem ByAt.vals {K : Nat → Prop} {own : Bool} {w : World} {a : Option Addr} {xs : List UInt8} (h : ByAt K own w a xs) : ValsAt w a (xs.map bv) := by
  by_cases h0 : 0 < xs.length
  · obtain ⟨b, o, rfl, _, _, _, r⟩ := h h0
    refine .inr ⟨_, rfl, fun j u hj => ?_⟩
    obtain ⟨hj1, hj2⟩ := List.getElem?_eq_some_iff.1 hj
    have hj3 : j < xs.length := by simpa using hj1
    rw [addr_add, r j hj3, ← hj2]
    simp [bv]
  · have : xs = [] := List.length_eq_zero_iff.1 (by omega)
    subst this
    cases a with
    | none => exact .inl ⟨rfl, rfl⟩
    | some a => exact .inr ⟨a, rfl, fun j u hj => by simp at hj⟩
/-- the values of a list of texts -/
theorem TxAt.vals {K : Nat → Prop} {own : Bool} {w : World} {a : Option Addr} {xs : List (List UInt8)} (h : TxAt K own w a xs) :
    ∃ vs : List Value, vs.length = xs.length ∧ ValsAt w a vs ∧ (∀ u ∈ vs, u.oneCell' = true) ∧ ∀ i (hi : i < xs.length), TxCell K own w vs[i]? xs[i] := by
  by_cases h0 : 0 < xs.length
  · obtain ⟨b, o, rfl, _, _, r⟩ := h h0
    have hv : ∀ i, i < xs.length → ∃ v, w.cell? ⟨b, o + i, none⟩ = some v ∧ v.oneCell' = true := fun i hi => by
      obtain ⟨xa, xc, e, _⟩ := r i hi
      exact ⟨_, e, rfl⟩
    obtain ⟨f, hf⟩ := Deep.choose_lt (α := Value) hv
    refine ⟨(List.range xs.length).map f, by simp, .inr ⟨_, rfl, fun j u hj => ?_⟩, fun u hu => ?_, fun i hi => ?_⟩
    · obtain ⟨hj1, hj2⟩ := List.getElem?_eq_some_iff.1 hj
      have hj3 : j < xs.length := by simpa using hj1
      rw [addr_add, (hf j hj3).1, ← hj2]
      simp
    · obtain ⟨i, hi, rfl⟩ := List.mem_map.1 hu
      exact (hf i (by simpa using hi)).2
    · have : ((List.range xs.length).map f)[i]? = w.cell? ⟨b, o + i, none⟩ := by rw [(hf i hi).1]; simp [hi]
      rw [this]; exact r i hi
  · have : xs = [] := List.length_eq_zero_iff.1 (by omega)
    subst this
    refine ⟨[], rfl, ?_, by simp, fun i hi => by simp at hi⟩
    cases a with
    | none => exact .inl ⟨rfl, rfl⟩
    | some a => exact .inr ⟨a, rfl, fun j u hj => by simp at hj⟩
theorem ValsAt.below {w w' : World} {a : Option Addr} {vs : List Value} (h : ValsAt w a vs) (hb : Below w.heap.size w w') : ValsAt w' a vs := by
  rcases h with h | ⟨ad, rfl, hc⟩
  · exact .inl h
  · exact .inr ⟨ad, rfl, fun j u hj => by
      have h1 := hc j u hj
      have h2 := World.block_lt_of_cell? w _ h1
      exact (hb.cell h2).trans h1⟩
theorem ValsAt.none_nil {w : World} {vs : List Value} (h : ValsAt w none vs) : vs = [] := by
  rcases h with ⟨_, h⟩ | ⟨ad, h, _⟩
  · exact h
  · cases h
theorem info5_ : (Tryz.prog.info? 5).map (fun i => (i.zero, i.size, i.bytes)) = some (some (.int .u8 0), 1, 1) := by kernel_rfl
theorem info73_ : (Tryz.prog.info? 22).map (fun i => (i.zero, i.size, i.bytes)) = some (some (.slice none 0 0), 1, 24) := by kernel_rfl
theorem rcopy_any (ba : Option Addr) (bc : Nat) (xs : List UInt8) (w : World) (hl : xs.length ≤ 1000000) (hs : ByAt (fun _ => True) false w ba xs) :
    Calls Tryz.prog 19 #[.slice ba xs.length bc] w fun e w' => ∃ v, e = .returned v ∧ w'.ownsRow w.heap.size 5 1 v xs.length (xs.map bv) ∧ Below w.heap.size w w' := by
  obtain ⟨i0, hi, hz0, hz1, hz2⟩ := info_parts info5_
  have ho := World.ownsRow_lit (base := w.heap.size) (e := 5) (size := 1) w #[] 0 (Nat.le_refl _) (by decide) rfl
  have hs' := hs.vals.below (bl_alloc (Below.refl _ _) (.cells #[] 5))
  have hm : (xs.map bv).length = xs.length := by simp
  have h1 := bv_one xs
  clear hs
  replace ho := Lib.hid ho
  replace hs' := Lib.hid hs'
  replace hm := Lib.hid hm
  replace h1 := Lib.hid h1
  go_enter Tryz.func19, Tryz.ntmps19
  go_wp2_with (at_builtin; refine wpList_append_vs rfl (.tmp 3) (.tmp 4) 22 rfl w.heap.size 5 i0 (.int .u8 0) 1 Tryz.underlying22 hi hz0 hz1 hz2 rfl _ _ _ rfl ho.out ba xs.length bc (xs.map bv) hm.out rfl hs'.out h1.out (by unfold maxLen; omega) (by omega) (by simp) ?_; intro v1 w1 hown1 hgrow1)
  all_goals go_ret
  all_goals exact ⟨v1, rfl, by simpa using hown1, (bl_alloc (Below.refl _ _) _).grown hgrow1 (by simp) (fun j hj => (ho.out.lt j hj).1)⟩
theorem clone_any (ba : Option Addr) (bc : Nat) (xs : List UInt8) (w : World) (hl : xs.length ≤ 1000000) (hs : ByAt (fun _ => True) false w ba xs) :
    Calls Tryz.prog 29 #[.slice ba xs.length bc] w fun e w' => ∃ v, e = .returned v ∧ w'.ownsRow w.heap.size 5 1 v xs.length (xs.map bv) ∧ Below w.heap.size w w' := by
  obtain ⟨i0, hi, hz0, hz1, hz2⟩ := info_parts info5_
  have hq := fun (w : World) a n c => Lib.run_eql_slice_nil (P := Tryz.prog) w 22 5 a n c 0 0 Tryz.underlying22
  cases ba with
  | none =>
    obtain rfl : xs = [] := by simpa using hs.vals.none_nil
    clear hs
    go_enter Tryz.func29, Tryz.ntmps29
    go_wp2_with fail
    all_goals go_ret
    all_goals exact ⟨_, rfl, World.ownsRow_nil _ _ _ _, Below.refl _ _⟩
  | some ad =>
    have ho := World.ownsRow_lit (base := w.heap.size) (e := 5) (size := 1) w #[] 0 (Nat.le_refl _) (by decide) rfl
    have hs' := hs.vals.below (bl_alloc (Below.refl _ _) (.cells #[] 5))
    have hm : (xs.map bv).length = xs.length := by simp
    have h1 := bv_one xs
    clear hs
    replace ho := Lib.hid ho
    replace hs' := Lib.hid hs'
    replace hm := Lib.hid hm
    replace h1 := Lib.hid h1
    go_enter Tryz.func29, Tryz.ntmps29
    go_wp2_with (at_builtin; refine wpList_append_vs rfl (.tmp 5) (.tmp 6) 22 rfl w.heap.size 5 i0 (.int .u8 0) 1 Tryz.underlying22 hi hz0 hz1 hz2 rfl _ _ _ rfl ho.out (some ad) xs.length bc (xs.map bv) hm.out rfl hs'.out h1.out (by unfold maxLen; omega) (by omega) (by simp) ?_; intro v1 w1 hown1 hgrow1)
    all_goals go_ret
    all_goals exact ⟨v1, rfl, by simpa using hown1, (bl_alloc (Below.refl _ _) _).grown hgrow1 (by simp) (fun j hj => (ho.out.lt j hj).1)⟩
theorem cloneT_any (ba : Option Addr) (n bc : Nat) (vs : List Value) (w : World) (hn : vs.length = n) (hl : n ≤ 1000000) (hs : ValsAt w ba vs) (hone : ∀ u ∈ vs, u.oneCell' = true) :
    Calls Tryz.prog 50 #[.slice ba n bc] w fun e w' => ∃ v, e = .returned v ∧ w'.ownsRow w.heap.size 22 1 v n vs ∧ Below w.heap.size w w' := by
  obtain ⟨i0, hi, hz0, hz1, hz2⟩ := info_parts info73_
  have hq := fun (w : World) a n c => Lib.run_eql_slice_nil (P := Tryz.prog) w 40 22 a n c 0 0 Tryz.underlying40
  cases ba with
  | none =>
    obtain rfl : vs = [] := hs.none_nil
    obtain rfl : 0 = n := by simpa using hn
    clear hs hone hn
    go_enter Tryz.func50, Tryz.ntmps50
    go_wp2_with fail
    all_goals go_ret
    all_goals exact ⟨_, rfl, World.ownsRow_nil _ _ _ _, Below.refl _ _⟩
  | some ad =>
    have ho := World.ownsRow_lit (base := w.heap.size) (e := 22) (size := 1) w #[] 0 (Nat.le_refl _) (by decide) rfl
    have hs' := hs.below (bl_alloc (Below.refl _ _) (.cells #[] 22))
    clear hs
    replace ho := Lib.hid ho
    replace hs' := Lib.hid hs'
    replace hn := Lib.hid hn
    replace hone := Lib.hid hone
    go_enter Tryz.func50, Tryz.ntmps50
    go_wp2_with (at_builtin; refine wpList_append_vs rfl (.tmp 5) (.tmp 6) 40 rfl w.heap.size 22 i0 (.slice none 0 0) 24 Tryz.underlying40 hi hz0 hz1 hz2 rfl _ _ _ rfl ho.out (some ad) n bc vs hn.out rfl hs'.out hone.out (by unfold maxLen; omega) (by omega) (by simp) ?_; intro v1 w1 hown1 hgrow1)
    all_goals go_ret
    all_goals exact ⟨v1, rfl, by simpa using hown1, (bl_alloc (Below.refl _ _) _).grown hgrow1 (by simp) (fun j hj => (ho.out.lt j hj).1)⟩
set_option maxHeartbeats 1000000 in
set_option maxRecDepth 100000 in
theorem growNil_any (n : Nat) (w : World) (hl : n ≤ 1000000) :
    Calls Tryz.prog 73 #[.slice none 0 0, .int .i64 (n : Int)] w fun e w' => ∃ v, e = .returned v ∧ w'.ownsRow w.heap.size 5 1 v 0 [] ∧ Below w.heap.size w w' := by
  obtain ⟨i0, hi, hz0, hz1, hz2⟩ := info_parts info5_
  by_cases h0 : n = 0
  · subst h0
    go_enter Tryz.func73, Tryz.ntmps73
    go_wp2_with fail
    all_goals go_ret
    all_goals exact ⟨_, rfl, World.ownsRow_nil _ _ _ _, Below.refl _ _⟩
  · have hold : (Builtin.firstCells i0.size 0 (.slice none 0 0)).run Tryz.prog w.drew = .ok #[] w.drew := by simp [Builtin.firstCells]
    have hrz : ∀ ty, (Builtin.append_ #[22, 3] ty #[.slice none 0 0, .int .i64 (n : Int)]).run Tryz.prog w = .ok (.slice (some ⟨w.heap.size, 0, none⟩) n (grownCap w n 0 5)) (w.drew.alloc (.cells (Builtin.zeroCells (Value.int .u8 0).cells n ++ Builtin.zeroCells (Value.int .u8 0).cells (grownCap w n 0 5 - n)) 5)) := fun ty => by
      have h := Lib.run_append_grow_zeros w 22 3 ty 5 i0 (.int .u8 0) .i64 .i64 Tryz.underlying22 Tryz.underlying3 hi hz0 none 0 0 [] hold n (by omega) (by omega) (by omega) (by omega) (by rw [hz2]; omega) (growslice_fits (by omega) (by rw [hz2]; omega))
      simpa using h
    have hge := grownCap_ge w n 0 5
    have hle := grownCap_le_maxLen w n 0 5 (by unfold maxLen; omega)
    obtain ⟨G, hG⟩ : ∃ G, G = grownCap w n 0 5 := ⟨_, rfl⟩
    rw [← hG] at hrz hge hle
    have hG63 : G ≤ 9223372036854775807 := by unfold maxLen at hle; omega
    have hown : (w.drew.alloc (.cells (Builtin.zeroCells (Value.int .u8 0).cells n ++ Builtin.zeroCells (Value.int .u8 0).cells (G - n)) 5)).ownsRow w.heap.size 5 1 (.slice (some ⟨w.heap.size, 0, none⟩) 0 G) 0 [] :=
      World.ownsRow_made w.drew _ G (by simp) hle (by simp [Builtin.zeroCells, Value.cells]; omega)
    clear hold hG
    replace hown := Lib.hid hown
    replace hle := Lib.hid hle
    go_enter Tryz.func73, Tryz.ntmps73
    go_wp2_with (at_builtin; refine Lib.wpList_append_run _ rfl _ _ _ _ rfl _ _ rfl rfl _ _ (hrz _) ?_)
    all_goals go_ret
    all_goals exact ⟨_, rfl, hown.out, bl_alloc (bl_drew (Below.refl _ _)) _⟩
end Go.Proofs.YtepdfkgadigafaaGreatDoor
/-
  The contract of slices.Concat, as chapter 23 calls it.
  Conditions: as each theorem states them.
-/
namespace Go.Proofs.YtepdfkgadigafaaGreatDoor
open Go.RowKit
set_option linter.unusedVariables false
set_option linter.unusedSimpArgs false
theorem flat_take {xs : List (List UInt8)} {k : Nat} (h : k < xs.length) : (xs.take (k + 1)).flatten = (xs.take k).flatten ++ xs[k] := by
  rw [List.take_succ_eq_append_getElem h, List.flatten_append]
  simp
theorem flat_le (xs : List (List UInt8)) (k : Nat) : (xs.take k).flatten.length ≤ xs.flatten.length := by
  conv => rhs; rw [← List.take_append_drop k xs]
  rw [List.flatten_append, List.length_append]
  omega
/-- how much the first k have -/
def flen (xs : List (List UInt8)) (k : Nat) : Nat := (xs.take k).flatten.length
def flat (xs : List (List UInt8)) (k : Nat) : List UInt8 := (xs.take k).flatten
theorem flen_succ {xs : List (List UInt8)} {k : Nat} (h : k < xs.length) : flen xs (k + 1) = flen xs k + xs[k].length := by unfold flen; rw [flat_take h, List.length_append]
theorem flat_succ {xs : List (List UInt8)} {k : Nat} (h : k < xs.length) : flat xs (k + 1) = flat xs k ++ xs[k] := by unfold flat; rw [flat_take h]
theorem flen_le (xs : List (List UInt8)) (k : Nat) : flen xs k ≤ xs.flatten.length := flat_le xs k
theorem flen_all (xs : List (List UInt8)) : flen xs xs.length = xs.flatten.length := by unfold flen; rw [List.take_length]
theorem flat_all (xs : List (List UInt8)) : flat xs xs.length = xs.flatten := by unfold flat; rw [List.take_length]
set_option maxRecDepth 100000 in
set_option maxHeartbeats 1000000 in
theorem concat_any (la : Option Addr) (xs : List (List UInt8)) (c : Nat) (w : World) (hn : xs.length ≤ 1000) (hs : xs.flatten.length ≤ 1000000) (ha : TxAt (fun _ => True) false w la xs) :
    Calls Tryz.prog 52 #[.slice la xs.length c] w fun e w' => ∃ v, e = .returned v ∧ w'.ownsRow w.heap.size 5 1 v xs.flatten.length (xs.flatten.map bv) ∧ Below w.heap.size w w' := by
  obtain ⟨i0, hi, hz0, hz1, hz2⟩ := info_parts info5_
  replace ha := Lib.hid ha
  replace hs := Lib.hid hs
  go_enter Tryz.func52, Tryz.ntmps52
  go_wp2_with fail
  go_loop [3, 11] (fun s i => ∃ k : Nat, i = .int .i64 (k : Int) ∧ k ≤ xs.length ∧ s = .int .i64 (flen xs k : Nat)) (fun _ i => xs.length - (intOf i).toNat)
  case atStart => exact ⟨0, rfl, by omega, rfl⟩
  case round =>
    obtain ⟨k, rfl, hk, rfl⟩ := hrel
    by_cases h1 : k < xs.length
    · obtain ⟨b, o, xa, xc, rfl, c1, _, _, _⟩ := ha.out.nth h1
      have e1 := flen_succ h1
      have e2 := Nat.le_trans (flen_le xs (k + 1)) hs.out
      have e3 : flen xs k + xs[k].length ≤ 1000000 := by omega
      replace e1 := Lib.hid e1
      clear e2
      generalize flen xs k = s at *
      go_wp2_with fail
      all_goals go_round
      case measure => simp [intOf]; omega
      case rel => exact ⟨k + 1, by go_num, by omega, by rw [e1.out]; go_num⟩
    · obtain rfl : k = xs.length := by omega
      have e2 := Nat.le_trans (flen_le xs xs.length) hs.out
      have hgrow := Lib.hid (growNil_any (flen xs xs.length) w (by omega))
      go_wp2_with (go_at_call 73; refine hgrow.out.mono ?_; rintro e w1 ⟨v0, rfl, hown, hb1⟩)
      replace hown := Lib.hid hown
      go_loopw [6, 27] (fun v i wr => ∃ j : Nat, i = .int .i64 (j : Int) ∧ j ≤ xs.length ∧ Below w.heap.size w wr ∧ wr.ownsRow w.heap.size 5 1 v (flen xs j) ((flat xs j).map bv)) (fun _ i _ => xs.length - (intOf i).toNat)
      case atStart => exact ⟨0, rfl, by omega, hb1, hown.out⟩
      case round =>
        obtain ⟨j, rfl, hj, hbr, hor⟩ := hrel
        replace hor := Lib.hid hor
        by_cases h2 : j < xs.length
        · obtain ⟨b, o, xa, xc, rfl, c1, _, _, hB⟩ := (ha.out.below hbr).nth h2
          have e1 := flat_succ h2
          have e1' := flen_succ h2
          have e2 := Nat.le_trans (flen_le xs (j + 1)) hs.out
          have e3 : flen xs j + xs[j].length ≤ 1000000 := by omega
          have hv := Lib.hid hB.vals
          have hm : (xs[j].map bv).length = xs[j].length := by simp
          have ho := bv_one xs[j]
          replace hm := Lib.hid hm
          replace ho := Lib.hid ho
          replace e1 := Lib.hid e1
          replace e1' := Lib.hid e1'
          have e4 : xs[j].length ≤ 1000000 := by omega
          clear e2 hB
          go_wp2_with (at_builtin; refine wpList_append_vs rfl (.tmp 31) (.tmp 32) 22 rfl w.heap.size 5 i0 (.int .u8 0) 1 Tryz.underlying22 hi hz0 hz1 hz2 rfl _ _ _ rfl hor.out xa xs[j].length xc (xs[j].map bv) hm.out rfl hv.out ho.out (by unfold maxLen; omega) (by omega) hbr.size ?_; intro v1 w2 hown1 hgrow1)
          replace hown1 := Lib.hid hown1
          all_goals go_wp2_with fail
          all_goals go_roundw
          case measure => simp [intOf]; omega
          case rel => exact ⟨j + 1, by go_num, by omega, hbr.grown hgrow1 hbr.size (fun q hq => (hor.out.lt q hq).1), by rw [e1.out, e1'.out, List.map_append]; exact hown1.out⟩
        · obtain rfl : j = xs.length := by omega
          go_wp2_with fail
          all_goals go_ret
          all_goals exact ⟨_, rfl, by rw [← flen_all, ← flat_all]; exact hor.out, hbr⟩
end Go.Proofs.YtepdfkgadigafaaGreatDoor
