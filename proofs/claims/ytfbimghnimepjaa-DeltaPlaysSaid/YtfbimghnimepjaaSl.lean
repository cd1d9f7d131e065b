/-
  Slices of bytes, of texts and of changes as they lie in memory, cut or whole; a slice expression's value under one name.
  Conditions: as each theorem states them; over whatever program.
-/
import Derived.Test.YtfbimghnimepjaaBase
import Derived.Test.YtfbimghnimepjaaReads
import Derived.Laws.Slices
namespace Go.Proofs.Ytfbimghnimepjaa
open Go.RowKit
set_option linter.unusedVariables false
set_option linter.unusedSimpArgs false

/-- where a cut slice begins -/
def cutA (a : Option Addr) (l m s : Nat) : Option Addr := if m = l then a else a.map (·.add (l * s))
theorem sliced_eq (a : Option Addr) (l h m s : Nat) : sliced a l h m s = .slice (cutA a l m s) (h - l) (m - l) := rfl
theorem addr_add (b o k : Nat) : (⟨b, o, none⟩ : Addr).add k = ⟨b, o + k, none⟩ := by
  unfold Addr.add
  by_cases h : k = 0 <;> simp [h]
theorem cutA_zero (a : Option Addr) (m s : Nat) : cutA a 0 m s = a := by
  unfold cutA
  split
  · rfl
  · cases a with
    | none => rfl
    | some a => simp [Addr.add]
section
variable {P : Program} (w : World) (t : TypeId) (a : Option Addr) (len cap : Nat) (ht : P.underlying t = some (.slice (P.elem t)))
include ht
theorem run_cut_lh (kl kh : IntKind) (l h : Int) (h0 : 0 ≤ l) (h1 : l ≤ h) (h2 : h ≤ cap) :
    (Instr.sliceAt t (.slice a len cap) (some (.int kl l)) (some (.int kh h)) none).run P w =
      ((sizeOf (P.elem t)).run P w).andThen fun s w => .ok (.slice (cutA a l.toNat cap s) (h.toNat - l.toNat) (cap - l.toNat)) w := by
  rw [run_sliceAt_slice w t _ _ _ _ ht, run_slice_lh w t a len cap ht kl kh l h h0 h1 h2]; rfl
theorem run_cut_h (kh : IntKind) (h : Int) (h0 : 0 ≤ h) (h2 : h ≤ cap) :
    (Instr.sliceAt t (.slice a len cap) none (some (.int kh h)) none).run P w =
      ((sizeOf (P.elem t)).run P w).andThen fun s w => .ok (.slice a h.toNat cap) w := by
  rw [run_sliceAt_slice w t _ _ _ _ ht, run_slice_h w t a len cap ht kh h h0 h2]
  simp only [sliced_eq, cutA_zero, Nat.sub_zero]
theorem run_cut_l (kl : IntKind) (l : Int) (h0 : 0 ≤ l) (h1 : l ≤ len) :
    (Instr.sliceAt t (.slice a len cap) (some (.int kl l)) none none).run P w =
      ((sizeOf (P.elem t)).run P w).andThen fun s w => .ok (.slice (cutA a l.toNat cap s) (len - l.toNat) (cap - l.toNat)) w := by
  rw [run_sliceAt_slice w t _ _ _ _ ht, run_slice_l w t a len cap ht kl l h0 h1]; rfl
end

/-- bytes at an address, in a block of K; 'own': they may be written -/
def ByAt (K : Nat → Prop) (own : Bool) (w : World) (a : Option Addr) (xs : List UInt8) : Prop :=
  0 < xs.length → ∃ b o, a = some ⟨b, o, none⟩ ∧ K b ∧ b < w.heap.size ∧ (own = true → ∀ i, i < xs.length → w.frozen? ⟨b, o + i, none⟩ = false) ∧ ByteRow w b o xs
theorem ByAt.nil (K : Nat → Prop) (own : Bool) (w : World) (a : Option Addr) : ByAt K own w a [] := fun h => by simp at h
theorem ByAt.mono {K L : Nat → Prop} {own : Bool} {w : World} {a : Option Addr} {xs : List UInt8} (h : ByAt K own w a xs) (hK : ∀ b, K b → L b) : ByAt L own w a xs :=
  fun h0 => let ⟨b, o, e, k, r⟩ := h h0; ⟨b, o, e, hK b k, r⟩
theorem ByAt.plain {K : Nat → Prop} {own : Bool} {w : World} {a : Option Addr} {xs : List UInt8} (h : ByAt K own w a xs) : ByAt K false w a xs :=
  fun h0 => let ⟨b, o, e, k, l, f, r⟩ := h h0; ⟨b, o, e, k, l, fun x => (Bool.false_ne_true x).elim, r⟩
theorem ByAt.any {K : Nat → Prop} {own : Bool} {w : World} {a : Option Addr} {xs : List UInt8} (h : ByAt K own w a xs) : ByAt (fun _ => True) false w a xs := h.plain.mono (fun _ _ => trivial)
theorem cell_keep {w w' : World} {b o : Nat} (e : w'.heap[b]? = w.heap[b]?) : w'.cell? ⟨b, o, none⟩ = w.cell? ⟨b, o, none⟩ := by
  simp only [World.cell?]; rw [e]
theorem frozen_keep {w w' : World} {b o : Nat} (e : w'.heap[b]? = w.heap[b]?) : w'.frozen? ⟨b, o, none⟩ = w.frozen? ⟨b, o, none⟩ := by
  simp only [World.frozen?]; rw [e]
theorem ByAt.keep {K : Nat → Prop} {own : Bool} {w w' : World} {a : Option Addr} {xs : List UInt8} (h : ByAt K own w a xs) (hs : w.heap.size ≤ w'.heap.size) (hk : ∀ b, K b → b < w.heap.size → w'.heap[b]? = w.heap[b]?) : ByAt K own w' a xs :=
  fun h0 => let ⟨b, o, e, k, l, f, r⟩ := h h0
    ⟨b, o, e, k, Nat.lt_of_lt_of_le l hs, fun x i hi => (frozen_keep (hk b k l)).trans (f x i hi), fun i hi => (cell_keep (hk b k l)).trans (r i hi)⟩
theorem ByAt.below {K : Nat → Prop} {own : Bool} {w w' : World} {a : Option Addr} {xs : List UInt8} (h : ByAt K own w a xs) (hb : Below w.heap.size w w') : ByAt K own w' a xs := h.keep hb.size (fun b _ l => hb.block b l)
theorem ByAt.only {K S : Nat → Prop} {own : Bool} {w w' : World} {a : Option Addr} {xs : List UInt8} (h : ByAt K own w a xs) (ho : Only S w w') (hn : ∀ b, K b → ¬ S b) : ByAt K own w' a xs := h.keep ho.size (fun b k l => ho.block b l (hn b k))
theorem ByAt.drewN {K : Nat → Prop} {own : Bool} {w : World} {a : Option Addr} {xs : List UInt8} (h : ByAt K own w a xs) (n : Nat) : ByAt K own (w.drewN n) a xs := h
theorem ByAt.drop {K : Nat → Prop} {own : Bool} {w : World} {a : Option Addr} {xs : List UInt8} (h : ByAt K own w a xs) {c : Nat} (hc : xs.length ≤ c) (l : Nat) : ByAt K own w (cutA a l c 1) (xs.drop l) := fun h0 => by
  simp only [List.length_drop] at h0
  obtain ⟨b, o, rfl, k, hl, f, r⟩ := h (by omega)
  refine ⟨b, o + l, ?_, k, hl, fun x i hi => ?_, fun i hi => ?_⟩
  · unfold cutA
    rw [if_neg (by omega), Nat.mul_one]
    simp [addr_add]
  · simp only [List.length_drop] at hi
    have := f x (l + i) (by omega)
    rwa [← Nat.add_assoc] at this
  · simp only [List.length_drop] at hi
    have := r (l + i) (by omega)
    rw [← Nat.add_assoc] at this
    simpa using this
theorem ByAt.take {K : Nat → Prop} {own : Bool} {w : World} {a : Option Addr} {xs : List UInt8} (h : ByAt K own w a xs) (n : Nat) : ByAt K own w a (xs.take n) := fun h0 => by
  simp only [List.length_take] at h0
  obtain ⟨b, o, e, k, hl, f, r⟩ := h (by omega)
  refine ⟨b, o, e, k, hl, fun x i hi => f x i (by simp only [List.length_take] at hi; omega), fun i hi => ?_⟩
  simp only [List.length_take] at hi
  have := r i (by omega)
  simpa using this
theorem ByAt.cell {K : Nat → Prop} {own : Bool} {w : World} {a : Option Addr} {xs : List UInt8} (h : ByAt K own w a xs) {i : Nat} (hi : i < xs.length) : ∃ b o, a = some ⟨b, o, none⟩ ∧ w.cell? ⟨b, o + i, none⟩ = some (.int .u8 (xs[i].toNat : Int)) := by
  obtain ⟨b, o, e, k, hl, f, r⟩ := h (by omega)
  exact ⟨b, o, e, r i hi⟩
/-- what a datum of bytes that came in is -/
theorem ByAt.of_ok {w : World} {v : Value} {xs : List UInt8} (h : (rSl rByte).ok (Sub.all w) [v] xs) : ∃ a c, v = .slice a xs.length c ∧ xs.length ≤ c ∧ c ≤ maxLen ∧ ByAt (fun _ => True) false w a xs := by
  obtain ⟨a, c, e, h1, h2, h3⟩ := h
  refine ⟨a, c, by simpa using e, h1, h2, fun h0 => ?_⟩
  obtain ⟨b, o, e, hr⟩ := h3 h0
  obtain ⟨cs, hok, hat⟩ := hr 0 h0
  exact ⟨b, o, e, trivial, hat.lt (Sub.all_in w), fun x => (Bool.false_ne_true x).elim, hr.bytes (Sub.all_in w)⟩
/-- a row that the call built -/
theorem ByAt.of_owns {w : World} {base e n : Nat} {v : Value} {xs : List UInt8} (h : w.ownsRow base e 1 v n (xs.map fun x => .int .u8 (x.toNat : Int))) (hn : n = xs.length) :
    ∃ a c, v = .slice a xs.length c ∧ xs.length ≤ c ∧ c ≤ maxLen ∧ ByAt (fun b => base ≤ b) true w a xs := by
  subst hn
  rcases h.2 with ⟨rfl, h0⟩ | ⟨g, cap, cur, rfl, hb, hh, hc, hm, hs, ht⟩
  · have : xs = [] := List.eq_nil_of_length_eq_zero (by simpa using h0)
    subst this
    exact ⟨none, 0, rfl, by simp, by simp [maxLen], ByAt.nil _ _ _ _⟩
  · refine ⟨some ⟨g, 0, none⟩, cap, rfl, hc, hm, fun h0 => ⟨g, 0, rfl, hb, (Array.getElem?_eq_some_iff.1 hh).1, fun _ i hi => ?_, fun i hi => ?_⟩⟩
    · simp only [World.frozen?]
      rw [hh]
      simp
    · simp only [World.cell?]
      rw [hh]
      have h1 := congrArg (fun l => l[i]?) ht
      simp only [List.getElem?_take, Nat.mul_one] at h1
      rw [if_pos hi] at h1
      simp only [Nat.zero_add]
      simp at h1
      simp [h1, hi]

/-! ### a list of texts -/
/-- a text among cells -/
def TxCell (K : Nat → Prop) (own : Bool) (w : World) (v : Option Value) (x : List UInt8) : Prop := ∃ a c, v = some (.slice a x.length c) ∧ x.length ≤ c ∧ c ≤ maxLen ∧ ByAt K own w a x
theorem TxCell.mono {K L : Nat → Prop} {own : Bool} {w : World} {v : Option Value} {x : List UInt8} (h : TxCell K own w v x) (hK : ∀ b, K b → L b) : TxCell L own w v x := let ⟨a, c, e, h1, h2, h3⟩ := h; ⟨a, c, e, h1, h2, h3.mono hK⟩
theorem TxCell.any {K : Nat → Prop} {own : Bool} {w : World} {v : Option Value} {x : List UInt8} (h : TxCell K own w v x) : TxCell (fun _ => True) false w v x := let ⟨a, c, e, h1, h2, h3⟩ := h; ⟨a, c, e, h1, h2, h3.any⟩
theorem TxCell.keep {K : Nat → Prop} {own : Bool} {w w' : World} {v : Option Value} {x : List UInt8} (h : TxCell K own w v x) (hs : w.heap.size ≤ w'.heap.size) (hk : ∀ b, K b → b < w.heap.size → w'.heap[b]? = w.heap[b]?) : TxCell K own w' v x :=
  let ⟨a, c, e, h1, h2, h3⟩ := h; ⟨a, c, e, h1, h2, h3.keep hs hk⟩
/-- texts at an address, in a block of K; their bytes in blocks of K -/
def TxAt (K : Nat → Prop) (own : Bool) (w : World) (a : Option Addr) (xs : List (List UInt8)) : Prop :=
  0 < xs.length → ∃ b o, a = some ⟨b, o, none⟩ ∧ K b ∧ b < w.heap.size ∧ ∀ i (h : i < xs.length), TxCell K own w (w.cell? ⟨b, o + i, none⟩) xs[i]
theorem TxAt.mono {K L : Nat → Prop} {own : Bool} {w : World} {a : Option Addr} {xs : List (List UInt8)} (h : TxAt K own w a xs) (hK : ∀ b, K b → L b) : TxAt L own w a xs :=
  fun h0 => let ⟨b, o, e, k, l, r⟩ := h h0; ⟨b, o, e, hK b k, l, fun i hi => (r i hi).mono hK⟩
theorem TxAt.any {K : Nat → Prop} {own : Bool} {w : World} {a : Option Addr} {xs : List (List UInt8)} (h : TxAt K own w a xs) : TxAt (fun _ => True) false w a xs :=
  fun h0 => let ⟨b, o, e, k, l, r⟩ := h h0; ⟨b, o, e, trivial, l, fun i hi => (r i hi).any⟩
theorem TxAt.keep {K : Nat → Prop} {own : Bool} {w w' : World} {a : Option Addr} {xs : List (List UInt8)} (h : TxAt K own w a xs) (hs : w.heap.size ≤ w'.heap.size) (hk : ∀ b, K b → b < w.heap.size → w'.heap[b]? = w.heap[b]?) : TxAt K own w' a xs :=
  fun h0 => let ⟨b, o, e, k, l, r⟩ := h h0; ⟨b, o, e, k, Nat.lt_of_lt_of_le l hs, fun i hi => by rw [cell_keep (hk b k l)]; exact (r i hi).keep hs hk⟩
theorem TxAt.below {K : Nat → Prop} {own : Bool} {w w' : World} {a : Option Addr} {xs : List (List UInt8)} (h : TxAt K own w a xs) (hb : Below w.heap.size w w') : TxAt K own w' a xs := h.keep hb.size (fun b _ l => hb.block b l)
theorem TxAt.only {K S : Nat → Prop} {own : Bool} {w w' : World} {a : Option Addr} {xs : List (List UInt8)} (h : TxAt K own w a xs) (ho : Only S w w') (hn : ∀ b, K b → ¬ S b) : TxAt K own w' a xs := h.keep ho.size (fun b k l => ho.block b l (hn b k))
theorem TxAt.lt {K : Nat → Prop} {own : Bool} {w : World} {a : Option Addr} {xs : List (List UInt8)} (h : TxAt K own w a xs) : TxAt (fun b => K b ∧ b < w.heap.size) own w a xs := fun h0 => by
  obtain ⟨b, o, e, k, l, r⟩ := h h0
  refine ⟨b, o, e, ⟨k, l⟩, l, fun i hi => ?_⟩
  obtain ⟨xa, xc, e, h1, h2, h3⟩ := r i hi
  exact ⟨xa, xc, e, h1, h2, fun h0 => let ⟨b, o, e, k, l, r⟩ := h3 h0; ⟨b, o, e, ⟨k, l⟩, l, r⟩⟩
theorem TxAt.nth {K : Nat → Prop} {own : Bool} {w : World} {a : Option Addr} {xs : List (List UInt8)} (h : TxAt K own w a xs) {i : Nat} (hi : i < xs.length) :
    ∃ b o xa xc, a = some ⟨b, o, none⟩ ∧ w.cell? ⟨b, o + i, none⟩ = some (.slice xa xs[i].length xc) ∧ xs[i].length ≤ xc ∧ xc ≤ maxLen ∧ ByAt K own w xa xs[i] := by
  obtain ⟨b, o, e, k, l, r⟩ := h (by omega)
  obtain ⟨xa, xc, e1, h1, h2, h3⟩ := r i hi
  exact ⟨b, o, xa, xc, e, e1, h1, h2, h3⟩
theorem TxAt.of_ok {w : World} {v : Value} {xs : List (List UInt8)} (h : (rSl (rSl rByte)).ok (Sub.all w) [v] xs) : ∃ a c, v = .slice a xs.length c ∧ xs.length ≤ c ∧ c ≤ maxLen ∧ TxAt (fun _ => True) false w a xs := by
  obtain ⟨a, c, e, h1, h2, h3⟩ := h
  refine ⟨a, c, by simpa using e, h1, h2, fun h0 => ?_⟩
  obtain ⟨b, o, e, hr⟩ := h3 h0
  obtain ⟨cs0, hok0, hat0⟩ := hr 0 h0
  refine ⟨b, o, e, trivial, hat0.lt (Sub.all_in w), fun i hi => ?_⟩
  obtain ⟨cs, hok, hat⟩ := hr i hi
  have hl : cs.length = 1 := (rSl rByte).len hok
  obtain ⟨v, rfl⟩ : ∃ v, cs = [v] := List.length_eq_one_iff.1 hl
  have hcell := hat.cell (Sub.all_in w) (j := 0) (by simp)
  obtain ⟨xa, xc, rfl, h4, h5, h6⟩ := ByAt.of_ok hok
  exact ⟨xa, xc, by simpa [rSl] using hcell, h4, h5, h6⟩

/-! ### a list of changes: four cells each -/
structure ChCells (K : Nat → Prop) (w : World) (b o : Nat) (f p : Int) (old new : List UInt8) : Prop where
  f : w.cell? ⟨b, o, none⟩ = some (.int .i64 f)
  p : w.cell? ⟨b, o + 1, none⟩ = some (.int .i64 p)
  old : TxCell K false w (w.cell? ⟨b, o + 2, none⟩) old
  new : TxCell K false w (w.cell? ⟨b, o + 3, none⟩) new
theorem ChCells.keep {K : Nat → Prop} {w w' : World} {b o : Nat} {f p : Int} {old new : List UInt8} (h : ChCells K w b o f p old new) (hs : w.heap.size ≤ w'.heap.size) (hb : w'.heap[b]? = w.heap[b]?) (hk : ∀ b, K b → b < w.heap.size → w'.heap[b]? = w.heap[b]?) : ChCells K w' b o f p old new :=
  ⟨(cell_keep hb).trans h.f, (cell_keep hb).trans h.p, by rw [cell_keep hb]; exact h.old.keep hs hk, by rw [cell_keep hb]; exact h.new.keep hs hk⟩
theorem ChCells.mono {K L : Nat → Prop} {w : World} {b o : Nat} {f p : Int} {old new : List UInt8} (h : ChCells K w b o f p old new) (hK : ∀ b, K b → L b) : ChCells L w b o f p old new := ⟨h.f, h.p, h.old.mono hK, h.new.mono hK⟩
end Go.Proofs.Ytfbimghnimepjaa
