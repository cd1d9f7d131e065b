/-
  Breakpoints in memory; of chapter 28.
  Conditions: as each theorem states them.
-/
import Derived.Test.YtlaafamodaogmaaCondJ
import Derived.Test.YtlaafamodaogmaaAppR
import Derived.Deep.MidRow
namespace Go.Proofs.Ytlaafamodaogmaa
open Go.RowKit
set_option linter.unusedVariables false
set_option linter.unusedSimpArgs false
/-- a breakpoint; of its condition: its block, the blocks between which it lies, what it means -/
structure Stp where
  id : Int
  kind : Int
  n : Int
  cond : List UInt8
  off : Bool
  c : Option (Nat × Nat × Nat × CM.M)
def Stp.phi (x : Stp) : Option CM.M := x.c.map fun t => t.2.2.2
def Stp.ptr (x : Stp) : Option Addr := x.c.map fun t => ⟨t.1, 0, none⟩
def Stp.cells (x : Stp) : List Value := [.int .i64 x.id, .int .i64 x.kind, .int .i64 x.n, strV x.cond, .bool x.off, .pointer x.ptr]
theorem Stp.cells_len (x : Stp) : x.cells.length = 6 := rfl
theorem Stp.cells_one (x : Stp) : ∀ u ∈ x.cells, u.oneCell' = true := by
  intro u hu
  simp only [Stp.cells, List.mem_cons, List.not_mem_nil, or_false] at hu
  rcases hu with rfl | rfl | rfl | rfl | rfl | rfl <;> rfl
def stpsC (l : List Stp) : List Value := l.flatMap Stp.cells
theorem stpsC_len (l : List Stp) : (stpsC l).length = l.length * 6 := by
  induction l with
  | nil => rfl
  | cons x l ih =>
    unfold stpsC at ih ⊢
    rw [List.flatMap_cons, List.length_append, ih, List.length_cons, Stp.cells_len]; omega
theorem stpsC_app (l m : List Stp) : stpsC (l ++ m) = stpsC l ++ stpsC m := by unfold stpsC; exact List.flatMap_append
theorem stpsC_get : ∀ (l : List Stp) (i j : Nat) (hi : i < l.length), j < 6 → (stpsC l)[i * 6 + j]? = (l[i]).cells[j]?
  | [], i, j, hi, _ => by simp at hi
  | x :: l, 0, j, _, hj => by
    show (x.cells ++ stpsC l)[0 * 6 + j]? = x.cells[j]?
    rw [Nat.zero_mul, Nat.zero_add, List.getElem?_append_left (by rw [Stp.cells_len]; exact hj)]
  | x :: l, i + 1, j, hi, hj => by
    show (x.cells ++ stpsC l)[(i + 1) * 6 + j]? = _
    rw [List.getElem?_append_right (by rw [Stp.cells_len]; omega), Stp.cells_len, show (i + 1) * 6 + j - 6 = i * 6 + j by omega]
    exact stpsC_get l i j (by simpa using hi) hj
theorem cells_new (w : World) (g : Nat) (hg : g = w.heap.size) (e : TypeId) (l : List Value) : ∀ j u, l[j]? = some u → (w.alloc (.cells l.toArray e)).cell? ((⟨g, 0, none⟩ : Addr).add j) = some u := fun j u h => by
  subst hg
  have e1 : (⟨w.heap.size, 0, none⟩ : Addr).add j = ⟨w.heap.size, j, none⟩ := by unfold Addr.add; by_cases hj : j = 0 <;> simp [hj]
  rw [e1]
  exact ((Blk.new w e l).cell j).trans h
theorem src_new (w : World) (t : TypeId) (l : List Value) (n0 : Nat) (h0 : n0 = w.heap.size) : SrcAt (w.alloc (.cells l.toArray t)) (.slice (some ⟨n0, 0, none⟩) 1 1) 1 l := ⟨_, _, rfl, (fun e => by cases e), fun ad e j u hj => by cases e; exact cells_new w n0 h0 t l j u hj⟩
/-- a condition in memory, whatever turns up to lo and from hi on -/
def CondA (W : World) (lo hi cb : Nat) (phi : CM.M) : Prop := ∃ W1 h s, W1.heap.size = hi ∧ Blk W1 cb 84 [h, strV s] ∧ HoldsIs lo phi h W1 ∧ lo < cb ∧ OlyH lo W1 W
theorem CondA.only {K : Nat → Prop} {W W' : World} {lo hi cb : Nat} {phi : CM.M} (h : CondA W lo hi cb phi) (ho : Only K W W') (hK : ∀ k, K k → k ≤ lo ∨ hi ≤ k) : CondA W' lo hi cb phi := by
  obtain ⟨W1, h, s, e, hB, hH, hl, hO⟩ := h
  refine ⟨W1, h, s, e, hB, hH, hl, ⟨ho.os.trans hO.os, ho.tape.trans hO.tape, ho.output.trans hO.output, Nat.le_trans hO.size ho.size, fun k hk hn => ?_⟩⟩
  rw [ho.block k (Nat.lt_of_lt_of_le hk hO.size) (fun hkk => by rcases hK k hkk with h | h; exact hn h; omega)]
  exact hO.block k hk hn
theorem CondA.is {W : World} {lo hi cb : Nat} {phi : CM.M} (h : CondA W lo hi cb phi) : ∃ s, CondIs W cb s phi := by
  obtain ⟨W1, h, s, e, hB, hH, hl, hO⟩ := h
  exact ⟨s, lo, h, hB.only hO (Nat.not_le.2 hl), hH.lift hO, hl⟩
theorem CondA.hi {W : World} {lo hi cb : Nat} {phi : CM.M} (h : CondA W lo hi cb phi) : hi ≤ W.heap.size := by
  obtain ⟨W1, h, s, e, hB, hH, hl, hO⟩ := h
  rw [← e]; exact hO.size
theorem CondN.condA {n : Nat} {W : World} {c : Nat} {s : List UInt8} {phi : CM.M} (h : CondN n W c s phi) : ∃ lo, n ≤ lo ∧ CondA W lo W.heap.size c phi := by
  obtain ⟨g, v, hB, hH, hl, hn⟩ := h
  exact ⟨g, hn, W, v, s, rfl, hB, hH, hl, Only.refl _ W⟩
/-- the conditions of breakpoints lie apart from what turns -/
def CAt (p : Nat) (v : Value) (W : World) (x : Stp) : Prop := ∀ cb lo hi phi, x.c = some (cb, lo, hi, phi) → CondA W lo hi cb phi ∧ p ≤ lo ∧ ∀ r, v.ownBlock = some r → r ≤ lo ∨ hi ≤ r
/-- breakpoints: the blocks p and that of the row are from N on -/
structure StopsR (N : Nat) (W : World) (p : Nat) (v : Value) (l : List Stp) (last : Int) : Prop where
  np : N ≤ p
  blk : Blk W p 101 [v, .int .i64 last]
  row : W.ownsRow N 103 6 v l.length (stpsC l)
  apart : v.ownBlock ≠ some p
  conds : ∀ x ∈ l, CAt p v W x
def StopsAt (N : Nat) (W : World) (p : Nat) (l : List Stp) (last : Int) : Prop := ∃ v, StopsR N W p v l last
theorem CAt.only {K : Nat → Prop} {p : Nat} {v : Value} {W W' : World} {x : Stp} (h : CAt p v W x) (ho : Only K W W') (hK : ∀ k, K k → k = p ∨ v.ownBlock = some k ∨ W.heap.size ≤ k) : CAt p v W' x := fun cb lo hi phi e => by
  obtain ⟨h1, h2, h3⟩ := h cb lo hi phi e
  have := h1.hi
  refine ⟨h1.only ho (fun k hk => ?_), h2, h3⟩
  rcases hK k hk with rfl | h | h
  · exact .inl h2
  · exact h3 k h
  · exact .inr (by omega)
theorem CAt.below {p : Nat} {v : Value} {W W' : World} {x : Stp} (h : CAt p v W x) (hb : Below W.heap.size W W') : CAt p v W' x := h.only (K := fun _ => False) (Only.of_below hb) (fun _ h => h.elim)
theorem CAt.is {p : Nat} {v : Value} {W : World} {x : Stp} (h : CAt p v W x) {cb lo hi : Nat} {phi : CM.M} (e : x.c = some (cb, lo, hi, phi)) : ∃ s, CondIs W cb s phi := (h cb lo hi phi e).1.is
theorem ownsRow_below {w w' : World} {base : Nat} {e : TypeId} {size : Nat} {v : Value} {n : Nat} {xs : List Value} (h : w.ownsRow base e size v n xs) (hb : Below w.heap.size w w') : w'.ownsRow base e size v n xs := by
  refine ⟨h.1, ?_⟩
  rcases h.2 with h | ⟨g, cap, cur, h1, h2, h3, h4, h5, h6, h7⟩
  · exact .inl h
  · exact .inr ⟨g, cap, cur, h1, h2, (hb.block g (Array.getElem?_eq_some_iff.1 h3).1).trans h3, h4, h5, h6, h7⟩
theorem StopsR.below {N : Nat} {W W' : World} {p : Nat} {v : Value} {l : List Stp} {last : Int} (h : StopsR N W p v l last) (hb : Below W.heap.size W W') : StopsR N W' p v l last :=
  ⟨h.np, h.blk.below hb, ownsRow_below h.row hb, h.apart, fun x hx => (h.conds x hx).below hb⟩
theorem StopsAt.below {N : Nat} {W W' : World} {p : Nat} {l : List Stp} {last : Int} (h : StopsAt N W p l last) (hb : Below W.heap.size W W') : StopsAt N W' p l last := by
  obtain ⟨v, h⟩ := h
  exact ⟨v, h.below hb⟩
/-- an element of the row -/
theorem row_elem {W : World} {N : Nat} {v : Value} {l : List Stp} (h : W.ownsRow N 103 6 v l.length (stpsC l)) : l = [] ∧ v = .slice none 0 0 ∨ ∃ g cap, v = .slice (some ⟨g, 0, none⟩) l.length cap ∧ N ≤ g ∧ g < W.heap.size ∧ l.length ≤ cap ∧ cap ≤ maxLen ∧ ∀ i (hi : i < l.length), W.rangeAt g (i * 6) (l[i]).cells ∧ W.there g (i * 6) 6 := by
  rcases h.2 with ⟨h1, h2⟩ | ⟨g, cap, cur, h1, h2, h3, h4, h5, h6, h7⟩
  · exact .inl ⟨List.eq_nil_of_length_eq_zero h2, h1⟩
  · refine .inr ⟨g, cap, h1, h2, (Array.getElem?_eq_some_iff.1 h3).1, h4, h5, fun i hi => ?_⟩
    have hc : ∀ j, j < 6 → W.cell? ⟨g, i * 6 + j, none⟩ = (l[i]).cells[j]? := fun j hj => by
      have hlt : i * 6 + j < l.length * 6 := by omega
      rw [← stpsC_get l i j hi hj, ← h7, List.getElem?_take, if_pos hlt]
      simp only [World.cell?, h3]
      simp
    refine ⟨fun j u hu => ?_, fun j hj => ?_⟩
    · have hj : j < 6 := by have := (List.getElem?_eq_some_iff.1 hu).1; rwa [Stp.cells_len] at this
      rw [hc j hj]; exact hu
    · refine ⟨?_, ?_⟩
      · rw [hc j hj, List.getElem?_eq_getElem (by rw [Stp.cells_len]; exact hj)]; rfl
      · simp only [World.frozen?, h3]
        simp
end Go.Proofs.Ytlaafamodaogmaa
