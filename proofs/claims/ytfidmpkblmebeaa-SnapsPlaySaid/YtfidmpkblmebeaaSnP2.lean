/-
  'same' of chapter 25: what stands ahead of a number, and behind it.
  Conditions: as each theorem states them.
-/
import Derived.Test.YtfidmpkblmebeaaSnP1
import Derived.Test.YtfidmpkblmebeaaSameS
import Derived.Test.YtfidmpkblmebeaaSnap7
namespace Go.Proofs.Ytfidmpkblmebeaa
open Go.RowKit
set_option linter.unusedVariables false
set_option linter.unusedSimpArgs false
attribute [local go_sem ↓] load_st store_st
theorem same_sm {w : World} {s s' : StC} {V : StV} {lo hi lo' hi' : Nat} (h : SIn lo hi s V w) (h' : SIn lo' hi' s' V w) (hm : SmallV V) :
    Calls Try.prog 23 #[.agg s.cells.toArray, .agg s'.cells.toArray] w fun e w' => e = .returned (.bool true) ∧ Below w.heap.size w w' :=
  same_st w s s' V h h' (Nat.le_trans hm.waits (by decide)) (fun p hp => Nat.le_trans (hm.wait p hp) (by decide)) (Nat.le_trans hm.files (by decide)) (fun p hp => Nat.le_trans (hm.file p hp).1 (by decide))
/-- a text that was made, byte by byte -/
def RowW (lo hi : Nat) (a : Option Addr) (n : Nat) (W : World) : Prop := ∀ i, i < n → ∃ (b o : Nat) (z : Int), a = some ⟨b, o, none⟩ ∧ lo ≤ b ∧ b < hi ∧ W.cell? ⟨b, o + i, none⟩ = some (.int .u8 z) ∧ W.frozen? ⟨b, o + i, none⟩ = false
theorem TxI.roww {lo hi : Nat} {W : World} {s : Sl3} {t : List UInt8} (h : TxI lo hi W s t) (h0 : 0 < lo) : RowW lo hi s.a s.n W := fun i hi => by
  obtain ⟨p, o, e, h1, h2, h3⟩ := h.2.2.2 (by rw [bc_len]; have := h.1; omega)
  obtain ⟨c1, c2⟩ := h3 i (by rw [bc_len]; have := h.1; omega)
  exact ⟨p, o, t[i]'(by have := h.1; omega) |>.toNat, e, h1, h2, by rw [c1]; simp [Lib.byteCells], c2 h0⟩
theorem RowW.keep {lo hi n : Nat} {a : Option Addr} {W W' : World} (h : RowW lo hi a n W) (hk : KeepI lo hi W W') : RowW lo hi a n W' := fun i hi => by
  obtain ⟨b, o, z, e, h1, h2, c1, c2⟩ := h i hi
  exact ⟨b, o, z, e, h1, h2, (World.cell?_of_block (a := ⟨b, o + i, none⟩) (hk.2 b h1 h2)).trans c1, (World.frozen?_of_block (a := ⟨b, o + i, none⟩) (hk.2 b h1 h2)).trans c2⟩
theorem RowW.set {lo hi n j b o : Nat} {W : World} (h : RowW lo hi (some ⟨b, o, none⟩) n W) (hj : j < n) (z : Int) : RowW lo hi (some ⟨b, o, none⟩) n (W.setCell ⟨b, o + j, none⟩ (.int .u8 z)) := fun i hi => by
  obtain ⟨b', o', z', e, h1, h2, c1, c2⟩ := h i hi
  obtain ⟨rfl, rfl⟩ : b = b' ∧ o = o' := by simpa using e
  obtain ⟨b', o', z2, e, h1, h2, d1, d2⟩ := h j hj
  obtain ⟨rfl, rfl⟩ : b = b' ∧ o = o' := by simpa using e
  by_cases hij : i = j
  · subst hij
    exact ⟨b, o, z, rfl, h1, h2, World.cell?_setCell_same _ _ _ c1, by rw [World.frozen?_setCell]; exact c2⟩
  · refine ⟨b, o, z', rfl, h1, h2, ?_, by rw [World.frozen?_setCell]; exact c2⟩
    rw [World.cell?_setCell_other _ _ _ _ (by intro e; injection e with e1 e2; omega)]
    exact c1
end Go.Proofs.Ytfidmpkblmebeaa
