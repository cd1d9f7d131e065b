/-
  A cut slice of bytes; of chapter 27.
  Conditions: as each theorem states them.
-/
import Derived.Test.YtcjcflmnghhbaaaGreatMapSe
import Derived.Laws.Slices
namespace Go.Proofs.YtcjcflmnghhbaaaGreat
open Go.RowKit
set_option linter.unusedVariables false
set_option linter.unusedSimpArgs false
/-- where a cut slice begins -/
def cutA (a : Option Addr) (l m s : Nat) : Option Addr := if m = l then a else a.map (·.add (l * s))
theorem sliced_eq (a : Option Addr) (l h m s : Nat) : sliced a l h m s = .slice (cutA a l m s) (h - l) (m - l) := rfl
theorem addr_add (b o k : Nat) : (⟨b, o, none⟩ : Addr).add k = ⟨b, o + k, none⟩ := by
  unfold Addr.add
  by_cases h : k = 0 <;> simp [h]
section
variable {P : Program} (w : World) (t : TypeId) (a : Option Addr) (len cap : Nat) (ht : P.underlying t = some (.slice (P.elem t)))
include ht
theorem run_cut_lh (kl kh : IntKind) (l h : Int) (h0 : 0 ≤ l) (h1 : l ≤ h) (h2 : h ≤ cap) :
    (Instr.sliceAt t (.slice a len cap) (some (.int kl l)) (some (.int kh h)) none).run P w =
      ((sizeOf (P.elem t)).run P w).andThen fun s w => .ok (.slice (cutA a l.toNat cap s) (h.toNat - l.toNat) (cap - l.toNat)) w := by
  rw [run_sliceAt_slice w t _ _ _ _ ht, run_slice_lh w t a len cap ht kl kh l h h0 h1 h2]; rfl
end
theorem BytesAt.drop {w : World} {a : Option Addr} {xs : List UInt8} (h : BytesAt w a xs) {c : Nat} (hc : xs.length ≤ c) (l : Nat) : BytesAt w (cutA a l c 1) (xs.drop l) := fun h0 => by
  simp only [List.length_drop] at h0
  obtain ⟨b, o, rfl, hl, r⟩ := h (by omega)
  refine ⟨b, o + l, ?_, hl, fun i hi => ?_⟩
  · unfold cutA
    rw [if_neg (by omega), Nat.mul_one]
    simp [addr_add]
  · simp only [List.length_drop] at hi
    have := r (l + i) (by omega)
    rw [← Nat.add_assoc] at this
    simpa using this
theorem BytesAt.take {w : World} {a : Option Addr} {xs : List UInt8} (h : BytesAt w a xs) (n : Nat) : BytesAt w a (xs.take n) := fun h0 => by
  simp only [List.length_take] at h0
  obtain ⟨b, o, e, hl, r⟩ := h (by omega)
  refine ⟨b, o, e, hl, fun i hi => ?_⟩
  simp only [List.length_take] at hi
  have := r i (by omega)
  simpa using this
end Go.Proofs.YtcjcflmnghhbaaaGreat
