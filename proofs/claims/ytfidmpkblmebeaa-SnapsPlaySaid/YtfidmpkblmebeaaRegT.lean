/-
  A region that draws its order and stores into the cells that it loads: a condition that is held up to one operation alone.
  Conditions: as each theorem states them.
-/
import Derived.Test.YtfidmpkblmebeaaIterH
namespace Go.Proofs.Ytfidmpkblmebeaa
open Go.RowKit
set_option linter.unusedVariables false
section
variable {P : Program} {ops : Array Oper} {Q : Exit → Act → World → Prop}
theorem np_imp (e : Exit) (a : Act) (w : World) (h : NP Q e a w) : Q e a w := by obtain ⟨rfl, h⟩ := h; exact h
theorem wpAny_of_till {md : Region.Mode} {C : World → Prop} {t : Nat} : ∀ (fuel : Nat) (listed : Array Bool) (a : Act) (w : World), wpAnyT P md ops (NP Q) C t fuel listed a w → wpAny P md ops (NP Q) fuel listed a w
  | 0, _, _, _, h => ⟨h.1, h.2⟩
  | fuel + 1, _, _, _, h => ⟨h.1, fun i hi => wpOp_mono (fun a' w' h' => wpAny_of_till fuel _ a' w' h'.2) (h.2 i hi)⟩
theorem region_till {id : Nat} {a : Act} {w : World} {l : List Oper} (C : World → Prop) (t : Nat) (hm : P.follows .mixedOrders = true)
    (h : wpAnyT P .any l.toArray (NP Q) C t l.toArray.size (Array.replicate l.toArray.size false) a w.drew) : (Code.region id l.toArray true).wp P Q a w :=
  Code.wp_mono np_imp (wp_region_any hm (wpAny_of_till _ _ _ _ h))
end
end Go.Proofs.Ytfidmpkblmebeaa
