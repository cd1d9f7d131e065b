/-
  A region that draws its order and only reads, within a round of a loop over an iterator: one walk in the order of the text serves.
  Conditions: no operation of it defers a call.
-/
import Derived.Sort.QuietTacIn
import Derived.OwnWalkIn
namespace Go.Proofs.Ytfbimghnimepjaa
open Go.RowKit
set_option linter.unusedVariables false
section
variable {F : Fence} {n : Nat} {P : Program} {ops : Array Oper} {Q : Exit → Act → World → Prop}
theorem uponIn_round (l : Nat) (o : Oper) (a : Act) (K : Act → World → Prop) (r : Result Next) (h : o.uponIn F n P a K Q r) : o.uponIn (F.inRound l) n P a K Q r := by
  unfold Oper.uponIn at h ⊢
  split at h <;> exact h
theorem wpOpIn_round {i : Nat} {K : Act → World → Prop} {a : Act} {w : World} (hro : F.round = none) (l : Nat) (hd : ∀ o : Oper, ops[i]? = some o → ∀ c, o.op ≠ .defer c) (h : wpOpIn F n P ops Q i K a w) : wpOpIn (F.inRound l) n P ops Q i K a w := by
  unfold wpOpIn at h ⊢
  cases ho : ops[i]? with
  | none => simp only [ho] at h ⊢; exact h
  | some o =>
    simp only [ho] at h ⊢
    by_cases hw : Region.wanted o (yielded ops a.tmps) = true
    · rw [if_pos hw] at h ⊢
      refine ⟨h.1, ?_⟩
      have h2 := h.2
      rw [hro, Oper.semAt_none] at h2
      show o.uponIn (F.inRound l) n P a K Q ((o.semAt (some l) a.eval).run P w)
      rw [Oper.semAt_eq _ _ _ (hd o ho)]
      exact uponIn_round l o a K _ h2
    · rw [if_neg hw] at h ⊢
      exact h
theorem wpAnyIn_round {md : Region.Mode} (hro : F.round = none) (l : Nat) (hd : ∀ (i : Nat) (o : Oper), ops[i]? = some o → ∀ c, o.op ≠ .defer c) : ∀ (fuel : Nat) (listed : Array Bool) (a : Act) (w : World), wpAnyIn F n P md ops Q fuel listed a w → wpAnyIn (F.inRound l) n P md ops Q fuel listed a w
  | 0, _, _, _, h => h
  | fuel + 1, _, _, _, h => ⟨h.1, fun i hi => wpOpIn_round hro l (hd i) (wpOpIn_mono (fun a' w' h' => wpAnyIn_round hro l hd fuel _ a' w' h') (h.2 i hi))⟩
/-- no operation defers -/
def plainOps (l : List Oper) : Bool := l.all fun o => match o.op with | .defer _ => false | _ => true
theorem plainOps_spec {l : List Oper} (h : plainOps l = true) (i : Nat) (o : Oper) (ho : l.toArray[i]? = some o) (c : Call) : o.op ≠ .defer c := by
  intro e
  have hm : o ∈ l := by
    have : l[i]? = some o := by simpa using ho
    exact List.mem_of_getElem? this
  have := List.all_eq_true.1 h o hm
  rw [e] at this
  cases this
theorem region_quiet_round {id : Nat} {a : Act} {w : World} {l : List Oper} (r : Nat) (hro : F.round = none) (hm : P.follows .mixedOrders = true) (hB : Region.lexB .any l.toArray = true) (hd : plainOps l = true)
    (h : wpQuietIn F n P l.toArray (fun w' => ∃ n, w' = w.drewN n) (fun a' => ∀ w', (∃ n, w' = w.drewN n) → Q .normal a' w') l a) : (Code.region id l.toArray true).wpIn (F.inRound r) n P Q a w := by
  simp only [Region.lexB, Bool.and_eq_true] at hB
  refine wpIn_region_any hm (wpAnyIn_round hro r (plainOps_spec hd) _ _ _ _ (wpAnyIn_of_quiet (C := fun w' => ∃ n, w' = w.drewN n) (Q := fun a' => ∀ w', (∃ n, w' = w.drewN n) → Q .normal a' w') hro (fun _ w' hw' h => h w' hw') _ _ _ _ ⟨1, rfl⟩ ?_))
  have := wpAnyQIn_lex (F := F) (n := n) (C := fun w' => ∃ n, w' = w.drewN n) (md := .any) hB.1 l 0 (Array.replicate l.toArray.size false) a (by simp) (by simpa using hB.2) h
  simpa using this
end
end Go.Proofs.Ytfbimghnimepjaa
