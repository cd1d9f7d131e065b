/-
  A region that draws its order, within a round of a loop over an iterator: the walk under a held condition serves.
  Conditions: no operation of it defers a call, and it does not panic.
-/
import Derived.Deep.RegionHeldLaw
import Derived.OwnWalkIn
import Derived.RangeFuncCalls
namespace Go.Proofs.YtepdfkgadigafaaGreatDoor
open Go.RowKit
set_option linter.unusedVariables false
section
variable {P : Program} {ops : Array Oper} {Q : Exit → Act → World → Prop}
/-- the post of a region that does not panic -/
def NP (Q : Exit → Act → World → Prop) : Exit → Act → World → Prop := fun e a w => e = .normal ∧ Q .normal a w
theorem np_lets : ¬ LetsOut (NP Q) := fun ⟨_, _, h, _⟩ => by cases h
theorem np_panic {c a w} : ¬ NP Q (.panic c) a w := fun h => by cases h.1
theorem uponIn_of_upon (n r : Nat) (o : Oper) (a : Act) {K K' : Act → World → Prop} (hk : ∀ a w, K a w → K' a w) (res : Result Next) (h : o.upon P a K (NP Q) res) : o.uponIn (Fence.wide.inRound r) n P a K' Q res := by
  cases res with
  | ok x w' =>
    cases x
    case value v => exact hk _ _ h
    case skip => exact hk _ _ h
    case «defer» d => exact hk _ _ h
    case enter f args =>
      refine ⟨fun e => (by cases e), CallsIn.inRound r (callsIn_wide.2 (Calls.mono (show Calls P f args w' _ from h) ?_))⟩
      intro e w'' he
      cases e
      · exact hk _ _ he
      · exact absurd he np_panic
      · exact absurd he np_lets
    case row row args =>
      refine ⟨fun e => (by cases e), ?_⟩
      intro c cs _
      obtain ⟨v, w2, h1, h2⟩ := (show Rows P row args w' _ from h) c cs
      exact ⟨v, w2, hk _ _ h1, stepsIn_wide.2 h2⟩
    all_goals exact False.elim h
  | halt x w' =>
    cases x
    case panic v => exact absurd h np_panic
    all_goals exact False.elim h
theorem wpOpIn_of_wpOp {n r i : Nat} {K K' : Act → World → Prop} {a : Act} {w : World} (hk : ∀ a w, K a w → K' a w) (hd : ∀ o : Oper, ops[i]? = some o → ∀ c, o.op ≠ .defer c) (h : wpOp P ops (NP Q) i K a w) : wpOpIn (Fence.wide.inRound r) n P ops Q i K' a w := by
  unfold wpOp at h
  unfold wpOpIn
  cases ho : ops[i]? with
  | none => simp only [ho] at h ⊢; exact hk _ _ h
  | some o =>
    simp only [ho] at h ⊢
    by_cases hw : Region.wanted o (yielded ops a.tmps) = true
    · rw [if_pos hw] at h ⊢
      rcases h with h | h
      · refine ⟨fun _ _ => trivial, ?_⟩
        show o.uponIn (Fence.wide.inRound r) n P a K' Q ((o.semAt (some r) a.eval).run P w)
        rw [Oper.semAt_eq _ _ _ (hd o ho)]
        exact uponIn_of_upon n r o a hk _ h
      · exact absurd h.2 np_lets
    · rw [if_neg hw] at h ⊢
      exact ⟨fun _ _ => trivial, hk _ _ h⟩
theorem wpAnyIn_of_held {md : Region.Mode} {S : World → Prop} {n r : Nat} (hd : ∀ (i : Nat) (o : Oper), ops[i]? = some o → ∀ c, o.op ≠ .defer c) : ∀ (fuel : Nat) (listed : Array Bool) (a : Act) (w : World), wpAnyH P md ops (NP Q) S fuel listed a w → wpAnyIn (Fence.wide.inRound r) n P md ops Q fuel listed a w
  | 0, _, _, _, h => ⟨h.1, h.2.2⟩
  | fuel + 1, _, _, _, h => ⟨fun e => (h.1 e).2, fun i hi => wpOpIn_of_wpOp (fun a' w' h' => wpAnyIn_of_held hd fuel _ a' w' h'.2) (hd i) (h.2 i hi)⟩
/-- as the held walk, but C is asked up to the operation t alone -/
def wpAnyT (P : Program) (md : Region.Mode) (ops : Array Oper) (Q : Exit → Act → World → Prop) (C : World → Prop) (t : Nat) : Nat → Array Bool → Act → World → Prop
  | 0, listed, a, w => Region.ready md ops listed = [] ∧ Q .normal a w
  | fuel + 1, listed, a, w =>
    (Region.ready md ops listed = [] → Q .normal a w) ∧
    ∀ i ∈ Region.ready md ops listed, wpOp P ops Q i (fun a' w' => ((listed.setIfInBounds i true).getD t true = false → C w') ∧ wpAnyT P md ops Q C t fuel (listed.setIfInBounds i true) a' w') a w
theorem wpAnyT_first {md : Region.Mode} {C : World → Prop} {t i : Nat} {oi : Oper} {v : Value} (hi : ops[i]? = some oi) (hsel : ∀ (j : Nat) (o : Oper) cs b, ops[j]? = some o → o.op ≠ .select cs b)
    (hQ : ∀ c a w, Q (.panic c) (a.put oi.dst v) w → Q (.panic c) a w) (us : List Nat) (htu : t ∈ us) (hti : ∀ u ∈ us, ∀ ot, ops[u]? = some ot → ∃ e ∈ ot.after, Region.binds md e = true ∧ (e.on = i ∨ e.on ∈ us)) :
    ∀ (fuel : Nat) (listed : Array Bool) (a : Act) (w : World),
      (∀ j oj, ops[j]? = some oj → j ≠ i → listed.getD j true = false → (∀ e ∈ oj.after, Region.binds md e = true → e.on ≠ i) → oi.apart ops oj = true) →
      i ∈ Region.ready md ops listed → (∀ u ∈ us, listed.getD u true = false) → YieldsIf P ops C oi v a → C w →
      wpAnyT P md ops Q C t fuel (listed.setIfInBounds i true) (a.put oi.dst v) w → wpAnyT P md ops Q C t (fuel + 1) listed a w := by
  intro fuel
  induction fuel with
  | zero =>
    intro listed a w _ hr _ hy hC H
    refine ⟨fun h => (by rw [h] at hr; cases hr), fun j hj => ?_⟩
    by_cases hji : j = i
    · subst hji; exact hy.wpOp hi hC ⟨fun _ => hC, H⟩
    · have := ready_mono hj hji
      rw [H.1] at this
      cases this
  | succ fuel ih =>
    intro listed a w hfree hr ht hy hC H
    refine ⟨fun h => (by rw [h] at hr; cases hr), fun j hj => ?_⟩
    by_cases hji : j = i
    · subst hji; exact hy.wpOp hi hC ⟨fun _ => hC, H⟩
    · have h1 := H.2 j (ready_mono hj hji)
      obtain ⟨hjun, oj, hoj, hall⟩ := mem_ready.1 hj
      have hnot : ∀ e ∈ oj.after, Region.binds md e = true → e.on ≠ i := fun e he hb heq => by
        have h1 := hall e he hb
        have h0 := (mem_ready.1 hr).1
        rw [heq] at h1
        rcases Nat.lt_or_ge i listed.size with h' | h'
        · simp [h'] at h0 h1; rw [h0] at h1; cases h1
        · simp [Array.getElem?_eq_none h'] at h1
      have hun' : ∀ k, listed.getD k false = true → listed.getD k true = false → False := fun k h1 h2 => by
        rcases Nat.lt_or_ge k listed.size with h' | h'
        · simp [h'] at h1 h2; rw [h1] at h2; cases h2
        · simp [Array.getElem?_eq_none h'] at h1
      have hjt : j ∉ us := by
        intro hju
        obtain ⟨e, he, hb, heq | heq⟩ := hti j hju oj hoj
        · exact hnot e he hb heq
        · exact hun' _ (hall e he hb) (ht _ heq)
      have h2 := wpOp_putIf hoj (hfree j oj hoj hji hjun hnot) (fun cs b => hsel i oi cs b hi) (fun cs b => hsel j oj cs b hoj) hQ hy h1
      have hfree' : ∀ k ok, ops[k]? = some ok → k ≠ i → (listed.setIfInBounds j true).getD k true = false →
          (∀ e ∈ ok.after, Region.binds md e = true → e.on ≠ i) → oi.apart ops ok = true := fun k ok hk hki hun hno => by
        refine hfree k ok hk hki ?_ hno
        by_cases hjk : j = k
        · subst hjk; exact hjun
        · rw [getD_set_ne true hjk] at hun; exact hun
      have hit : i ∉ us := by
        intro hiu
        obtain ⟨h0, oi', hoi', hall'⟩ := mem_ready.1 hr
        obtain ⟨e, he, hb, heq | heq⟩ := hti i hiu oi' hoi'
        · have h1 := hall' e he hb
          rw [heq] at h1
          exact hun' _ h1 (ht _ hiu)
        · exact hun' _ (hall' e he hb) (ht _ heq)
      have htj : ∀ u ∈ us, (listed.setIfInBounds j true).getD u true = false := fun u hu => by rw [getD_set_ne true (fun e : j = u => hjt (by rw [e]; exact hu))]; exact ht u hu
      have htij : ((listed.setIfInBounds i true).setIfInBounds j true).getD t true = false := by rw [getD_set_ne true (fun e : j = t => hjt (by rw [e]; exact htu)), getD_set_ne true (fun e : i = t => hit (by rw [e]; exact htu))]; exact ht t htu
      refine wpOp_mono (fun a' w' h3 => ⟨fun _ => h3.2.1 htij, ih (listed.setIfInBounds j true) a' w' hfree' (ready_mono hr (Ne.symm hji)) htj h3.1 (h3.2.1 htij) ?_⟩) h2
      rw [Array.setIfInBounds_comm _ _ hji]
      exact h3.2.2
/-- a load, or what reads no world, is taken first -/
theorem wpAnyT_take {md : Region.Mode} {C : World → Prop} {t i : Nat} {oi : Oper} {v : Value} {fuel : Nat} {listed : Array Bool} {a : Act} {w : World} (d : Option Nat) (hi : ops[i]? = some oi) (hd : ops[i]?.map (·.dst) = some d)
    (hs : Region.noSelect ops = true) (hf : Region.free md ops listed i = true) (hr : (Region.ready md ops listed).contains i = true)
    (hQ : ∀ c a w, Q (.panic c) (a.put oi.dst v) w → Q (.panic c) a w) (us : List Nat) (htu : us.contains t = true) (hti : (us.all fun u => (ops[u]?.map fun o => o.after.toList.any fun e => Region.binds md e && (e.on == i || us.contains e.on)).getD true) = true) (ht : (us.all fun u => !(listed.getD u true)) = true) (hy : YieldsIf P ops C oi v a) (hC : C w)
    (h : wpAnyT P md ops Q C t fuel (listed.setIfInBounds i true) (a.put d v) w) : wpAnyT P md ops Q C t (fuel + 1) listed a w := by
  obtain rfl : oi.dst = d := by rw [hi] at hd; simpa using hd
  refine wpAnyT_first hi (Region.noSelect_spec hs) hQ us (by simpa using htu) (fun u hu ot hot => ?_) fuel listed a w (Region.free_spec hi hf) (by simpa using hr) (fun u hu => by simpa using List.all_eq_true.1 ht u hu) hy hC h
  have h1 := List.all_eq_true.1 hti u hu
  simp only [hot] at h1
  obtain ⟨e, he, h2⟩ := List.any_eq_true.1 (show (ot.after.toList.any fun e => Region.binds md e && (e.on == i || us.contains e.on)) = true from h1)
  simp only [Bool.and_eq_true, Bool.or_eq_true, beq_iff_eq, List.contains_iff_mem] at h2
  exact ⟨e, by simpa using he, h2.1, h2.2⟩
def AllT (P : Program) (md : Region.Mode) (ops : Array Oper) (Q : Exit → Act → World → Prop) (C : World → Prop) (t fuel : Nat) (listed : Array Bool) (a : Act) (w : World) (rs : List Nat) : Prop :=
  ∀ i ∈ rs, wpOp P ops Q i (fun a' w' => ((listed.setIfInBounds i true).getD t true = false → C w') ∧ wpAnyT P md ops Q C t fuel (listed.setIfInBounds i true) a' w') a w
theorem AllT.nil {md : Region.Mode} {C : World → Prop} {t fuel : Nat} {listed : Array Bool} {a : Act} {w : World} : AllT P md ops Q C t fuel listed a w [] := fun _ h => by cases h
theorem AllT.cons {md : Region.Mode} {C : World → Prop} {t fuel : Nat} {listed : Array Bool} {a : Act} {w : World} {i : Nat} {o : Oper} {rs : List Nat} (ho : ops[i]? = some o)
    (h : ∀ K' : Act → World → Prop, Shut (∀ a w, ((listed.setIfInBounds i true).getD t true = false → C w) → wpAnyT P md ops Q C t fuel (listed.setIfInBounds i true) a w → K' a w) → if Region.wanted o (yielded ops a.tmps) = true then Oper.wp P o a w K' Q else K' (a.put o.dst undef) w)
    (hs : AllT P md ops Q C t fuel listed a w rs) : AllT P md ops Q C t fuel listed a w (i :: rs) := fun j hj => by
  rcases List.mem_cons.1 hj with rfl | hj
  · exact wpOp_step ho (fun K' hK => h K' (fun a w hS hW => hK a w ⟨hS, hW⟩))
  · exact hs j hj
theorem wpAnyT_ready {md : Region.Mode} {C : World → Prop} {t : Nat} {rs : List Nat} {fuel : Nat} {listed : Array Bool} {a : Act} {w : World} (hr : Region.ready md ops listed = rs) (hne : rs ≠ [])
    (h : AllT P md ops Q C t fuel listed a w rs) : wpAnyT P md ops Q C t (fuel + 1) listed a w := ⟨fun h0 => absurd (hr ▸ h0) hne, hr ▸ h⟩
theorem wpAnyT_done {md : Region.Mode} {C : World → Prop} {t : Nat} {listed : Array Bool} {a : Act} {w : World} (hr : Region.ready md ops listed = []) (h : Q .normal a w) : ∀ fuel, wpAnyT P md ops Q C t fuel listed a w
  | 0 => ⟨hr, h⟩
  | _ + 1 => ⟨fun _ => h, by rw [hr]; simp⟩
theorem wpAnyIn_of_till {md : Region.Mode} {C : World → Prop} {t n r : Nat} (hd : ∀ (i : Nat) (o : Oper), ops[i]? = some o → ∀ c, o.op ≠ .defer c) : ∀ (fuel : Nat) (listed : Array Bool) (a : Act) (w : World), wpAnyT P md ops (NP Q) C t fuel listed a w → wpAnyIn (Fence.wide.inRound r) n P md ops Q fuel listed a w
  | 0, _, _, _, h => ⟨h.1, h.2.2⟩
  | fuel + 1, _, _, _, h => ⟨fun e => (h.1 e).2, fun i hi => wpOpIn_of_wpOp (fun a' w' h' => wpAnyIn_of_till hd fuel _ a' w' h'.2) (hd i) (h.2 i hi)⟩
/-- no operation defers -/
def plainOps (l : List Oper) : Bool := l.all fun o => match o.op with | .defer _ => false | _ => true
theorem plainOps_spec {l : List Oper} (h : plainOps l = true) (i : Nat) (o : Oper) (ho : l.toArray[i]? = some o) (c : Call) : o.op ≠ .defer c := by
  intro e
  have hm : o ∈ l := by
    have : l[i]? = some o := by simpa using ho
    exact List.mem_of_getElem? this
  have := List.all_eq_true.1 h o hm
  rw [e] at this
  cases this
theorem region_held_round {id : Nat} {a : Act} {w : World} {l : List Oper} (S : World → Prop) {n : Nat} (r : Nat) (hm : P.follows .mixedOrders = true) (hd : plainOps l = true) (hS : S w.drew)
    (h : S w.drew → wpAnyH P .any l.toArray (NP Q) S l.toArray.size (Array.replicate l.toArray.size false) a w.drew) : (Code.region id l.toArray true).wpIn (Fence.wide.inRound r) n P Q a w :=
  wpIn_region_any hm (wpAnyIn_of_held (plainOps_spec hd) _ _ _ _ (h hS))
theorem region_till_round {id : Nat} {a : Act} {w : World} {l : List Oper} (C : World → Prop) (t : Nat) {n : Nat} (r : Nat) (hm : P.follows .mixedOrders = true) (hd : plainOps l = true)
    (h : wpAnyT P .any l.toArray (NP Q) C t l.toArray.size (Array.replicate l.toArray.size false) a w.drew) : (Code.region id l.toArray true).wpIn (Fence.wide.inRound r) n P Q a w :=
  wpIn_region_any hm (wpAnyIn_of_till (plainOps_spec hd) _ _ _ _ h)
end
end Go.Proofs.YtepdfkgadigafaaGreatDoor
/-
  A region that draws its order and stores into the cells that it loads: a condition that is held up to one operation alone.
  Conditions: as each theorem states them.
-/
namespace Go.Proofs.YtepdfkgadigafaaGreatDoor
open Go.RowKit
set_option linter.unusedVariables false
section
variable {P : Program} {ops : Array Oper} {Q : Exit → Act → World → Prop}
theorem np_imp (e : Exit) (a : Act) (w : World) (h : NP Q e a w) : Q e a w := by obtain ⟨rfl, h⟩ := h; exact h
theorem wpAny_of_till {md : Region.Mode} {C : World → Prop} {t : Nat} : ∀ (fuel : Nat) (listed : Array Bool) (a : Act) (w : World), wpAnyT P md ops (NP Q) C t fuel listed a w → wpAny P md ops (NP Q) fuel listed a w
  | 0, _, _, _, h => ⟨h.1, h.2⟩
  | fuel + 1, _, _, _, h => ⟨h.1, fun i hi => wpOp_mono (fun a' w' h' => wpAny_of_till fuel _ a' w' h'.2) (h.2 i hi)⟩
theorem region_till {id : Nat} {a : Act} {w : World} {l : List Oper} (C : World → Prop) (t : Nat) (hm : P.follows .mixedOrders = true)
    (h : wpAnyT P .any l.toArray (NP Q) C t l.toArray.size (Array.replicate l.toArray.size false) a w.drew) : (Code.region id l.toArray true).wp P Q a w :=
  Code.wp_mono np_imp (wp_region_any hm (wpAny_of_till _ _ _ _ h))
end
end Go.Proofs.YtepdfkgadigafaaGreatDoor
