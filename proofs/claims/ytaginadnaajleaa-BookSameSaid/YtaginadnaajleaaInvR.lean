/-
  A region that draws its order, shown by an invariant over the set of the operations that are done: no order is told apart from another.
  Conditions: each operation comes, by the edges that bind, behind such alone that stand ahead of it in the list.
-/
import Derived.Test.YtaginadnaajleaaBase
import Derived.Orders
namespace Go.Proofs.Ytaginadnaajleaa
open Go.RowKit
set_option linter.unusedVariables false
section
variable {P : Program} {ops : Array Oper} {Q : Exit → Act → World → Prop} {md : Region.Mode}
theorem count_set {l : List Bool} {i : Nat} (h : l[i]? = some false) : (l.set i true).count false + 1 = l.count false := by
  induction l generalizing i with
  | nil => simp at h
  | cons b l ih =>
    cases i with
    | zero => simp at h; subst h; simp
    | succ i =>
      simp only [List.getElem?_cons_succ] at h
      have := ih h
      cases b <;> simp <;> omega
theorem getD_false {listed : Array Bool} {i : Nat} (h : listed.getD i true = false) : listed.toList[i]? = some false := by
  rw [Array.getD_eq_getD_getElem?] at h
  cases hg : listed[i]? with
  | none => rw [hg] at h; simp at h
  | some b => rw [hg] at h; simp at h; subst h; simpa using hg
/-- each step keeps what is said of the operations done: so it holds at the end, in whatever order -/
theorem wpAny_inv {Inv : Array Bool → Act → World → Prop}
    (hstep : ∀ (listed : Array Bool) (a : Act) (w : World), listed.size = ops.size → Inv listed a w → ∀ i ∈ Region.ready md ops listed, wpOp P ops Q i (Inv (listed.setIfInBounds i true)) a w)
    (hend : ∀ (listed : Array Bool) (a : Act) (w : World), listed.size = ops.size → Inv listed a w → Region.ready md ops listed = [] → Q .normal a w) :
    ∀ (fuel : Nat) (listed : Array Bool) (a : Act) (w : World), listed.size = ops.size → listed.toList.count false ≤ fuel → Inv listed a w → wpAny P md ops Q fuel listed a w := by
  intro fuel
  induction fuel with
  | zero =>
    intro listed a w hs hc h
    have hr : Region.ready md ops listed = [] := by
      cases hr : Region.ready md ops listed with
      | nil => rfl
      | cons i r =>
        obtain ⟨h1, _⟩ := mem_ready.1 (by rw [hr]; simp : i ∈ Region.ready md ops listed)
        have := count_set (getD_false h1)
        omega
    exact ⟨hr, hend listed a w hs h hr⟩
  | succ fuel ih =>
    intro listed a w hs hc h
    refine ⟨fun hr => hend listed a w hs h hr, fun i hi => ?_⟩
    obtain ⟨h1, _⟩ := mem_ready.1 hi
    have hcs := count_set (getD_false h1)
    refine wpOp_mono (fun a' w' h' => ih _ a' w' (by simpa using hs) ?_ h') (hstep listed a w hs h i hi)
    rw [Array.toList_setIfInBounds]
    omega
/-- edges that bind lead backwards -/
def fwdB (md : Region.Mode) (ops : Array Oper) : Bool := (List.range ops.size).all fun i => ((ops[i]?).map fun o => o.after.all fun e => !Region.binds md e || decide (e.on < i)).getD true
theorem all_done (hf : fwdB md ops = true) {listed : Array Bool} (hs : listed.size = ops.size) (hr : Region.ready md ops listed = []) : ∀ (n i : Nat), i < n → i < ops.size → listed.getD i false = true := by
  intro n
  induction n with
  | zero => intro i h; omega
  | succ n ih =>
    intro i hi hlt
    cases hg : listed.getD i false with
    | true => rfl
    | false =>
      exfalso
      have hb : listed[i]? = some false := by
        rw [Array.getD_eq_getD_getElem?] at hg
        rw [Array.getElem?_eq_getElem (by omega)] at *
        simpa using hg
      have hmem : i ∈ Region.ready md ops listed := by
        refine mem_ready.2 ⟨by rw [Array.getD_eq_getD_getElem?, hb]; rfl, ops[i], Array.getElem?_eq_getElem hlt, fun e he hbi => ?_⟩
        unfold fwdB at hf
        rw [List.all_eq_true] at hf
        have h1 := hf i (List.mem_range.2 hlt)
        rw [Array.getElem?_eq_getElem hlt] at h1
        simp only [Option.map_some, Option.getD_some, Array.all_eq_true_iff_forall_mem] at h1
        have h2 := h1 e he
        rw [hbi] at h2
        simp only [Bool.not_true, Bool.false_or, decide_eq_true_eq] at h2
        exact ih e.on (by omega) (by omega)
      rw [hr] at hmem
      cases hmem
/-- the region, by the invariant -/
theorem wp_region_inv {id : Nat} {a : Act} {w : World} (Inv : Array Bool → Act → World → Prop) (hm : P.follows .mixedOrders = true) (hf : fwdB .any ops = true)
    (h0 : Inv (Array.replicate ops.size false) a w.drew)
    (hstep : ∀ (listed : Array Bool) (a : Act) (w : World), listed.size = ops.size → Inv listed a w → ∀ i ∈ Region.ready .any ops listed, wpOp P ops Q i (Inv (listed.setIfInBounds i true)) a w)
    (hend : ∀ (listed : Array Bool) (a : Act) (w : World), (∀ i, i < ops.size → listed.getD i false = true) → Inv listed a w → Q .normal a w) : (Code.region id ops true).wp P Q a w :=
  wp_region_any hm (wpAny_inv hstep (fun listed a w hs h hr => hend listed a w (fun i hi => all_done hf hs hr (i + 1) i (by omega) hi) h) ops.size _ a w.drew (by simp) (by simp) h0)
end
end Go.Proofs.Ytaginadnaajleaa
