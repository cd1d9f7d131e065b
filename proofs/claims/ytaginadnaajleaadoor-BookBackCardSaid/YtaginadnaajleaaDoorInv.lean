/-
  A region that draws its order, shown by an invariant over the set of the operations that are done: no order is told apart from another.
  Conditions: each operation comes, by the edges that bind, behind such alone that stand ahead of it in the list.
-/
import Derived.Test.YtaginadnaajleaaDoorBase
import Derived.Orders
import Derived.Test.YtaginadnaajleaaDoorMapS
import Derived.Great.Frames
namespace Go.Proofs.YtaginadnaajleaaDoor
open Go.RowKit
set_option linter.unusedVariables false
section
variable {P : Program} {ops : Array Oper} {Q : Exit → Act → World → Prop} {md : Region.Mode}
theorem count_set {l : List Bool} {i : Nat} (h : l[i]? = some false) : (l.set i true).count false + 1 = l.count false := by
  induction l generalizing i with
  | nil => simp at h
  | cons b l ih =>
    cases i with
    | zero => simp at h; subst h; simp
    | succ i =>
      simp only [List.getElem?_cons_succ] at h
      have := ih h
      cases b <;> simp <;> omega
theorem getD_false {listed : Array Bool} {i : Nat} (h : listed.getD i true = false) : listed.toList[i]? = some false := by
  rw [Array.getD_eq_getD_getElem?] at h
  cases hg : listed[i]? with
  | none => rw [hg] at h; simp at h
  | some b => rw [hg] at h; simp at h; subst h; simpa using hg
/-- each step keeps what is said of the operations done: so it holds at the end, in whatever order -/
theorem wpAny_inv {Inv : Array Bool → Act → World → Prop}
    (hstep : ∀ (listed : Array Bool) (a : Act) (w : World), listed.size = ops.size → Inv listed a w → ∀ i ∈ Region.ready md ops listed, wpOp P ops Q i (Inv (listed.setIfInBounds i true)) a w)
    (hend : ∀ (listed : Array Bool) (a : Act) (w : World), listed.size = ops.size → Inv listed a w → Region.ready md ops listed = [] → Q .normal a w) :
    ∀ (fuel : Nat) (listed : Array Bool) (a : Act) (w : World), listed.size = ops.size → listed.toList.count false ≤ fuel → Inv listed a w → wpAny P md ops Q fuel listed a w := by
  intro fuel
  induction fuel with
  | zero =>
    intro listed a w hs hc h
    have hr : Region.ready md ops listed = [] := by
      cases hr : Region.ready md ops listed with
      | nil => rfl
      | cons i r =>
        obtain ⟨h1, _⟩ := mem_ready.1 (by rw [hr]; simp : i ∈ Region.ready md ops listed)
        have := count_set (getD_false h1)
        omega
    exact ⟨hr, hend listed a w hs h hr⟩
  | succ fuel ih =>
    intro listed a w hs hc h
    refine ⟨fun hr => hend listed a w hs h hr, fun i hi => ?_⟩
    obtain ⟨h1, _⟩ := mem_ready.1 hi
    have hcs := count_set (getD_false h1)
    refine wpOp_mono (fun a' w' h' => ih _ a' w' (by simpa using hs) ?_ h') (hstep listed a w hs h i hi)
    rw [Array.toList_setIfInBounds]
    omega
/-- edges that bind lead backwards -/
def fwdB (md : Region.Mode) (ops : Array Oper) : Bool := (List.range ops.size).all fun i => ((ops[i]?).map fun o => o.after.all fun e => !Region.binds md e || decide (e.on < i)).getD true
theorem all_done (hf : fwdB md ops = true) {listed : Array Bool} (hs : listed.size = ops.size) (hr : Region.ready md ops listed = []) : ∀ (n i : Nat), i < n → i < ops.size → listed.getD i false = true := by
  intro n
  induction n with
  | zero => intro i h; omega
  | succ n ih =>
    intro i hi hlt
    cases hg : listed.getD i false with
    | true => rfl
    | false =>
      exfalso
      have hb : listed[i]? = some false := by
        rw [Array.getD_eq_getD_getElem?] at hg
        rw [Array.getElem?_eq_getElem (by omega)] at *
        simpa using hg
      have hmem : i ∈ Region.ready md ops listed := by
        refine mem_ready.2 ⟨by rw [Array.getD_eq_getD_getElem?, hb]; rfl, ops[i], Array.getElem?_eq_getElem hlt, fun e he hbi => ?_⟩
        unfold fwdB at hf
        rw [List.all_eq_true] at hf
        have h1 := hf i (List.mem_range.2 hlt)
        rw [Array.getElem?_eq_getElem hlt] at h1
        simp only [Option.map_some, Option.getD_some, Array.all_eq_true_iff_forall_mem] at h1
        have h2 := h1 e he
        rw [hbi] at h2
        simp only [Bool.not_true, Bool.false_or, decide_eq_true_eq] at h2
        exact ih e.on (by omega) (by omega)
      rw [hr] at hmem
      cases hmem
/-- the region, by the invariant -/
theorem wp_region_inv {id : Nat} {a : Act} {w : World} (Inv : Array Bool → Act → World → Prop) (hm : P.follows .mixedOrders = true) (hf : fwdB .any ops = true)
    (h0 : Inv (Array.replicate ops.size false) a w.drew)
    (hstep : ∀ (listed : Array Bool) (a : Act) (w : World), listed.size = ops.size → Inv listed a w → ∀ i ∈ Region.ready .any ops listed, wpOp P ops Q i (Inv (listed.setIfInBounds i true)) a w)
    (hend : ∀ (listed : Array Bool) (a : Act) (w : World), (∀ i, i < ops.size → listed.getD i false = true) → Inv listed a w → Q .normal a w) : (Code.region id ops true).wp P Q a w :=
  wp_region_any hm (wpAny_inv hstep (fun listed a w hs h hr => hend listed a w (fun i hi => all_done hf hs hr (i + 1) i (by omega) hi) h) ops.size _ a w.drew (by simp) (by simp) h0)
end
end Go.Proofs.YtaginadnaajleaaDoor
/-
  A region that draws, by an invariant; what is done is closed under what binds. And worlds that grow.
  Conditions: as each theorem states them.
-/
namespace Go.Proofs.YtaginadnaajleaaDoor
open Go.RowKit
set_option linter.unusedVariables false
set_option linter.unusedSimpArgs false
section
variable {P : Program} {ops : Array Oper} {Q : Exit → Act → World → Prop}
/-- what is done has behind it all that binds it -/
def Closed (ops : Array Oper) (l : Array Bool) : Prop := ∀ j, l.getD j false = true → ∀ o, ops[j]? = some o → ∀ e ∈ o.after, Region.binds .any e = true → l.getD e.on false = true
theorem getD_setB {l : Array Bool} {i j : Nat} (hi : i < l.size) : (l.setIfInBounds i true).getD j false = (if i = j then true else l.getD j false) := by
  simp only [Array.getD_eq_getD_getElem?]
  by_cases h : i = j
  · subst h; simp [hi]
  · rw [if_neg h, Array.getElem?_setIfInBounds_ne h]
theorem Closed.set {l : Array Bool} (hs : l.size = ops.size) (h : Closed ops l) {i : Nat} {o : Oper} (hi : ops[i]? = some o) (hd : ∀ e ∈ o.after, Region.binds .any e = true → l.getD e.on false = true) : Closed ops (l.setIfInBounds i true) := by
  have hlt : i < l.size := by rw [hs]; exact (Array.getElem?_eq_some_iff.1 hi).1
  intro j hj o' ho' e he hb
  rw [getD_setB hlt] at hj ⊢
  by_cases hij : i = e.on
  · rw [if_pos hij]
  · rw [if_neg hij]
    by_cases h2 : i = j
    · subst h2
      rw [hi] at ho'; cases ho'
      exact hd e he hb
    · rw [if_neg h2] at hj
      exact h j hj o' ho' e he hb
theorem wp_region_inv2 {id : Nat} {a : Act} {w : World} (Inv : Array Bool → Act → World → Prop) (hm : P.follows .mixedOrders = true) (hf : fwdB .any ops = true)
    (h0 : Inv (Array.replicate ops.size false) a w.drew)
    (hstep : ∀ (l : Array Bool) (a : Act) (w : World), l.size = ops.size → Closed ops l → Inv l a w → ∀ i o, ops[i]? = some o → l.getD i false = false → (∀ e ∈ o.after, Region.binds .any e = true → l.getD e.on false = true) → wpOp P ops Q i (Inv (l.setIfInBounds i true)) a w)
    (hend : ∀ (l : Array Bool) (a : Act) (w : World), (∀ i, i < ops.size → l.getD i false = true) → Inv l a w → Q .normal a w) : (Code.region id ops true).wp P Q a w := by
  refine wp_region_inv (fun l a w => l.size = ops.size ∧ Closed ops l ∧ Inv l a w) hm hf ⟨by simp, ?_, h0⟩ ?_ (fun l a w h1 h2 => hend l a w h1 h2.2.2)
  · intro j hj
    simp only [Array.getD_eq_getD_getElem?, Array.getElem?_replicate] at hj
    split at hj <;> cases hj
  · rintro l a w hs ⟨_, hc, hi⟩ i hr
    obtain ⟨h1, o, ho, h2⟩ := mem_ready.1 hr
    have hlt : i < l.size := by rw [hs]; exact (Array.getElem?_eq_some_iff.1 ho).1
    have h3 : l.getD i false = false := by
      simp only [Array.getD_eq_getD_getElem?, Array.getElem?_eq_getElem hlt] at h1 ⊢
      exact h1
    exact wpOp_mono (fun a' w' h => ⟨by simpa using hs, hc.set hs ho h2, h⟩) (hstep l a w hs hc hi i o ho h3 h2)
end
/-- w' holds what lay in w's cells -/
def Gr (w w' : World) : Prop := w.heap.size ≤ w'.heap.size ∧ ∀ p v, w.cell? p = some v → w'.cell? p = some v
theorem Gr.refl (w : World) : Gr w w := ⟨Nat.le_refl _, fun _ _ h => h⟩
theorem Gr.trans {a b c : World} (h : Gr a b) (k : Gr b c) : Gr a c := ⟨Nat.le_trans h.1 k.1, fun p v hp => k.2 p v (h.2 p v hp)⟩
theorem Gr.below {w w' : World} (h : Below w.heap.size w w') : Gr w w' := ⟨h.size, fun p v hp => (h.cell (World.block_lt_of_cell? w _ hp)).trans hp⟩
theorem Gr.set {w : World} {g : Nat} {es : Array MapEntry} {cl : Nat} (hg : w.heap[g]? = some (.map es cl)) (o : Obj) : Gr w { w with heap := w.heap.setIfInBounds g o } := by
  refine ⟨by simp, fun p v hp => ?_⟩
  have hne : g ≠ p.block := fun e => by subst e; simp [World.cell?, hg] at hp
  simp only [World.cell?, Array.getElem?_setIfInBounds_ne hne] at hp ⊢
  exact hp
theorem below_set {n : Nat} {w : World} {g : Nat} (hg : n ≤ g) (o : Obj) : Below n w { w with heap := w.heap.setIfInBounds g o } :=
  ⟨rfl, rfl, rfl, by simp, fun b hb => by simp [Array.getElem?_setIfInBounds_ne (show g ≠ b by omega)]⟩
end Go.Proofs.YtaginadnaajleaaDoor
/-
  What a map literal holds when some of its inserts are done.
  Conditions: as each theorem states them.
-/
namespace Go.Proofs.YtaginadnaajleaaDoor
open Go.RowKit
set_option linter.unusedVariables false
set_option linter.unusedSimpArgs false
/-- of the inserts T (the operation, the key, the value) those are done that l says -/
def fS (l : Array Bool) (T : List (Nat × ByteArray × Value)) (s : ByteArray) : Option Value := (T.find? fun r => l.getD r.1 false && (s == r.2.1)).map (·.2.2)
theorem fS_cons (l : Array Bool) (r : Nat × ByteArray × Value) (T : List (Nat × ByteArray × Value)) (s : ByteArray) : fS l (r :: T) s = if (l.getD r.1 false && (s == r.2.1)) = true then some r.2.2 else fS l T s := by
  unfold fS
  rw [List.find?_cons]
  split
  · rename_i h; rw [h]; rfl
  · rename_i h; rw [h]; rfl
theorem fS_other {l : Array Bool} {i : Nat} (hi : i < l.size) : ∀ {T : List (Nat × ByteArray × Value)}, (∀ r ∈ T, r.1 ≠ i) → fS (l.setIfInBounds i true) T = fS l T
  | [], _ => rfl
  | r :: T, h => by
    funext s
    rw [fS_cons, fS_cons, fS_other hi (fun x hx => h x (.tail _ hx)), getD_setB hi, if_neg (show ¬ i = r.1 from fun e => h r (.head _) e.symm)]
def SameT (l : Array Bool) : List (Nat × ByteArray × Value) → List (Nat × ByteArray × Value) → Prop
  | [], [] => True
  | r :: T, r' :: T' => (r.1 = r'.1 ∧ (l.getD r.1 false = true → r = r')) ∧ SameT l T T'
  | _, _ => False
theorem fS_congr {l : Array Bool} : ∀ {T T' : List (Nat × ByteArray × Value)}, SameT l T T' → fS l T = fS l T'
  | [], [], _ => rfl
  | [], _ :: _, h => h.elim
  | _ :: _, [], h => h.elim
  | r :: T, r' :: T', h => by
    funext s
    rw [fS_cons, fS_cons, fS_congr h.2, ← h.1.1]
    cases hl : l.getD r.1 false with
    | false => simp
    | true => rw [h.1.2 hl]
theorem fS_none {l : Array Bool} {s : ByteArray} : ∀ {T : List (Nat × ByteArray × Value)}, (∀ r ∈ T, l.getD r.1 false = true → (s == r.2.1) = false) → fS l T s = none
  | [], _ => rfl
  | r :: T, h => by
    rw [fS_cons, fS_none (fun x hx => h x (.tail _ hx)), if_neg]
    intro e
    rw [Bool.and_eq_true] at e
    rw [h r (.head _) e.1] at e
    cases e.2
theorem ba_eq {t s : ByteArray} (ht : (t == s) = true) : t = s := ByteArray.ext (eq_of_beq (show (t.data == s.data) = true from ht))
theorem ba_refl (t : ByteArray) : (t == t) = true := (beq_self_eq_true t.data : (t.data == t.data) = true)
theorem fS_add {l : Array Bool} {i : Nat} (hi : i < l.size) (k : ByteArray) (v : Value) : ∀ {T : List (Nat × ByteArray × Value)}, T.Pairwise (fun r r' => r.1 ≠ r'.1 ∧ (r.2.1 == r'.2.1) = false ∧ (r'.2.1 == r.2.1) = false) → (i, k, v) ∈ T →
    ∀ t, fS (l.setIfInBounds i true) T t = if t == k then some v else fS l T t
  | [], _, h => by cases h
  | r :: T, hp, h => by
    intro t
    obtain ⟨h1, h2⟩ := List.pairwise_cons.1 hp
    rcases List.mem_cons.1 h with h | h
    · subst h
      rw [fS_cons, fS_cons, getD_setB hi, if_pos (show i = (i, k, v).1 from rfl), fS_other hi (fun x hx => (h1 x hx).1.symm)]
      cases ht : (t == k) with
      | true => simp [ht]
      | false => simp [ht]
    · have hr := h1 _ h
      have hne : ¬ i = r.1 := fun e => hr.1 e.symm
      rw [fS_cons, fS_cons, getD_setB hi, if_neg hne, fS_add hi k v h2 h]
      cases ht : (t == k) with
      | false => rfl
      | true =>
        have := ba_eq ht
        subst this
        have hk : (t == r.2.1) = false := hr.2.2
        rw [hk, Bool.and_false]
        rfl
theorem fS_new {l : Array Bool} {i : Nat} (k : ByteArray) (v : Value) (hl : l.getD i false = false) : ∀ {T : List (Nat × ByteArray × Value)}, T.Pairwise (fun r r' => r.1 ≠ r'.1 ∧ (r.2.1 == r'.2.1) = false ∧ (r'.2.1 == r.2.1) = false) → (i, k, v) ∈ T → fS l T k = none
  | [], _, h => by cases h
  | r :: T, hp, h => by
    obtain ⟨h1, h2⟩ := List.pairwise_cons.1 hp
    rcases List.mem_cons.1 h with h | h
    · subst h
      rw [fS_cons, hl, fS_none (fun x hx _ => (h1 x hx).2.1)]
      rfl
    · have hk : (k == r.2.1) = false := (h1 _ h).2.2
      rw [fS_cons, hk, Bool.and_false, fS_new k v hl h2 h]
      rfl
end Go.Proofs.YtaginadnaajleaaDoor
