/-
  The map of the options: an invariant of its region; of chapter 32 (printed by gen_option.py).
  Conditions: as each theorem states them.
-/
import Derived.Test.YtaginadnaajleaaRdNum
import Derived.Test.YtaginadnaajleaaMapT
namespace Go.Proofs.Ytaginadnaajleaa
open Go.RowKit
set_option linter.unusedVariables false
set_option linter.unusedSimpArgs false
section
variable {P : Program} {ops : Array Oper} {Q : Exit → Act → World → Prop} {K : Act → World → Prop} {i : Nat} {o : Oper} {a : Act} {w w' : World}
theorem wpOp_value {v : Value} (ho : ops[i]? = some o) (hg : o.guard = none) (hr : (execOp a.eval o).run P w = .ok (.value v) w') (hK : K (a.put o.dst v) w') : wpOp P ops Q i K a w := by
  unfold wpOp
  simp only [ho, Region.wanted, hg, if_true]
  exact .inl (by unfold Oper.wp; rw [hr]; exact hK)
theorem wpOp_skip (ho : ops[i]? = some o) (hg : o.guard = none) (hr : (execOp a.eval o).run P w = .ok .skip w') (hK : K (a.put o.dst undef) w') : wpOp P ops Q i K a w := by
  unfold wpOp
  simp only [ho, Region.wanted, hg, if_true]
  exact .inl (by unfold Oper.wp; rw [hr]; exact hK)
end
theorem act_const (a : Act) (v : Value) : a.eval (.const v) = v := rfl
theorem rep_false (n j : Nat) : (Array.replicate n false).getD j false = false := by
  simp only [Array.getD_eq_getD_getElem?, Array.getElem?_replicate]
  split <;> rfl
theorem rep_true {n j : Nat} (h : j < n) : (Array.replicate n true).getD j false = true := by
  simp only [Array.getD_eq_getD_getElem?, Array.getElem?_replicate]
  rw [if_pos h]; rfl
theorem put_size (a : Act) (d : Option Tmp) (v : Value) : (a.put d v).tmps.size = a.tmps.size := by cases d <;> simp [Act.put]
theorem put_defers (a : Act) (d : Option Tmp) (v : Value) : (a.put d v).defers = a.defers := by cases d <;> rfl
theorem Closed.yes {ops : Array Oper} {l : Array Bool} (hc : Closed ops l) {i j : Nat} (hl : l.getD j false = true) (hj : (ops[j]?.map fun o => o.after.any fun e => e.on == i && Region.binds .any e) = some true) : l.getD i false = true := by
  cases ho : ops[j]? with
  | none => rw [ho] at hj; cases hj
  | some o =>
    rw [ho] at hj
    simp only [Option.map_some, Option.some.injEq] at hj
    rw [← Array.any_toList, List.any_eq_true] at hj
    obtain ⟨e, he, h2⟩ := hj
    rw [Bool.and_eq_true] at h2
    have := hc j hl o ho e (Array.mem_toList_iff.1 he) h2.2
    rwa [eq_of_beq h2.1] at this
theorem Closed.no {ops : Array Oper} {l : Array Bool} (hc : Closed ops l) {i j : Nat} (hn : l.getD i false = false) (hj : (ops[j]?.map fun o => o.after.any fun e => e.on == i && Region.binds .any e) = some true) : l.getD j false = false := by
  cases hl : l.getD j false with
  | false => rfl
  | true => rw [hc.yes hl hj] at hn; cases hn
theorem fS_same {l l' : Array Bool} : ∀ {T : List (Nat × ByteArray × Value)}, (∀ r ∈ T, l.getD r.1 false = l'.getD r.1 false) → fS l T = fS l' T
  | [], _ => rfl
  | r :: T, h => by
    funext s
    rw [fS_cons, fS_cons, fS_same (fun x hx => h x (.tail _ hx)), h r (.head _)]
abbrev ptrV (b o : Nat) : Value := .pointer (some ⟨b, o, none⟩)
def opT (g : Nat) : List (Nat × ByteArray × Value) := [(5, ⟨#[113, 117, 105, 101, 116]⟩, ptrV g 1), (10, ⟨#[115, 101, 112, 97, 114, 97, 116, 101]⟩, ptrV g 2), (15, ⟨#[112, 108, 97, 99, 101]⟩, ptrV g 3), (20, ⟨#[101, 120, 116, 101, 110, 100, 101, 100]⟩, ptrV g 4)]
theorem opT_apart (g : Nat) : (opT g).Pairwise (fun r r' => r.1 ≠ r'.1 ∧ (r.2.1 == r'.2.1) = false ∧ (r'.2.1 == r.2.1) = false) := by
  unfold opT
  simp only [List.pairwise_cons, List.mem_cons, List.not_mem_nil, or_false, forall_eq_or_imp, forall_eq, false_imp_iff, implies_true, List.Pairwise.nil, and_true]
  repeat' (with_reducible apply And.intro)
  all_goals first | rfl | kernel_rfl | decide
theorem opT_in (g : Nat) : ∀ r ∈ opT g, r.1 = 5 ∨ r.1 = 10 ∨ r.1 = 15 ∨ r.1 = 20 := by
  intro r hr
  unfold opT at hr
  simp only [List.mem_cons, List.not_mem_nil, or_false] at hr
  rcases hr with rfl | rfl | rfl | rfl <;> simp
/-- what the lookup gives -/
def opR (g : Nat) (what : ByteArray) : Value × Bool := match fS (Array.replicate 29 true) (opT g) what with | some v => (v, true) | none => (.pointer none, false)
def opSlot (j : Nat) : Nat := [8, 9, 10, 11, 12, 0, 13, 14, 15, 16, 0, 17, 18, 19, 20, 0, 21, 22, 23, 24, 0, 25, 26, 27, 7, 28, 29, 5, 6].getD j 0
def opVal (g n : Nat) (what : ByteArray) (j : Nat) : Value :=
  [.map (some n), ptrV g 0, ptrV g 0, ptrV g 1, ptrV g 1, undef, ptrV g 0, ptrV g 0, ptrV g 1, ptrV g 2, undef, ptrV g 0, ptrV g 0, ptrV g 1, ptrV g 3, undef, ptrV g 0, ptrV g 0, ptrV g 1, ptrV g 4, undef, .map (some n), .string what, .tuple #[(opR g what).1, .bool (opR g what).2], .tuple #[(opR g what).1, .bool (opR g what).2], (opR g what).1, .bool (opR g what).2, (opR g what).1, .bool (opR g what).2].getD j undef
theorem opSlot_apart : ∀ j, j < 29 → ∀ i, i < 29 → i ≠ j → opSlot i ≠ 0 → opSlot i ≠ opSlot j := by decide
theorem opSlot_static : ∀ i, i < 29 → opSlot i ≠ 0 → opSlot i < 42 ∧ opSlot i ≠ 0 ∧ opSlot i ≠ 1 := by decide
structure OpInv (g n : Nat) (what : ByteArray) (w0 : World) (l : Array Bool) (a : Act) (w : World) : Prop where
  size : a.tmps.size = 42
  defers : a.defers = []
  e0 : a.eval (.tmp 0) = ptrV g 0
  e1 : a.eval (.tmp 1) = .string what
  bl : Below n w0 w
  nw : l.getD 0 false = false → w.heap.size = n
  val : ∀ j, j < 29 → opSlot j ≠ 0 → l.getD j false = true → a.eval (.tmp (opSlot j)) = opVal g n what j
  map : l.getD 0 false = true → StrMap w n (fS l (opT g))
theorem OpInv.put {g n : Nat} {what : ByteArray} {w0 : World} {l : Array Bool} {a : Act} {w : World} (hs : l.size = 29) (h : OpInv g n what w0 l a w) {i : Nat} (hi : i < 29) (h0 : opSlot i ≠ 0) (hk : i ≠ 0) (v : Value) (hv : v = opVal g n what i) : OpInv g n what w0 (l.setIfInBounds i true) (a.put (some (opSlot i)) v) w := by
  have hl : i < l.size := by omega
  obtain ⟨q0, q1, q2⟩ := opSlot_static i hi h0
  have hT : ∀ r ∈ opT g, r.1 ≠ i := by
    intro r hr e
    have := opT_in g r hr
    rw [e] at this
    rcases this with rfl | rfl | rfl | rfl <;> exact h0 rfl
  have hsz := h.size
  refine ⟨by rw [put_size]; exact h.size, by rw [put_defers]; exact h.defers, ?_, ?_, h.bl, ?_, ?_, ?_⟩
  · rw [Act.eval_put_ne _ _ _ _ q1]; exact h.e0
  · rw [Act.eval_put_ne _ _ _ _ q2]; exact h.e1
  · rw [getD_setB hl, if_neg hk]; exact h.nw
  · intro j hj hj0 hd
    by_cases e : i = j
    · subst e
      rw [Act.eval_put_same _ _ _ (by omega)]
      exact hv
    · rw [Act.eval_put_ne _ _ _ _ (opSlot_apart j hj i hi e h0)]
      rw [getD_setB hl, if_neg e] at hd
      exact h.val j hj hj0 hd
  · rw [getD_setB hl, if_neg hk, fS_other hl hT]; exact h.map
theorem OpInv.insert {g n : Nat} {what : ByteArray} {w0 : World} {l : Array Bool} {a : Act} {w : World} (hs : l.size = 29) (h : OpInv g n what w0 l a w) (hn0 : w0.heap.size = n) {i : Nat} (hi : i < 29) (h0 : opSlot i = 0) (hz : l.getD 0 false = true) (hn : l.getD i false = false)
    (k : ByteArray) (val : Value) (hm : (i, k, val) ∈ opT g) :
    ∃ w', (Instr.mapUpdate 72 (.map (some n)) (.string k) val).run Try.prog w = .ok () w' ∧ OpInv g n what w0 (l.setIfInBounds i true) a w' := by
  have hl : i < l.size := by omega
  have m2 := h.map hz
  obtain ⟨o, r1, r2⟩ := m2.insert (P := Try.prog) Try.underlying72 Try.underlying9 k val (fS_new k val hn (opT_apart g) hm)
  have hne : ∀ j, opSlot j ≠ 0 → ¬ i = j := fun j hj e => hj (e ▸ h0)
  have hk : ∀ j, opSlot j ≠ 0 → l.getD j false = (l.setIfInBounds i true).getD j false := fun j hj => by rw [getD_setB hl, if_neg (hne j hj)]
  refine ⟨_, r1, h.size, h.defers, h.e0, h.e1, h.bl.trans (below_set (Nat.le_refl n) o), ?_, ?_, ?_⟩
  · intro hd; rw [← hk 0 (by decide), hz] at hd; cases hd
  · intro j hj hj0 hd
    rw [← hk j hj0] at hd
    exact h.val j hj hj0 hd
  · intro _
    have e : (fun t => if t == k then some val else fS l (opT g) t) = fS (l.setIfInBounds i true) (opT g) := funext fun t => (fS_add hl k val (opT_apart g) hm t).symm
    rw [← e]
    exact r2
/-- the map is made -/
theorem OpInv.made {g n : Nat} {what : ByteArray} {w0 : World} {l : Array Bool} {a : Act} {w : World} (hs : l.size = 29) (h : OpInv g n what w0 l a w) (h00 : l.getD 0 false = false) (hn : ∀ j ∈ [5, 10, 15, 20], l.getD j false = false) :
    OpInv g n what w0 (l.setIfInBounds 0 true) (a.put (some 8) (.map (some n))) (w.alloc (.map #[] 0)) := by
  have hl : 0 < l.size := by omega
  have hsz := h.size
  have hw := h.nw h00
  refine ⟨by rw [put_size]; exact h.size, by rw [put_defers]; exact h.defers, ?_, ?_, h.bl.trans ((bl_alloc (Below.refl _ w) _).mono (Nat.le_of_eq hw.symm)), ?_, ?_, ?_⟩
  · rw [Act.eval_put_ne _ _ _ _ (by decide)]; exact h.e0
  · rw [Act.eval_put_ne _ _ _ _ (by decide)]; exact h.e1
  · intro hd; rw [getD_setB hl, if_pos rfl] at hd; cases hd
  · intro j hj hj0 hd
    by_cases e : 0 = j
    · subst e
      exact Act.eval_put_same _ _ _ (by omega)
    · rw [show (8 : Nat) = opSlot 0 from rfl, Act.eval_put_ne _ _ _ _ (opSlot_apart j hj 0 (by omega) e (by decide))]
      rw [getD_setB hl, if_neg e] at hd
      exact h.val j hj hj0 hd
  · intro _
    have e : fS (l.setIfInBounds 0 true) (opT g) = fun _ => none := by
      funext t
      refine fS_none fun r hr hd => ?_
      exfalso
      have h1 := opT_in g r hr
      have h2 := hn r.1 (by simp only [List.mem_cons, List.not_mem_nil, or_false]; omega)
      rw [getD_setB hl, if_neg (by omega)] at hd
      rw [h2] at hd; cases hd
    rw [e]
    have := StrMap.made w
    rwa [hw] at this
theorem zptr (w : World) : (zeroValue 70).run Try.prog w = .ok (.pointer none) w := by kernel_rfl
theorem OpInv.look {g n : Nat} {what : ByteArray} {w0 : World} {l : Array Bool} {a : Act} {w : World} (hs : l.size = 29) (h : OpInv g n what w0 l a w)
    (hall : ∀ j ∈ [0, 5, 10, 15, 20], l.getD j false = true) :
    (Instr.lookup 72 (.map (some n)) (.string what) true).run Try.prog w = .ok (.tuple #[(opR g what).1, .bool (opR g what).2]) w := by
  have m2 := h.map (hall 0 (by simp))
  have hf : fS l (opT g) = fS (Array.replicate 29 true) (opT g) := fS_same fun r hr => by
    have h1 := opT_in g r hr
    rw [hall r.1 (by simp only [List.mem_cons, List.not_mem_nil, or_false]; omega), rep_true (by omega)]
  rw [m2.look (P := Try.prog) Try.underlying72 Try.underlying9 (zptr w) what, hf]
  unfold opR
  cases fS (Array.replicate 29 true) (opT g) what <;> rfl
theorem f0 (f b : Nat) (w : World) (h : f = 0 ∨ f = 1 ∨ f = 2 ∨ f = 3) : (Instr.fieldAt 26 (.pointer (some ⟨b, 1, none⟩)) f).run Try.prog w = .ok (.pointer (some ⟨b, f + 1, none⟩)) w := by
  rcases h with rfl | rfl | rfl | rfl <;> kernel_rfl
theorem f1 (b : Nat) (w : World) : (Instr.fieldAt 29 (.pointer (some ⟨b, 0, none⟩)) 1).run Try.prog w = .ok (.pointer (some ⟨b, 1, none⟩)) w := by kernel_rfl
end Go.Proofs.Ytaginadnaajleaa
