/-
  The lookup of view.Show's region, of chapter 30.
  Conditions: as each theorem states them.
-/
import Derived.Test.YtjfpepinmbbnbaaDoorShowL
import Derived.Test.YtjfpepinmbbnbaaDoorShowT
namespace Go.Proofs.YtjfpepinmbbnbaaDoor
open Go.RowKit
set_option linter.unusedVariables false
set_option linter.unusedSimpArgs false
theorem act_const (a : Act) (v : Value) : a.eval (.const v) = v := rfl
theorem act_func (a : Act) (f : FuncId) : a.eval (.func f) = fnV f := rfl
theorem tcall (a : Act) (w : World) (ms ds d : Nat) (v : Value) (pos : String) (af : Array Edge) (h1 : a.eval (.tmp ms) = oneV) (h2 : a.eval (.tmp ds) = v) :
    (execOp a.eval { dst := some d, op := Op.call { callee := Callee.value (Operand.tmp ms), args := #[Operand.tmp ds], argTypes := #[22] }, type := 99, pos := pos, after := af, guard := none }).run Tryd.prog w = .ok (.enter 63 #[v]) w := by
  generalize a.eval = r at *
  simp [execOp, resolve, invoke, h1, h2, go_sem]
theorem rep_false (n j : Nat) : (Array.replicate n false).getD j false = false := by
  simp only [Array.getD_eq_getD_getElem?, Array.getElem?_replicate]
  split <;> rfl
theorem rep_true {n j : Nat} (h : j < n) : (Array.replicate n true).getD j false = true := by
  simp only [Array.getD_eq_getD_getElem?, Array.getElem?_replicate]
  rw [if_pos h]; rfl
theorem Closed.yes {ops : Array Oper} {l : Array Bool} (hc : Closed ops l) {i j : Nat} (hl : l.getD j false = true) (hj : (ops[j]?.map fun o => o.after.any fun e => e.on == i && Region.binds .any e) = some true) : l.getD i false = true := by
  cases ho : ops[j]? with
  | none => rw [ho] at hj; cases hj
  | some o =>
    rw [ho] at hj
    simp only [Option.map_some, Option.some.injEq] at hj
    rw [← Array.any_toList, List.any_eq_true] at hj
    obtain ⟨e, he, h2⟩ := hj
    rw [Bool.and_eq_true] at h2
    have := hc j hl o ho e (Array.mem_toList_iff.1 he) h2.2
    rwa [eq_of_beq h2.1] at this
theorem Closed.no {ops : Array Oper} {l : Array Bool} (hc : Closed ops l) {i j : Nat} (hn : l.getD i false = false) (hj : (ops[j]?.map fun o => o.after.any fun e => e.on == i && Region.binds .any e) = some true) : l.getD j false = false := by
  cases hl : l.getD j false with
  | false => rfl
  | true => rw [hc.yes hl hj] at hn; cases hn
theorem fS_same {l l' : Array Bool} : ∀ {T : List (Nat × ByteArray × Value)}, (∀ r ∈ T, l.getD r.1 false = l'.getD r.1 false) → fS l T = fS l' T
  | [], _ => rfl
  | r :: T, h => by
    funext s
    rw [fS_cons, fS_cons, fS_same (fun x hx => h x (.tail _ hx)), h r (.head _)]
theorem shT_in (G : ShG) : ∀ r ∈ shT G, r.1 ∈ [6, 12, 18, 24, 30, 31, 32, 33] := by
  intro r hr
  unfold shT at hr
  simp only [List.mem_cons, List.not_mem_nil, or_false] at hr
  rcases hr with rfl | rfl | rfl | rfl | rfl | rfl | rfl | rfl <;> simp
theorem clo_inj {p q : Nat} (h : clo p = clo q) : p = q := by simpa [clo] using h
theorem ShInv.look {s : StC} {b n : Nat} {what : ByteArray} {w0 : World} {l : Array Bool} {a : Act} {w : World} (hs : l.size = 42) (h : ShInv s b n what w0 l a w)
    (hall : ∀ j ∈ [0, 5, 6, 11, 12, 17, 18, 23, 24, 29, 30, 31, 32, 33, 34], l.getD j false = true) (h35 : l.getD 35 false = true) :
    ∃ g v, a.eval (.tmp 36) = .map (some g) ∧ a.eval (.tmp 37) = .string what ∧ (Instr.lookup 103 (.map (some g)) (.string what) true).run Tryd.prog w = .ok v w ∧ ShInv s b n what w0 (l.setIfInBounds 36 true) (a.put (some 38) v) w := by
  have hi := h
  obtain ⟨G, g1, g2, g3, g4, g5, g6, g7, g8, g9, g10, g11, g12, g13, g14⟩ := h
  obtain ⟨m1, m2⟩ := g14 (hall 0 (by simp))
  have hf : fS l (shT G) = fS (Array.replicate 42 true) (shT G) := fS_same fun r hr => by
    have h1 := shT_in G r hr
    simp only [List.mem_cons, List.not_mem_nil, or_false] at h1
    rw [hall r.1 (by simp only [List.mem_cons, List.not_mem_nil, or_false]; omega), rep_true (by omega)]
  have hr := m2.look (P := Tryd.prog) Tryd.underlying103 Tryd.underlying9 (t36 w) what
  have e36 := g8 34 (by omega) (by decide) (hall 34 (by simp))
  have e37 := g8 35 (by omega) (by decide) h35
  refine ⟨G.g, .tuple #[(shR G what).1, .bool (shR G what).2], e36, e37, ?_, hi.val hs (i := 36) (by decide) (by decide) (by decide) _ (fun H k8 => ?_)⟩
  · rw [hr, hf]
    unfold shR
    cases fS (Array.replicate 42 true) (shT G) what <;> rfl
  · have q0 := clo_inj ((g8 5 (by omega) (by decide) (hall 5 (by simp))).symm.trans (k8 5 (by omega) (by decide) (hall 5 (by simp))))
    have q1 := clo_inj ((g8 11 (by omega) (by decide) (hall 11 (by simp))).symm.trans (k8 11 (by omega) (by decide) (hall 11 (by simp))))
    have q2 := clo_inj ((g8 17 (by omega) (by decide) (hall 17 (by simp))).symm.trans (k8 17 (by omega) (by decide) (hall 17 (by simp))))
    have q3 := clo_inj ((g8 23 (by omega) (by decide) (hall 23 (by simp))).symm.trans (k8 23 (by omega) (by decide) (hall 23 (by simp))))
    have q4 := clo_inj ((g8 29 (by omega) (by decide) (hall 29 (by simp))).symm.trans (k8 29 (by omega) (by decide) (hall 29 (by simp))))
    have e : shT G = shT H := by unfold shT; rw [q0, q1, q2, q3, q4]
    show _ = Value.tuple #[(shR H what).1, .bool (shR H what).2]
    unfold shR
    rw [e]
end Go.Proofs.YtjfpepinmbbnbaaDoor
