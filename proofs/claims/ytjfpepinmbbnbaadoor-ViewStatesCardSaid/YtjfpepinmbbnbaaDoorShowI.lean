/-
  The table of view.Show, what is done of it, of chapter 30.
  Conditions: as each theorem states them.
-/
import Derived.Test.YtjfpepinmbbnbaaDoorMapT
import Derived.Test.YtjfpepinmbbnbaaDoorTable
import Derived.Test.YtjfpepinmbbnbaaDoorShow3
namespace Go.Proofs.YtjfpepinmbbnbaaDoor
open Go.RowKit
set_option linter.unusedVariables false
set_option linter.unusedSimpArgs false
section
variable {P : Program} {ops : Array Oper} {Q : Exit → Act → World → Prop} {K : Act → World → Prop} {i : Nat} {o : Oper} {a : Act} {w w' : World}
theorem wpOp_value {v : Value} (ho : ops[i]? = some o) (hg : o.guard = none) (hr : (execOp a.eval o).run P w = .ok (.value v) w') (hK : K (a.put o.dst v) w') : wpOp P ops Q i K a w := by
  unfold wpOp
  simp only [ho, Region.wanted, hg, if_true]
  exact .inl (by unfold Oper.wp; rw [hr]; exact hK)
theorem wpOp_skip (ho : ops[i]? = some o) (hg : o.guard = none) (hr : (execOp a.eval o).run P w = .ok .skip w') (hK : K (a.put o.dst undef) w') : wpOp P ops Q i K a w := by
  unfold wpOp
  simp only [ho, Region.wanted, hg, if_true]
  exact .inl (by unfold Oper.wp; rw [hr]; exact hK)
theorem wpOp_enter {f : FuncId} {args : Array Value} (ho : ops[i]? = some o) (hg : o.guard = none) (hr : (execOp a.eval o).run P w = .ok (.enter f args) w) (hc : Calls P f args w fun e w' => ∃ v, e = .returned v ∧ K (a.put o.dst v) w') : wpOp P ops Q i K a w := by
  unfold wpOp
  simp only [ho, Region.wanted, hg, if_true]
  refine .inl ?_
  unfold Oper.wp
  rw [hr]
  refine Calls.mono hc fun e w' he => ?_
  obtain ⟨v, rfl, hk⟩ := he
  exact hk
end
structure ShG where
  g : Nat
  p0 : Nat
  p1 : Nat
  p2 : Nat
  p3 : Nat
  p4 : Nat
abbrev oneV : Value := .func (.func 63) #[] #[]
abbrev clo (p : Nat) : Value := .func (.func 64) #[] #[.pointer (some ⟨p, 0, none⟩)]
abbrev fnV (f : Nat) : Value := .func (.func f) #[] #[]
/-- the inserts of the literal -/
def shT (G : ShG) : List (Nat × ByteArray × Value) := [(6, ⟨#[112, 97, 116, 116, 101, 114, 110]⟩, clo G.p0), (12, ⟨#[104, 111, 108, 100]⟩, clo G.p1), (18, ⟨#[114, 101, 115, 116]⟩, clo G.p2), (24, ⟨#[111, 117, 116]⟩, clo G.p3), (30, ⟨#[112, 108, 97, 99, 101]⟩, clo G.p4),
  (31, ⟨#[114, 101, 103, 115]⟩, fnV 66), (32, ⟨#[119, 97, 105, 116, 115]⟩, fnV 67), (33, ⟨#[102, 105, 108, 101, 115]⟩, fnV 68)]
theorem shT_apart (G : ShG) : (shT G).Pairwise (fun r r' => r.1 ≠ r'.1 ∧ (r.2.1 == r'.2.1) = false ∧ (r'.2.1 == r.2.1) = false) := by
  unfold shT
  simp only [List.pairwise_cons, List.mem_cons, List.not_mem_nil, or_false, forall_eq_or_imp, forall_eq, false_imp_iff, implies_true, List.Pairwise.nil, and_true]
  repeat' (with_reducible apply And.intro)
  all_goals first | rfl | kernel_rfl | decide
end Go.Proofs.YtjfpepinmbbnbaaDoor
