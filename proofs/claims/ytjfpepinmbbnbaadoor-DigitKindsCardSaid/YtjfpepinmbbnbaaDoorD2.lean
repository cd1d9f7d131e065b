/-
  The walk of DigitKinds, of chapter 01: eleven kinds of byte.
  Conditions: the table of powers of ten lies as laid ('Pow').
-/
import Derived.Test.YtjfpepinmbbnbaaDoorD2a
import Derived.Test.YtjfpepinmbbnbaaDoorD2b
import Derived.Test.YtjfpepinmbbnbaaDoorD2c
import Derived.Test.YtjfpepinmbbnbaaDoorD2d
namespace Go.Proofs.YtjfpepinmbbnbaaDoor
open Go.RowKit
set_option linter.unusedVariables false
set_option linter.unusedSimpArgs false
set_option maxRecDepth 100000
theorem digitKinds_walk (W : World) (hp : Pow W) (c : Int) (wc : (Lit.int .u8 c).wf = true) :
    Calls Tryd.prog 7 #[.int .u8 c] W fun e w' => e = .returned (.bool true) ∧ Below W.heap.size W w' := by
  have hc : 0 ≤ c ∧ c ≤ 255 := by simp [Lit.wf, IntKind.min, IntKind.max, IntKind.signed, IntKind.bits] at wc; omega
  have ha := Lib.hid (awake01 W hp)
  by_cases qa : c ≤ 8 ∨ (14 ≤ c ∧ c ≤ 31) ∨ c = 127
  · exact kind_a c hc qa W ha
  by_cases qb : c = 9
  · exact kind_b c hc qb W ha
  by_cases qc : 10 ≤ c ∧ c ≤ 13
  · exact kind_c c hc qc W ha
  by_cases qd : c = 32
  · exact kind_d c hc qd W ha
  by_cases qe : (33 ≤ c ∧ c ≤ 47) ∨ (58 ≤ c ∧ c ≤ 64) ∨ (91 ≤ c ∧ c ≤ 96) ∨ (123 ≤ c ∧ c ≤ 126)
  · exact kind_e c hc qe W ha
  by_cases qf : 48 ≤ c ∧ c ≤ 57
  · exact kind_f c hc qf W ha
  by_cases qg : 65 ≤ c ∧ c ≤ 70
  · exact kind_g c hc qg W ha
  by_cases qh : 71 ≤ c ∧ c ≤ 90
  · exact kind_h c hc qh W ha
  by_cases qi : 97 ≤ c ∧ c ≤ 102
  · exact kind_i c hc qi W ha
  by_cases qj : 103 ≤ c ∧ c ≤ 122
  · exact kind_j c hc qj W ha
  exact kind_k c hc (by omega) W ha
end Go.Proofs.YtjfpepinmbbnbaaDoor
