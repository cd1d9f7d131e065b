import Derived.Test.YtjfpepinmbbnbaaDoorShowI
namespace Go.Proofs.YtjfpepinmbbnbaaDoor
open Go.RowKit
theorem t2 (b : Nat) (w : World) : (Instr.fieldAt 66 (.pointer (some ⟨b, 0, none⟩)) 0).run Tryd.prog w = .ok (.pointer (some ⟨b, 0, none⟩)) w := by kernel_rfl
theorem t3 (b : Nat) (w : World) : (Instr.fieldAt 57 (.pointer (some ⟨b, 0, none⟩)) 0).run Tryd.prog w = .ok (.pointer (some ⟨b, 0, none⟩)) w := by kernel_rfl
theorem t9 (b : Nat) (w : World) : (Instr.fieldAt 57 (.pointer (some ⟨b, 0, none⟩)) 1).run Tryd.prog w = .ok (.pointer (some ⟨b, 1, none⟩)) w := by kernel_rfl
theorem t14 (b : Nat) (w : World) : (Instr.fieldAt 66 (.pointer (some ⟨b, 0, none⟩)) 1).run Tryd.prog w = .ok (.pointer (some ⟨b, 6, none⟩)) w := by kernel_rfl
theorem t15 (b : Nat) (w : World) : (Instr.fieldAt 59 (.pointer (some ⟨b, 6, none⟩)) 4).run Tryd.prog w = .ok (.pointer (some ⟨b, 10, none⟩)) w := by kernel_rfl
theorem t20 (b : Nat) (w : World) : (Instr.fieldAt 66 (.pointer (some ⟨b, 0, none⟩)) 2).run Tryd.prog w = .ok (.pointer (some ⟨b, 11, none⟩)) w := by kernel_rfl
theorem t21 (b : Nat) (w : World) : (Instr.fieldAt 61 (.pointer (some ⟨b, 11, none⟩)) 0).run Tryd.prog w = .ok (.pointer (some ⟨b, 11, none⟩)) w := by kernel_rfl
theorem t27 (b : Nat) (w : World) : (Instr.fieldAt 61 (.pointer (some ⟨b, 11, none⟩)) 2).run Tryd.prog w = .ok (.pointer (some ⟨b, 13, none⟩)) w := by kernel_rfl
theorem t36 (w : World) : (zeroValue 99).run Tryd.prog w = .ok .nilFunc w := by kernel_rfl
theorem t4 (b o : Nat) (v : Value) (w : World) (hc : w.cell? ⟨b, o, none⟩ = some v) : (Instr.loadAt 22 (.pointer (some ⟨b, o, none⟩))).run Tryd.prog w = .ok v w := by
  simp [Instr.loadAt, Instr.sureAddr, loadVar, isAgg, underlying, Tryd.underlying22, hc, Result.andThen]
end Go.Proofs.YtjfpepinmbbnbaaDoor
