/-
  awake of chapter 27.
  Conditions: as each theorem states them.
-/
import Derived.Test.YtcjcflmnghhbaaaGreatCondJa
import Derived.Lib.SlBytesConst
namespace Go.Proofs.YtcjcflmnghhbaaaGreat
open Go.RowKit
set_option linter.unusedVariables false
set_option linter.unusedSimpArgs false
open CM (Sv)
def awT : List UInt8 := [108, 105, 110, 101, 32, 62, 32, 50, 32, 97, 110, 100, 32, 110, 111, 116, 32, 112, 97, 116, 116, 101, 114, 110, 32, 104, 97, 115, 32, 34, 97, 34]
abbrev n3 : Sl3 := ⟨none, 0, 0⟩
/-- the empty state -/
def z0 : StC := ⟨n3, n3, false, 0, false, 0, 0, 0, 0, 0, n3, n3, false, n3, false, 0, 0, 0, 0, 0, false, false, false, n3, n3, n3, n3⟩
def z3 (g : Nat) : StC := { z0 with pat := ⟨some ⟨g, 0, none⟩, 1, 1⟩, line := 3 }
def v0 : Sv := ⟨0, 0, 0, 0, [], [], [], [], false, false, false, false, 0, 0⟩
def v3 : Sv := { v0 with line := 3, pattern := [98] }
theorem awS : (match CM.parseS awT with | .ok f => f v0 v3 && !f v3 v0 | .error _ => false) = true := by kernel_rfl
theorem aw_phi : ∃ phi, CM.parseS awT = .ok phi ∧ phi v0 v3 = true ∧ phi v3 v0 = false := by
  have h := awS
  cases hp : CM.parseS awT with
  | error e => rw [hp] at h; simp at h
  | ok f =>
    rw [hp] at h
    simp only [Bool.and_eq_true, Bool.not_eq_true'] at h
    exact ⟨f, rfl, h.1, h.2⟩
theorem TxOk.nil (w : World) : TxOk w n3 [] := ⟨rfl, Nat.le_refl _, fun h => by simp at h, by simp⟩
theorem z0_sv (w : World) : StSv w z0 v0 := ⟨rfl, rfl, rfl, rfl, .nil w, .nil w, .nil w, .nil w, rfl, rfl, rfl, rfl, rfl, rfl⟩
theorem z3_sv {w : World} {g : Nat} (h : w.cell? ⟨g, 0, none⟩ = some (.int .u8 98)) (hg : g < w.heap.size) : StSv w (z3 g) v3 :=
  ⟨rfl, rfl, rfl, rfl, ⟨rfl, Nat.le_refl _, fun _ => ⟨g, 0, rfl, hg, fun i hi => by
    have : i = 0 := by simp only [v3, List.length_cons, List.length_nil] at hi; omega
    subst this; exact h⟩, by simp [v3]⟩, .nil w, .nil w, .nil w, rfl, rfl, rfl, rfl, rfl, rfl⟩
theorem aw_call1 {W : World} {c g : Nat} {phi : CM.M} (h : CondIs W c awT phi) (hc : W.cell? ⟨g, 0, none⟩ = some (.int .u8 98)) (hg : g < W.heap.size) (hm : MxAt W) :
    Calls Tryz.prog 37 #[.pointer (some ⟨c, 0, none⟩), .agg #[.slice none 0 0, .slice none 0 0, .bool false, .int .i64 0, .bool false, .int .i64 0, .int .i64 0, .int .i64 0, .int .i64 0, .int .i64 0, .slice none 0 0, .slice none 0 0, .bool false, .slice none 0 0, .bool false, .int .i64 0, .int .i64 0, .int .i64 0, .int .i64 0, .int .i64 0, .bool false, .bool false, .bool false, .slice none 0 0, .slice none 0 0, .slice none 0 0, .slice none 0 0], .agg #[.slice (some ⟨g, 0, none⟩) 1 1, .slice none 0 0, .bool false, .int .i64 3, .bool false, .int .i64 0, .int .i64 0, .int .i64 0, .int .i64 0, .int .i64 0, .slice none 0 0, .slice none 0 0, .bool false, .slice none 0 0, .bool false, .int .i64 0, .int .i64 0, .int .i64 0, .int .i64 0, .int .i64 0, .bool false, .bool false, .bool false, .slice none 0 0, .slice none 0 0, .slice none 0 0, .slice none 0 0]] W fun e w' => e = .returned (.bool (phi v0 v3)) ∧ Below W.heap.size W w' := holds_any (s1 := z0) (s2 := z3 g) h (z0_sv W) (z3_sv hc hg) hm
theorem aw_call2 {W : World} {c g : Nat} {phi : CM.M} (h : CondIs W c awT phi) (hc : W.cell? ⟨g, 0, none⟩ = some (.int .u8 98)) (hg : g < W.heap.size) (hm : MxAt W) :
    Calls Tryz.prog 37 #[.pointer (some ⟨c, 0, none⟩), .agg #[.slice (some ⟨g, 0, none⟩) 1 1, .slice none 0 0, .bool false, .int .i64 3, .bool false, .int .i64 0, .int .i64 0, .int .i64 0, .int .i64 0, .int .i64 0, .slice none 0 0, .slice none 0 0, .bool false, .slice none 0 0, .bool false, .int .i64 0, .int .i64 0, .int .i64 0, .int .i64 0, .int .i64 0, .bool false, .bool false, .bool false, .slice none 0 0, .slice none 0 0, .slice none 0 0, .slice none 0 0], .agg #[.slice none 0 0, .slice none 0 0, .bool false, .int .i64 0, .bool false, .int .i64 0, .int .i64 0, .int .i64 0, .int .i64 0, .int .i64 0, .slice none 0 0, .slice none 0 0, .bool false, .slice none 0 0, .bool false, .int .i64 0, .int .i64 0, .int .i64 0, .int .i64 0, .int .i64 0, .bool false, .bool false, .bool false, .slice none 0 0, .slice none 0 0, .slice none 0 0, .slice none 0 0]] W fun e w' => e = .returned (.bool (phi v3 v0)) ∧ Below W.heap.size W w' := holds_any (s1 := z3 g) (s2 := z0) h (z3_sv hc hg) (z0_sv W) hm
noncomputable def stLoad (a : Addr) : Sem Value := loadVar 35 a
theorem load_st (a : Addr) : loadVar 35 a = stLoad a := rfl
theorem stLoad_is (s : StC) {w : World} {g : Nat} (h : w.heap[g]? = some (.cells s.cells.toArray 35 (0, 0))) : (stLoad ⟨g, 0, none⟩).run Tryz.prog w = .ok (.agg s.cells.toArray) w :=
  run_loadVar_row w g 35 35 s.cells.toArray (0, 0) _ h Tryz.underlying35 rfl (by kernel_rfl)
attribute [local go_sem ↓] load_st
end Go.Proofs.YtcjcflmnghhbaaaGreat
