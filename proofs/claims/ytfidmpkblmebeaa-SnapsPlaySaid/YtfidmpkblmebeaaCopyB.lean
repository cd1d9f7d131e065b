/-
  state.Copy at a state that has no rows; of chapter 20. (Printed by gen_copyb.py.)
  Conditions: as each theorem states them.
-/
import Derived.Test.YtfidmpkblmebeaaKMap
import Derived.Deep.RegionHeld3
import Derived.Deep.LoopGhost
import Derived.Deep.CutBlock
import Derived.Lib.SliceRun
namespace Go.Proofs.Ytfidmpkblmebeaa
open Go.RowKit
set_option linter.unusedVariables false
set_option linter.unusedSimpArgs false
attribute [local go_sem ↓] load_st store_st
/-- a state that has but a phase -/
def bare (p : Int) : StC := { zeroC with phase := p }
set_option maxRecDepth 100000 in
theorem clone_nil29 (w : World) : Calls Try.prog 29 #[.slice none 0 0] w fun e w' => e = .returned (.slice none 0 0) ∧ w = w' := by
  have q22 : ∀ (w : World) (a : Option Addr) (n c n' c' : Nat), (binOp .eql 32 (.slice a n c) (.slice none n' c')).run Try.prog w = .ok (.bool a.isNone) w := fun w a n c n' c' => Lib.run_eql_slice_nil w _ _ a n c n' c' Try.underlying32
  go_enter Try.func29, Try.ntmps29
  go_wp2_with fail
  go_ret
  exact ⟨rfl, rfl⟩
set_option maxRecDepth 100000 in
theorem clone_nil30 (w : World) : Calls Try.prog 30 #[.slice none 0 0] w fun e w' => e = .returned (.slice none 0 0) ∧ w = w' := by
  have q22 : ∀ (w : World) (a : Option Addr) (n c n' c' : Nat), (binOp .eql 39 (.slice a n c) (.slice none n' c')).run Try.prog w = .ok (.bool a.isNone) w := fun w a n c n' c' => Lib.run_eql_slice_nil w _ _ a n c n' c' Try.underlying39
  go_enter Try.func30, Try.ntmps30
  go_wp2_with fail
  go_ret
  exact ⟨rfl, rfl⟩
set_option maxRecDepth 100000 in
theorem clone_nil31 (w : World) : Calls Try.prog 31 #[.slice none 0 0] w fun e w' => e = .returned (.slice none 0 0) ∧ w = w' := by
  have q22 : ∀ (w : World) (a : Option Addr) (n c n' c' : Nat), (binOp .eql 40 (.slice a n c) (.slice none n' c')).run Try.prog w = .ok (.bool a.isNone) w := fun w a n c n' c' => Lib.run_eql_slice_nil w _ _ a n c n' c' Try.underlying40
  go_enter Try.func31, Try.ntmps31
  go_wp2_with fail
  go_ret
  exact ⟨rfl, rfl⟩
set_option maxRecDepth 100000 in
theorem clone_nil42 (w : World) : Calls Try.prog 42 #[.slice none 0 0] w fun e w' => e = .returned (.slice none 0 0) ∧ w = w' := by
  have q22 : ∀ (w : World) (a : Option Addr) (n c n' c' : Nat), (binOp .eql 41 (.slice a n c) (.slice none n' c')).run Try.prog w = .ok (.bool a.isNone) w := fun w a n c n' c' => Lib.run_eql_slice_nil w _ _ a n c n' c' Try.underlying41
  go_enter Try.func42, Try.ntmps42
  go_wp2_with fail
  go_ret
  exact ⟨rfl, rfl⟩
set_option maxRecDepth 100000 in
theorem copyFiles_nil (w : World) : Calls Try.prog 32 #[.slice none 0 0] w fun e w' => e = .returned (.slice none 0 0) ∧ w = w' := by
  go_enter Try.func32, Try.ntmps32
  go_wp2_with (go_at_call 42; (with_reducible refine (clone_nil42 _).mono ?_); rintro e w1 ⟨rfl, rfl⟩)
  go_loopg [9] 0 (fun gh v wr => v = .int .i64 0 ∧ w = wr)
  case atStart => exact ⟨rfl, rfl⟩
  case round =>
    obtain ⟨rfl, rfl⟩ := hrel
    go_wp2_with fail
    go_ret
    exact ⟨rfl, rfl⟩
/-- the box, the result's place -/
structure CB (p : Int) (w : World) (X : World) : Prop where
  b0 : Blk X w.heap.size 43 (bare p).cells
  b1 : Blk X (w.heap.size + 1) 43 zeroC.cells
  o : Below w.heap.size w X
theorem CB.set0 {p : Int} {w X : World} (h : CB p w X) : CB p w (X.setCell ⟨w.heap.size, 0, none⟩ (.slice none 0 0)) := ⟨h.b0.set 0 _, h.b1.set_other (p := ⟨w.heap.size, 0, none⟩) (by show w.heap.size ≠ w.heap.size + 1; omega) _, bl_setCell h.o (by show w.heap.size ≤ w.heap.size; omega) _⟩
theorem CB.set1 {p : Int} {w X : World} (h : CB p w X) : CB p w (X.setCell ⟨w.heap.size, 1, none⟩ (.slice none 0 0)) := ⟨h.b0.set 1 _, h.b1.set_other (p := ⟨w.heap.size, 1, none⟩) (by show w.heap.size ≠ w.heap.size + 1; omega) _, bl_setCell h.o (by show w.heap.size ≤ w.heap.size; omega) _⟩
theorem CB.set10 {p : Int} {w X : World} (h : CB p w X) : CB p w (X.setCell ⟨w.heap.size, 10, none⟩ (.slice none 0 0)) := ⟨h.b0.set 10 _, h.b1.set_other (p := ⟨w.heap.size, 10, none⟩) (by show w.heap.size ≠ w.heap.size + 1; omega) _, bl_setCell h.o (by show w.heap.size ≤ w.heap.size; omega) _⟩
theorem CB.set11 {p : Int} {w X : World} (h : CB p w X) : CB p w (X.setCell ⟨w.heap.size, 11, none⟩ (.slice none 0 0)) := ⟨h.b0.set 11 _, h.b1.set_other (p := ⟨w.heap.size, 11, none⟩) (by show w.heap.size ≠ w.heap.size + 1; omega) _, bl_setCell h.o (by show w.heap.size ≤ w.heap.size; omega) _⟩
theorem CB.set13 {p : Int} {w X : World} (h : CB p w X) : CB p w (X.setCell ⟨w.heap.size, 13, none⟩ (.slice none 0 0)) := ⟨h.b0.set 13 _, h.b1.set_other (p := ⟨w.heap.size, 13, none⟩) (by show w.heap.size ≠ w.heap.size + 1; omega) _, bl_setCell h.o (by show w.heap.size ≤ w.heap.size; omega) _⟩
theorem CB.set23 {p : Int} {w X : World} (h : CB p w X) : CB p w (X.setCell ⟨w.heap.size, 23, none⟩ (.slice none 0 0)) := ⟨h.b0.set 23 _, h.b1.set_other (p := ⟨w.heap.size, 23, none⟩) (by show w.heap.size ≠ w.heap.size + 1; omega) _, bl_setCell h.o (by show w.heap.size ≤ w.heap.size; omega) _⟩
theorem CB.set26 {p : Int} {w X : World} (h : CB p w X) : CB p w (X.setCell ⟨w.heap.size, 26, none⟩ (.slice none 0 0)) := ⟨h.b0.set 26 _, h.b1.set_other (p := ⟨w.heap.size, 26, none⟩) (by show w.heap.size ≠ w.heap.size + 1; omega) _, bl_setCell h.o (by show w.heap.size ≤ w.heap.size; omega) _⟩
theorem CB.set24 {p : Int} {w X : World} (h : CB p w X) : CB p w (X.setCell ⟨w.heap.size, 24, none⟩ (.slice none 0 0)) := ⟨h.b0.set 24 _, h.b1.set_other (p := ⟨w.heap.size, 24, none⟩) (by show w.heap.size ≠ w.heap.size + 1; omega) _, bl_setCell h.o (by show w.heap.size ≤ w.heap.size; omega) _⟩
theorem CB.set25 {p : Int} {w X : World} (h : CB p w X) : CB p w (X.setCell ⟨w.heap.size, 25, none⟩ (.slice none 0 0)) := ⟨h.b0.set 25 _, h.b1.set_other (p := ⟨w.heap.size, 25, none⟩) (by show w.heap.size ≠ w.heap.size + 1; omega) _, bl_setCell h.o (by show w.heap.size ≤ w.heap.size; omega) _⟩
theorem CB.s1 {p : Int} {w X : World} (h : CB p w X) : CB p w X ∧ w.heap.size < X.heap.size ∧ X.cell? ⟨w.heap.size, 0, none⟩ = some (.slice none 0 0) ∧ X.frozen? ⟨w.heap.size, 0, none⟩ = false ∧ X.cell? ⟨w.heap.size, 1, none⟩ = some (.slice none 0 0) ∧ X.frozen? ⟨w.heap.size, 1, none⟩ = false ∧ X.cell? ⟨w.heap.size, 10, none⟩ = some (.slice none 0 0) ∧ X.frozen? ⟨w.heap.size, 10, none⟩ = false := ⟨h, h.b0.lt, h.b0.cell 0, h.b0.free 0, h.b0.cell 1, h.b0.free 1, h.b0.cell 10, h.b0.free 10⟩
theorem CB.s2 {p : Int} {w X : World} (h : CB p w X) : CB p w X ∧ w.heap.size < X.heap.size ∧ X.cell? ⟨w.heap.size, 11, none⟩ = some (.slice none 0 0) ∧ X.frozen? ⟨w.heap.size, 11, none⟩ = false ∧ X.cell? ⟨w.heap.size, 13, none⟩ = some (.slice none 0 0) ∧ X.frozen? ⟨w.heap.size, 13, none⟩ = false := ⟨h, h.b0.lt, h.b0.cell 11, h.b0.free 11, h.b0.cell 13, h.b0.free 13⟩
theorem CB.s3 {p : Int} {w X : World} (h : CB p w X) : CB p w X ∧ w.heap.size < X.heap.size ∧ X.cell? ⟨w.heap.size, 23, none⟩ = some (.slice none 0 0) ∧ X.frozen? ⟨w.heap.size, 23, none⟩ = false ∧ X.cell? ⟨w.heap.size, 26, none⟩ = some (.slice none 0 0) ∧ X.frozen? ⟨w.heap.size, 26, none⟩ = false := ⟨h, h.b0.lt, h.b0.cell 23, h.b0.free 23, h.b0.cell 26, h.b0.free 26⟩
theorem CB.s4 {p : Int} {w X : World} (h : CB p w X) : CB p w X ∧ w.heap.size < X.heap.size ∧ X.cell? ⟨w.heap.size, 24, none⟩ = some (.slice none 0 0) ∧ X.frozen? ⟨w.heap.size, 24, none⟩ = false := ⟨h, h.b0.lt, h.b0.cell 24, h.b0.free 24⟩
theorem CB.s5 {p : Int} {w X : World} (h : CB p w X) : CB p w X ∧ w.heap.size < X.heap.size ∧ X.cell? ⟨w.heap.size, 25, none⟩ = some (.slice none 0 0) ∧ X.frozen? ⟨w.heap.size, 25, none⟩ = false := ⟨h, h.b0.lt, h.b0.cell 25, h.b0.free 25⟩
set_option maxHeartbeats 4000000 in
set_option maxRecDepth 100000 in
theorem copy_bare (p : Int) (w : World) : Calls Try.prog 18 #[.agg (bare p).cells.toArray] w fun e w' => e = .returned (.agg (bare p).cells.toArray) ∧ Below w.heap.size w w' := by
  have h0 : CB p w ((w.alloc (.cells (bare p).cells.toArray 43)).alloc (.cells zeroC.cells.toArray 43)) := ⟨(Blk.new w _ _).alloc _, by
    have := Blk.new (w.alloc (.cells (bare p).cells.toArray 43)) 43 zeroC.cells
    simpa using this, bl_alloc (bl_alloc (Below.refl _ _) _) _⟩
  obtain ⟨W1, hW1⟩ : ∃ W1, (w.alloc (.cells (bare p).cells.toArray 43)).alloc (.cells zeroC.cells.toArray 43) = W1 := ⟨_, rfl⟩
  rw [hW1] at h0
  replace hW1 := Lib.hid hW1
  unfold bare zeroC StC.cells at hW1
  show Calls _ _ #[.agg #[.slice none 0 0, .slice none 0 0, .bool false, .int .i64 0, .bool false, .int .i64 0, .int .i64 0, .int .i64 0, .int .i64 0, .int .i64 0, .slice none 0 0, .slice none 0 0, .bool false, .slice none 0 0, .bool false, .int .i64 p, .int .i64 0, .int .i64 0, .int .i64 0, .int .i64 0, .bool false, .bool false, .bool false, .slice none 0 0, .slice none 0 0, .slice none 0 0, .slice none 0 0]] _ _
  go_enter Try.func18, Try.ntmps18
  go_upto_region 1 with fail
  rw [hW1.out]
  have sI : CB p w W1.drew ∧ w.heap.size < W1.drew.heap.size ∧ W1.drew.cell? ⟨w.heap.size, 0, none⟩ = some (.slice none 0 0) ∧ W1.drew.frozen? ⟨w.heap.size, 0, none⟩ = false ∧ W1.drew.cell? ⟨w.heap.size, 1, none⟩ = some (.slice none 0 0) ∧ W1.drew.frozen? ⟨w.heap.size, 1, none⟩ = false ∧ W1.drew.cell? ⟨w.heap.size, 10, none⟩ = some (.slice none 0 0) ∧ W1.drew.frozen? ⟨w.heap.size, 10, none⟩ = false := CB.s1 (X := W1.drew) ⟨h0.b0.below (bl_drew (Below.refl _ _)), h0.b1.below (bl_drew (Below.refl _ _)), bl_drew h0.o⟩
  have st0 : Hid (∀ X, (CB p w X ∧ w.heap.size < X.heap.size ∧ X.cell? ⟨w.heap.size, 0, none⟩ = some (.slice none 0 0) ∧ X.frozen? ⟨w.heap.size, 0, none⟩ = false ∧ X.cell? ⟨w.heap.size, 1, none⟩ = some (.slice none 0 0) ∧ X.frozen? ⟨w.heap.size, 1, none⟩ = false ∧ X.cell? ⟨w.heap.size, 10, none⟩ = some (.slice none 0 0) ∧ X.frozen? ⟨w.heap.size, 10, none⟩ = false) → (CB p w (X.setCell ⟨w.heap.size, 0, none⟩ (.slice none 0 0)) ∧ w.heap.size < (X.setCell ⟨w.heap.size, 0, none⟩ (.slice none 0 0)).heap.size ∧ (X.setCell ⟨w.heap.size, 0, none⟩ (.slice none 0 0)).cell? ⟨w.heap.size, 0, none⟩ = some (.slice none 0 0) ∧ (X.setCell ⟨w.heap.size, 0, none⟩ (.slice none 0 0)).frozen? ⟨w.heap.size, 0, none⟩ = false ∧ (X.setCell ⟨w.heap.size, 0, none⟩ (.slice none 0 0)).cell? ⟨w.heap.size, 1, none⟩ = some (.slice none 0 0) ∧ (X.setCell ⟨w.heap.size, 0, none⟩ (.slice none 0 0)).frozen? ⟨w.heap.size, 1, none⟩ = false ∧ (X.setCell ⟨w.heap.size, 0, none⟩ (.slice none 0 0)).cell? ⟨w.heap.size, 10, none⟩ = some (.slice none 0 0) ∧ (X.setCell ⟨w.heap.size, 0, none⟩ (.slice none 0 0)).frozen? ⟨w.heap.size, 10, none⟩ = false)) := Lib.hid (fun X hX => CB.s1 (CB.set0 hX.1))
  have st1 : Hid (∀ X, (CB p w X ∧ w.heap.size < X.heap.size ∧ X.cell? ⟨w.heap.size, 0, none⟩ = some (.slice none 0 0) ∧ X.frozen? ⟨w.heap.size, 0, none⟩ = false ∧ X.cell? ⟨w.heap.size, 1, none⟩ = some (.slice none 0 0) ∧ X.frozen? ⟨w.heap.size, 1, none⟩ = false ∧ X.cell? ⟨w.heap.size, 10, none⟩ = some (.slice none 0 0) ∧ X.frozen? ⟨w.heap.size, 10, none⟩ = false) → (CB p w (X.setCell ⟨w.heap.size, 1, none⟩ (.slice none 0 0)) ∧ w.heap.size < (X.setCell ⟨w.heap.size, 1, none⟩ (.slice none 0 0)).heap.size ∧ (X.setCell ⟨w.heap.size, 1, none⟩ (.slice none 0 0)).cell? ⟨w.heap.size, 0, none⟩ = some (.slice none 0 0) ∧ (X.setCell ⟨w.heap.size, 1, none⟩ (.slice none 0 0)).frozen? ⟨w.heap.size, 0, none⟩ = false ∧ (X.setCell ⟨w.heap.size, 1, none⟩ (.slice none 0 0)).cell? ⟨w.heap.size, 1, none⟩ = some (.slice none 0 0) ∧ (X.setCell ⟨w.heap.size, 1, none⟩ (.slice none 0 0)).frozen? ⟨w.heap.size, 1, none⟩ = false ∧ (X.setCell ⟨w.heap.size, 1, none⟩ (.slice none 0 0)).cell? ⟨w.heap.size, 10, none⟩ = some (.slice none 0 0) ∧ (X.setCell ⟨w.heap.size, 1, none⟩ (.slice none 0 0)).frozen? ⟨w.heap.size, 10, none⟩ = false)) := Lib.hid (fun X hX => CB.s1 (CB.set1 hX.1))
  have st10 : Hid (∀ X, (CB p w X ∧ w.heap.size < X.heap.size ∧ X.cell? ⟨w.heap.size, 0, none⟩ = some (.slice none 0 0) ∧ X.frozen? ⟨w.heap.size, 0, none⟩ = false ∧ X.cell? ⟨w.heap.size, 1, none⟩ = some (.slice none 0 0) ∧ X.frozen? ⟨w.heap.size, 1, none⟩ = false ∧ X.cell? ⟨w.heap.size, 10, none⟩ = some (.slice none 0 0) ∧ X.frozen? ⟨w.heap.size, 10, none⟩ = false) → (CB p w (X.setCell ⟨w.heap.size, 10, none⟩ (.slice none 0 0)) ∧ w.heap.size < (X.setCell ⟨w.heap.size, 10, none⟩ (.slice none 0 0)).heap.size ∧ (X.setCell ⟨w.heap.size, 10, none⟩ (.slice none 0 0)).cell? ⟨w.heap.size, 0, none⟩ = some (.slice none 0 0) ∧ (X.setCell ⟨w.heap.size, 10, none⟩ (.slice none 0 0)).frozen? ⟨w.heap.size, 0, none⟩ = false ∧ (X.setCell ⟨w.heap.size, 10, none⟩ (.slice none 0 0)).cell? ⟨w.heap.size, 1, none⟩ = some (.slice none 0 0) ∧ (X.setCell ⟨w.heap.size, 10, none⟩ (.slice none 0 0)).frozen? ⟨w.heap.size, 1, none⟩ = false ∧ (X.setCell ⟨w.heap.size, 10, none⟩ (.slice none 0 0)).cell? ⟨w.heap.size, 10, none⟩ = some (.slice none 0 0) ∧ (X.setCell ⟨w.heap.size, 10, none⟩ (.slice none 0 0)).frozen? ⟨w.heap.size, 10, none⟩ = false)) := Lib.hid (fun X hX => CB.s1 (CB.set10 hX.1))
  go_region_held3 (fun w' => CB p w w' ∧ w.heap.size < w'.heap.size ∧ w'.cell? ⟨w.heap.size, 0, none⟩ = some (.slice none 0 0) ∧ w'.frozen? ⟨w.heap.size, 0, none⟩ = false ∧ w'.cell? ⟨w.heap.size, 1, none⟩ = some (.slice none 0 0) ∧ w'.frozen? ⟨w.heap.size, 1, none⟩ = false ∧ w'.cell? ⟨w.heap.size, 10, none⟩ = some (.slice none 0 0) ∧ w'.frozen? ⟨w.heap.size, 10, none⟩ = false) (first | with_reducible exact sI | assumption | exact st0.out _ (by assumption) | exact st1.out _ (by assumption) | exact st10.out _ (by assumption)) ((go_at_call 29; (with_reducible refine (clone_nil29 _).mono ?_); rintro e w9 ⟨rfl, rfl⟩))
  go_upto_region 2 with fail
  have h1 : CB p w (((W1.setCell ⟨w.heap.size, 0, none⟩ (.slice none 0 0)).setCell ⟨w.heap.size, 1, none⟩ (.slice none 0 0)).setCell ⟨w.heap.size, 10, none⟩ (.slice none 0 0)).drew := by
    have := CB.set10 (CB.set1 (CB.set0 (h0)))
    exact ⟨this.b0.below (bl_drew (Below.refl _ _)), this.b1.below (bl_drew (Below.refl _ _)), bl_drew this.o⟩
  clear sI h0 st0 st1 st10
  obtain ⟨W2, hW2⟩ : ∃ W, (((W1.setCell ⟨w.heap.size, 0, none⟩ (.slice none 0 0)).setCell ⟨w.heap.size, 1, none⟩ (.slice none 0 0)).setCell ⟨w.heap.size, 10, none⟩ (.slice none 0 0)).drew = W := ⟨_, rfl⟩
  rw [hW2] at h1 ⊢
  replace hW2 := Lib.hid hW2
  have h0 := h1
  clear h1
  have sI : CB p w W2.drew ∧ w.heap.size < W2.drew.heap.size ∧ W2.drew.cell? ⟨w.heap.size, 11, none⟩ = some (.slice none 0 0) ∧ W2.drew.frozen? ⟨w.heap.size, 11, none⟩ = false ∧ W2.drew.cell? ⟨w.heap.size, 13, none⟩ = some (.slice none 0 0) ∧ W2.drew.frozen? ⟨w.heap.size, 13, none⟩ = false := CB.s2 (X := W2.drew) ⟨h0.b0.below (bl_drew (Below.refl _ _)), h0.b1.below (bl_drew (Below.refl _ _)), bl_drew h0.o⟩
  have st11 : Hid (∀ X, (CB p w X ∧ w.heap.size < X.heap.size ∧ X.cell? ⟨w.heap.size, 11, none⟩ = some (.slice none 0 0) ∧ X.frozen? ⟨w.heap.size, 11, none⟩ = false ∧ X.cell? ⟨w.heap.size, 13, none⟩ = some (.slice none 0 0) ∧ X.frozen? ⟨w.heap.size, 13, none⟩ = false) → (CB p w (X.setCell ⟨w.heap.size, 11, none⟩ (.slice none 0 0)) ∧ w.heap.size < (X.setCell ⟨w.heap.size, 11, none⟩ (.slice none 0 0)).heap.size ∧ (X.setCell ⟨w.heap.size, 11, none⟩ (.slice none 0 0)).cell? ⟨w.heap.size, 11, none⟩ = some (.slice none 0 0) ∧ (X.setCell ⟨w.heap.size, 11, none⟩ (.slice none 0 0)).frozen? ⟨w.heap.size, 11, none⟩ = false ∧ (X.setCell ⟨w.heap.size, 11, none⟩ (.slice none 0 0)).cell? ⟨w.heap.size, 13, none⟩ = some (.slice none 0 0) ∧ (X.setCell ⟨w.heap.size, 11, none⟩ (.slice none 0 0)).frozen? ⟨w.heap.size, 13, none⟩ = false)) := Lib.hid (fun X hX => CB.s2 (CB.set11 hX.1))
  have st13 : Hid (∀ X, (CB p w X ∧ w.heap.size < X.heap.size ∧ X.cell? ⟨w.heap.size, 11, none⟩ = some (.slice none 0 0) ∧ X.frozen? ⟨w.heap.size, 11, none⟩ = false ∧ X.cell? ⟨w.heap.size, 13, none⟩ = some (.slice none 0 0) ∧ X.frozen? ⟨w.heap.size, 13, none⟩ = false) → (CB p w (X.setCell ⟨w.heap.size, 13, none⟩ (.slice none 0 0)) ∧ w.heap.size < (X.setCell ⟨w.heap.size, 13, none⟩ (.slice none 0 0)).heap.size ∧ (X.setCell ⟨w.heap.size, 13, none⟩ (.slice none 0 0)).cell? ⟨w.heap.size, 11, none⟩ = some (.slice none 0 0) ∧ (X.setCell ⟨w.heap.size, 13, none⟩ (.slice none 0 0)).frozen? ⟨w.heap.size, 11, none⟩ = false ∧ (X.setCell ⟨w.heap.size, 13, none⟩ (.slice none 0 0)).cell? ⟨w.heap.size, 13, none⟩ = some (.slice none 0 0) ∧ (X.setCell ⟨w.heap.size, 13, none⟩ (.slice none 0 0)).frozen? ⟨w.heap.size, 13, none⟩ = false)) := Lib.hid (fun X hX => CB.s2 (CB.set13 hX.1))
  go_region_held3 (fun w' => CB p w w' ∧ w.heap.size < w'.heap.size ∧ w'.cell? ⟨w.heap.size, 11, none⟩ = some (.slice none 0 0) ∧ w'.frozen? ⟨w.heap.size, 11, none⟩ = false ∧ w'.cell? ⟨w.heap.size, 13, none⟩ = some (.slice none 0 0) ∧ w'.frozen? ⟨w.heap.size, 13, none⟩ = false) (first | with_reducible exact sI | assumption | exact st11.out _ (by assumption) | exact st13.out _ (by assumption)) ((go_at_call 29; (with_reducible refine (clone_nil29 _).mono ?_); rintro e w9 ⟨rfl, rfl⟩))
  go_upto_region 3 with fail
  have h1 : CB p w ((W2.setCell ⟨w.heap.size, 11, none⟩ (.slice none 0 0)).setCell ⟨w.heap.size, 13, none⟩ (.slice none 0 0)).drew := by
    have := CB.set13 (CB.set11 (h0))
    exact ⟨this.b0.below (bl_drew (Below.refl _ _)), this.b1.below (bl_drew (Below.refl _ _)), bl_drew this.o⟩
  clear sI h0 st11 st13
  obtain ⟨W3, hW3⟩ : ∃ W, ((W2.setCell ⟨w.heap.size, 11, none⟩ (.slice none 0 0)).setCell ⟨w.heap.size, 13, none⟩ (.slice none 0 0)).drew = W := ⟨_, rfl⟩
  rw [hW3] at h1 ⊢
  replace hW3 := Lib.hid hW3
  have h0 := h1
  clear h1
  have sI : CB p w W3.drew ∧ w.heap.size < W3.drew.heap.size ∧ W3.drew.cell? ⟨w.heap.size, 23, none⟩ = some (.slice none 0 0) ∧ W3.drew.frozen? ⟨w.heap.size, 23, none⟩ = false ∧ W3.drew.cell? ⟨w.heap.size, 26, none⟩ = some (.slice none 0 0) ∧ W3.drew.frozen? ⟨w.heap.size, 26, none⟩ = false := CB.s3 (X := W3.drew) ⟨h0.b0.below (bl_drew (Below.refl _ _)), h0.b1.below (bl_drew (Below.refl _ _)), bl_drew h0.o⟩
  have st23 : Hid (∀ X, (CB p w X ∧ w.heap.size < X.heap.size ∧ X.cell? ⟨w.heap.size, 23, none⟩ = some (.slice none 0 0) ∧ X.frozen? ⟨w.heap.size, 23, none⟩ = false ∧ X.cell? ⟨w.heap.size, 26, none⟩ = some (.slice none 0 0) ∧ X.frozen? ⟨w.heap.size, 26, none⟩ = false) → (CB p w (X.setCell ⟨w.heap.size, 23, none⟩ (.slice none 0 0)) ∧ w.heap.size < (X.setCell ⟨w.heap.size, 23, none⟩ (.slice none 0 0)).heap.size ∧ (X.setCell ⟨w.heap.size, 23, none⟩ (.slice none 0 0)).cell? ⟨w.heap.size, 23, none⟩ = some (.slice none 0 0) ∧ (X.setCell ⟨w.heap.size, 23, none⟩ (.slice none 0 0)).frozen? ⟨w.heap.size, 23, none⟩ = false ∧ (X.setCell ⟨w.heap.size, 23, none⟩ (.slice none 0 0)).cell? ⟨w.heap.size, 26, none⟩ = some (.slice none 0 0) ∧ (X.setCell ⟨w.heap.size, 23, none⟩ (.slice none 0 0)).frozen? ⟨w.heap.size, 26, none⟩ = false)) := Lib.hid (fun X hX => CB.s3 (CB.set23 hX.1))
  have st26 : Hid (∀ X, (CB p w X ∧ w.heap.size < X.heap.size ∧ X.cell? ⟨w.heap.size, 23, none⟩ = some (.slice none 0 0) ∧ X.frozen? ⟨w.heap.size, 23, none⟩ = false ∧ X.cell? ⟨w.heap.size, 26, none⟩ = some (.slice none 0 0) ∧ X.frozen? ⟨w.heap.size, 26, none⟩ = false) → (CB p w (X.setCell ⟨w.heap.size, 26, none⟩ (.slice none 0 0)) ∧ w.heap.size < (X.setCell ⟨w.heap.size, 26, none⟩ (.slice none 0 0)).heap.size ∧ (X.setCell ⟨w.heap.size, 26, none⟩ (.slice none 0 0)).cell? ⟨w.heap.size, 23, none⟩ = some (.slice none 0 0) ∧ (X.setCell ⟨w.heap.size, 26, none⟩ (.slice none 0 0)).frozen? ⟨w.heap.size, 23, none⟩ = false ∧ (X.setCell ⟨w.heap.size, 26, none⟩ (.slice none 0 0)).cell? ⟨w.heap.size, 26, none⟩ = some (.slice none 0 0) ∧ (X.setCell ⟨w.heap.size, 26, none⟩ (.slice none 0 0)).frozen? ⟨w.heap.size, 26, none⟩ = false)) := Lib.hid (fun X hX => CB.s3 (CB.set26 hX.1))
  go_region_held3 (fun w' => CB p w w' ∧ w.heap.size < w'.heap.size ∧ w'.cell? ⟨w.heap.size, 23, none⟩ = some (.slice none 0 0) ∧ w'.frozen? ⟨w.heap.size, 23, none⟩ = false ∧ w'.cell? ⟨w.heap.size, 26, none⟩ = some (.slice none 0 0) ∧ w'.frozen? ⟨w.heap.size, 26, none⟩ = false) (first | with_reducible exact sI | assumption | exact st23.out _ (by assumption) | exact st26.out _ (by assumption)) ((go_at_call 30; (with_reducible refine (clone_nil30 _).mono ?_); rintro e w9 ⟨rfl, rfl⟩))
  go_upto_region 4 with fail
  have h1 : CB p w ((W3.setCell ⟨w.heap.size, 23, none⟩ (.slice none 0 0)).setCell ⟨w.heap.size, 26, none⟩ (.slice none 0 0)).drew := by
    have := CB.set26 (CB.set23 (h0))
    exact ⟨this.b0.below (bl_drew (Below.refl _ _)), this.b1.below (bl_drew (Below.refl _ _)), bl_drew this.o⟩
  clear sI h0 st23 st26
  obtain ⟨W4, hW4⟩ : ∃ W, ((W3.setCell ⟨w.heap.size, 23, none⟩ (.slice none 0 0)).setCell ⟨w.heap.size, 26, none⟩ (.slice none 0 0)).drew = W := ⟨_, rfl⟩
  rw [hW4] at h1 ⊢
  replace hW4 := Lib.hid hW4
  have h0 := h1
  clear h1
  obtain ⟨_, bl4, k24, f24⟩ := h0.s4
  have h5 := Lib.hid h0.set24
  clear h0
  go_upto_region 5 with (go_at_call 31; (with_reducible refine (clone_nil31 _).mono ?_); rintro e w9 ⟨rfl, rfl⟩)
  obtain ⟨W5, hW5⟩ : ∃ W, W4.setCell ⟨w.heap.size, 24, none⟩ (.slice none 0 0) = W := ⟨_, rfl⟩
  rw [hW5] at h5 ⊢
  replace hW5 := Lib.hid hW5
  clear bl4 k24 f24
  obtain ⟨_, bl5, k24, f24⟩ := h5.out.s4
  obtain ⟨_, _, k25, f25⟩ := h5.out.s5
  have h6 := Lib.hid h5.out.set25
  clear h5
  go_wp2_with fail
  go_loopg [49] 0 (fun gh v wr => v = .int .i64 0 ∧ W5 = wr)
  case atStart => exact ⟨rfl, rfl⟩
  case round =>
    obtain ⟨rfl, rfl⟩ := hrel
    go_upto_region 11 with (go_at_call 32; (with_reducible refine (copyFiles_nil _).mono ?_); rintro e w9 ⟨rfl, rfl⟩)
    obtain ⟨W6, hW6⟩ : ∃ W, W5.setCell ⟨w.heap.size, 25, none⟩ (.slice none 0 0) = W := ⟨_, rfl⟩
    rw [hW6] at h6 ⊢
    replace hW6 := Lib.hid hW6
    have h7 := h6.out
    obtain ⟨C, hC⟩ : ∃ C, (bare p).cells.toArray = C := ⟨_, rfl⟩
    have L1 := stLoad_is (bare p) h7.b0
    obtain ⟨W7, S1, hB7, hO7⟩ := stStore_is (bare p) h7.b1 rfl
    have L2 := stLoad_is (bare p) hB7
    rw [hC] at L1 S1 L2
    have hb7 := Lib.hid (h7.o.trans (Only.below hO7 (N := w.heap.size) h7.o.size (fun k hk => by rw [hk]; omega)))
    replace hC := Lib.hid hC
    clear hB7 hO7 h7 h6 k24 f24 k25 f25 bl5
    go_wp2_with fail
    exact bodyPost_ret (v := .agg C) (by simp [results, Try.results18, ↓load_st, asAddr, L2, Result.andThen]) rfl ⟨by rw [hC.out], hb7.out⟩
end Go.Proofs.Ytfidmpkblmebeaa
