/-
  state.Copy at a state that has no rows; of chapter 20. (Printed by gen_copyb.py.)
  Conditions: as each theorem states them.
-/
import Derived.Test.YtepdfkgadigafaaGreatDoorStA
import Derived.Deep.RegionHeld3
import Derived.Deep.LoopGhost
import Derived.Deep.CutBlock
import Derived.Lib.SliceRun
import Derived.Test.YtepdfkgadigafaaGreatDoorMem
import Derived.Deep.AppendLies
import Derived.Laws.OwnMore
namespace Go.Proofs.YtepdfkgadigafaaGreatDoor
open Go.RowKit
set_option linter.unusedVariables false
set_option linter.unusedSimpArgs false
attribute [local go_sem ↓] load_st store_st
/-- a state that has but a phase -/
def bare (p : Int) : StC := { zeroC with phase := p }
set_option maxRecDepth 100000 in
theorem clone_nil29 (w : World) : Calls Tryz.prog 29 #[.slice none 0 0] w fun e w' => e = .returned (.slice none 0 0) ∧ w = w' := by
  have q22 : ∀ (w : World) (a : Option Addr) (n c n' c' : Nat), (binOp .eql 22 (.slice a n c) (.slice none n' c')).run Tryz.prog w = .ok (.bool a.isNone) w := fun w a n c n' c' => Lib.run_eql_slice_nil w _ _ a n c n' c' Tryz.underlying22
  go_enter Tryz.func29, Tryz.ntmps29
  go_wp2_with fail
  go_ret
  exact ⟨rfl, rfl⟩
set_option maxRecDepth 100000 in
theorem clone_nil30 (w : World) : Calls Tryz.prog 45 #[.slice none 0 0] w fun e w' => e = .returned (.slice none 0 0) ∧ w = w' := by
  have q22 : ∀ (w : World) (a : Option Addr) (n c n' c' : Nat), (binOp .eql 30 (.slice a n c) (.slice none n' c')).run Tryz.prog w = .ok (.bool a.isNone) w := fun w a n c n' c' => Lib.run_eql_slice_nil w _ _ a n c n' c' Tryz.underlying30
  go_enter Tryz.func45, Tryz.ntmps45
  go_wp2_with fail
  go_ret
  exact ⟨rfl, rfl⟩
set_option maxRecDepth 100000 in
theorem clone_nil31 (w : World) : Calls Tryz.prog 46 #[.slice none 0 0] w fun e w' => e = .returned (.slice none 0 0) ∧ w = w' := by
  have q22 : ∀ (w : World) (a : Option Addr) (n c n' c' : Nat), (binOp .eql 31 (.slice a n c) (.slice none n' c')).run Tryz.prog w = .ok (.bool a.isNone) w := fun w a n c n' c' => Lib.run_eql_slice_nil w _ _ a n c n' c' Tryz.underlying31
  go_enter Tryz.func46, Tryz.ntmps46
  go_wp2_with fail
  go_ret
  exact ⟨rfl, rfl⟩
set_option maxRecDepth 100000 in
theorem clone_nil42 (w : World) : Calls Tryz.prog 72 #[.slice none 0 0] w fun e w' => e = .returned (.slice none 0 0) ∧ w = w' := by
  have q22 : ∀ (w : World) (a : Option Addr) (n c n' c' : Nat), (binOp .eql 32 (.slice a n c) (.slice none n' c')).run Tryz.prog w = .ok (.bool a.isNone) w := fun w a n c n' c' => Lib.run_eql_slice_nil w _ _ a n c n' c' Tryz.underlying32
  go_enter Tryz.func72, Tryz.ntmps72
  go_wp2_with fail
  go_ret
  exact ⟨rfl, rfl⟩
set_option maxRecDepth 100000 in
theorem copyFiles_nil (w : World) : Calls Tryz.prog 47 #[.slice none 0 0] w fun e w' => e = .returned (.slice none 0 0) ∧ w = w' := by
  go_enter Tryz.func47, Tryz.ntmps47
  go_wp2_with (go_at_call 72; (with_reducible refine (clone_nil42 _).mono ?_); rintro e w1 ⟨rfl, rfl⟩)
  go_loopg [9] 0 (fun gh v wr => v = .int .i64 0 ∧ w = wr)
  case atStart => exact ⟨rfl, rfl⟩
  case round =>
    obtain ⟨rfl, rfl⟩ := hrel
    go_wp2_with fail
    go_ret
    exact ⟨rfl, rfl⟩
/-- the box, the result's place -/
structure CB (p : Int) (w : World) (X : World) : Prop where
  b0 : Blk X w.heap.size 34 (bare p).cells
  b1 : Blk X (w.heap.size + 1) 34 zeroC.cells
  o : Below w.heap.size w X
theorem CB.set0 {p : Int} {w X : World} (h : CB p w X) : CB p w (X.setCell ⟨w.heap.size, 0, none⟩ (.slice none 0 0)) := ⟨h.b0.set 0 _, h.b1.set_other (p := ⟨w.heap.size, 0, none⟩) (by show w.heap.size ≠ w.heap.size + 1; omega) _, bl_setCell h.o (by show w.heap.size ≤ w.heap.size; omega) _⟩
theorem CB.set1 {p : Int} {w X : World} (h : CB p w X) : CB p w (X.setCell ⟨w.heap.size, 1, none⟩ (.slice none 0 0)) := ⟨h.b0.set 1 _, h.b1.set_other (p := ⟨w.heap.size, 1, none⟩) (by show w.heap.size ≠ w.heap.size + 1; omega) _, bl_setCell h.o (by show w.heap.size ≤ w.heap.size; omega) _⟩
theorem CB.set10 {p : Int} {w X : World} (h : CB p w X) : CB p w (X.setCell ⟨w.heap.size, 10, none⟩ (.slice none 0 0)) := ⟨h.b0.set 10 _, h.b1.set_other (p := ⟨w.heap.size, 10, none⟩) (by show w.heap.size ≠ w.heap.size + 1; omega) _, bl_setCell h.o (by show w.heap.size ≤ w.heap.size; omega) _⟩
theorem CB.set11 {p : Int} {w X : World} (h : CB p w X) : CB p w (X.setCell ⟨w.heap.size, 11, none⟩ (.slice none 0 0)) := ⟨h.b0.set 11 _, h.b1.set_other (p := ⟨w.heap.size, 11, none⟩) (by show w.heap.size ≠ w.heap.size + 1; omega) _, bl_setCell h.o (by show w.heap.size ≤ w.heap.size; omega) _⟩
theorem CB.set13 {p : Int} {w X : World} (h : CB p w X) : CB p w (X.setCell ⟨w.heap.size, 13, none⟩ (.slice none 0 0)) := ⟨h.b0.set 13 _, h.b1.set_other (p := ⟨w.heap.size, 13, none⟩) (by show w.heap.size ≠ w.heap.size + 1; omega) _, bl_setCell h.o (by show w.heap.size ≤ w.heap.size; omega) _⟩
theorem CB.set23 {p : Int} {w X : World} (h : CB p w X) : CB p w (X.setCell ⟨w.heap.size, 23, none⟩ (.slice none 0 0)) := ⟨h.b0.set 23 _, h.b1.set_other (p := ⟨w.heap.size, 23, none⟩) (by show w.heap.size ≠ w.heap.size + 1; omega) _, bl_setCell h.o (by show w.heap.size ≤ w.heap.size; omega) _⟩
theorem CB.set26 {p : Int} {w X : World} (h : CB p w X) : CB p w (X.setCell ⟨w.heap.size, 26, none⟩ (.slice none 0 0)) := ⟨h.b0.set 26 _, h.b1.set_other (p := ⟨w.heap.size, 26, none⟩) (by show w.heap.size ≠ w.heap.size + 1; omega) _, bl_setCell h.o (by show w.heap.size ≤ w.heap.size; omega) _⟩
theorem CB.set24 {p : Int} {w X : World} (h : CB p w X) : CB p w (X.setCell ⟨w.heap.size, 24, none⟩ (.slice none 0 0)) := ⟨h.b0.set 24 _, h.b1.set_other (p := ⟨w.heap.size, 24, none⟩) (by show w.heap.size ≠ w.heap.size + 1; omega) _, bl_setCell h.o (by show w.heap.size ≤ w.heap.size; omega) _⟩
theorem CB.set25 {p : Int} {w X : World} (h : CB p w X) : CB p w (X.setCell ⟨w.heap.size, 25, none⟩ (.slice none 0 0)) := ⟨h.b0.set 25 _, h.b1.set_other (p := ⟨w.heap.size, 25, none⟩) (by show w.heap.size ≠ w.heap.size + 1; omega) _, bl_setCell h.o (by show w.heap.size ≤ w.heap.size; omega) _⟩
theorem CB.s1 {p : Int} {w X : World} (h : CB p w X) : CB p w X ∧ w.heap.size < X.heap.size ∧ X.cell? ⟨w.heap.size, 0, none⟩ = some (.slice none 0 0) ∧ X.frozen? ⟨w.heap.size, 0, none⟩ = false ∧ X.cell? ⟨w.heap.size, 1, none⟩ = some (.slice none 0 0) ∧ X.frozen? ⟨w.heap.size, 1, none⟩ = false ∧ X.cell? ⟨w.heap.size, 10, none⟩ = some (.slice none 0 0) ∧ X.frozen? ⟨w.heap.size, 10, none⟩ = false := ⟨h, h.b0.lt, h.b0.cell 0, h.b0.free 0, h.b0.cell 1, h.b0.free 1, h.b0.cell 10, h.b0.free 10⟩
theorem CB.s2 {p : Int} {w X : World} (h : CB p w X) : CB p w X ∧ w.heap.size < X.heap.size ∧ X.cell? ⟨w.heap.size, 11, none⟩ = some (.slice none 0 0) ∧ X.frozen? ⟨w.heap.size, 11, none⟩ = false ∧ X.cell? ⟨w.heap.size, 13, none⟩ = some (.slice none 0 0) ∧ X.frozen? ⟨w.heap.size, 13, none⟩ = false := ⟨h, h.b0.lt, h.b0.cell 11, h.b0.free 11, h.b0.cell 13, h.b0.free 13⟩
theorem CB.s3 {p : Int} {w X : World} (h : CB p w X) : CB p w X ∧ w.heap.size < X.heap.size ∧ X.cell? ⟨w.heap.size, 23, none⟩ = some (.slice none 0 0) ∧ X.frozen? ⟨w.heap.size, 23, none⟩ = false ∧ X.cell? ⟨w.heap.size, 26, none⟩ = some (.slice none 0 0) ∧ X.frozen? ⟨w.heap.size, 26, none⟩ = false := ⟨h, h.b0.lt, h.b0.cell 23, h.b0.free 23, h.b0.cell 26, h.b0.free 26⟩
theorem CB.s4 {p : Int} {w X : World} (h : CB p w X) : CB p w X ∧ w.heap.size < X.heap.size ∧ X.cell? ⟨w.heap.size, 24, none⟩ = some (.slice none 0 0) ∧ X.frozen? ⟨w.heap.size, 24, none⟩ = false := ⟨h, h.b0.lt, h.b0.cell 24, h.b0.free 24⟩
theorem CB.s5 {p : Int} {w X : World} (h : CB p w X) : CB p w X ∧ w.heap.size < X.heap.size ∧ X.cell? ⟨w.heap.size, 25, none⟩ = some (.slice none 0 0) ∧ X.frozen? ⟨w.heap.size, 25, none⟩ = false := ⟨h, h.b0.lt, h.b0.cell 25, h.b0.free 25⟩
set_option maxHeartbeats 4000000 in
set_option maxRecDepth 100000 in
theorem copy_bare (p : Int) (w : World) : Calls Tryz.prog 18 #[.agg (bare p).cells.toArray] w fun e w' => e = .returned (.agg (bare p).cells.toArray) ∧ Below w.heap.size w w' := by
  have h0 : CB p w ((w.alloc (.cells (bare p).cells.toArray 34)).alloc (.cells zeroC.cells.toArray 34)) := ⟨(Blk.new w _ _).alloc _, by
    have := Blk.new (w.alloc (.cells (bare p).cells.toArray 34)) 34 zeroC.cells
    simpa using this, bl_alloc (bl_alloc (Below.refl _ _) _) _⟩
  obtain ⟨W1, hW1⟩ : ∃ W1, (w.alloc (.cells (bare p).cells.toArray 34)).alloc (.cells zeroC.cells.toArray 34) = W1 := ⟨_, rfl⟩
  rw [hW1] at h0
  replace hW1 := Lib.hid hW1
  unfold bare zeroC StC.cells at hW1
  show Calls _ _ #[.agg #[.slice none 0 0, .slice none 0 0, .bool false, .int .i64 0, .bool false, .int .i64 0, .int .i64 0, .int .i64 0, .int .i64 0, .int .i64 0, .slice none 0 0, .slice none 0 0, .bool false, .slice none 0 0, .bool false, .int .i64 p, .int .i64 0, .int .i64 0, .int .i64 0, .int .i64 0, .bool false, .bool false, .bool false, .slice none 0 0, .slice none 0 0, .slice none 0 0, .slice none 0 0]] _ _
  go_enter Tryz.func18, Tryz.ntmps18
  go_upto_region 1 with fail
  rw [hW1.out]
  have sI : CB p w W1.drew ∧ w.heap.size < W1.drew.heap.size ∧ W1.drew.cell? ⟨w.heap.size, 0, none⟩ = some (.slice none 0 0) ∧ W1.drew.frozen? ⟨w.heap.size, 0, none⟩ = false ∧ W1.drew.cell? ⟨w.heap.size, 1, none⟩ = some (.slice none 0 0) ∧ W1.drew.frozen? ⟨w.heap.size, 1, none⟩ = false ∧ W1.drew.cell? ⟨w.heap.size, 10, none⟩ = some (.slice none 0 0) ∧ W1.drew.frozen? ⟨w.heap.size, 10, none⟩ = false := CB.s1 (X := W1.drew) ⟨h0.b0.below (bl_drew (Below.refl _ _)), h0.b1.below (bl_drew (Below.refl _ _)), bl_drew h0.o⟩
  have st0 : Hid (∀ X, (CB p w X ∧ w.heap.size < X.heap.size ∧ X.cell? ⟨w.heap.size, 0, none⟩ = some (.slice none 0 0) ∧ X.frozen? ⟨w.heap.size, 0, none⟩ = false ∧ X.cell? ⟨w.heap.size, 1, none⟩ = some (.slice none 0 0) ∧ X.frozen? ⟨w.heap.size, 1, none⟩ = false ∧ X.cell? ⟨w.heap.size, 10, none⟩ = some (.slice none 0 0) ∧ X.frozen? ⟨w.heap.size, 10, none⟩ = false) → (CB p w (X.setCell ⟨w.heap.size, 0, none⟩ (.slice none 0 0)) ∧ w.heap.size < (X.setCell ⟨w.heap.size, 0, none⟩ (.slice none 0 0)).heap.size ∧ (X.setCell ⟨w.heap.size, 0, none⟩ (.slice none 0 0)).cell? ⟨w.heap.size, 0, none⟩ = some (.slice none 0 0) ∧ (X.setCell ⟨w.heap.size, 0, none⟩ (.slice none 0 0)).frozen? ⟨w.heap.size, 0, none⟩ = false ∧ (X.setCell ⟨w.heap.size, 0, none⟩ (.slice none 0 0)).cell? ⟨w.heap.size, 1, none⟩ = some (.slice none 0 0) ∧ (X.setCell ⟨w.heap.size, 0, none⟩ (.slice none 0 0)).frozen? ⟨w.heap.size, 1, none⟩ = false ∧ (X.setCell ⟨w.heap.size, 0, none⟩ (.slice none 0 0)).cell? ⟨w.heap.size, 10, none⟩ = some (.slice none 0 0) ∧ (X.setCell ⟨w.heap.size, 0, none⟩ (.slice none 0 0)).frozen? ⟨w.heap.size, 10, none⟩ = false)) := Lib.hid (fun X hX => CB.s1 (CB.set0 hX.1))
  have st1 : Hid (∀ X, (CB p w X ∧ w.heap.size < X.heap.size ∧ X.cell? ⟨w.heap.size, 0, none⟩ = some (.slice none 0 0) ∧ X.frozen? ⟨w.heap.size, 0, none⟩ = false ∧ X.cell? ⟨w.heap.size, 1, none⟩ = some (.slice none 0 0) ∧ X.frozen? ⟨w.heap.size, 1, none⟩ = false ∧ X.cell? ⟨w.heap.size, 10, none⟩ = some (.slice none 0 0) ∧ X.frozen? ⟨w.heap.size, 10, none⟩ = false) → (CB p w (X.setCell ⟨w.heap.size, 1, none⟩ (.slice none 0 0)) ∧ w.heap.size < (X.setCell ⟨w.heap.size, 1, none⟩ (.slice none 0 0)).heap.size ∧ (X.setCell ⟨w.heap.size, 1, none⟩ (.slice none 0 0)).cell? ⟨w.heap.size, 0, none⟩ = some (.slice none 0 0) ∧ (X.setCell ⟨w.heap.size, 1, none⟩ (.slice none 0 0)).frozen? ⟨w.heap.size, 0, none⟩ = false ∧ (X.setCell ⟨w.heap.size, 1, none⟩ (.slice none 0 0)).cell? ⟨w.heap.size, 1, none⟩ = some (.slice none 0 0) ∧ (X.setCell ⟨w.heap.size, 1, none⟩ (.slice none 0 0)).frozen? ⟨w.heap.size, 1, none⟩ = false ∧ (X.setCell ⟨w.heap.size, 1, none⟩ (.slice none 0 0)).cell? ⟨w.heap.size, 10, none⟩ = some (.slice none 0 0) ∧ (X.setCell ⟨w.heap.size, 1, none⟩ (.slice none 0 0)).frozen? ⟨w.heap.size, 10, none⟩ = false)) := Lib.hid (fun X hX => CB.s1 (CB.set1 hX.1))
  have st10 : Hid (∀ X, (CB p w X ∧ w.heap.size < X.heap.size ∧ X.cell? ⟨w.heap.size, 0, none⟩ = some (.slice none 0 0) ∧ X.frozen? ⟨w.heap.size, 0, none⟩ = false ∧ X.cell? ⟨w.heap.size, 1, none⟩ = some (.slice none 0 0) ∧ X.frozen? ⟨w.heap.size, 1, none⟩ = false ∧ X.cell? ⟨w.heap.size, 10, none⟩ = some (.slice none 0 0) ∧ X.frozen? ⟨w.heap.size, 10, none⟩ = false) → (CB p w (X.setCell ⟨w.heap.size, 10, none⟩ (.slice none 0 0)) ∧ w.heap.size < (X.setCell ⟨w.heap.size, 10, none⟩ (.slice none 0 0)).heap.size ∧ (X.setCell ⟨w.heap.size, 10, none⟩ (.slice none 0 0)).cell? ⟨w.heap.size, 0, none⟩ = some (.slice none 0 0) ∧ (X.setCell ⟨w.heap.size, 10, none⟩ (.slice none 0 0)).frozen? ⟨w.heap.size, 0, none⟩ = false ∧ (X.setCell ⟨w.heap.size, 10, none⟩ (.slice none 0 0)).cell? ⟨w.heap.size, 1, none⟩ = some (.slice none 0 0) ∧ (X.setCell ⟨w.heap.size, 10, none⟩ (.slice none 0 0)).frozen? ⟨w.heap.size, 1, none⟩ = false ∧ (X.setCell ⟨w.heap.size, 10, none⟩ (.slice none 0 0)).cell? ⟨w.heap.size, 10, none⟩ = some (.slice none 0 0) ∧ (X.setCell ⟨w.heap.size, 10, none⟩ (.slice none 0 0)).frozen? ⟨w.heap.size, 10, none⟩ = false)) := Lib.hid (fun X hX => CB.s1 (CB.set10 hX.1))
  go_region_held3 (fun w' => CB p w w' ∧ w.heap.size < w'.heap.size ∧ w'.cell? ⟨w.heap.size, 0, none⟩ = some (.slice none 0 0) ∧ w'.frozen? ⟨w.heap.size, 0, none⟩ = false ∧ w'.cell? ⟨w.heap.size, 1, none⟩ = some (.slice none 0 0) ∧ w'.frozen? ⟨w.heap.size, 1, none⟩ = false ∧ w'.cell? ⟨w.heap.size, 10, none⟩ = some (.slice none 0 0) ∧ w'.frozen? ⟨w.heap.size, 10, none⟩ = false) (first | with_reducible exact sI | assumption | exact st0.out _ (by assumption) | exact st1.out _ (by assumption) | exact st10.out _ (by assumption)) ((go_at_call 29; (with_reducible refine (clone_nil29 _).mono ?_); rintro e w9 ⟨rfl, rfl⟩))
  go_upto_region 2 with fail
  have h1 : CB p w (((W1.setCell ⟨w.heap.size, 0, none⟩ (.slice none 0 0)).setCell ⟨w.heap.size, 1, none⟩ (.slice none 0 0)).setCell ⟨w.heap.size, 10, none⟩ (.slice none 0 0)).drew := by
    have := CB.set10 (CB.set1 (CB.set0 (h0)))
    exact ⟨this.b0.below (bl_drew (Below.refl _ _)), this.b1.below (bl_drew (Below.refl _ _)), bl_drew this.o⟩
  clear sI h0 st0 st1 st10
  obtain ⟨W2, hW2⟩ : ∃ W, (((W1.setCell ⟨w.heap.size, 0, none⟩ (.slice none 0 0)).setCell ⟨w.heap.size, 1, none⟩ (.slice none 0 0)).setCell ⟨w.heap.size, 10, none⟩ (.slice none 0 0)).drew = W := ⟨_, rfl⟩
  rw [hW2] at h1 ⊢
  replace hW2 := Lib.hid hW2
  have h0 := h1
  clear h1
  have sI : CB p w W2.drew ∧ w.heap.size < W2.drew.heap.size ∧ W2.drew.cell? ⟨w.heap.size, 11, none⟩ = some (.slice none 0 0) ∧ W2.drew.frozen? ⟨w.heap.size, 11, none⟩ = false ∧ W2.drew.cell? ⟨w.heap.size, 13, none⟩ = some (.slice none 0 0) ∧ W2.drew.frozen? ⟨w.heap.size, 13, none⟩ = false := CB.s2 (X := W2.drew) ⟨h0.b0.below (bl_drew (Below.refl _ _)), h0.b1.below (bl_drew (Below.refl _ _)), bl_drew h0.o⟩
  have st11 : Hid (∀ X, (CB p w X ∧ w.heap.size < X.heap.size ∧ X.cell? ⟨w.heap.size, 11, none⟩ = some (.slice none 0 0) ∧ X.frozen? ⟨w.heap.size, 11, none⟩ = false ∧ X.cell? ⟨w.heap.size, 13, none⟩ = some (.slice none 0 0) ∧ X.frozen? ⟨w.heap.size, 13, none⟩ = false) → (CB p w (X.setCell ⟨w.heap.size, 11, none⟩ (.slice none 0 0)) ∧ w.heap.size < (X.setCell ⟨w.heap.size, 11, none⟩ (.slice none 0 0)).heap.size ∧ (X.setCell ⟨w.heap.size, 11, none⟩ (.slice none 0 0)).cell? ⟨w.heap.size, 11, none⟩ = some (.slice none 0 0) ∧ (X.setCell ⟨w.heap.size, 11, none⟩ (.slice none 0 0)).frozen? ⟨w.heap.size, 11, none⟩ = false ∧ (X.setCell ⟨w.heap.size, 11, none⟩ (.slice none 0 0)).cell? ⟨w.heap.size, 13, none⟩ = some (.slice none 0 0) ∧ (X.setCell ⟨w.heap.size, 11, none⟩ (.slice none 0 0)).frozen? ⟨w.heap.size, 13, none⟩ = false)) := Lib.hid (fun X hX => CB.s2 (CB.set11 hX.1))
  have st13 : Hid (∀ X, (CB p w X ∧ w.heap.size < X.heap.size ∧ X.cell? ⟨w.heap.size, 11, none⟩ = some (.slice none 0 0) ∧ X.frozen? ⟨w.heap.size, 11, none⟩ = false ∧ X.cell? ⟨w.heap.size, 13, none⟩ = some (.slice none 0 0) ∧ X.frozen? ⟨w.heap.size, 13, none⟩ = false) → (CB p w (X.setCell ⟨w.heap.size, 13, none⟩ (.slice none 0 0)) ∧ w.heap.size < (X.setCell ⟨w.heap.size, 13, none⟩ (.slice none 0 0)).heap.size ∧ (X.setCell ⟨w.heap.size, 13, none⟩ (.slice none 0 0)).cell? ⟨w.heap.size, 11, none⟩ = some (.slice none 0 0) ∧ (X.setCell ⟨w.heap.size, 13, none⟩ (.slice none 0 0)).frozen? ⟨w.heap.size, 11, none⟩ = false ∧ (X.setCell ⟨w.heap.size, 13, none⟩ (.slice none 0 0)).cell? ⟨w.heap.size, 13, none⟩ = some (.slice none 0 0) ∧ (X.setCell ⟨w.heap.size, 13, none⟩ (.slice none 0 0)).frozen? ⟨w.heap.size, 13, none⟩ = false)) := Lib.hid (fun X hX => CB.s2 (CB.set13 hX.1))
  go_region_held3 (fun w' => CB p w w' ∧ w.heap.size < w'.heap.size ∧ w'.cell? ⟨w.heap.size, 11, none⟩ = some (.slice none 0 0) ∧ w'.frozen? ⟨w.heap.size, 11, none⟩ = false ∧ w'.cell? ⟨w.heap.size, 13, none⟩ = some (.slice none 0 0) ∧ w'.frozen? ⟨w.heap.size, 13, none⟩ = false) (first | with_reducible exact sI | assumption | exact st11.out _ (by assumption) | exact st13.out _ (by assumption)) ((go_at_call 29; (with_reducible refine (clone_nil29 _).mono ?_); rintro e w9 ⟨rfl, rfl⟩))
  go_upto_region 3 with fail
  have h1 : CB p w ((W2.setCell ⟨w.heap.size, 11, none⟩ (.slice none 0 0)).setCell ⟨w.heap.size, 13, none⟩ (.slice none 0 0)).drew := by
    have := CB.set13 (CB.set11 (h0))
    exact ⟨this.b0.below (bl_drew (Below.refl _ _)), this.b1.below (bl_drew (Below.refl _ _)), bl_drew this.o⟩
  clear sI h0 st11 st13
  obtain ⟨W3, hW3⟩ : ∃ W, ((W2.setCell ⟨w.heap.size, 11, none⟩ (.slice none 0 0)).setCell ⟨w.heap.size, 13, none⟩ (.slice none 0 0)).drew = W := ⟨_, rfl⟩
  rw [hW3] at h1 ⊢
  replace hW3 := Lib.hid hW3
  have h0 := h1
  clear h1
  have sI : CB p w W3.drew ∧ w.heap.size < W3.drew.heap.size ∧ W3.drew.cell? ⟨w.heap.size, 23, none⟩ = some (.slice none 0 0) ∧ W3.drew.frozen? ⟨w.heap.size, 23, none⟩ = false ∧ W3.drew.cell? ⟨w.heap.size, 26, none⟩ = some (.slice none 0 0) ∧ W3.drew.frozen? ⟨w.heap.size, 26, none⟩ = false := CB.s3 (X := W3.drew) ⟨h0.b0.below (bl_drew (Below.refl _ _)), h0.b1.below (bl_drew (Below.refl _ _)), bl_drew h0.o⟩
  have st23 : Hid (∀ X, (CB p w X ∧ w.heap.size < X.heap.size ∧ X.cell? ⟨w.heap.size, 23, none⟩ = some (.slice none 0 0) ∧ X.frozen? ⟨w.heap.size, 23, none⟩ = false ∧ X.cell? ⟨w.heap.size, 26, none⟩ = some (.slice none 0 0) ∧ X.frozen? ⟨w.heap.size, 26, none⟩ = false) → (CB p w (X.setCell ⟨w.heap.size, 23, none⟩ (.slice none 0 0)) ∧ w.heap.size < (X.setCell ⟨w.heap.size, 23, none⟩ (.slice none 0 0)).heap.size ∧ (X.setCell ⟨w.heap.size, 23, none⟩ (.slice none 0 0)).cell? ⟨w.heap.size, 23, none⟩ = some (.slice none 0 0) ∧ (X.setCell ⟨w.heap.size, 23, none⟩ (.slice none 0 0)).frozen? ⟨w.heap.size, 23, none⟩ = false ∧ (X.setCell ⟨w.heap.size, 23, none⟩ (.slice none 0 0)).cell? ⟨w.heap.size, 26, none⟩ = some (.slice none 0 0) ∧ (X.setCell ⟨w.heap.size, 23, none⟩ (.slice none 0 0)).frozen? ⟨w.heap.size, 26, none⟩ = false)) := Lib.hid (fun X hX => CB.s3 (CB.set23 hX.1))
  have st26 : Hid (∀ X, (CB p w X ∧ w.heap.size < X.heap.size ∧ X.cell? ⟨w.heap.size, 23, none⟩ = some (.slice none 0 0) ∧ X.frozen? ⟨w.heap.size, 23, none⟩ = false ∧ X.cell? ⟨w.heap.size, 26, none⟩ = some (.slice none 0 0) ∧ X.frozen? ⟨w.heap.size, 26, none⟩ = false) → (CB p w (X.setCell ⟨w.heap.size, 26, none⟩ (.slice none 0 0)) ∧ w.heap.size < (X.setCell ⟨w.heap.size, 26, none⟩ (.slice none 0 0)).heap.size ∧ (X.setCell ⟨w.heap.size, 26, none⟩ (.slice none 0 0)).cell? ⟨w.heap.size, 23, none⟩ = some (.slice none 0 0) ∧ (X.setCell ⟨w.heap.size, 26, none⟩ (.slice none 0 0)).frozen? ⟨w.heap.size, 23, none⟩ = false ∧ (X.setCell ⟨w.heap.size, 26, none⟩ (.slice none 0 0)).cell? ⟨w.heap.size, 26, none⟩ = some (.slice none 0 0) ∧ (X.setCell ⟨w.heap.size, 26, none⟩ (.slice none 0 0)).frozen? ⟨w.heap.size, 26, none⟩ = false)) := Lib.hid (fun X hX => CB.s3 (CB.set26 hX.1))
  go_region_held3 (fun w' => CB p w w' ∧ w.heap.size < w'.heap.size ∧ w'.cell? ⟨w.heap.size, 23, none⟩ = some (.slice none 0 0) ∧ w'.frozen? ⟨w.heap.size, 23, none⟩ = false ∧ w'.cell? ⟨w.heap.size, 26, none⟩ = some (.slice none 0 0) ∧ w'.frozen? ⟨w.heap.size, 26, none⟩ = false) (first | with_reducible exact sI | assumption | exact st23.out _ (by assumption) | exact st26.out _ (by assumption)) ((go_at_call 45; (with_reducible refine (clone_nil30 _).mono ?_); rintro e w9 ⟨rfl, rfl⟩))
  go_upto_region 4 with fail
  have h1 : CB p w ((W3.setCell ⟨w.heap.size, 23, none⟩ (.slice none 0 0)).setCell ⟨w.heap.size, 26, none⟩ (.slice none 0 0)).drew := by
    have := CB.set26 (CB.set23 (h0))
    exact ⟨this.b0.below (bl_drew (Below.refl _ _)), this.b1.below (bl_drew (Below.refl _ _)), bl_drew this.o⟩
  clear sI h0 st23 st26
  obtain ⟨W4, hW4⟩ : ∃ W, ((W3.setCell ⟨w.heap.size, 23, none⟩ (.slice none 0 0)).setCell ⟨w.heap.size, 26, none⟩ (.slice none 0 0)).drew = W := ⟨_, rfl⟩
  rw [hW4] at h1 ⊢
  replace hW4 := Lib.hid hW4
  have h0 := h1
  clear h1
  obtain ⟨_, bl4, k24, f24⟩ := h0.s4
  have h5 := Lib.hid h0.set24
  clear h0
  go_upto_region 5 with (go_at_call 46; (with_reducible refine (clone_nil31 _).mono ?_); rintro e w9 ⟨rfl, rfl⟩)
  obtain ⟨W5, hW5⟩ : ∃ W, W4.setCell ⟨w.heap.size, 24, none⟩ (.slice none 0 0) = W := ⟨_, rfl⟩
  rw [hW5] at h5 ⊢
  replace hW5 := Lib.hid hW5
  clear bl4 k24 f24
  obtain ⟨_, bl5, k24, f24⟩ := h5.out.s4
  obtain ⟨_, _, k25, f25⟩ := h5.out.s5
  have h6 := Lib.hid h5.out.set25
  clear h5
  go_wp2_with fail
  go_loopg [49] 0 (fun gh v wr => v = .int .i64 0 ∧ W5 = wr)
  case atStart => exact ⟨rfl, rfl⟩
  case round =>
    obtain ⟨rfl, rfl⟩ := hrel
    go_upto_region 11 with (go_at_call 47; (with_reducible refine (copyFiles_nil _).mono ?_); rintro e w9 ⟨rfl, rfl⟩)
    obtain ⟨W6, hW6⟩ : ∃ W, W5.setCell ⟨w.heap.size, 25, none⟩ (.slice none 0 0) = W := ⟨_, rfl⟩
    rw [hW6] at h6 ⊢
    replace hW6 := Lib.hid hW6
    have h7 := h6.out
    obtain ⟨C, hC⟩ : ∃ C, (bare p).cells.toArray = C := ⟨_, rfl⟩
    have L1 := stLoad_is (bare p) h7.b0
    obtain ⟨W7, S1, hB7, hO7⟩ := stStore_is (bare p) h7.b1 rfl
    have L2 := stLoad_is (bare p) hB7
    rw [hC] at L1 S1 L2
    have hb7 := Lib.hid (h7.o.trans (Only.below hO7 (N := w.heap.size) h7.o.size (fun k hk => by rw [hk]; omega)))
    replace hC := Lib.hid hC
    clear hB7 hO7 h7 h6 k24 f24 k25 f25 bl5
    go_wp2_with fail
    exact bodyPost_ret (v := .agg C) (by simp [results, Tryz.results18, ↓load_st, asAddr, L2, Result.andThen]) rfl ⟨by rw [hC.out], hb7.out⟩
end Go.Proofs.YtepdfkgadigafaaGreatDoor
/-
  append of any row, nil or empty too, to a row that the call owns: the law, for a plain list; of chapter 27.
  Conditions: as each theorem states them.
-/
namespace Go.Proofs.YtepdfkgadigafaaGreatDoor
open Go.RowKit
set_option linter.unusedVariables false
set_option linter.unusedSimpArgs false
/-- a slice of m elements that is read: its cells -/
def SrcAt (w : World) (v : Value) (m : Nat) (news : List Value) : Prop := ∃ a c, v = .slice a m c ∧ (a = none → m = 0) ∧ (∀ ad, a = some ad → ∀ j u, news[j]? = some u → w.cell? (ad.add j) = some u)
theorem SrcAt.below {w w' : World} {v : Value} {m : Nat} {news : List Value} (h : SrcAt w v m news) (hb : Below w.heap.size w w') : SrcAt w' v m news := by
  obtain ⟨a, c, rfl, h0, hc⟩ := h
  refine ⟨a, c, rfl, h0, fun ad e j u hj => ?_⟩
  have h1 := hc ad e j u hj
  have h2 : (ad.add j).block < w.heap.size := by
    rcases Nat.lt_or_ge (ad.add j).block w.heap.size with hl | hl
    · exact hl
    · unfold World.cell? at h1
      simp [Array.getElem?_eq_none hl] at h1
  exact (hb.cell h2).trans h1
theorem byteCells_get {xs : List UInt8} {j : Nat} {u : Value} (h : (Lib.byteCells xs)[j]? = some u) : ∃ hj : j < xs.length, u = .int .u8 (xs[j].toNat : Int) := by
  obtain ⟨hj, e⟩ := List.getElem?_eq_some_iff.1 h
  have hj' : j < xs.length := by simpa [Lib.byteCells] using hj
  exact ⟨hj', by rw [← e]; simp [Lib.byteCells]⟩
theorem src_bytes {w : World} {a : Option Addr} {c : Nat} {xs : List UInt8} (h : BytesAt w a xs) : SrcAt w (.slice a xs.length c) xs.length (Lib.byteCells xs) := by
  refine ⟨a, c, rfl, fun e => ?_, fun ad e j u hj => ?_⟩
  · rcases Nat.eq_zero_or_pos xs.length with h0 | h0
    · exact h0
    · obtain ⟨p, o, e2, _⟩ := h h0
      rw [e] at e2; cases e2
  · obtain ⟨hj', rfl⟩ := byteCells_get hj
    obtain ⟨p, o, e2, hp, hr⟩ := h (by omega)
    rw [e] at e2; cases e2
    have e1 : (⟨p, o, none⟩ : Addr).add j = ⟨p, o + j, none⟩ := by unfold Addr.add; by_cases h0 : j = 0 <;> simp [h0]
    rw [e1]
    exact hr j hj'
section
variable {P : Program} (w : World)
theorem run_append_none (base : Nat) (t ty e : TypeId) (i : TypeInfo) (size : Nat) (ht : P.underlying t = some (.slice e)) (hi : P.info? e = some i)
    (v : Value) (n : Nat) (xs : List Value) (c : Nat) (hown : w.ownsRow base e size v n xs) :
    (Builtin.append_ #[t, t] ty #[v, .slice none 0 c]).run P w = .ok v w := by
  rcases hown.2 with ⟨rfl, rfl⟩ | ⟨g, cap, cur, rfl, _, _, hnc, _⟩
  · simp [Builtin.append_, run_underlying ht, sizeOf, typeInfo, hi, Builtin.lenOf, Builtin.firstCells]
  · simp [Builtin.append_, run_underlying ht, sizeOf, typeInfo, hi, Builtin.lenOf, Builtin.firstCells, hnc, storeCells]
theorem run_append_src (base : Nat) (t ty e : TypeId) (i : TypeInfo) (z : Value) (size bytes : Nat) (ht : P.underlying t = some (.slice e)) (hi : P.info? e = some i) (hz : i.zero = some z)
    (hsize : i.size = size) (hby : i.bytes = bytes) (hzs : z.cells.size = size) (hsz : 0 < size)
    (v : Value) (n : Nat) (xs : List Value) (hown : w.ownsRow base e size v n xs)
    (sv : Value) (m : Nat) (news : List Value) (hsv : SrcAt w sv m news) (hl : news.length = m * size) (h1 : ∀ u ∈ news, u.oneCell' = true)
    (h63 : n + m ≤ maxLen) (hbytes : (n + m) * bytes ≤ 140737488355328) (hbase : base ≤ w.heap.size) :
    ∃ v' w', (Builtin.append_ #[t, t] ty #[v, sv]).run P w = .ok v' w' ∧ w'.ownsRow base e size v' (n + m) (xs ++ news) ∧ w.grownBy w' v.ownBlock := by
  obtain ⟨a, c, rfl, h0, hc⟩ := hsv
  cases a with
  | none =>
    obtain rfl := h0 rfl
    refine ⟨v, w, run_append_none w base t ty e i size ht hi v n xs c hown, ?_, ⟨rfl, rfl, rfl, Nat.le_refl _, fun k _ _ => rfl⟩⟩
    have : news = [] := List.eq_nil_of_length_eq_zero (by rw [hl, Nat.zero_mul])
    subst this
    rw [List.append_nil, Nat.add_zero]
    exact hown
  | some ad =>
    obtain ⟨v', w', hr, h2, h3, _, _⟩ := run_append_own_at (P := P) w base t ty e i z size bytes ht hi hz hsize hby hzs hsz v n xs hown ad m c news hl (hc ad rfl) h1 h63 hbytes hbase
    exact ⟨v', w', hr, h2, h3⟩
theorem wpList_append_src {ops : Array Oper} {rest : List Oper} {o : Oper} {a : Act} {Q : Exit → Act → World → Prop} (hgd : o.guard = none) (s x : Operand) (t : TypeId)
    (ho : o.op = .call { callee := .builtin .append, args := #[s, x], argTypes := #[t, t] })
    (base : Nat) (e : TypeId) (i : TypeInfo) (z : Value) (size bytes : Nat) (ht : P.underlying t = some (.slice e)) (hi : P.info? e = some i) (hz : i.zero = some z)
    (hsize : i.size = size) (hby : i.bytes = bytes) (hzs : z.cells.size = size) (hsz : 0 < size)
    (v : Value) (n : Nat) (xs : List Value) (hs : a.eval s = v) (hown : w.ownsRow base e size v n xs)
    (sv : Value) (m : Nat) (news : List Value) (hx : a.eval x = sv) (hsv : SrcAt w sv m news) (hl : news.length = m * size) (h1 : ∀ u ∈ news, u.oneCell' = true)
    (h63 : n + m ≤ maxLen) (hbytes : (n + m) * bytes ≤ 140737488355328) (hbase : base ≤ w.heap.size)
    (h : ∀ v' w', w'.ownsRow base e size v' (n + m) (xs ++ news) → w.grownBy w' v.ownBlock → wpList P ops Q rest (a.put o.dst v') w') :
    wpList P ops Q (o :: rest) a w := by
  refine wpList_plain hgd fun K hK => ?_
  obtain ⟨v', w', hr, h2, h3⟩ := run_append_src (P := P) w base t o.type e i z size bytes ht hi hz hsize hby hzs hsz v n xs hown sv m news hsv hl h1 h63 hbytes hbase
  unfold Oper.wp execOp
  simp only [ho, resolve, invoke, builtin, Sem.run_bind, Sem.run_pure, Result.andThen_ok, List.map_toArray, List.map_cons, List.map_nil, hs, hx, hr]
  exact hK _ _ (h v' w' h2 h3)
end
theorem bytes_one (xs : List UInt8) : ∀ u ∈ Lib.byteCells xs, u.oneCell' = true := by
  intro u hu
  obtain ⟨j, hj⟩ := List.mem_iff_getElem?.1 hu
  obtain ⟨_, rfl⟩ := byteCells_get hj
  rfl
theorem byteCells_len (xs : List UInt8) : (Lib.byteCells xs).length = xs.length * 1 := by rw [Nat.mul_one]; simp [Lib.byteCells]
end Go.Proofs.YtepdfkgadigafaaGreatDoor
/-
  slices.Clone at the rows of a state, and the reference's Copy of bytes; of chapter 20. (Printed by gen_cloneg.py.)
  Conditions: as each theorem states them.
-/
namespace Go.Proofs.YtepdfkgadigafaaGreatDoor
open Go.RowKit
set_option linter.unusedVariables false
set_option linter.unusedSimpArgs false
theorem infoByteC : (Tryz.prog.info? 5).map (fun i => (i.zero, i.size, i.bytes)) = some (some (.int .u8 0), 1, 1) := by kernel_rfl
/-- a row that is read: n elements of k cells -/
structure RowSrc (w : World) (a : Option Addr) (n c k : Nat) (cs : List Value) : Prop where
  src : SrcAt w (.slice a n c) n cs
  len : cs.length = n * k
  one : ∀ u ∈ cs, u.oneCell' = true
  small : n ≤ 1000000000000
theorem info_parts' {P : Program} {t : TypeId} {z : Value} {s b : Nat} (h : (P.info? t).map (fun i => (i.zero, i.size, i.bytes)) = some (some z, s, b)) : ∃ i, P.info? t = some i ∧ i.zero = some z ∧ i.size = s ∧ i.bytes = b := by
  cases hi : P.info? t with
  | none => rw [hi] at h; cases h
  | some i => rw [hi] at h; simp at h; exact ⟨i, rfl, h.1, h.2.1, h.2.2⟩

theorem info_bytes : (Tryz.prog.info? 5).map (fun i => (i.zero, i.size, i.bytes)) = some (some (.int .u8 0), 1, 1) := by kernel_rfl
set_option maxHeartbeats 2000000 in
set_option maxRecDepth 100000 in
theorem clone_bytes (w : World) (a : Option Addr) (n c : Nat) (cs : List Value) (h : RowSrc w a n c 1 cs) :
    Calls Tryz.prog 29 #[.slice a n c] w fun e w' => ∃ v', e = .returned v' ∧ w'.ownsRow w.heap.size 5 1 v' n cs ∧ Below w.heap.size w w' := by
  have q22 : ∀ (w : World) (a : Option Addr) (n c n' c' : Nat), (binOp .eql 22 (.slice a n c) (.slice none n' c')).run Tryz.prog w = .ok (.bool a.isNone) w := fun w a n c n' c' => Lib.run_eql_slice_nil w _ _ a n c n' c' Tryz.underlying22
  obtain ⟨i0, hi, hz0, hz1, hz2⟩ := info_parts' info_bytes
  have hsrc := Lib.hid (h.src.below (bl_alloc (Below.refl w.heap.size w) (.cells #[] 5)))
  have hown := Lib.hid (World.ownsRow_made (base := w.heap.size) (e := 5) (size := 1) w #[] 0 (Nat.le_refl _) (by decide) rfl)
  have hsm := h.small
  cases a with
  | none =>
    go_enter Tryz.func29, Tryz.ntmps29
    go_wp2_with fail
    go_ret
    obtain ⟨a, c', he, h0, _⟩ := h.src
    cases he
    obtain rfl := h0 rfl
    have hl := h.len
    rw [Nat.zero_mul] at hl
    obtain rfl := List.eq_nil_of_length_eq_zero hl
    exact ⟨_, rfl, World.ownsRow_nil _ _ _ _, Below.refl _ _⟩
  | some ad =>
    go_enter Tryz.func29, Tryz.ntmps29
    go_wp2_with (at_builtin; refine wpList_append_src _ rfl (.tmp 5) (.tmp 6) 22 rfl w.heap.size 5 i0 (.int .u8 0) 1 1 Tryz.underlying22 hi hz0 hz1 hz2 rfl (by decide) _ _ _ rfl hown.out _ n _ rfl hsrc.out h.len h.one (by unfold maxLen; omega) (by omega) (by simp) ?_; intro v1 w1 hown1 hgrow1)
    all_goals go_ret
    all_goals exact ⟨_, rfl, by simpa using hown1, (bl_alloc (Below.refl _ _) _).grown hgrow1 (by simp) (fun j hj => (hown.out.lt j hj).1)⟩

theorem info_bools : (Tryz.prog.info? 4).map (fun i => (i.zero, i.size, i.bytes)) = some (some (.bool false), 1, 1) := by kernel_rfl
set_option maxHeartbeats 2000000 in
set_option maxRecDepth 100000 in
theorem clone_bools (w : World) (a : Option Addr) (n c : Nat) (cs : List Value) (h : RowSrc w a n c 1 cs) :
    Calls Tryz.prog 45 #[.slice a n c] w fun e w' => ∃ v', e = .returned v' ∧ w'.ownsRow w.heap.size 4 1 v' n cs ∧ Below w.heap.size w w' := by
  have q22 : ∀ (w : World) (a : Option Addr) (n c n' c' : Nat), (binOp .eql 30 (.slice a n c) (.slice none n' c')).run Tryz.prog w = .ok (.bool a.isNone) w := fun w a n c n' c' => Lib.run_eql_slice_nil w _ _ a n c n' c' Tryz.underlying30
  obtain ⟨i0, hi, hz0, hz1, hz2⟩ := info_parts' info_bools
  have hsrc := Lib.hid (h.src.below (bl_alloc (Below.refl w.heap.size w) (.cells #[] 4)))
  have hown := Lib.hid (World.ownsRow_made (base := w.heap.size) (e := 4) (size := 1) w #[] 0 (Nat.le_refl _) (by decide) rfl)
  have hsm := h.small
  cases a with
  | none =>
    go_enter Tryz.func45, Tryz.ntmps45
    go_wp2_with fail
    go_ret
    obtain ⟨a, c', he, h0, _⟩ := h.src
    cases he
    obtain rfl := h0 rfl
    have hl := h.len
    rw [Nat.zero_mul] at hl
    obtain rfl := List.eq_nil_of_length_eq_zero hl
    exact ⟨_, rfl, World.ownsRow_nil _ _ _ _, Below.refl _ _⟩
  | some ad =>
    go_enter Tryz.func45, Tryz.ntmps45
    go_wp2_with (at_builtin; refine wpList_append_src _ rfl (.tmp 5) (.tmp 6) 30 rfl w.heap.size 4 i0 (.bool false) 1 1 Tryz.underlying30 hi hz0 hz1 hz2 rfl (by decide) _ _ _ rfl hown.out _ n _ rfl hsrc.out h.len h.one (by unfold maxLen; omega) (by omega) (by simp) ?_; intro v1 w1 hown1 hgrow1)
    all_goals go_ret
    all_goals exact ⟨_, rfl, by simpa using hown1, (bl_alloc (Below.refl _ _) _).grown hgrow1 (by simp) (fun j hj => (hown.out.lt j hj).1)⟩

theorem info_waits : (Tryz.prog.info? 52).map (fun i => (i.zero, i.size, i.bytes)) = some (some (.agg #[.int .i64 0, .slice none 0 0]), 2, 32) := by kernel_rfl
set_option maxHeartbeats 2000000 in
set_option maxRecDepth 100000 in
theorem clone_waits (w : World) (a : Option Addr) (n c : Nat) (cs : List Value) (h : RowSrc w a n c 2 cs) :
    Calls Tryz.prog 46 #[.slice a n c] w fun e w' => ∃ v', e = .returned v' ∧ w'.ownsRow w.heap.size 52 2 v' n cs ∧ Below w.heap.size w w' := by
  have q22 : ∀ (w : World) (a : Option Addr) (n c n' c' : Nat), (binOp .eql 31 (.slice a n c) (.slice none n' c')).run Tryz.prog w = .ok (.bool a.isNone) w := fun w a n c n' c' => Lib.run_eql_slice_nil w _ _ a n c n' c' Tryz.underlying31
  obtain ⟨i0, hi, hz0, hz1, hz2⟩ := info_parts' info_waits
  have hsrc := Lib.hid (h.src.below (bl_alloc (Below.refl w.heap.size w) (.cells #[] 52)))
  have hown := Lib.hid (World.ownsRow_made (base := w.heap.size) (e := 52) (size := 2) w #[] 0 (Nat.le_refl _) (by decide) rfl)
  have hsm := h.small
  cases a with
  | none =>
    go_enter Tryz.func46, Tryz.ntmps46
    go_wp2_with fail
    go_ret
    obtain ⟨a, c', he, h0, _⟩ := h.src
    cases he
    obtain rfl := h0 rfl
    have hl := h.len
    rw [Nat.zero_mul] at hl
    obtain rfl := List.eq_nil_of_length_eq_zero hl
    exact ⟨_, rfl, World.ownsRow_nil _ _ _ _, Below.refl _ _⟩
  | some ad =>
    go_enter Tryz.func46, Tryz.ntmps46
    go_wp2_with (at_builtin; refine wpList_append_src _ rfl (.tmp 5) (.tmp 6) 31 rfl w.heap.size 52 i0 (.agg #[.int .i64 0, .slice none 0 0]) 2 32 Tryz.underlying31 hi hz0 hz1 hz2 rfl (by decide) _ _ _ rfl hown.out _ n _ rfl hsrc.out h.len h.one (by unfold maxLen; omega) (by omega) (by simp) ?_; intro v1 w1 hown1 hgrow1)
    all_goals go_ret
    all_goals exact ⟨_, rfl, by simpa using hown1, (bl_alloc (Below.refl _ _) _).grown hgrow1 (by simp) (fun j hj => (hown.out.lt j hj).1)⟩

theorem info_files : (Tryz.prog.info? 50).map (fun i => (i.zero, i.size, i.bytes)) = some (some (.agg #[.string ⟨#[]⟩, .slice none 0 0]), 2, 40) := by kernel_rfl
set_option maxHeartbeats 2000000 in
set_option maxRecDepth 100000 in
theorem clone_files (w : World) (a : Option Addr) (n c : Nat) (cs : List Value) (h : RowSrc w a n c 2 cs) :
    Calls Tryz.prog 72 #[.slice a n c] w fun e w' => ∃ v', e = .returned v' ∧ w'.ownsRow w.heap.size 50 2 v' n cs ∧ Below w.heap.size w w' := by
  have q22 : ∀ (w : World) (a : Option Addr) (n c n' c' : Nat), (binOp .eql 32 (.slice a n c) (.slice none n' c')).run Tryz.prog w = .ok (.bool a.isNone) w := fun w a n c n' c' => Lib.run_eql_slice_nil w _ _ a n c n' c' Tryz.underlying32
  obtain ⟨i0, hi, hz0, hz1, hz2⟩ := info_parts' info_files
  have hsrc := Lib.hid (h.src.below (bl_alloc (Below.refl w.heap.size w) (.cells #[] 50)))
  have hown := Lib.hid (World.ownsRow_made (base := w.heap.size) (e := 50) (size := 2) w #[] 0 (Nat.le_refl _) (by decide) rfl)
  have hsm := h.small
  cases a with
  | none =>
    go_enter Tryz.func72, Tryz.ntmps72
    go_wp2_with fail
    go_ret
    obtain ⟨a, c', he, h0, _⟩ := h.src
    cases he
    obtain rfl := h0 rfl
    have hl := h.len
    rw [Nat.zero_mul] at hl
    obtain rfl := List.eq_nil_of_length_eq_zero hl
    exact ⟨_, rfl, World.ownsRow_nil _ _ _ _, Below.refl _ _⟩
  | some ad =>
    go_enter Tryz.func72, Tryz.ntmps72
    go_wp2_with (at_builtin; refine wpList_append_src _ rfl (.tmp 5) (.tmp 6) 32 rfl w.heap.size 50 i0 (.agg #[.string ⟨#[]⟩, .slice none 0 0]) 2 40 Tryz.underlying32 hi hz0 hz1 hz2 rfl (by decide) _ _ _ rfl hown.out _ n _ rfl hsrc.out h.len h.one (by unfold maxLen; omega) (by omega) (by simp) ?_; intro v1 w1 hown1 hgrow1)
    all_goals go_ret
    all_goals exact ⟨_, rfl, by simpa using hown1, (bl_alloc (Below.refl _ _) _).grown hgrow1 (by simp) (fun j hj => (hown.out.lt j hj).1)⟩

set_option maxHeartbeats 2000000 in
set_option maxRecDepth 100000 in
theorem rcopy_bytes (w : World) (a : Option Addr) (n c : Nat) (cs : List Value) (h : RowSrc w a n c 1 cs) :
    Calls Tryz.prog 19 #[.slice a n c] w fun e w' => ∃ v', e = .returned v' ∧ w'.ownsRow w.heap.size 5 1 v' n cs ∧ Below w.heap.size w w' := by
  obtain ⟨i0, hi, hz0, hz1, hz2⟩ := info_parts' info_bytes
  have hsrc := Lib.hid (h.src.below (bl_alloc (Below.refl w.heap.size w) (.cells #[] 5)))
  have hown := Lib.hid (World.ownsRow_made (base := w.heap.size) (e := 5) (size := 1) w #[] 0 (Nat.le_refl _) (by decide) rfl)
  have hsm := h.small
  go_enter Tryz.func19, Tryz.ntmps19
  go_wp2_with (at_builtin; refine wpList_append_src _ rfl (.tmp 3) (.tmp 4) 22 rfl w.heap.size 5 i0 (.int .u8 0) 1 1 Tryz.underlying22 hi hz0 hz1 hz2 rfl (by decide) _ _ _ rfl hown.out _ n _ rfl hsrc.out h.len h.one (by unfold maxLen; omega) (by omega) (by simp) ?_; intro v1 w1 hown1 hgrow1)
  all_goals go_ret
  all_goals exact ⟨_, rfl, by simpa using hown1, (bl_alloc (Below.refl _ _) _).grown hgrow1 (by simp) (fun j hj => (hown.out.lt j hj).1)⟩
end Go.Proofs.YtepdfkgadigafaaGreatDoor
/-
  Rows that a call made, as rows of a state; a row of pairs whose texts are copied one by one: the memory's side.
  Conditions: as each theorem states them.
-/
namespace Go.Proofs.YtepdfkgadigafaaGreatDoor
open Go.RowKit
set_option linter.unusedVariables false
set_option linter.unusedSimpArgs false
theorem src_cells {lo hi k : Nat} {W : World} {s : Sl3} {cs : List Value} (h : CellsI lo hi W s.a cs) (hl : cs.length = s.n * k) (hk : 0 < k) : SrcAt W (.slice s.a s.n s.c) s.n cs := by
  refine ⟨s.a, s.c, rfl, fun e => ?_, fun ad e j u hj => ?_⟩
  · rcases Nat.eq_zero_or_pos s.n with h0 | h0
    · exact h0
    · have hp : 0 < cs.length := by rw [hl]; exact Nat.mul_pos h0 hk
      obtain ⟨p, o, e2, _⟩ := h hp
      rw [e] at e2; cases e2
  · obtain ⟨hj', hu⟩ := List.getElem?_eq_some_iff.1 hj
    obtain ⟨p, o, e2, h1, h2, h3⟩ := h (by omega)
    rw [e] at e2; cases e2
    have e1 : (⟨p, o, none⟩ : Addr).add j = ⟨p, o + j, none⟩ := by unfold Addr.add; by_cases h0 : j = 0 <;> simp [h0]
    rw [e1, (h3 j hj').1, hu]
theorem src_tx {lo hi : Nat} {W : World} {s : Sl3} {t : List UInt8} (h : TxI lo hi W s t) (hs : t.length ≤ 1000000000000) : RowSrc W s.a s.n s.c 1 (Lib.byteCells t) :=
  ⟨src_cells h.2.2.2 (by rw [bc_len, h.1, Nat.mul_one]) (by decide), by rw [bc_len, h.1, Nat.mul_one], bytes_one t, by rw [h.1]; exact hs⟩
theorem src_bl {lo hi : Nat} {W : World} {s : Sl3} {t : List Bool} (h : BlI lo hi W s t) (hs : t.length ≤ 1000000000000) : RowSrc W s.a s.n s.c 1 (t.map .bool) :=
  ⟨src_cells h.2.2.2 (by rw [List.length_map, h.1, Nat.mul_one]) (by decide), by rw [List.length_map, h.1, Nat.mul_one], fun u hu => (by obtain ⟨x, _, rfl⟩ := List.mem_map.1 hu; rfl), by rw [h.1]; exact hs⟩
theorem cells_own {w : World} {base e k n : Nat} {v : Value} {xs : List Value} (h : w.ownsRow base e k v n xs) : ∃ s : Sl3, v = s.v ∧ s.n = n ∧ n ≤ s.c ∧ CellsI base w.heap.size w s.a xs := by
  rcases h.2 with ⟨rfl, rfl⟩ | ⟨g, cap, cur, rfl, hb, hg, hnc, _⟩
  · exact ⟨⟨none, 0, 0⟩, rfl, rfl, Nat.le_refl _, fun h0 => by have := h.1; omega⟩
  · refine ⟨⟨some ⟨g, 0, none⟩, n, cap⟩, rfl, rfl, hnc, fun h0 => ⟨g, 0, rfl, hb, (Array.getElem?_eq_some_iff.1 hg).1, fun i hi => ⟨?_, fun _ => h.frozenAt _⟩⟩⟩
    rw [Nat.zero_add, h.cellAt i (by rw [← h.1]; exact hi), List.getElem?_eq_getElem hi]
theorem tx_own {w : World} {base e : Nat} {v : Value} {t : List UInt8} (h : w.ownsRow base e 1 v t.length (Lib.byteCells t)) (hs : t.length ≤ 1000000000000) : ∃ s : Sl3, v = s.v ∧ TxI base w.heap.size w s t := by
  obtain ⟨s, rfl, h1, h2, h3⟩ := cells_own h
  exact ⟨s, rfl, h1, h2, by omega, h3⟩
theorem bl_own {w : World} {base e : Nat} {v : Value} {t : List Bool} (h : w.ownsRow base e 1 v t.length (t.map .bool)) (hs : t.length ≤ 1000000000000) : ∃ s : Sl3, v = s.v ∧ BlI base w.heap.size w s t := by
  obtain ⟨s, rfl, h1, h2, h3⟩ := cells_own h
  exact ⟨s, rfl, h1, h2, by omega, h3⟩
theorem own_below {w w' : World} {base e k n : Nat} {v : Value} {xs : List Value} (h : w.ownsRow base e k v n xs) (hb : Below w.heap.size w w') : w'.ownsRow base e k v n xs :=
  h.kept (row := none) ⟨hb.os, hb.tape, hb.output, hb.size, fun i hi _ => hb.block i hi⟩ (by
    cases he : v.ownBlock with
    | none => exact .inl rfl
    | some b => exact .inr (by simp))
/-- a row of pairs that the call owns: the first m texts are copied (they lie from n on), the others are the old ones -/
structure PrL {α : Type} (f : α → Value) (l : List (α × List UInt8)) (E base n lo hi : Nat) (v : Value) (m : Nat) (X : World) : Prop where
  top : n ≤ X.heap.size
  low : base ≤ n
  le : hi ≤ base
  ex : ∃ ss : List Sl3, ss.length = l.length ∧ X.ownsRow base E 2 v l.length (pairCells ((l.map fun p => f p.1).zip ss)) ∧ (∀ k, v.ownBlock = some k → k < n) ∧
    (∀ i (h : i < l.length) (h' : i < ss.length), i < m → TxI n X.heap.size X ss[i] l[i].2) ∧ ∀ i (h : i < l.length) (h' : i < ss.length), m ≤ i → TxI lo hi X ss[i] l[i].2
section
variable {α : Type} {f : α → Value} {l : List (α × List UInt8)} {E base n lo hi m : Nat} {v : Value} {X : World}
theorem PrL.below {X' : World} (h : PrL f l E base n lo hi v m X) (hb : Below X.heap.size X X') : PrL f l E base n lo hi v m X' := by
  obtain ⟨ss, h1, h2, h3, h4, h5⟩ := h.ex
  have hs := hb.size
  have ht := h.top
  have hl := h.low
  have hle := h.le
  refine ⟨by omega, h.low, h.le, ss, h1, own_below h2 hb, h3, fun i a b c => ((h4 i a b c).keep (KeepI.below hb (Nat.le_refl _))).wide (Nat.le_refl _) hs, fun i a b c => (h5 i a b c).keep (KeepI.below hb (by omega))⟩
theorem pairs_set : ∀ (fv : List Value) (ss : List Sl3) (i : Nat) (x : Sl3), i < fv.length → i < ss.length → pairCells (fv.zip (ss.set i x)) = (pairCells (fv.zip ss)).set (i * 2 + 1) x.v
  | [], _, _, _, h, _ => by simp at h
  | _, [], _, _, _, h => by simp at h
  | a :: fv, s :: ss, 0, x, _, _ => by simp [pairCells]
  | a :: fv, s :: ss, i + 1, x, h, h' => by
    have := pairs_set fv ss i x (by simpa using h) (by simpa using h')
    simp only [pairCells, List.set_cons_succ, List.zip_cons_cons, List.map_cons, List.flatten_cons] at this ⊢
    rw [this, show (i + 1) * 2 + 1 = (i * 2 + 1) + 1 + 1 by omega]
    rfl
/-- where the m-th text stands -/
theorem PrL.at (h : PrL f l E base n lo hi v m X) (hm : m < l.length) : ∃ (g cap : Nat) (s : Sl3), v = .slice (some ⟨g, 0, none⟩) l.length cap ∧ base ≤ g ∧ g < n ∧ X.cell? ⟨g, m * 2 + 1, none⟩ = some s.v ∧ X.frozen? ⟨g, m * 2 + 1, none⟩ = false ∧ TxI lo hi X s (l[m]).2 := by
  obtain ⟨ss, h1, h2, h3, h4, h5⟩ := h.ex
  rcases h2.2 with ⟨rfl, h0⟩ | ⟨g, cap, cur, rfl, hb, hg, hnc, _⟩
  · omega
  · have hm' : m < ss.length := by omega
    refine ⟨g, cap, ss[m], rfl, hb, h3 g rfl, ?_, h2.frozenAt _, h5 m hm hm' (Nat.le_refl _)⟩
    rw [h2.cellAt _ (by omega)]
    have := (pairs_get ((l.map fun p => f p.1).zip ss) m (by simp; omega)).2
    rw [this]
    simp
/-- the m-th text is copied -/
theorem PrL.put {g cap : Nat} {Y : World} {s : Sl3} (h : PrL f l E base n lo hi (.slice (some ⟨g, 0, none⟩) l.length cap) m X) (hm : m < l.length) (hb : Below X.heap.size X Y) (hs : TxI X.heap.size Y.heap.size Y s (l[m]).2) :
    PrL f l E base n lo hi (.slice (some ⟨g, 0, none⟩) l.length cap) (m + 1) (Y.setCell ⟨g, m * 2 + 1, none⟩ s.v) := by
  obtain ⟨ss, h1, h2, h3, h4, h5⟩ := (h.below hb).ex
  have hg : base ≤ g := by
    rcases h2.2 with ⟨h', _⟩ | ⟨g', _, _, h', hb', _⟩
    · simp at h'
    · simp at h'; omega
  have hgn := h3 g rfl
  have ht := h.top
  have hXY := hb.size
  have hle := h.le
  have hlow := h.low
  have hsz : (Y.setCell ⟨g, m * 2 + 1, none⟩ s.v).heap.size = Y.heap.size := by simp
  have hO : Only (fun k => k = g) Y (Y.setCell ⟨g, m * 2 + 1, none⟩ s.v) := (Only.refl (fun k => k = g) Y).setCell (p := ⟨g, m * 2 + 1, none⟩) rfl _
  have kn : KeepI n Y.heap.size Y (Y.setCell ⟨g, m * 2 + 1, none⟩ s.v) := KeepI.only hO (Nat.le_refl _) (fun k h1 h2 => by omega)
  have kl : KeepI lo hi Y (Y.setCell ⟨g, m * 2 + 1, none⟩ s.v) := KeepI.only hO (by omega) (fun k h1 h2 => by omega)
  refine ⟨by rw [hsz]; omega, h.low, h.le, ss.set m s, by simpa using h1, ?_, h3, fun i a b c => ?_, fun i a b c => ?_⟩
  · rw [pairs_set _ _ _ _ (by simpa using hm) (by omega)]
    exact (h2.stored (m * 2 + 1) s.v).1
  · rw [hsz]
    by_cases hi : i = m
    · subst hi
      rw [List.getElem_set_self]
      exact (hs.wide (by omega) (Nat.le_refl _)).keep kn
    · rw [List.getElem_set_ne (fun e => hi e.symm)]
      exact (h4 i a (by simpa using b) (by omega)).keep kn
  · rw [List.getElem_set_ne (by omega)]
    exact (h5 i a (by simpa using b) (by omega)).keep kl
theorem PrL.done (h : PrL f l E base n lo hi v l.length X) (hs : l.length ≤ 1000000000000) : ∃ s : Sl3, v = s.v ∧ PrI f base X.heap.size X s l := by
  obtain ⟨ss, h1, h2, h3, h4, h5⟩ := h.ex
  obtain ⟨s, rfl, k1, k2, k3⟩ := cells_own h2
  exact ⟨s, rfl, k1, k2, by omega, ss, h1, k3, fun i a b => (h4 i a b a).wide h.low (Nat.le_refl _)⟩
/-- a row that is just copied -/
theorem PrL.start {W : World} {s : Sl3} {v : Value} {cs : List Value} (h : PrI f lo hi W s l) (hW : hi ≤ W.heap.size) (hb : Below W.heap.size W X)
    (hc : ∀ ss : List Sl3, ss.length = l.length → CellsI lo hi W s.a (pairCells ((l.map fun p => f p.1).zip ss)) → X.ownsRow W.heap.size E 2 v l.length (pairCells ((l.map fun p => f p.1).zip ss))) : PrL f l E W.heap.size X.heap.size lo hi v 0 X := by
  obtain ⟨h1, h2, h3, ss, h4, h5, h6⟩ := h
  have ho := hc ss h4 h5
  exact ⟨Nat.le_refl _, hb.size, hW, ss, h4, ho, fun k hk => (ho.lt k hk).2, fun i a b c => by omega, fun i a b c => (h6 i a b).keep (KeepI.below hb hW)⟩
end
theorem pairs_one {α : Type} {f : α → Value} (hf : ∀ a, (f a).oneCell' = true) : ∀ (l : List (α × List UInt8)) (ss : List Sl3), ∀ u ∈ pairCells ((l.map fun p => f p.1).zip ss), u.oneCell' = true
  | [], _, u, h => by simp [pairCells] at h
  | _ :: _, [], u, h => by simp [pairCells] at h
  | x :: l, s :: ss, u, h => by
    have ih := pairs_one hf l ss u
    simp only [pairCells, List.map_cons, List.zip_cons_cons, List.flatten_cons, List.mem_append, List.mem_cons, List.not_mem_nil, or_false] at h ih ⊢
    rcases h with (rfl | rfl) | h
    · exact hf _
    · rfl
    · exact ih h
theorem src_pr {α : Type} {f : α → Value} (hf : ∀ a, (f a).oneCell' = true) {lo hi : Nat} {W : World} {s : Sl3} {l : List (α × List UInt8)} (hn : s.n = l.length) (hs : l.length ≤ 1000000000000) {ss : List Sl3} (h4 : ss.length = l.length)
    (h5 : CellsI lo hi W s.a (pairCells ((l.map fun p => f p.1).zip ss))) : RowSrc W s.a s.n s.c 2 (pairCells ((l.map fun p => f p.1).zip ss)) := by
  have hl : (pairCells ((l.map fun p => f p.1).zip ss)).length = s.n * 2 := by rw [pairs_len]; simp; omega
  exact ⟨src_cells h5 hl (by decide), hl, pairs_one hf l ss, by rw [hn]; exact hs⟩
end Go.Proofs.YtepdfkgadigafaaGreatDoor
/-
  What lies in memory while a state is copied field by field: the box, the result's place, and the fields, old or new; of chapter 20. (Printed by gen_cpy0.py.)
  Conditions: as each theorem states them.
-/
namespace Go.Proofs.YtepdfkgadigafaaGreatDoor
open Go.RowKit
set_option linter.unusedVariables false
set_option linter.unusedSimpArgs false
/-- a field: new (from b on, below T), old (from lo to hi), or in progress -/
def TxD (d : Bool) (b T lo hi : Nat) (X : World) (c : Sl3) (t : List UInt8) : Prop := match d with | true => TxI b T X c t | false => TxI lo hi X c t
def BlD (d : Bool) (b T lo hi : Nat) (X : World) (c : Sl3) (t : List Bool) : Prop := match d with | true => BlI b T X c t | false => BlI lo hi X c t
def PrD {α : Type} (f : α → Value) (d : Option Bool) (b T lo hi : Nat) (X : World) (c : Sl3) (t : List (α × List UInt8)) : Prop := match d with | some true => PrI f b T X c t | some false => PrI f lo hi X c t | none => True
theorem TxD.keep {d : Bool} {b T T' lo hi : Nat} {X Y : World} {c : Sl3} {t : List UInt8} (h : TxD d b T lo hi X c t) (k1 : KeepI b T X Y) (k2 : KeepI lo hi X Y) (hT : T ≤ T') : TxD d b T' lo hi Y c t := by
  cases d
  · exact TxI.keep h k2
  · exact (TxI.keep h k1).wide (Nat.le_refl _) hT
theorem BlD.keep {d : Bool} {b T T' lo hi : Nat} {X Y : World} {c : Sl3} {t : List Bool} (h : BlD d b T lo hi X c t) (k1 : KeepI b T X Y) (k2 : KeepI lo hi X Y) (hT : T ≤ T') : BlD d b T' lo hi Y c t := by
  cases d
  · exact BlI.keep h k2
  · exact (BlI.keep h k1).wide (Nat.le_refl _) hT
theorem PrD.keep {α : Type} {f : α → Value} {d : Option Bool} {b T T' lo hi : Nat} {X Y : World} {c : Sl3} {t : List (α × List UInt8)} (h : PrD f d b T lo hi X c t) (k1 : KeepI b T X Y) (k2 : KeepI lo hi X Y) (hT : T ≤ T') : PrD f d b T' lo hi Y c t := by
  rcases d with _ | _ | _
  · trivial
  · exact PrI.keep h k2
  · exact (PrI.keep h k1).wide (Nat.le_refl _) hT

structure CF (w : World) (lo hi : Nat) (V : StV) (dpat dhold drest dout dplace dactive dlacks : Bool) (dwaits dfiles : Option Bool) (T : Nat) (cur : StC) (X : World) : Prop where
  b0 : Blk X w.heap.size 34 cur.cells
  b1 : Blk X (w.heap.size + 1) 34 zeroC.cells
  o : Below w.heap.size w X
  hw : hi ≤ w.heap.size
  bT : w.heap.size + 2 ≤ T
  top : T ≤ X.heap.size
  sc : cur.sc = V.sc
  pat : TxD dpat (w.heap.size + 2) T lo hi X cur.pat V.pat
  hold : TxD dhold (w.heap.size + 2) T lo hi X cur.hold V.hold
  rest : TxD drest (w.heap.size + 2) T lo hi X cur.rest V.rest
  out : TxD dout (w.heap.size + 2) T lo hi X cur.out V.out
  place : TxD dplace (w.heap.size + 2) T lo hi X cur.place V.place
  active : BlD dactive (w.heap.size + 2) T lo hi X cur.active V.active
  lacks : BlD dlacks (w.heap.size + 2) T lo hi X cur.lacks V.lacks
  waits : PrD kindV dwaits (w.heap.size + 2) T lo hi X cur.waits V.waits
  files : PrD strV dfiles (w.heap.size + 2) T lo hi X cur.files V.files

section
variable {w : World} {lo hi : Nat} {V : StV} {dpat dhold drest dout dplace dactive dlacks : Bool} {dwaits dfiles : Option Bool} {T : Nat} {cur : StC} {X : World}
theorem CF.below {Y : World} (h : CF w lo hi V dpat dhold drest dout dplace dactive dlacks dwaits dfiles T cur X) (hb : Below X.heap.size X Y) : CF w lo hi V dpat dhold drest dout dplace dactive dlacks dwaits dfiles T cur Y := by
  have k1 : KeepI (w.heap.size + 2) T X Y := KeepI.below hb h.top
  have k2 : KeepI lo hi X Y := KeepI.below hb (Nat.le_trans h.hw h.o.size)
  have hT := Nat.le_refl T
  exact ⟨h.b0.below hb, h.b1.below hb, h.o.trans (hb.mono h.o.size), h.hw, h.bT, Nat.le_trans h.top hb.size, h.sc, h.pat.keep k1 k2 hT, h.hold.keep k1 k2 hT, h.rest.keep k1 k2 hT, h.out.keep k1 k2 hT, h.place.keep k1 k2 hT, h.active.keep k1 k2 hT, h.lacks.keep k1 k2 hT, h.waits.keep k1 k2 hT, h.files.keep k1 k2 hT⟩
theorem CF.raise (h : CF w lo hi V dpat dhold drest dout dplace dactive dlacks dwaits dfiles T cur X) : CF w lo hi V dpat dhold drest dout dplace dactive dlacks dwaits dfiles X.heap.size cur X := by
  have k1 : KeepI (w.heap.size + 2) T X X := KeepI.refl _ _ _
  have k2 : KeepI lo hi X X := KeepI.refl _ _ _
  have hT := h.top
  exact ⟨h.b0, h.b1, h.o, h.hw, Nat.le_trans h.bT h.top, Nat.le_refl _, h.sc, h.pat.keep k1 k2 hT, h.hold.keep k1 k2 hT, h.rest.keep k1 k2 hT, h.out.keep k1 k2 hT, h.place.keep k1 k2 hT, h.active.keep k1 k2 hT, h.lacks.keep k1 k2 hT, h.waits.keep k1 k2 hT, h.files.keep k1 k2 hT⟩
theorem CF.other (h : CF w lo hi V dpat dhold drest dout dplace dactive dlacks dwaits dfiles T cur X) {g : Nat} (hg : T ≤ g) (j : Nat) (u : Value) : CF w lo hi V dpat dhold drest dout dplace dactive dlacks dwaits dfiles T cur (X.setCell ⟨g, j, none⟩ u) := by
  have ho : Only (fun k => k = g) X (X.setCell ⟨g, j, none⟩ u) := (Only.refl (fun k => k = g) X).setCell (p := ⟨g, j, none⟩) rfl _
  have h1 := h.hw
  have h2 := h.bT
  have h3 := h.top
  have k1 : KeepI (w.heap.size + 2) T X (X.setCell ⟨g, j, none⟩ u) := KeepI.only ho h.top (fun k _ _ => by omega)
  have k2 : KeepI lo hi X (X.setCell ⟨g, j, none⟩ u) := KeepI.only ho (by omega) (fun k _ _ => by omega)
  have hT := Nat.le_refl T
  exact ⟨h.b0.set_other (p := ⟨g, j, none⟩) (by show g ≠ _; omega) _, h.b1.set_other (p := ⟨g, j, none⟩) (by show g ≠ _; omega) _, bl_setCell h.o (by show _ ≤ g; omega) _, h.hw, h.bT, by simpa using h.top, h.sc, h.pat.keep k1 k2 hT, h.hold.keep k1 k2 hT, h.rest.keep k1 k2 hT, h.out.keep k1 k2 hT, h.place.keep k1 k2 hT, h.active.keep k1 k2 hT, h.lacks.keep k1 k2 hT, h.waits.keep k1 k2 hT, h.files.keep k1 k2 hT⟩
theorem CF.keep0 (h : CF w lo hi V dpat dhold drest dout dplace dactive dlacks dwaits dfiles T cur X) (j : Nat) (u : Value) : KeepI (w.heap.size + 2) T X (X.setCell ⟨w.heap.size, j, none⟩ u) ∧ KeepI lo hi X (X.setCell ⟨w.heap.size, j, none⟩ u) ∧ Blk (X.setCell ⟨w.heap.size, j, none⟩ u) (w.heap.size + 1) 34 zeroC.cells ∧ Below w.heap.size w (X.setCell ⟨w.heap.size, j, none⟩ u) := by
  have ho : Only (fun k => k = w.heap.size) X (X.setCell ⟨w.heap.size, j, none⟩ u) := (Only.refl (fun k => k = w.heap.size) X).setCell (p := ⟨w.heap.size, j, none⟩) rfl _
  have h1 := h.hw
  have h2 := h.bT
  have h3 := h.top
  exact ⟨KeepI.only ho h.top (fun k _ _ => by omega), KeepI.only ho (by omega) (fun k _ _ => by omega), h.b1.set_other (p := ⟨w.heap.size, j, none⟩) (by show w.heap.size ≠ _; omega) _, bl_setCell h.o (by show _ ≤ w.heap.size; omega) _⟩
theorem CF.put_pat (h : CF w lo hi V dpat dhold drest dout dplace dactive dlacks dwaits dfiles T cur X) (x : Sl3) (hx : TxI (w.heap.size + 2) T X x V.pat) : CF w lo hi V true dhold drest dout dplace dactive dlacks dwaits dfiles T { cur with pat := x } (X.setCell ⟨w.heap.size, 0, none⟩ x.v) := by
  obtain ⟨k1, k2, hb1, ho⟩ := h.keep0 0 x.v
  have hT := Nat.le_refl T
  exact ⟨h.b0.set 0 _, hb1, ho, h.hw, h.bT, by simpa using h.top, h.sc, hx.keep k1, h.hold.keep k1 k2 hT, h.rest.keep k1 k2 hT, h.out.keep k1 k2 hT, h.place.keep k1 k2 hT, h.active.keep k1 k2 hT, h.lacks.keep k1 k2 hT, h.waits.keep k1 k2 hT, h.files.keep k1 k2 hT⟩
theorem CF.put_hold (h : CF w lo hi V dpat dhold drest dout dplace dactive dlacks dwaits dfiles T cur X) (x : Sl3) (hx : TxI (w.heap.size + 2) T X x V.hold) : CF w lo hi V dpat true drest dout dplace dactive dlacks dwaits dfiles T { cur with hold := x } (X.setCell ⟨w.heap.size, 1, none⟩ x.v) := by
  obtain ⟨k1, k2, hb1, ho⟩ := h.keep0 1 x.v
  have hT := Nat.le_refl T
  exact ⟨h.b0.set 1 _, hb1, ho, h.hw, h.bT, by simpa using h.top, h.sc, h.pat.keep k1 k2 hT, hx.keep k1, h.rest.keep k1 k2 hT, h.out.keep k1 k2 hT, h.place.keep k1 k2 hT, h.active.keep k1 k2 hT, h.lacks.keep k1 k2 hT, h.waits.keep k1 k2 hT, h.files.keep k1 k2 hT⟩
theorem CF.put_rest (h : CF w lo hi V dpat dhold drest dout dplace dactive dlacks dwaits dfiles T cur X) (x : Sl3) (hx : TxI (w.heap.size + 2) T X x V.rest) : CF w lo hi V dpat dhold true dout dplace dactive dlacks dwaits dfiles T { cur with rest := x } (X.setCell ⟨w.heap.size, 10, none⟩ x.v) := by
  obtain ⟨k1, k2, hb1, ho⟩ := h.keep0 10 x.v
  have hT := Nat.le_refl T
  exact ⟨h.b0.set 10 _, hb1, ho, h.hw, h.bT, by simpa using h.top, h.sc, h.pat.keep k1 k2 hT, h.hold.keep k1 k2 hT, hx.keep k1, h.out.keep k1 k2 hT, h.place.keep k1 k2 hT, h.active.keep k1 k2 hT, h.lacks.keep k1 k2 hT, h.waits.keep k1 k2 hT, h.files.keep k1 k2 hT⟩
theorem CF.put_out (h : CF w lo hi V dpat dhold drest dout dplace dactive dlacks dwaits dfiles T cur X) (x : Sl3) (hx : TxI (w.heap.size + 2) T X x V.out) : CF w lo hi V dpat dhold drest true dplace dactive dlacks dwaits dfiles T { cur with out := x } (X.setCell ⟨w.heap.size, 11, none⟩ x.v) := by
  obtain ⟨k1, k2, hb1, ho⟩ := h.keep0 11 x.v
  have hT := Nat.le_refl T
  exact ⟨h.b0.set 11 _, hb1, ho, h.hw, h.bT, by simpa using h.top, h.sc, h.pat.keep k1 k2 hT, h.hold.keep k1 k2 hT, h.rest.keep k1 k2 hT, hx.keep k1, h.place.keep k1 k2 hT, h.active.keep k1 k2 hT, h.lacks.keep k1 k2 hT, h.waits.keep k1 k2 hT, h.files.keep k1 k2 hT⟩
theorem CF.put_place (h : CF w lo hi V dpat dhold drest dout dplace dactive dlacks dwaits dfiles T cur X) (x : Sl3) (hx : TxI (w.heap.size + 2) T X x V.place) : CF w lo hi V dpat dhold drest dout true dactive dlacks dwaits dfiles T { cur with place := x } (X.setCell ⟨w.heap.size, 13, none⟩ x.v) := by
  obtain ⟨k1, k2, hb1, ho⟩ := h.keep0 13 x.v
  have hT := Nat.le_refl T
  exact ⟨h.b0.set 13 _, hb1, ho, h.hw, h.bT, by simpa using h.top, h.sc, h.pat.keep k1 k2 hT, h.hold.keep k1 k2 hT, h.rest.keep k1 k2 hT, h.out.keep k1 k2 hT, hx.keep k1, h.active.keep k1 k2 hT, h.lacks.keep k1 k2 hT, h.waits.keep k1 k2 hT, h.files.keep k1 k2 hT⟩
theorem CF.put_active (h : CF w lo hi V dpat dhold drest dout dplace dactive dlacks dwaits dfiles T cur X) (x : Sl3) (hx : BlI (w.heap.size + 2) T X x V.active) : CF w lo hi V dpat dhold drest dout dplace true dlacks dwaits dfiles T { cur with active := x } (X.setCell ⟨w.heap.size, 23, none⟩ x.v) := by
  obtain ⟨k1, k2, hb1, ho⟩ := h.keep0 23 x.v
  have hT := Nat.le_refl T
  exact ⟨h.b0.set 23 _, hb1, ho, h.hw, h.bT, by simpa using h.top, h.sc, h.pat.keep k1 k2 hT, h.hold.keep k1 k2 hT, h.rest.keep k1 k2 hT, h.out.keep k1 k2 hT, h.place.keep k1 k2 hT, hx.keep k1, h.lacks.keep k1 k2 hT, h.waits.keep k1 k2 hT, h.files.keep k1 k2 hT⟩
theorem CF.put_lacks (h : CF w lo hi V dpat dhold drest dout dplace dactive dlacks dwaits dfiles T cur X) (x : Sl3) (hx : BlI (w.heap.size + 2) T X x V.lacks) : CF w lo hi V dpat dhold drest dout dplace dactive true dwaits dfiles T { cur with lacks := x } (X.setCell ⟨w.heap.size, 26, none⟩ x.v) := by
  obtain ⟨k1, k2, hb1, ho⟩ := h.keep0 26 x.v
  have hT := Nat.le_refl T
  exact ⟨h.b0.set 26 _, hb1, ho, h.hw, h.bT, by simpa using h.top, h.sc, h.pat.keep k1 k2 hT, h.hold.keep k1 k2 hT, h.rest.keep k1 k2 hT, h.out.keep k1 k2 hT, h.place.keep k1 k2 hT, h.active.keep k1 k2 hT, hx.keep k1, h.waits.keep k1 k2 hT, h.files.keep k1 k2 hT⟩
theorem CF.put_waits (h : CF w lo hi V dpat dhold drest dout dplace dactive dlacks dwaits dfiles T cur X) (x : Sl3) (hx : PrI kindV (w.heap.size + 2) T X x V.waits) : CF w lo hi V dpat dhold drest dout dplace dactive dlacks (some true) dfiles T { cur with waits := x } (X.setCell ⟨w.heap.size, 24, none⟩ x.v) := by
  obtain ⟨k1, k2, hb1, ho⟩ := h.keep0 24 x.v
  have hT := Nat.le_refl T
  exact ⟨h.b0.set 24 _, hb1, ho, h.hw, h.bT, by simpa using h.top, h.sc, h.pat.keep k1 k2 hT, h.hold.keep k1 k2 hT, h.rest.keep k1 k2 hT, h.out.keep k1 k2 hT, h.place.keep k1 k2 hT, h.active.keep k1 k2 hT, h.lacks.keep k1 k2 hT, hx.keep k1, h.files.keep k1 k2 hT⟩
theorem CF.put_files (h : CF w lo hi V dpat dhold drest dout dplace dactive dlacks dwaits dfiles T cur X) (x : Sl3) (hx : PrI strV (w.heap.size + 2) T X x V.files) : CF w lo hi V dpat dhold drest dout dplace dactive dlacks dwaits (some true) T { cur with files := x } (X.setCell ⟨w.heap.size, 25, none⟩ x.v) := by
  obtain ⟨k1, k2, hb1, ho⟩ := h.keep0 25 x.v
  have hT := Nat.le_refl T
  exact ⟨h.b0.set 25 _, hb1, ho, h.hw, h.bT, by simpa using h.top, h.sc, h.pat.keep k1 k2 hT, h.hold.keep k1 k2 hT, h.rest.keep k1 k2 hT, h.out.keep k1 k2 hT, h.place.keep k1 k2 hT, h.active.keep k1 k2 hT, h.lacks.keep k1 k2 hT, h.waits.keep k1 k2 hT, hx.keep k1⟩
theorem CF.hole_waits (h : CF w lo hi V dpat dhold drest dout dplace dactive dlacks dwaits dfiles T cur X) (x : Sl3) : CF w lo hi V dpat dhold drest dout dplace dactive dlacks none dfiles T { cur with waits := x } (X.setCell ⟨w.heap.size, 24, none⟩ x.v) := by
  obtain ⟨k1, k2, hb1, ho⟩ := h.keep0 24 x.v
  have hT := Nat.le_refl T
  exact ⟨h.b0.set 24 _, hb1, ho, h.hw, h.bT, by simpa using h.top, h.sc, h.pat.keep k1 k2 hT, h.hold.keep k1 k2 hT, h.rest.keep k1 k2 hT, h.out.keep k1 k2 hT, h.place.keep k1 k2 hT, h.active.keep k1 k2 hT, h.lacks.keep k1 k2 hT, trivial, h.files.keep k1 k2 hT⟩
theorem CF.fill_waits (h : CF w lo hi V dpat dhold drest dout dplace dactive dlacks none dfiles T cur X) (hx : PrI kindV (w.heap.size + 2) X.heap.size X cur.waits V.waits) : CF w lo hi V dpat dhold drest dout dplace dactive dlacks (some true) dfiles X.heap.size cur X := by
  have k1 : KeepI (w.heap.size + 2) T X X := KeepI.refl _ _ _
  have k2 : KeepI lo hi X X := KeepI.refl _ _ _
  have hT := h.top
  exact ⟨h.b0, h.b1, h.o, h.hw, Nat.le_trans h.bT h.top, Nat.le_refl _, h.sc, h.pat.keep k1 k2 hT, h.hold.keep k1 k2 hT, h.rest.keep k1 k2 hT, h.out.keep k1 k2 hT, h.place.keep k1 k2 hT, h.active.keep k1 k2 hT, h.lacks.keep k1 k2 hT, hx, h.files.keep k1 k2 hT⟩
theorem CF.hole_files (h : CF w lo hi V dpat dhold drest dout dplace dactive dlacks dwaits dfiles T cur X) (x : Sl3) : CF w lo hi V dpat dhold drest dout dplace dactive dlacks dwaits none T { cur with files := x } (X.setCell ⟨w.heap.size, 25, none⟩ x.v) := by
  obtain ⟨k1, k2, hb1, ho⟩ := h.keep0 25 x.v
  have hT := Nat.le_refl T
  exact ⟨h.b0.set 25 _, hb1, ho, h.hw, h.bT, by simpa using h.top, h.sc, h.pat.keep k1 k2 hT, h.hold.keep k1 k2 hT, h.rest.keep k1 k2 hT, h.out.keep k1 k2 hT, h.place.keep k1 k2 hT, h.active.keep k1 k2 hT, h.lacks.keep k1 k2 hT, h.waits.keep k1 k2 hT, trivial⟩
theorem CF.fill_files (h : CF w lo hi V dpat dhold drest dout dplace dactive dlacks dwaits none T cur X) (hx : PrI strV (w.heap.size + 2) X.heap.size X cur.files V.files) : CF w lo hi V dpat dhold drest dout dplace dactive dlacks dwaits (some true) X.heap.size cur X := by
  have k1 : KeepI (w.heap.size + 2) T X X := KeepI.refl _ _ _
  have k2 : KeepI lo hi X X := KeepI.refl _ _ _
  have hT := h.top
  exact ⟨h.b0, h.b1, h.o, h.hw, Nat.le_trans h.bT h.top, Nat.le_refl _, h.sc, h.pat.keep k1 k2 hT, h.hold.keep k1 k2 hT, h.rest.keep k1 k2 hT, h.out.keep k1 k2 hT, h.place.keep k1 k2 hT, h.active.keep k1 k2 hT, h.lacks.keep k1 k2 hT, h.waits.keep k1 k2 hT, hx⟩
theorem CF.end (h : CF w lo hi V true true true true true true true (some true) (some true) T cur X) : SIn (w.heap.size + 2) T cur V X :=
  ⟨h.top, h.sc, h.pat, h.hold, h.rest, h.out, h.place, h.active, h.lacks, h.waits, h.files⟩
theorem CF.start {s : StC} (h : SIn lo hi s V w) : CF w lo hi V false false false false false false false (some false) (some false) (w.heap.size + 2) s ((w.alloc (.cells s.cells.toArray 34)).alloc (.cells zeroC.cells.toArray 34)) := by
  have hb : Below w.heap.size w ((w.alloc (.cells s.cells.toArray 34)).alloc (.cells zeroC.cells.toArray 34)) := bl_alloc (bl_alloc (Below.refl _ _) _) _
  have h2 := h.below hb
  exact ⟨(Blk.new w _ _).alloc _, by simpa using Blk.new (w.alloc (.cells s.cells.toArray 34)) 34 zeroC.cells, hb, h.top, Nat.le_refl _, by simp, h.sc, h2.pat, h2.hold, h2.rest, h2.out, h2.place, h2.active, h2.lacks, h2.waits, h2.files⟩
end
/-- a row in progress, and a store into the box -/
theorem PrL.box {α : Type} {f : α → Value} {l : List (α × List UInt8)} {E base n lo hi m : Nat} {v : Value} {X : World} (h : PrL f l E base n lo hi v m X) {b : Nat} (hb : b < base) (hb2 : hi ≤ b) (j : Nat) (u : Value) : PrL f l E base n lo hi v m (X.setCell ⟨b, j, none⟩ u) := by
  obtain ⟨ss, h1, h2, h3, h4, h5⟩ := h.ex
  have ht := h.top
  have hl := h.low
  have ho : Only (fun k => k = b) X (X.setCell ⟨b, j, none⟩ u) := (Only.refl (fun k => k = b) X).setCell (p := ⟨b, j, none⟩) rfl _
  have hsz : (X.setCell ⟨b, j, none⟩ u).heap.size = X.heap.size := by simp
  refine ⟨by rw [hsz]; exact ht, hl, h.le, ss, h1, h2.kept (row := some b) ⟨ho.os, ho.tape, ho.output, ho.size, fun i hi hne => ho.block i hi (fun e => hne (by rw [e]))⟩ ?_, h3, fun i a c d => ?_, fun i a c d => (h5 i a c d).keep (KeepI.only ho (by omega) (fun k _ _ => by omega))⟩
  · cases he : v.ownBlock with
    | none => exact .inl rfl
    | some g => exact .inr (fun e => by have := (h2.lt g he).1; have e2 := Option.some.inj e; omega)
  · rw [hsz]
    exact (h4 i a c d).keep (KeepI.only ho (Nat.le_refl _) (fun k _ _ => by omega))
end Go.Proofs.YtepdfkgadigafaaGreatDoor
/-
  Copies of a state's rows, as contracts over the rows; the box's cells; of chapter 20. (Printed by gen_cpy1.py.)
  Conditions: as each theorem states them.
-/
namespace Go.Proofs.YtepdfkgadigafaaGreatDoor
open Go.RowKit
set_option linter.unusedVariables false
set_option linter.unusedSimpArgs false
theorem clone_tx (w : World) {lo hi : Nat} {a : Option Addr} {n c : Nat} {t : List UInt8} (h : TxI lo hi w ⟨a, n, c⟩ t) (hs : t.length ≤ 1000000000000) :
    Calls Tryz.prog 29 #[.slice a n c] w fun e w' => ∃ a' n' c', e = .returned (.slice a' n' c') ∧ TxI w.heap.size w'.heap.size w' ⟨a', n', c'⟩ t ∧ Below w.heap.size w w' := by
  refine (clone_bytes w a n c _ (src_tx h hs)).mono ?_
  rintro e w' ⟨v, rfl, ho, hb⟩
  have hn : n = t.length := h.1
  rw [hn] at ho
  obtain ⟨⟨a', n', c'⟩, rfl, hx⟩ := tx_own ho hs
  exact ⟨a', n', c', rfl, hx, hb⟩
theorem rcopy_tx (w : World) {lo hi : Nat} {a : Option Addr} {n c : Nat} {t : List UInt8} (h : TxI lo hi w ⟨a, n, c⟩ t) (hs : t.length ≤ 1000000000000) :
    Calls Tryz.prog 19 #[.slice a n c] w fun e w' => ∃ a' n' c', e = .returned (.slice a' n' c') ∧ TxI w.heap.size w'.heap.size w' ⟨a', n', c'⟩ t ∧ Below w.heap.size w w' := by
  refine (rcopy_bytes w a n c _ (src_tx h hs)).mono ?_
  rintro e w' ⟨v, rfl, ho, hb⟩
  have hn : n = t.length := h.1
  rw [hn] at ho
  obtain ⟨⟨a', n', c'⟩, rfl, hx⟩ := tx_own ho hs
  exact ⟨a', n', c', rfl, hx, hb⟩
theorem clone_bl (w : World) {lo hi : Nat} {a : Option Addr} {n c : Nat} {t : List Bool} (h : BlI lo hi w ⟨a, n, c⟩ t) (hs : t.length ≤ 1000000000000) :
    Calls Tryz.prog 45 #[.slice a n c] w fun e w' => ∃ a' n' c', e = .returned (.slice a' n' c') ∧ BlI w.heap.size w'.heap.size w' ⟨a', n', c'⟩ t ∧ Below w.heap.size w w' := by
  refine (clone_bools w a n c _ (src_bl h hs)).mono ?_
  rintro e w' ⟨v, rfl, ho, hb⟩
  have hn : n = t.length := h.1
  rw [hn] at ho
  obtain ⟨⟨a', n', c'⟩, rfl, hx⟩ := bl_own ho hs
  exact ⟨a', n', c', rfl, hx, hb⟩
theorem strs_one' (x : List UInt8) : (strV x).oneCell' = true := rfl
theorem kinds_one (x : Int) : (kindV x).oneCell' = true := rfl

theorem clone_pr_waits (w : World) {lo hi : Nat} {a : Option Addr} {n c : Nat} {t : List (Int × List UInt8)} (h : PrI kindV lo hi w ⟨a, n, c⟩ t) (hW : hi ≤ w.heap.size) (hs : t.length ≤ 1000000000000) :
    Calls Tryz.prog 46 #[.slice a n c] w fun e w' => ∃ a' c', e = .returned (.slice a' t.length c') ∧ PrL kindV t 52 w.heap.size w'.heap.size lo hi (.slice a' t.length c') 0 w' ∧ Below w.heap.size w w' := by
  have h' := h
  obtain ⟨h1, h2, h3, ss, h4, h5, h6⟩ := h
  have hn : n = t.length := h1
  refine (clone_waits w a n c _ (src_pr (s := ⟨a, n, c⟩) kinds_one h1 hs h4 h5)).mono ?_
  rintro e w' ⟨v, rfl, ho, hb⟩
  rw [hn] at ho
  obtain ⟨⟨a', n', c'⟩, rfl, hx, _⟩ := cells_own ho
  have hx : n' = t.length := hx
  subst hx
  exact ⟨a', c', rfl, ⟨Nat.le_refl _, hb.size, hW, ss, h4, ho, fun k hk => (ho.lt k hk).2, fun i a b c => by omega, fun i a b => (fun _ => (h6 i a b).keep (KeepI.below hb hW))⟩, hb⟩

theorem clone_pr_files (w : World) {lo hi : Nat} {a : Option Addr} {n c : Nat} {t : List (List UInt8 × List UInt8)} (h : PrI strV lo hi w ⟨a, n, c⟩ t) (hW : hi ≤ w.heap.size) (hs : t.length ≤ 1000000000000) :
    Calls Tryz.prog 72 #[.slice a n c] w fun e w' => ∃ a' c', e = .returned (.slice a' t.length c') ∧ PrL strV t 50 w.heap.size w'.heap.size lo hi (.slice a' t.length c') 0 w' ∧ Below w.heap.size w w' := by
  have h' := h
  obtain ⟨h1, h2, h3, ss, h4, h5, h6⟩ := h
  have hn : n = t.length := h1
  refine (clone_files w a n c _ (src_pr (s := ⟨a, n, c⟩) strs_one' h1 hs h4 h5)).mono ?_
  rintro e w' ⟨v, rfl, ho, hb⟩
  rw [hn] at ho
  obtain ⟨⟨a', n', c'⟩, rfl, hx, _⟩ := cells_own ho
  have hx : n' = t.length := hx
  subst hx
  exact ⟨a', c', rfl, ⟨Nat.le_refl _, hb.size, hW, ss, h4, ho, fun k hk => (ho.lt k hk).2, fun i a b c => by omega, fun i a b => (fun _ => (h6 i a b).keep (KeepI.below hb hW))⟩, hb⟩

theorem PrL.at' {α : Type} {f : α → Value} {l : List (α × List UInt8)} {E base n lo hi m L c : Nat} {a : Option Addr} {X : World} (h : PrL f l E base n lo hi (.slice a L c) m X) (hm : m < l.length) :
    ∃ (g : Nat) (s : Sl3), a = some ⟨g, 0, none⟩ ∧ base ≤ g ∧ g < n ∧ X.cell? ⟨g, m * 2 + 1, none⟩ = some (.slice s.a s.n s.c) ∧ X.frozen? ⟨g, m * 2 + 1, none⟩ = false ∧ TxI lo hi X s (l[m]).2 := by
  obtain ⟨g, cap, s, e, h1, h2, h3, h4, h5⟩ := h.at hm
  cases e
  exact ⟨g, s, rfl, h1, h2, h3, h4, h5⟩
theorem PrL.put' {α : Type} {f : α → Value} {l : List (α × List UInt8)} {E base n lo hi m L c g : Nat} {X Y : World} {s : Sl3} (hL : l.length = L) (h : PrL f l E base n lo hi (.slice (some ⟨g, 0, none⟩) L c) m X) (hm : m < l.length) (hb : Below X.heap.size X Y) (hs : TxI X.heap.size Y.heap.size Y s (l[m]).2) :
    PrL f l E base n lo hi (.slice (some ⟨g, 0, none⟩) L c) (m + 1) (Y.setCell ⟨g, m * 2 + 1, none⟩ s.v) := by
  subst hL
  exact h.put hm hb hs
theorem PrL.done' {α : Type} {f : α → Value} {l : List (α × List UInt8)} {E base n lo hi L c : Nat} {a : Option Addr} {X : World} (hL : l.length = L) (h : PrL f l E base n lo hi (.slice a L c) L X) (hs : l.length ≤ 1000000000000) : PrI f base X.heap.size X ⟨a, L, c⟩ l := by
  subst hL
  obtain ⟨⟨a', n', c'⟩, e, hx⟩ := h.done hs
  cases e
  exact hx

section
variable {w : World} {lo hi : Nat} {V : StV} {dpat dhold drest dout dplace dactive dlacks : Bool} {dwaits dfiles : Option Bool} {T : Nat} {cur : StC} {X : World}
theorem CF.ld_pat (h : CF w lo hi V dpat dhold drest dout dplace dactive dlacks dwaits dfiles T cur X) : ∃ a n c, X.cell? ⟨w.heap.size, 0, none⟩ = some (.slice a n c) ∧ X.frozen? ⟨w.heap.size, 0, none⟩ = false ∧ TxD dpat (w.heap.size + 2) T lo hi X ⟨a, n, c⟩ V.pat :=
  ⟨cur.pat.a, cur.pat.n, cur.pat.c, by rw [h.b0.cell]; rfl, h.b0.free _, h.pat⟩
theorem CF.ld_hold (h : CF w lo hi V dpat dhold drest dout dplace dactive dlacks dwaits dfiles T cur X) : ∃ a n c, X.cell? ⟨w.heap.size, 1, none⟩ = some (.slice a n c) ∧ X.frozen? ⟨w.heap.size, 1, none⟩ = false ∧ TxD dhold (w.heap.size + 2) T lo hi X ⟨a, n, c⟩ V.hold :=
  ⟨cur.hold.a, cur.hold.n, cur.hold.c, by rw [h.b0.cell]; rfl, h.b0.free _, h.hold⟩
theorem CF.ld_rest (h : CF w lo hi V dpat dhold drest dout dplace dactive dlacks dwaits dfiles T cur X) : ∃ a n c, X.cell? ⟨w.heap.size, 10, none⟩ = some (.slice a n c) ∧ X.frozen? ⟨w.heap.size, 10, none⟩ = false ∧ TxD drest (w.heap.size + 2) T lo hi X ⟨a, n, c⟩ V.rest :=
  ⟨cur.rest.a, cur.rest.n, cur.rest.c, by rw [h.b0.cell]; rfl, h.b0.free _, h.rest⟩
theorem CF.ld_out (h : CF w lo hi V dpat dhold drest dout dplace dactive dlacks dwaits dfiles T cur X) : ∃ a n c, X.cell? ⟨w.heap.size, 11, none⟩ = some (.slice a n c) ∧ X.frozen? ⟨w.heap.size, 11, none⟩ = false ∧ TxD dout (w.heap.size + 2) T lo hi X ⟨a, n, c⟩ V.out :=
  ⟨cur.out.a, cur.out.n, cur.out.c, by rw [h.b0.cell]; rfl, h.b0.free _, h.out⟩
theorem CF.ld_place (h : CF w lo hi V dpat dhold drest dout dplace dactive dlacks dwaits dfiles T cur X) : ∃ a n c, X.cell? ⟨w.heap.size, 13, none⟩ = some (.slice a n c) ∧ X.frozen? ⟨w.heap.size, 13, none⟩ = false ∧ TxD dplace (w.heap.size + 2) T lo hi X ⟨a, n, c⟩ V.place :=
  ⟨cur.place.a, cur.place.n, cur.place.c, by rw [h.b0.cell]; rfl, h.b0.free _, h.place⟩
theorem CF.ld_active (h : CF w lo hi V dpat dhold drest dout dplace dactive dlacks dwaits dfiles T cur X) : ∃ a n c, X.cell? ⟨w.heap.size, 23, none⟩ = some (.slice a n c) ∧ X.frozen? ⟨w.heap.size, 23, none⟩ = false ∧ BlD dactive (w.heap.size + 2) T lo hi X ⟨a, n, c⟩ V.active :=
  ⟨cur.active.a, cur.active.n, cur.active.c, by rw [h.b0.cell]; rfl, h.b0.free _, h.active⟩
theorem CF.ld_lacks (h : CF w lo hi V dpat dhold drest dout dplace dactive dlacks dwaits dfiles T cur X) : ∃ a n c, X.cell? ⟨w.heap.size, 26, none⟩ = some (.slice a n c) ∧ X.frozen? ⟨w.heap.size, 26, none⟩ = false ∧ BlD dlacks (w.heap.size + 2) T lo hi X ⟨a, n, c⟩ V.lacks :=
  ⟨cur.lacks.a, cur.lacks.n, cur.lacks.c, by rw [h.b0.cell]; rfl, h.b0.free _, h.lacks⟩
theorem CF.ld_waits (h : CF w lo hi V dpat dhold drest dout dplace dactive dlacks dwaits dfiles T cur X) : ∃ a n c, X.cell? ⟨w.heap.size, 24, none⟩ = some (.slice a n c) ∧ X.frozen? ⟨w.heap.size, 24, none⟩ = false ∧ PrD kindV dwaits (w.heap.size + 2) T lo hi X ⟨a, n, c⟩ V.waits :=
  ⟨cur.waits.a, cur.waits.n, cur.waits.c, by rw [h.b0.cell]; rfl, h.b0.free _, h.waits⟩
theorem CF.ld_files (h : CF w lo hi V dpat dhold drest dout dplace dactive dlacks dwaits dfiles T cur X) : ∃ a n c, X.cell? ⟨w.heap.size, 25, none⟩ = some (.slice a n c) ∧ X.frozen? ⟨w.heap.size, 25, none⟩ = false ∧ PrD strV dfiles (w.heap.size + 2) T lo hi X ⟨a, n, c⟩ V.files :=
  ⟨cur.files.a, cur.files.n, cur.files.c, by rw [h.b0.cell]; rfl, h.b0.free _, h.files⟩
end
end Go.Proofs.YtepdfkgadigafaaGreatDoor
