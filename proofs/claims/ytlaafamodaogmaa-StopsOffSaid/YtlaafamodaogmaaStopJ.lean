/-
  awake of chapter 28; of chapter 28.
  Conditions: as each theorem states them.
-/
import Derived.Test.YtlaafamodaogmaaStopE
namespace Go.Proofs.Ytlaafamodaogmaa
open Go.RowKit
set_option linter.unusedVariables false
set_option linter.unusedSimpArgs false
attribute [local go_sem ↓] load_st
open CM (Sv)
/-- the state at a line -/
def zl (n : Int) : StC := { z0 with line := n }
def vl (n : Int) : Sv := { v0 with line := n }
theorem zl_sv (w : World) (n : Int) : StSv w (zl n) (vl n) := ⟨rfl, rfl, rfl, rfl, .nil w, .nil w, .nil w, .nil w, rfl, rfl, rfl, rfl, rfl, rfl⟩
noncomputable def stStore2 (a : Addr) (v : Value) : Sem Unit := storeVar 34 a v
theorem store_st2 (a : Addr) (v : Value) : storeVar 34 a v = stStore2 a v := rfl
/-- a whole state's store -/
theorem stStore2_is {w : World} {g : Nat} {old C : List Value} (h : Blk w g 34 old) (hl : old.length = 27) (hC : C.length = 27) (h1 : ∀ u ∈ C, u.oneCell' = true) :
    ∃ w', (stStore2 ⟨g, 0, none⟩ (.agg C.toArray)).run Try.prog w = .ok () w' ∧ Blk w' g 34 C ∧ Only (fun k => k = g) w w' := by
  have := run_storeVar_mid (P := Try.prog) w g 0 34 C.toArray (fun j hj => ⟨by
    rw [Nat.zero_add, h.cell, List.getElem?_eq_getElem (by simp only [List.size_toArray] at hj; omega)]; rfl, by rw [Nat.zero_add]; exact h.free _⟩) (by simp only [List.size_toArray, hC]; kernel_rfl) (all_oneCell_toArray h1)
  refine ⟨_, this, ?_, only_setCells _ 0 w⟩
  simp only
  obtain ⟨c', h2, h3, _⟩ := Blk.setCells C 0 h
  have hc : c' = C := by
    apply List.ext_getElem?
    intro i
    by_cases hi : i < 27
    · have hr := World.rangeAt_setCells_same w g 0 C (fun j hj => ⟨by
        rw [Nat.zero_add, h.cell, List.getElem?_eq_getElem (by omega)]; rfl, by rw [Nat.zero_add]; exact h.free _⟩) i _ (List.getElem?_eq_getElem (by omega))
      rw [Nat.zero_add, h2.cell] at hr
      rw [hr, List.getElem?_eq_getElem]
    · rw [List.getElem?_eq_none (by omega), List.getElem?_eq_none (by omega)]
  rw [hc] at h2
  exact h2
theorem zl_one (n : Int) : ∀ u ∈ (zl n).cells, u.oneCell' = true := by
  intro u hu
  simp only [zl, z0, StC.cells, n3, Sl3.v, List.mem_cons, List.not_mem_nil, or_false] at hu
  rcases hu with rfl | rfl | rfl | rfl | rfl | rfl | rfl | rfl | rfl | rfl | rfl | rfl | rfl | rfl | rfl | rfl | rfl | rfl | rfl | rfl | rfl | rfl | rfl | rfl | rfl | rfl | rfl <;> rfl
attribute [local go_sem ↓] store_st2
set_option maxHeartbeats 4000000 in
set_option maxRecDepth 100000 in
theorem at_any (n : Int) (W : World) : Calls Try.prog 45 #[.int .i64 n] W fun e w' => e = .returned (.agg (zl n).cells.toArray) ∧ Below W.heap.size W w' := by
  go_enter Try.func45, Try.ntmps45
  go_upto_region 2 with fail
  have hA1 : Blk ((W.alloc (.cells z0.cells.toArray 34)).alloc (.cells z0.cells.toArray 34)) W.heap.size 34 z0.cells := (Blk.new W _ _).alloc _
  have hA2 : Blk ((W.alloc (.cells z0.cells.toArray 34)).alloc (.cells z0.cells.toArray 34)) (W.heap.size + 1) 34 z0.cells := by
    have := Blk.new (W.alloc (.cells z0.cells.toArray 34)) 34 z0.cells
    rw [size_alloc] at this; exact this
  have hb0 : Below W.heap.size W ((W.alloc (.cells z0.cells.toArray 34)).alloc (.cells z0.cells.toArray 34)) := bl_alloc (bl_alloc (Below.refl _ _) _) _
  have hw0 : ((W.alloc (.cells z0.cells.toArray 34)).alloc (.cells z0.cells.toArray 34)) = ((W.alloc (.cells z0.cells.toArray 34)).alloc (.cells z0.cells.toArray 34)) := rfl
  generalize hW1 : World.alloc (World.alloc W _) _ = W1
  have e1 : ((W.alloc (.cells z0.cells.toArray 34)).alloc (.cells z0.cells.toArray 34)) = W1 := hW1
  rw [e1] at hA1 hA2 hb0
  have x3 : W1.cell? ⟨W.heap.size + 1, 3, none⟩ = some (.int .i64 0) := hA2.cell 3
  have y3 : W1.frozen? ⟨W.heap.size + 1, 3, none⟩ = false := hA2.free 3
  have gl := hA2.lt
  have hA3 : Blk (W1.setCell ⟨W.heap.size + 1, 3, none⟩ (.int .i64 n)) (W.heap.size + 1) 34 (zl n).cells := hA2.set 3 _
  have hA4 : Blk (W1.setCell ⟨W.heap.size + 1, 3, none⟩ (.int .i64 n)) W.heap.size 34 z0.cells := hA1.set_other (p := ⟨W.heap.size + 1, 3, none⟩) (by show W.heap.size + 1 ≠ _; omega) _
  have hb4 : Below W.heap.size W (W1.setCell ⟨W.heap.size + 1, 3, none⟩ (.int .i64 n)) := bl_setCell hb0 (by show W.heap.size ≤ W.heap.size + 1; omega) _
  clear hw0 e1 hW1 hA1 hA2 hb0
  replace hA3 := Lib.hid hA3
  replace hA4 := Lib.hid hA4
  replace hb4 := Lib.hid hb4
  go_upto_region 3 with fail
  generalize World.setCell W1 _ _ = W2 at *
  obtain ⟨C, hC⟩ : ∃ C, (zl n).cells.toArray = C := ⟨_, rfl⟩
  have L1 := stLoad_is (zl n) hA3.out
  obtain ⟨W3, S1, hB3, hO3⟩ := stStore2_is hA4.out rfl (C := (zl n).cells) rfl (zl_one n)
  have L2 := stLoad_is (zl n) hB3
  rw [hC] at L1 S1 L2
  have hb3 := Lib.hid ((show Below W.heap.size W W3 from hb4.out.trans (Only.below hO3 (by have := hb4.out.size; omega) (fun k hk => by rw [hk]; exact Nat.le_refl _))))
  replace hC := Lib.hid hC
  clear hB3 hO3 hA3 hA4 x3 y3 gl
  go_wp2_with fail
  exact bodyPost_ret (v := .agg C) (by simp [results, Try.results45, ↓load_st, asAddr, L2, Result.andThen]) rfl ⟨by rw [hC.out], hb3.out⟩
end Go.Proofs.Ytlaafamodaogmaa
