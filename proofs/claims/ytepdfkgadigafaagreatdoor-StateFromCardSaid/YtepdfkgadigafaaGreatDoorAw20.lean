/-
  awake of chapter 20: the script p makes a job.
  Conditions: none.
-/
import Derived.Test.YtepdfkgadigafaaGreatDoorFst
namespace Go.Proofs.YtepdfkgadigafaaGreatDoor
open Go.RowKit
set_option linter.unusedVariables false
set_option linter.unusedSimpArgs false
attribute [local go_sem ↓] load_st store_st
theorem st_new9 (w : World) (s : StC) : ∃ w', (stStore ⟨w.heap.size, 0, none⟩ (.agg s.cells.toArray)).run Tryz.prog (w.alloc (.cells #[.slice none 0 0, .slice none 0 0, .bool false, .int .i64 0, .bool false, .int .i64 0, .int .i64 0, .int .i64 0, .int .i64 0, .int .i64 0, .slice none 0 0, .slice none 0 0, .bool false, .slice none 0 0, .bool false, .int .i64 0, .int .i64 0, .int .i64 0, .int .i64 0, .int .i64 0, .bool false, .bool false, .bool false, .slice none 0 0, .slice none 0 0, .slice none 0 0, .slice none 0 0] 34)) = .ok () w' ∧ Blk w' w.heap.size 34 s.cells ∧ Below w.heap.size w w' := by
  obtain ⟨w', h1, h2, h3⟩ := stStore_is s (w := w.alloc (.cells zeroC.cells.toArray 34)) (g := w.heap.size) (Blk.new w _ _) rfl
  exact ⟨w', h1, h2, Below.trans (bl_alloc (Below.refl _ _) _) (Only.below h3 (by simp) (fun i hi => by rw [hi]; exact Nat.le_refl _))⟩
set_option maxHeartbeats 4000000 in
set_option maxRecDepth 100000 in
theorem awake20 (w : World) : Calls Tryz.prog 15 #[] w fun e w' => e = .returned (.bool true) ∧ Below w.heap.size w w' := by
  have kc := fun (w : World) (C : Array Value) (n c : Nat) => Lib.run_convert_bytes_const (P := Tryz.prog) w 22 5 C n c Tryz.underlying22 Tryz.underlying5
  obtain ⟨W1, hW1⟩ : ∃ x, w.alloc (.cells #[.int .u8 112] 5 (1, 2)) = x := ⟨_, rfl⟩
  have hb1 : Below w.heap.size w W1 := by rw [← hW1]; exact bl_alloc (Below.refl _ _) _
  have hs1 : ByAt (fun _ => True) false W1 (some ⟨w.heap.size, 0, none⟩) pS := fun _ => by
    refine ⟨w.heap.size, 0, rfl, trivial, by rw [← hW1]; simp, fun h => (Bool.false_ne_true h).elim, fun i hi => ?_⟩
    obtain rfl : i = 0 := by have : i < 1 := hi; omega
    rw [← hW1]
    have := heap_alloc_new w (.cells #[.int .u8 112] 5 (1, 2))
    simp only [World.cell?]
    rw [this]
    rfl
  have hnw := Lib.hid (new_p W1 (some ⟨w.heap.size, 0, none⟩) 1 hs1)
  have hfs := Lib.hid (fun X jb sb va vc hJ hS => first_p (w := X) (jb := jb) (sb := sb) (va := va) (vc := vc) hJ hS)
  have hst := Lib.hid (fun X s => st_new9 X s)
  clear hs1
  go_enter Tryz.func15, Tryz.ntmps15
  go_wp2_with (first
    | (go_at_call 43; (with_reducible refine hnw.out.mono ?_); rintro e w2 ⟨jb, sb, va, vc, rfl, hJ, hS, hb2⟩; replace hJ := Lib.hid hJ; replace hS := Lib.hid hS; replace hb2 := Lib.hid hb2)
    | (go_at_call 44; (with_reducible refine (hfs.out _ _ _ _ _ hJ.out hS.out).mono ?_); rintro e w3 ⟨G, b, rfl, hG, hb3⟩; obtain ⟨w4, S4, hB4, hb4⟩ := hst.out w3 (fstC ⟨some ⟨G, 0, none⟩, 1, 1⟩ b); have hG4 := (hb4.cell (p := ⟨G, 0, none⟩) (World.block_lt_of_cell? _ _ hG)).trans hG; have c15 := hB4.cell 15; have c23 := hB4.cell 23; have c5 := hB4.cell 5; simp only [fstC, StC.cells, Sl3.v, List.getElem?_cons_zero, List.getElem?_cons_succ] at c15 c23 c5; obtain ⟨D, hD⟩ : ∃ D, (fstC ⟨some ⟨G, 0, none⟩, 1, 1⟩ b).cells.toArray = D := ⟨_, rfl⟩; rw [hD] at S4 ⊢; replace hD := Lib.hid hD; replace hb3 := Lib.hid hb3; replace hb4 := Lib.hid hb4; clear hB4 hG))
  all_goals go_ret
  all_goals exact ⟨rfl, bl_trans hb1 (bl_trans hb2.out (bl_trans hb3.out hb4.out))⟩
end Go.Proofs.YtepdfkgadigafaaGreatDoor
