/-
  parse.Parse: what it gives up by is caught; of chapter 16.
  Conditions: as each theorem states them.
-/
import Derived.Test.YtepdfkgadigafaaGreatDoorPa1
import Derived.Defers
import Derived.Recover
namespace Go.Proofs.YtepdfkgadigafaaGreatDoor
open Go.RowKit
set_option linter.unusedVariables false
set_option linter.unusedSimpArgs false
set_option maxHeartbeats 4000000 in
set_option maxRecDepth 100000 in
theorem pcatch_idle (p q r : Addr) (w : World) :
    CallsD Tryz.prog 88 #[.pointer (some p), .pointer (some q), .pointer (some r)] .returning w fun e u' w' => e = .returned (.tuple #[]) ∧ u' = .returning ∧ w' = w := by
  refine callsD_of_wpS Tryz.func88 rfl fun c₀ cs hu => ?_
  apply wpS_seq
  apply wpS_region
  simp [wpOpsS, go_sem, recoverD, hu, Tryz.ntmps88, Exit.thenS]
  apply wpS_seq
  apply wpS_region
  simp [wpOpsS, go_sem, Exit.thenS]
  refine wpS_cond (t := false) (by simp [Act.eval, Array.replicate]) ?_
  simp only [Bool.false_eq_true, if_false]
  refine wpS_of_wp (wp_skip ?_)
  cases c₀
  simp_all [bodyPostS, results, Tryz.results88]
theorem three_cells9 {W : World} {bp bq br : Nat} {u1 u2 u3 v1 v2 v3 : Value} (k1 : W.cell? ⟨bp, 0, none⟩ = some u1) (k2 : W.cell? ⟨bq, 0, none⟩ = some u2) (k3 : W.cell? ⟨br, 0, none⟩ = some u3) (n1 : bp ≠ bq) (n2 : bp ≠ br) (n3 : bq ≠ br) :
    (((W.setCell ⟨bp, 0, none⟩ v1).setCell ⟨bq, 0, none⟩ v2).setCell ⟨br, 0, none⟩ v3).cell? ⟨bp, 0, none⟩ = some v1 ∧ (((W.setCell ⟨bp, 0, none⟩ v1).setCell ⟨bq, 0, none⟩ v2).setCell ⟨br, 0, none⟩ v3).cell? ⟨bq, 0, none⟩ = some v2 ∧ (((W.setCell ⟨bp, 0, none⟩ v1).setCell ⟨bq, 0, none⟩ v2).setCell ⟨br, 0, none⟩ v3).cell? ⟨br, 0, none⟩ = some v3 := by
  have e : ∀ {a b : Nat}, a ≠ b → (⟨a, 0, none⟩ : Addr) ≠ ⟨b, 0, none⟩ := fun h e => h (by injection e)
  refine ⟨?_, ?_, ?_⟩
  · rw [World.cell?_setCell_other _ _ _ _ (e (Ne.symm n2)), World.cell?_setCell_other _ _ _ _ (e (Ne.symm n1))]
    exact World.cell?_setCell_same _ _ _ k1
  · rw [World.cell?_setCell_other _ _ _ _ (e (Ne.symm n3))]
    exact World.cell?_setCell_same _ _ _ ((World.cell?_setCell_other _ _ _ _ (e n1)).trans k2)
  · exact World.cell?_setCell_same _ _ _ (((World.cell?_setCell_other _ _ _ _ (e n3)).trans (World.cell?_setCell_other _ _ _ _ (e n2))).trans k3)
set_option maxHeartbeats 4000000 in
set_option maxRecDepth 100000 in
theorem pcatch_panicking (bp bq br : Nat) (a x : Int) (older : List PanicEntry) (w : World) (vp vq vr : Value) (h1 : w.cell? ⟨bp, 0, none⟩ = some vp) (h2 : w.cell? ⟨bq, 0, none⟩ = some vq) (h3 : w.cell? ⟨br, 0, none⟩ = some vr)
    (z1 : w.frozen? ⟨bp, 0, none⟩ = false) (z2 : w.frozen? ⟨bq, 0, none⟩ = false) (z3 : w.frozen? ⟨br, 0, none⟩ = false) (l1 : bp < w.heap.size) (l2 : bq < w.heap.size) (l3 : br < w.heap.size) (n1 : bp ≠ bq) (n2 : bp ≠ br) (n3 : bq ≠ br) :
    CallsD Tryz.prog 88 #[.pointer (some ⟨bp, 0, none⟩), .pointer (some ⟨bq, 0, none⟩), .pointer (some ⟨br, 0, none⟩)] (.panicking (brk a x :: older)) w fun e u' w' =>
      e = .returned (.tuple #[]) ∧ u' = .panicking ({ brk a x with recovered := true } :: older) ∧ w'.cell? ⟨bp, 0, none⟩ = some (.pointer none) ∧ w'.cell? ⟨bq, 0, none⟩ = some (.int .i64 a) ∧ w'.cell? ⟨br, 0, none⟩ = some (.int .i64 x) ∧ Only (fun k => k = bp ∨ k = bq ∨ k = br) w w' := by
  refine callsD_of_wpS Tryz.func88 rfl fun c₀ cs hu => ?_
  unfold brk at hu ⊢
  apply wpS_seq
  apply wpS_region
  simp [wpOpsS, go_sem, recoverD, hu, Tryz.ntmps88, Exit.thenS]
  apply wpS_seq
  apply wpS_region
  simp [wpOpsS, go_sem, Exit.thenS]
  refine wpS_cond (t := true) (by simp [Act.eval, Array.replicate]) ?_
  simp only [if_true]
  refine wpS_of_wp ?_
  have hta : ∀ W, (Instr.typeAssert (.iface 155 (.agg #[.int .i64 a, .int .i64 x])) 20 155 true).run Tryz.prog W = .ok (.tuple #[.agg #[.int .i64 a, .int .i64 x], .bool true]) W := fun _ => by kernel_rfl
  show Code.wp _ _ _ { tmps := #[.pointer (some ⟨bp, 0, none⟩), .pointer (some ⟨bq, 0, none⟩), .pointer (some ⟨br, 0, none⟩), .iface 155 (.agg #[.int .i64 a, .int .i64 x]), undef, undef, .iface 155 (.agg #[.int .i64 a, .int .i64 x]), .iface 155 (.agg #[.int .i64 a, .int .i64 x]), .bool true, undef, undef, undef, undef, undef, undef, undef, undef, undef, undef, undef, undef], defers := [] } _
  go_upto_region 5 with fail
  obtain ⟨W2, hW2⟩ : ∃ W2, w.alloc (.cells #[.int .i64 a, .int .i64 x] 155) = W2 := ⟨_, rfl⟩
  have hb2 : Below w.heap.size w W2 := hW2 ▸ bl_alloc (Below.refl _ _) _
  have hn : Blk W2 w.heap.size 155 [.int .i64 a, .int .i64 x] := hW2 ▸ Blk.new w _ _
  rw [hW2]
  have k1 := (hb2.cell (p := ⟨bp, 0, none⟩) l1).trans h1
  have k2 := (hb2.cell (p := ⟨bq, 0, none⟩) l2).trans h2
  have k3 := (hb2.cell (p := ⟨br, 0, none⟩) l3).trans h3
  have y1 := (hb2.frozen (p := ⟨bp, 0, none⟩) l1).trans z1
  have y2 := (hb2.frozen (p := ⟨bq, 0, none⟩) l2).trans z2
  have y3 := (hb2.frozen (p := ⟨br, 0, none⟩) l3).trans z3
  have m0 : W2.cell? ⟨w.heap.size, 0, none⟩ = some (.int .i64 a) := hn.cell 0
  have m1 : W2.cell? ⟨w.heap.size, 1, none⟩ = some (.int .i64 x) := hn.cell 1
  have d1 : bp ≠ w.heap.size := by omega
  have d2 : bq ≠ w.heap.size := by omega
  have d3 : br ≠ w.heap.size := by omega
  have d1' : w.heap.size ≠ bp := by omega
  have d2' : w.heap.size ≠ bq := by omega
  have d3' : w.heap.size ≠ br := by omega
  have n1' : bq ≠ bp := by omega
  have n2' : br ≠ bp := by omega
  have n3' : br ≠ bq := by omega
  obtain ⟨gn, hgn⟩ : ∃ gn, w.heap.size = gn := ⟨_, rfl⟩
  have only_of := Lib.hid (Only.of_below hb2 : Only (fun k => k = bp ∨ k = bq ∨ k = br) w W2)
  rw [hgn] at m0 m1 d1 d2 d3 d1' d2' d3' ⊢
  replace hgn := Lib.hid hgn
  clear h1 h2 h3 z1 z2 z3 hW2 hb2 hn
  go_region_with (fail)
  all_goals
    obtain ⟨q1, q2, q3⟩ := three_cells9 (v1 := .pointer none) (v2 := .int .i64 a) (v3 := .int .i64 x) k1 k2 k3 n1 n2 n3
    exact ⟨rfl, _, rfl, _, results_none rfl _ _ _, rfl, rfl, q1, q2, q3, (((only_of.out.setCell (p := ⟨bp, 0, none⟩) (.inl rfl) _).setCell (p := ⟨bq, 0, none⟩) (.inr (.inl rfl)) _).setCell (p := ⟨br, 0, none⟩) (.inr (.inr rfl)) _).drewN _⟩
end Go.Proofs.YtepdfkgadigafaaGreatDoor
