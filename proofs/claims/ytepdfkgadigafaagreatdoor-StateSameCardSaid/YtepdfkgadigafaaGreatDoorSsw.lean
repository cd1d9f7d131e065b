/-
  StateSame at data that come in: the walk, as the frame takes it; of chapter 20.
  Conditions: as each theorem states them.
-/
import Derived.Test.YtepdfkgadigafaaGreatDoorSs0
import Derived.Test.YtepdfkgadigafaaGreatDoorFrC
namespace Go.Proofs.YtepdfkgadigafaaGreatDoor
open Go.RowKit Go.Sort
set_option linter.unusedVariables false
set_option linter.unusedSimpArgs false
attribute [local go_sem ↓] load_st store_st
set_option maxHeartbeats 4000000 in
set_option maxRecDepth 100000 in
theorem stateSame_great (w : World) (s s' : StC) (V V' : StV) {lo hi_ lo' hi' : Nat} (h : SIn lo hi_ s V w) (h' : SIn lo' hi' s' V' w) (hk : ScOk V.sc) (hk' : ScOk V'.sc)
    (hfn : ∀ x ∈ V.files, x.1.length ≤ 140737488351232) (hfn' : ∀ x ∈ V'.files, x.1.length ≤ 140737488351232) (hg : (greatV V || greatV V') = true) :
    Calls Tryz.prog 4 #[.agg s.cells.toArray, .agg s'.cells.toArray] w fun e w' => e = .returned (.bool true) ∧ Below w.heap.size w w' := by
  have g1 := fun X (hX : Below w.heap.size w X) => great_sin (h.below hX) hk hfn
  have g2 := fun X (hX : Below w.heap.size w X) => great_sin (h'.below hX) hk' hfn'
  have haw := fun X => awake20 X
  obtain ⟨W1, hW1⟩ : ∃ W1, (w.alloc (.cells s.cells.toArray 34)).alloc (.cells s'.cells.toArray 34) = W1 := ⟨_, rfl⟩
  have bA : Blk W1 w.heap.size 34 s.cells := by rw [← hW1]; exact (Blk.new w _ _).alloc _
  have bB : Blk W1 (w.heap.size + 1) 34 s'.cells := by rw [← hW1]; simpa using Blk.new (w.alloc (.cells s.cells.toArray 34)) 34 s'.cells
  have hbW : Below w.heap.size w W1 := by rw [← hW1]; exact bl_alloc (bl_alloc (Below.refl _ _) _) _
  have hst := fun X (hX : Below W1.heap.size W1 X) => (⟨stLoad_is s (bA.below hX), stLoad_is s' (bB.below hX)⟩ : (stLoad ⟨w.heap.size, 0, none⟩).run Tryz.prog X = .ok (.agg s.cells.toArray) X ∧ (stLoad ⟨w.heap.size + 1, 0, none⟩).run Tryz.prog X = .ok (.agg s'.cells.toArray) X)
  obtain ⟨C, hC⟩ : ∃ C, s.cells = C := ⟨_, rfl⟩
  obtain ⟨C', hC'⟩ : ∃ C, s'.cells = C := ⟨_, rfl⟩
  rw [hC] at g1 hst hW1 ⊢
  rw [hC'] at g2 hst hW1 ⊢
  generalize greatV V = G1 at *
  generalize greatV V' = G2 at *
  clear h h' hk hk' hfn hfn' hC hC' bA bB
  replace g1 := Lib.hid g1
  replace g2 := Lib.hid g2
  replace hst := Lib.hid hst
  replace haw := Lib.hid haw
  replace hW1 := Lib.hid hW1
  replace hbW := Lib.hid hbW
  go_enter Tryz.func4, Tryz.ntmps4
  go_upto_region 1 with fail
  rw [hW1.out]
  clear hW1
  have hb := Below.refl W1.heap.size W1
  obtain ⟨L1, L2⟩ := hst.out _ hb
  cases G1 <;> cases G2
  · simp at hg
  all_goals go_wp2_with (first
    | (go_at_call 7; first
      | ((with_reducible refine (g1.out _ (bl_trans hbW.out hb)).mono ?_); rintro e X1 ⟨rfl, hy⟩; replace hb := bl_trans hb hy; clear hy; obtain ⟨L1, L2⟩ := hst.out _ hb)
      | ((with_reducible refine (g2.out _ (bl_trans hbW.out hb)).mono ?_); rintro e X1 ⟨rfl, hy⟩; replace hb := bl_trans hb hy; clear hy; obtain ⟨L1, L2⟩ := hst.out _ hb))
    | (go_at_call 15; (with_reducible refine (haw.out _).mono ?_); rintro e Y2 ⟨rfl, hy⟩; replace hb := bl_trans hb hy; clear hy))
  all_goals go_ret
  all_goals exact ⟨rfl, bl_trans hbW.out hb⟩
theorem stateSame_walk (W : World) (hp : Pow W) (cs0 : Array Value) (x0 : _) (rd0 : rState.ok (Sub.all W) cs0.toList x0) (cs1 : Array Value) (x1 : _) (rd1 : rState.ok (Sub.all W) cs1.toList x1) :
    Calls Tryz.prog 4 #[.agg cs0, .agg cs1] W fun e w' => e = .returned (.bool true) ∧ Below W.heap.size W w' := by
  obtain ⟨s, V, e1, h, hk, hfn, hw⟩ := sin_of64 rd0
  obtain ⟨s', V', e2, h', hk', hfn', hw'⟩ := sin_of64 rd1
  obtain ⟨c1⟩ := cs0
  obtain ⟨c2⟩ := cs1
  simp only at e1 e2
  subst e1 e2
  by_cases hg : (greatV V || greatV V') = true
  · exact stateSame_great W s s' V V' h h' hk hk' hfn hfn' hg
  · simp only [Bool.or_eq_true, not_or, Bool.not_eq_true] at hg
    exact stateSame_main W s s' V V' h h' hp hk hk' hfn hfn' ⟨sc_I hk, hw, hg.1⟩ ⟨sc_I hk', hw', hg.2⟩
end Go.Proofs.YtepdfkgadigafaaGreatDoor
