/-
  StateFrom at data that come in: the walk, as the frame takes it; of chapter 20.
  Conditions: as each theorem states them.
-/
import Derived.Test.YtepdfkgadigafaaGreatDoorSf1
import Derived.Test.YtepdfkgadigafaaGreatDoorFrC
namespace Go.Proofs.YtepdfkgadigafaaGreatDoor
open Go.RowKit Go.Sort
set_option linter.unusedVariables false
set_option linter.unusedSimpArgs false
attribute [local go_sem ↓] load_st store_st
set_option maxHeartbeats 4000000 in
set_option maxRecDepth 100000 in
theorem stateFrom_early (w : World) (s s' : StC) (V V' : StV) {lo hi_ lo' hi' : Nat} (h : SIn lo hi_ s V w) (h' : SIn lo' hi' s' V' w) (hk : ScOk V.sc) (hk' : ScOk V'.sc)
    (hfn : ∀ x ∈ V.files, x.1.length ≤ 140737488351232) (hfn' : ∀ x ∈ V'.files, x.1.length ≤ 140737488351232)
    (la : Option Addr) (lc : Nat) (l : List (List UInt8)) (at_ : Int) (hT : TxAt (fun _ => True) false w la l) (hll : l.length ≤ maxLen)
    (hg : 20 < l.length ∨ greatV V = true ∨ greatV V' = true ∨ ∃ (i : Nat) (hi : i < l.length), 300 < l[i].length) :
    Calls Tryz.prog 6 #[.slice la l.length lc, .agg s.cells.toArray, .agg s'.cells.toArray, .int .u8 at_] w fun e w' => e = .returned (.bool true) ∧ Below w.heap.size w w' := by
  have g1 := fun X (hX : Below w.heap.size w X) => great_sin (h.below hX) hk hfn
  have g2 := fun X (hX : Below w.heap.size w X) => great_sin (h'.below hX) hk' hfn'
  have haw := fun X => awake20 X
  unfold maxLen at hll
  obtain ⟨W1, hW1⟩ : ∃ W1, (w.alloc (.cells s.cells.toArray 34)).alloc (.cells s'.cells.toArray 34) = W1 := ⟨_, rfl⟩
  have bA : Blk W1 w.heap.size 34 s.cells := by rw [← hW1]; exact (Blk.new w _ _).alloc _
  have bB : Blk W1 (w.heap.size + 1) 34 s'.cells := by rw [← hW1]; simpa using Blk.new (w.alloc (.cells s.cells.toArray 34)) 34 s'.cells
  have hbW : Below w.heap.size w W1 := by rw [← hW1]; exact bl_alloc (bl_alloc (Below.refl _ _) _) _
  have hst := fun X (hX : Below W1.heap.size W1 X) => (⟨stLoad_is s (bA.below hX), stLoad_is s' (bB.below hX)⟩ : (stLoad ⟨w.heap.size, 0, none⟩).run Tryz.prog X = .ok (.agg s.cells.toArray) X ∧ (stLoad ⟨w.heap.size + 1, 0, none⟩).run Tryz.prog X = .ok (.agg s'.cells.toArray) X)
  obtain ⟨C, hC⟩ : ∃ C, s.cells = C := ⟨_, rfl⟩
  obtain ⟨C', hC'⟩ : ∃ C, s'.cells = C := ⟨_, rfl⟩
  have hT' := fun X (hX : Below w.heap.size w X) => hT.below hX
  rw [hC] at g1 hst hW1 ⊢
  rw [hC'] at g2 hst hW1 ⊢
  generalize greatV V = G1 at *
  generalize greatV V' = G2 at *
  clear h h' hk hk' hfn hfn' hC hC' bA bB hT
  replace g1 := Lib.hid g1
  replace g2 := Lib.hid g2
  replace hst := Lib.hid hst
  replace haw := Lib.hid haw
  replace hW1 := Lib.hid hW1
  replace hbW := Lib.hid hbW
  replace hT' := Lib.hid hT'
  by_cases hL : 20 < l.length
  · have q0 : decide ((20 : Int) < (l.length : Int)) = true := by rw [decide_eq_true_eq]; omega
    replace hg := Lib.hid hg
    go_enter Tryz.func6, Tryz.ntmps6
    go_upto_region 1 with fail
    rw [hW1.out]
    go_wp2_with (go_at_call 15; (with_reducible refine (haw.out _).mono ?_); rintro e Y2 ⟨rfl, hy⟩; replace hbW := Lib.hid (bl_trans hbW.out hy); clear hy)
    all_goals go_ret
    all_goals exact ⟨rfl, hbW.out⟩
  have q0 : decide ((20 : Int) < (l.length : Int)) = false := by rw [decide_eq_false_iff_not]; omega
  have hg3 : G1 = false → G2 = false → ∃ (i : Nat) (hi : i < l.length), 300 < l[i].length := fun a b => by
    rcases hg with h | h | h | h
    · omega
    · rw [a] at h; cases h
    · rw [b] at h; cases h
    · exact h
  clear hg
  cases G1 with
  | true =>
    clear hg3
    go_enter Tryz.func6, Tryz.ntmps6
    go_upto_region 1 with fail
    rw [hW1.out]
    have hb := Below.refl W1.heap.size W1
    obtain ⟨L1, L2⟩ := hst.out _ hb
    go_wp2_with (first
      | (go_at_call 7; (with_reducible refine (g1.out _ (bl_trans hbW.out hb)).mono ?_); rintro e X1 ⟨rfl, hy⟩; replace hb := bl_trans hb hy; clear hy)
      | (go_at_call 15; (with_reducible refine (haw.out _).mono ?_); rintro e Y2 ⟨rfl, hy⟩; replace hb := bl_trans hb hy; clear hy))
    all_goals go_ret
    all_goals exact ⟨rfl, bl_trans hbW.out hb⟩
  | false =>
  cases G2 with
  | true =>
    clear hg3
    go_enter Tryz.func6, Tryz.ntmps6
    go_upto_region 1 with fail
    rw [hW1.out]
    have hb := Below.refl W1.heap.size W1
    obtain ⟨L1, L2⟩ := hst.out _ hb
    go_wp2_with (first
      | (go_at_call 7; first
        | ((with_reducible refine (g1.out _ (bl_trans hbW.out hb)).mono ?_); rintro e X1 ⟨rfl, hy⟩; replace hb := bl_trans hb hy; clear hy; obtain ⟨L1, L2⟩ := hst.out _ hb)
        | ((with_reducible refine (g2.out _ (bl_trans hbW.out hb)).mono ?_); rintro e X1 ⟨rfl, hy⟩; replace hb := bl_trans hb hy; clear hy; obtain ⟨L1, L2⟩ := hst.out _ hb))
      | (go_at_call 15; (with_reducible refine (haw.out _).mono ?_); rintro e Y2 ⟨rfl, hy⟩; replace hb := bl_trans hb hy; clear hy))
    all_goals go_ret
    all_goals exact ⟨rfl, bl_trans hbW.out hb⟩
  | false =>
    replace hg3 := Lib.hid (hg3 rfl rfl)
    go_enter Tryz.func6, Tryz.ntmps6
    go_upto_region 1 with fail
    rw [hW1.out]
    have hb := Below.refl W1.heap.size W1
    obtain ⟨L1, L2⟩ := hst.out _ hb
    go_upto_region 3 with (go_at_call 7; first
      | ((with_reducible refine (g1.out _ (bl_trans hbW.out hb)).mono ?_); rintro e X1 ⟨rfl, hy⟩; replace hb := bl_trans hb hy; clear hy; obtain ⟨L1, L2⟩ := hst.out _ hb)
      | ((with_reducible refine (g2.out _ (bl_trans hbW.out hb)).mono ?_); rintro e X1 ⟨rfl, hy⟩; replace hb := bl_trans hb hy; clear hy; obtain ⟨L1, L2⟩ := hst.out _ hb))
    clear L1 L2 g1 g2 q0
    rename World => X2
    go_wp2_with fail
    go_loopg [9] l.length (fun gh v wr => ∃ k : Nat, gh = l.length - k ∧ v = .int .i64 (k : Int) ∧ k ≤ l.length ∧ wr = X2 ∧ Hid (∀ (j : Nat) (hj : j < l.length), j < k → l[j].length ≤ 300))
    case atStart => exact ⟨0, rfl, rfl, Nat.zero_le _, rfl, Lib.hid (fun j _ hj => by omega)⟩
    case round =>
      obtain ⟨k, rfl, rfl, hk, rfl, hal⟩ := hrel
      have hlt : k < l.length := by
        obtain ⟨i, hi, h3⟩ := hg3.out
        by_cases hik : k < l.length
        · exact hik
        · exact absurd (hal.out i hi (by omega)) (by omega)
      obtain ⟨b, o, rfl, _, hbl, hrow⟩ := hT'.out _ (bl_trans hbW.out hb) (by omega)
      obtain ⟨ca, cc, hc, _⟩ := hrow k hlt
      have q2 : (k : Int) < (l.length : Int) := by omega
      by_cases h3 : 300 < l[k].length
      · have q3 : decide ((300 : Int) < (l[k].length : Int)) = true := by rw [decide_eq_true_eq]; omega
        generalize l[k].length = n at *
        replace hrow := Lib.hid hrow
        go_wp2_with (go_at_call 15; (with_reducible refine (haw.out _).mono ?_); rintro e Y2 ⟨rfl, hy⟩; replace hb := bl_trans hb hy; clear hy)
        all_goals go_ret
        all_goals exact ⟨rfl, bl_trans hbW.out hb⟩
      · have q3 : decide ((300 : Int) < (l[k].length : Int)) = false := by rw [decide_eq_false_iff_not]; omega
        have hal2 := Lib.hid (fun (j : Nat) (hj : j < l.length) (hjk : j < k + 1) => (by
          by_cases e : j = k
          · subst e; omega
          · exact hal.out j hj (by omega) : l[j].length ≤ 300))
        generalize l[k].length = n at *
        replace hrow := Lib.hid hrow
        go_wp2_with fail
        go_roundg (l.length - (k + 1))
        case measure => omega
        case rel => exact ⟨k + 1, rfl, by go_num, by omega, rfl, hal2⟩
theorem stateFrom_walk (W : World) (hpE : Pow W ∧ ErrAt W) (la : Option Addr) (ll lc : Nat) (l : List (List UInt8)) (rl : (rSl (rSl rByte)).ok (Sub.all W) [.slice la ll lc] l) (cs0 : Array Value) (x0 : _) (rd0 : rState.ok (Sub.all W) cs0.toList x0) (cs1 : Array Value) (x1 : _) (rd1 : rState.ok (Sub.all W) cs1.toList x1) (a : Int) (wa : (Lit.int .u8 a).wf = true) :
    Calls Tryz.prog 6 #[.slice la ll lc, .agg cs0, .agg cs1, .int .u8 a] W fun e w' => e = .returned (.bool true) ∧ Below W.heap.size W w' := by
  obtain ⟨s, V, e1, h, hk, hfn, hw⟩ := sin_of64 rd0
  obtain ⟨s', V', e2, h', hk', hfn', hw'⟩ := sin_of64 rd1
  obtain ⟨c1⟩ := cs0
  obtain ⟨c2⟩ := cs1
  simp only at e1 e2
  subst e1 e2
  obtain ⟨la', lc', e3, hlc, hlm, hT⟩ := TxAt.of_ok rl
  injection e3 with e4 e5 e6
  subst e4 e5 e6
  have ha : 0 ≤ a ∧ a ≤ 255 := by simp [Lit.wf, IntKind.min, IntKind.max, IntKind.signed, IntKind.bits] at wa; omega
  obtain ⟨n, rfl⟩ : ∃ n : Nat, a = n := ⟨a.toNat, by omega⟩
  by_cases hg : 20 < l.length ∨ greatV V = true ∨ greatV V' = true ∨ ∃ (i : Nat) (hi : i < l.length), 300 < l[i].length
  · exact stateFrom_early W s s' V V' h h' hk hk' hfn hfn' la lc l n hT (Nat.le_trans hlc hlm) hg
  · simp only [not_or, not_exists, Nat.not_lt, Bool.not_eq_true] at hg
    obtain ⟨g1, g2, g3, g4⟩ := hg
    exact stateFrom_main W s s' V V' h h' hpE.1 hpE.2 hk hk' hfn hfn' ⟨sc_I hk, hw, g2⟩ ⟨sc_I hk', hw', g3⟩ la lc l hT g1 g4 n (by omega)
end Go.Proofs.YtepdfkgadigafaaGreatDoor
