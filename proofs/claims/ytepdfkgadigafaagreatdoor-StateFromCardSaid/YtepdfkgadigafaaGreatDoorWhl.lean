/-
  The cursor's while, Skip; of chapter 16.
  Conditions: as each theorem states them.
-/
import Derived.Test.YtepdfkgadigafaaGreatDoorCur
import Derived.Test.YtepdfkgadigafaaGreatDoorCpA
import Derived.Test.YtepdfkgadigafaaGreatDoorDlA
namespace Go.Proofs.YtepdfkgadigafaaGreatDoor
open Go.RowKit
set_option linter.unusedVariables false
set_option linter.unusedSimpArgs false
attribute [local go_sem ↓] run_cut_h run_cut_l run_cut_lh
theorem own_base8 {X : World} {N N' e k n : Nat} {v : Value} {xs : List Value} (h : X.ownsRow N e k v n xs) (hN : N' ≤ N) : X.ownsRow N' e k v n xs := by
  obtain ⟨hl, h⟩ := h
  rcases h with ⟨rfl, rfl⟩ | ⟨g, cap, cur, rfl, hg, hb', hk, hc, hs, rfl⟩
  · exact ⟨hl, .inl ⟨rfl, rfl⟩⟩
  · exact ⟨hl, .inr ⟨g, cap, cur, rfl, Nat.le_trans hN hg, hb', hk, hc, hs, rfl⟩⟩
/-- how far a class reaches from a place -/
def runTo (H : UInt8 → Bool) (s : List UInt8) (k : Nat) : Nat := k + ((s.drop k).takeWhile H).length
theorem runTo_stop {H : UInt8 → Bool} {s : List UInt8} {k : Nat} (h : ∀ (hk : k < s.length), H s[k] = false) : runTo H s k = k := by
  unfold runTo
  by_cases hk : k < s.length
  · rw [List.drop_eq_getElem_cons hk, List.takeWhile_cons, h hk]; simp
  · rw [List.drop_of_length_le (by omega)]; simp
theorem runTo_go {H : UInt8 → Bool} {s : List UInt8} {k : Nat} (hk : k < s.length) (h : H s[k] = true) : runTo H s k = runTo H s (k + 1) := by
  unfold runTo
  rw [List.drop_eq_getElem_cons hk, List.takeWhile_cons, if_pos h, List.length_cons]; omega
theorem runTo_le {H : UInt8 → Bool} {s : List UInt8} {k : Nat} (hk : k ≤ s.length) : runTo H s k ≤ s.length := by
  unfold runTo
  have := (List.takeWhile_prefix H (l := s.drop k)).length_le
  rw [List.length_drop] at this; omega
theorem tw_take (H : UInt8 → Bool) (s : List UInt8) (k : Nat) : (s.drop k).takeWhile H = (s.drop k).take (runTo H s k - k) := by
  unfold runTo
  rw [Nat.add_sub_cancel_left]
  exact List.prefix_iff_eq_take.1 (List.takeWhile_prefix H)
theorem runTo_ge (H : UInt8 → Bool) (s : List UInt8) (k : Nat) : k ≤ runTo H s k := Nat.le_add_right _ _
set_option maxHeartbeats 20000000 in
set_option maxRecDepth 100000 in
theorem while_any {w : World} {g : Nat} {ba : Option Addr} {c : Nat} {s : List UInt8} {k : Nat} (h : CuAt w g ba c s k) (H : UInt8 → Bool) (fid : FuncId) (fr : Array Value) (hcf : ∀ (args : Array Value) (X : World), (callFunc fid args).run Tryz.prog X = .ok (.enter fid args) X)
    (hH : ∀ X, Only (fun j => j = g) w X → ∀ x : UInt8, Calls Tryz.prog fid (#[.int .u8 (x.toNat : Int)] ++ fr) X fun e X' => e = .returned (.bool (H x)) ∧ X' = X) :
    Calls Tryz.prog 115 #[.pointer (some ⟨g, 0, none⟩), .func (.func fid) #[] fr] w fun e w' => ∃ v, e = .returned v ∧ w'.ownsRow w.heap.size 5 1 v (runTo H s k - k) (((s.drop k).takeWhile H).map bv) ∧ CuAt w' g ba c s (runTo H s k) ∧ Only (fun j => j = g) w w' := by
  have hle := h.le
  have hln := h.len
  have hrl := runTo_le (H := H) h.le
  have c1 : w.cell? ⟨g, 1, none⟩ = some (.int .i64 (k : Int)) := h.cu.cell 1
  replace hH := Lib.hid hH
  go_enter Tryz.func115, Tryz.ntmps115
  go_wp2_with fail
  go_loopg [] (s.length - k) (fun gh wr => ∃ j : Nat, gh = s.length - j ∧ k ≤ j ∧ j ≤ s.length ∧ runTo H s j = runTo H s k ∧ Hid (CuAt wr g ba c s j) ∧ Hid (Only (fun i => i = g) w wr))
  case atStart => exact ⟨k, by omega, Nat.le_refl _, hle, rfl, Lib.hid h, Lib.hid (Only.refl _ _)⟩
  case round =>
    obtain ⟨j, rfl, hkj, hj, hrun, hC, hO⟩ := hrel
    have d0 : wr.cell? ⟨g, 0, none⟩ = some (.slice ba s.length c) := hC.out.cu.cell 0
    have d1 : wr.cell? ⟨g, 1, none⟩ = some (.int .i64 (j : Int)) := hC.out.cu.cell 1
    by_cases hlt : j < s.length
    · obtain ⟨b, o, hba, hb, hr⟩ := hC.out.by_ (by omega)
      have hx := hr j hlt
      have q1 : (j : Int) < (s.length : Int) := by omega
      have hgo := runTo_go (H := H) hlt
      have hst : H s[j] = false → runTo H s j = j := fun e => runTo_stop (fun _ => e)
      have hcl := Lib.hid (hH.out _ hO.out.drew s[j])
      obtain ⟨B, hB⟩ : ∃ B, H s[j] = B := ⟨_, rfl⟩
      rw [hB] at hcl hgo hst
      generalize s[j] = x at *
      replace hgo := Lib.hid hgo
      replace hst := Lib.hid hst
      rw [hba] at d0
      go_upto_region 4 with fail
      refine wp_region_still_lit (by kernel_rfl) (by kernel_rfl) ?_
      iterate 22 still_step
      have hc1 := hcl.out
      still_call hc1
      clear hc1
      still_step
      refine wpStill_nil ?_
      obtain ⟨w1, hw1⟩ : ∃ x, wr.drew = x := ⟨_, rfl⟩
      have hb1 : Below wr.heap.size wr w1 := by rw [← hw1]; exact bl_drew (Below.refl _ _)
      have hC1 := hC.out.below hb1
      have hO1 := hO.out.trans (Only.of_below hb1)
      have k1 : w1.cell? ⟨g, 1, none⟩ = some (.int .i64 (j : Int)) := hC1.cu.cell 1
      have ff := hC1.cu.free
      have ll := hC1.cu.lt
      change Exit.then _ _ _ _ wr.drew
      rw [hw1]
      clear hw1 hcl d0 d1
      cases B with
      | true =>
        go_wp2_with fail
        go_roundg (s.length - (j + 1))
        case measure => omega
        case rel => exact ⟨j + 1, rfl, by omega, by omega, by rw [← hgo.out (by first | rfl | trivial)]; exact hrun, Lib.hid (by have := hC1.step (j := j + 1) (by omega); simpa using this), Lib.hid (hO1.setCell (p := ⟨g, 1, none⟩) rfl _)⟩
      | false =>
      have hjr : runTo H s k = j := by rw [← hrun]; exact hst.out (by first | rfl | trivial)
      clear hba hr hx hb hgo hst
      have hby : ByAt (fun _ => True) false w1 ba s := fun h0 => by
        obtain ⟨b, o, e, hb, hr⟩ := hC1.by_ h0
        exact ⟨b, o, e, trivial, hb, (fun q => (Bool.false_ne_true q).elim), hr⟩
      have hcap := hC1.cap
      have hcc := Lib.hid (fun W (hW : Below w1.heap.size w1 W) => clone_any (cutA ba k c 1) (c - k) ((s.drop k).take (j - k)) W (by simp; omega) (((hby.drop hcap k).take (j - k)).below hW))
      have hlx : ((s.drop k).take (j - k)).length = j - k := by simp; omega
      rw [hlx] at hcc
      have z0 : w1.cell? ⟨g, 0, none⟩ = some (.slice ba s.length c) := hC1.cu.cell 0
      have p1 : (0 : Int) ≤ (k : Int) := by omega
      have p2 : (k : Int) ≤ (j : Int) := by omega
      have p3 : (j : Int) ≤ (c : Int) := by omega
      go_upto_region 6 with fail
      refine wp_region_still_tail 10 (by kernel_rfl) (by kernel_rfl) ?_
      simp only [List.take_succ_cons, List.take_zero, List.drop_succ_cons, List.drop_zero]
      iterate 10 still_step
      refine wpStill_nil ?_
      change wpList _ _ _ _ _ w1.drew
      replace hlx := Lib.hid hlx
      replace hrun := Lib.hid hrun
      replace hjr := Lib.hid hjr
      replace hcc := Lib.hid (hcc.out _ (bl_drew (Below.refl _ _)))
      go_wp2_with (go_at_call 29; (with_reducible refine hcc.out.mono ?_); rintro e w2 ⟨v, rfl, ho, hy⟩; replace ho := Lib.hid ho)
      all_goals go_ret
      all_goals exact ⟨_, rfl, by rw [tw_take, hjr.out]; exact own_base8 ho.out hO1.size, by rw [hjr.out]; exact hC1.below (bl_trans (bl_drew (Below.refl _ _)) hy), hO1.trans (Only.of_below (bl_trans (bl_drew (Below.refl _ _)) hy))⟩
    · obtain rfl : j = s.length := by omega
      have q1 : ¬ (s.length : Int) < (s.length : Int) := by omega
      have hjr : runTo H s k = s.length := by rw [← hrun]; exact runTo_stop (fun h => absurd h (by omega))
      go_upto_region 4 with fail
      refine wp_region_still_lit (by kernel_rfl) (by kernel_rfl) ?_
      iterate 11 still_step
      iterate 12 ((with_reducible refine wpStill_step (fun K hK => ?_)); go_simp; (with_reducible refine hK _ ?_); clear hK K)
      still_step
      refine wpStill_nil ?_
      obtain ⟨w1, hw1⟩ : ∃ x, wr.drew = x := ⟨_, rfl⟩
      have hb1 : Below wr.heap.size wr w1 := by rw [← hw1]; exact bl_drew (Below.refl _ _)
      have hC1 := hC.out.below hb1
      have hO1 := hO.out.trans (Only.of_below hb1)
      have k1 : w1.cell? ⟨g, 1, none⟩ = some (.int .i64 (s.length : Int)) := hC1.cu.cell 1
      change Exit.then _ _ _ _ wr.drew
      rw [hw1]
      clear hw1 d0 d1
      have hby : ByAt (fun _ => True) false w1 ba s := fun h0 => by
        obtain ⟨b, o, e, hb, hr⟩ := hC1.by_ h0
        exact ⟨b, o, e, trivial, hb, (fun q => (Bool.false_ne_true q).elim), hr⟩
      have hcap := hC1.cap
      have hcc := Lib.hid (fun W (hW : Below w1.heap.size w1 W) => clone_any (cutA ba k c 1) (c - k) ((s.drop k).take (s.length - k)) W (by simp; omega) (((hby.drop hcap k).take (s.length - k)).below hW))
      have hlx : ((s.drop k).take (s.length - k)).length = s.length - k := by simp
      rw [hlx] at hcc
      have z0 : w1.cell? ⟨g, 0, none⟩ = some (.slice ba s.length c) := hC1.cu.cell 0
      have p1 : (0 : Int) ≤ (k : Int) := by omega
      have p2 : (k : Int) ≤ (s.length : Int) := by omega
      have p3 : (s.length : Int) ≤ (c : Int) := by omega
      go_upto_region 6 with fail
      refine wp_region_still_tail 10 (by kernel_rfl) (by kernel_rfl) ?_
      simp only [List.take_succ_cons, List.take_zero, List.drop_succ_cons, List.drop_zero]
      iterate 10 still_step
      refine wpStill_nil ?_
      change wpList _ _ _ _ _ w1.drew
      replace hlx := Lib.hid hlx
      replace hrun := Lib.hid hrun
      replace hjr := Lib.hid hjr
      replace hcc := Lib.hid (hcc.out _ (bl_drew (Below.refl _ _)))
      go_wp2_with (go_at_call 29; (with_reducible refine hcc.out.mono ?_); rintro e w2 ⟨v, rfl, ho, hy⟩; replace ho := Lib.hid ho)
      all_goals go_ret
      all_goals exact ⟨_, rfl, by rw [tw_take, hjr.out]; exact own_base8 ho.out hO1.size, by rw [hjr.out]; exact hC1.below (bl_trans (bl_drew (Below.refl _ _)) hy), hO1.trans (Only.of_below (bl_trans (bl_drew (Below.refl _ _)) hy))⟩
end Go.Proofs.YtepdfkgadigafaaGreatDoor
