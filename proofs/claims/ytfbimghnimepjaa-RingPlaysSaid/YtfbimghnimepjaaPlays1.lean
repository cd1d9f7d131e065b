/-
  The contract of the reference's Cut, of layer 24.
  Conditions: as the theorem states them.
-/
import Derived.Test.YtfbimghnimepjaaPlays0
namespace Go.Proofs.Ytfbimghnimepjaa
open Go.RowKit
set_option linter.unusedVariables false
set_option maxHeartbeats 4000000 in
set_option maxRecDepth 100000 in
theorem refcut_any {Av : Nat → Prop} (n : Int) (w : World) (px most low to : Nat) (xs : List Int) (h : RefAt Av w px most low xs) (hl : low ≤ 100000000000) (hn : xs.length ≤ 10000) (hto : (to : Int) = min (max n low) ((low + xs.length : Nat) : Int)) :
    Calls Try.prog 31 #[.pointer (some ⟨px, 0, none⟩), .int .i64 n] w fun e w' => e = .returned (.int .i64 ((low + xs.length - to : Nat) : Int)) ∧ RefAt Av w' px most low (xs.take (to - low)) ∧ Only (fun k => k = px) w w' := by
  have t1 : low ≤ to ∧ to ≤ low + xs.length := by omega
  have t2 : ∀ m : Nat, to - low < m → m ≤ xs.length → n < (low : Int) + m := by omega
  have t3 : low < to → (to : Int) ≤ n := by omega
  clear hto
  replace h := Lib.hid h
  go_enter Try.func31, Try.ntmps31
  go_wp2_with fail
  go_loopw [5] (fun i wr => ∃ j : Nat, i = .int .i64 (j : Int) ∧ j ≤ low + xs.length - to ∧ RefAt Av wr px most low (xs.take (xs.length - j)) ∧ Only (fun k => k = px) w wr) (fun i _ => xs.length - (intOf i).toNat)
  case atStart => exact ⟨0, rfl, by omega, by rw [Nat.sub_zero, List.take_length]; exact h.out, Only.refl _ _⟩
  case round =>
    obtain ⟨j, rfl, hj, hR, hox⟩ := hrel
    have hml : (xs.take (xs.length - j)).length = xs.length - j := by simp
    have hjl : j ≤ xs.length := by omega
    by_cases hlt : j < low + xs.length - to
    · have hm0 : 0 < xs.length - j := by omega
      have q1 : n < (low : Int) + ((xs.length - j : Nat) : Int) := t2 _ (by omega) (by omega)
      have hj1 : xs.length - (j + 1) = xs.length - j - 1 := by omega
      clear t2 t3
      obtain ⟨a, c, hb, h1, h2, h3⟩ := hR
      rw [hml] at hb h1
      have c1 := hb.cell 1
      have c2 := hb.cell 2
      have f2 := hb.free 2
      simp at c1 c2
      rcases h3 with ⟨rfl, h0⟩ | ⟨b, o, rfl, hne, hav, hbl, hc⟩
      · exfalso; rw [h0] at h1; exact absurd h1 (by clear c1 c2 hb; omega)
      · have hset := hb.set 2 (.slice (some ⟨b, o, none⟩) (xs.length - j - 1) c)
        replace hset := Lib.hid hset
        replace hc := Lib.hid hc
        replace hb := Lib.hid hb
        have hle : xs.length - j ≤ 10000 := Nat.le_trans (Nat.sub_le _ _) hn
        replace hj1 := Lib.hid hj1
        generalize hm : xs.length - j = m at *
        replace hm := Lib.hid hm
        have q2 : (1 : Int) ≤ m := Int.ofNat_le.2 hm0
        have hlow : (0 : Int) ≤ low ∧ (low : Int) ≤ 1000000000000 := ⟨Int.natCast_nonneg _, by clear c1 c2; omega⟩
        have hle2 : m ≤ 1000000 := Nat.le_trans hle (by decide)
        go_wp2_with (go_at_call 60; refine (refhigh_raw wr px low _ m c hlow hle2 c1 c2).mono ?_; rintro e w2 ⟨rfl, m2, rfl⟩)
        go_region
        all_goals go_wp2_with fail
        all_goals go_roundw
        case measure => simp [intOf]; omega
        case rel =>
          have ho : Only (fun k => k = px) wr ((wr.drewN (m2 + 1)).setCell ⟨px, 2, none⟩ (.slice (some ⟨b, o, none⟩) (m - 1) c)) := ((Only.refl (fun k => k = px) wr).drewN _).setCell (p := ⟨px, 2, none⟩) (show px = px from rfl) _
          refine ⟨j + 1, by go_num, by omega, ⟨some ⟨b, o, none⟩, c, ?_, ?_, h2, .inr ⟨b, o, rfl, hne, hav, Nat.lt_of_lt_of_le hbl ho.size, fun i u hi => ?_⟩⟩, hox.trans ho⟩
          · have e := hset.out
            simp only [List.set_cons_succ, List.set_cons_zero] at e
            rw [hj1.out]
            have el : (xs.take (m - 1)).length = m - 1 := by rw [List.length_take]; have := hm.out; omega
            rw [el]
            exact e
          · rw [hj1.out, List.length_take]
            exact Nat.le_trans (Nat.min_le_left _ _) (Nat.le_trans (Nat.sub_le _ _) h1)
          · rw [only_cell ho hbl hne]
            refine hc.out i u ?_
            rw [hj1.out, List.getElem?_take] at hi
            rw [List.getElem?_take]
            split at hi
            · rw [if_pos (by omega)]; exact hi
            · cases hi
    · have hjt : j = low + xs.length - to := by omega
      have hm1 : xs.length - j = to - low := by omega
      have hcase : xs.length - j = 0 ∨ (0 < xs.length - j ∧ (low : Int) + ((xs.length - j : Nat) : Int) ≤ n) := by omega
      have hfin : (j : Int) = ((low + xs.length - to : Nat) : Int) := by omega
      have hR' := Lib.hid hR
      clear t2 t3 hjt
      obtain ⟨a, c, hb, h1, h2, h3⟩ := hR
      rw [hml] at hb h1
      have c1 := hb.cell 1
      have c2 := hb.cell 2
      simp at c1 c2
      have hle : xs.length - j ≤ 10000 := Nat.le_trans (Nat.sub_le _ _) hn
      have hle2 : xs.length - j ≤ 1000000 := Nat.le_trans hle (by decide)
      have hlow : (0 : Int) ≤ low ∧ (low : Int) ≤ 1000000000000 := ⟨Int.natCast_nonneg _, by clear c1 c2 hb h3; omega⟩
      clear hb h3 h1 h2
      replace hm1 := Lib.hid hm1
      rcases hcase with h0 | ⟨h0, h1⟩
      · rw [h0] at c2
        replace h0 := Lib.hid h0
        replace hfin := Lib.hid hfin
        go_wp2_with fail
        all_goals go_ret
        all_goals exact ⟨ret_int hfin.out, by rw [← hm1.out]; exact hR'.out, hox⟩
      · replace hfin := Lib.hid hfin
        generalize hm : xs.length - j = m at *
        go_wp2_with (go_at_call 60; refine (refhigh_raw wr px low _ m c hlow hle2 c1 c2).mono ?_; rintro e w2 ⟨rfl, m2, rfl⟩)
        all_goals go_ret
        all_goals exact ⟨ret_int hfin.out, by rw [← hm1.out]; exact hR'.out.below (bl_drewN (Below.refl _ _) _), hox.drewN _⟩
end Go.Proofs.Ytfbimghnimepjaa
