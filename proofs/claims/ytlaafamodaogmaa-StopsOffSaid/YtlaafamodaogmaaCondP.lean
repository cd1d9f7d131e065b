/-
  cond.parser: phase; of chapter 27.
  Conditions: as each theorem states them.
-/
import Derived.Test.YtlaafamodaogmaaCondO
import Derived.Deep.RegionHeld3
namespace Go.Proofs.Ytlaafamodaogmaa
open Go.RowKit
set_option linter.unusedVariables false
set_option linter.unusedSimpArgs false
open CM (Sv Pc Ps)
theorem ph_val (s : List UInt8) : ∃ N, (tabF phT ⟨s.toArray⟩).getD (.int .i64 0) = .int .i64 N ∧ ((tabF phT ⟨s.toArray⟩).isSome = true → CM.phOf s = some N) := by
  cases h : CM.phOf s with
  | some n => exact ⟨n, ph_is s n h, fun _ => rfl⟩
  | none =>
    have h2 := ph_some s
    rw [h] at h2
    cases h3 : tabF phT ⟨s.toArray⟩ with
    | none => exact ⟨0, rfl, fun h => by simp at h⟩
    | some v => rw [h3] at h2; simp at h2
set_option maxHeartbeats 4000000 in
set_option maxRecDepth 100000 in
theorem phase_any {s : List UInt8} {p : Ps} {w : World} {g : Nat} (h : Fit s p w g) (hok : CM.Ok s p) :
    Calls Try.prog 96 #[.pointer (some ⟨g, 0, none⟩)] w (HoldsOut s g w (CM.phaseS s p)) := by
  obtain ⟨c0, c1, c2, c3, c4, c5, c6⟩ := h.at_.facts
  have hgl := h.at_.lt
  have hph := Lib.hid (fun W => ph_any W)
  obtain ⟨N, hv, hN⟩ := ph_val p.pc.s
  obtain ⟨bb, hbb⟩ : ∃ bb, (tabF phT ⟨p.pc.s.toArray⟩).isSome = bb := ⟨_, rfl⟩
  have hlk := Lib.hid (fun (W : World) (m : Nat) (hM : StrMap W m (tabF phT)) => look_tab hM Try.underlying136 (zero_int W) p.pc.s)
  rw [hv, hbb] at hlk
  have hcell := Lib.hid (fun (W : World) (hb : Below w.heap.size w W) => hb.cell (p := ⟨g, 5, none⟩) hgl)
  unfold HoldsOut
  replace hv := Lib.hid hv
  replace hN := Lib.hid hN
  replace hbb := Lib.hid hbb
  replace h := Lib.hid h
  replace hok := Lib.hid hok
  clear c0 c1 c2 c3 c4 c6
  go_enter Try.func96, Try.ntmps96
  go_upto_region 1 with fail
  go_cut [3, 4] from 5 to 14 (fun s3 s4 wx => ∃ b, s3 = .pointer (some ⟨b, 0, none⟩) ∧ s4 = .bool bb ∧ wx.cell? ⟨b, 0, none⟩ = some (.int .i64 N) ∧ b < wx.heap.size ∧ w.heap.size ≤ b ∧ Below w.heap.size w wx)
  case first =>
    go_region_with (first
      | (go_at_call 68; (with_reducible refine (hph.out _).mono ?_); rintro e w2 ⟨m, rfl, hM, hm1, hm2, hb2⟩; have hlk2 := hlk.out _ _ hM; have hlk3 := fun o => hlk.out _ _ (hM.below (bl_alloc (Below.refl _ _) o)); have hB2 : Below w.heap.size w w2 := (by first | exact bl_trans (bl_drew (Below.refl _ _)) hb2 | exact bl_trans (bl_alloc (bl_drew (Below.refl _ _)) _) hb2 | exact bl_trans (bl_drew (bl_alloc (Below.refl _ _) _)) hb2); have hc2 := hcell.out _ hB2; have hs2 := hB2.size; have hgl2 : g < w2.heap.size := Nat.lt_of_lt_of_le hgl hs2; first | (with_reducible have _hA : Below w.drew.heap.size w.drew w2 := hb2) | (have hn2 : w2.cell? ⟨w.heap.size, 0, none⟩ = some (.int .i64 0) := (hb2.cell (p := ⟨w.heap.size, 0, none⟩) (by simp)).trans (by simp [go_sem]); have hz2 : w2.frozen? ⟨w.heap.size, 0, none⟩ = false := (hb2.frozen (p := ⟨w.heap.size, 0, none⟩) (by simp)).trans (by simp [go_sem]); have hl2 : w.heap.size < w2.heap.size := Nat.lt_of_lt_of_le (by simp) hb2.size)))
    all_goals go_wp2_with fail
    all_goals go_meet
    all_goals first
      | exact ⟨w2.heap.size, rfl, rfl, (Blk.new w2 3 [.int .i64 N]).cell 0, by simp, hs2, bl_alloc hB2 _⟩
      | exact ⟨w.heap.size, rfl, rfl, by simp [hn2, go_sem], by simpa [World.setCell] using hl2, Nat.le_refl _, bl_setCell hB2 (Nat.le_refl _) _⟩
  case rest =>
    obtain ⟨q, rfl, rfl, hqc, hql, hqs, hB⟩ := hcut
    obtain ⟨w1, hw1⟩ : ∃ w1 : World, w1 = wc := ⟨_, rfl⟩
    subst hw1
    clear hcell hlk hph c5
    have hF : Fit s p w1 g := ⟨h.out.len, h.out.le, Blk.below h.out.at_ hB⟩
    obtain ⟨c0, c1, c2, c3, c4, c5, c6⟩ := hF.at_.facts
    have hO := Lib.hid (Only.of_below hB : Oly g w w1)
    have hqg : q ≠ g := by omega
    have hgq : g < q := by omega
    replace h := h.out
    clear h
    have hfl := Lib.hid (fun W => fail_any (p.pc.at_ : Int) 9 W)
    by_cases hk : p.pc.kind = 1
    · have q0 : ((p.pc.kind : Int) != 1) = false := by rw [hk]; rfl
      by_cases hb : bb = true
      · subst hb
        have hph := hN.out hbb.out
        cases hn : p.next s with
        | error e =>
          obtain ⟨a, x⟩ := e
          have hS : CM.phaseS s p = .error (a, x) := by unfold CM.phaseS; rw [if_pos hk, hph]; simp only; rw [hn]
          have hnx := Lib.hid (next_err hF hn)
          replace hS := Lib.hid hS
          clear hF hn hk hN hbb hph hB
          go_wp2_with (go_at_call 29; refine hnx.out.mono ?_; rintro e w3 ⟨rfl, hO3⟩)
          all_goals exact ⟨rfl, Out.err hS.out (Only.trans hO.out hO3)⟩
        | ok r =>
          have hS : CM.phaseS s p = .ok (fun _ now => now.phase == N, r) := by unfold CM.phaseS; rw [if_pos hk, hph]; simp only; rw [hn]
          have hnx := Lib.hid (next_ok hF hn)
          replace hS := Lib.hid hS
          clear hF hn hk hN hbb hph hB
          go_wp2_with (go_at_call 29; refine hnx.out.mono ?_; rintro e w3 ⟨rfl, hP3, hO3⟩)
          all_goals go_ret
          all_goals exact Out.ok hS.out (HoldsIs.phase ((oly_cell hO3 hql hqg).trans hqc) (Nat.lt_of_lt_of_le hql hO3.size) hgq) hP3 (Only.trans hO.out hO3)
      · obtain rfl : bb = false := by simpa using hb
        have hph : CM.phOf p.pc.s = none := by
          have h1 := ph_some p.pc.s
          rw [hbb.out] at h1
          cases h2 : CM.phOf p.pc.s with
          | none => rfl
          | some n => rw [h2] at h1; simp at h1
        have hS : CM.phaseS s p = .error (p.pc.at_, 9) := by unfold CM.phaseS; rw [if_pos hk, hph]
        replace hS := Lib.hid hS
        clear hF hk hN hbb hph hB
        go_wp2_with (go_at_call 49; refine (hfl.out _).mono ?_; rintro e w5 ⟨rfl, hw5⟩; subst hw5)
        all_goals exact ⟨rfl, Out.err hS.out hO.out⟩
    · have q0 : ((p.pc.kind : Int) != 1) = true := by simp; omega
      have hS : CM.phaseS s p = .error (p.pc.at_, 9) := by unfold CM.phaseS; rw [if_neg hk]
      replace hS := Lib.hid hS
      clear hF hk hN hbb hB
      go_wp2_with (go_at_call 49; refine (hfl.out _).mono ?_; rintro e w5 ⟨rfl, hw5⟩; subst hw5)
      all_goals exact ⟨rfl, Out.err hS.out hO.out⟩
end Go.Proofs.Ytlaafamodaogmaa
