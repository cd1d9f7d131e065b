/-
  The walk of the law AddrLast: it returns true and changes nothing that was there.
  Conditions: as each theorem states them; none beyond.
-/
import Derived.Test.YtfbimghnimepjaaA3
namespace Go.Proofs.Ytfbimghnimepjaa
open Go.RowKit
set_option linter.unusedVariables false
theorem holds_at (S : Bool) (E: Int) (k n r line : Int) (last : Bool) (f : Value) (w : World) (hk : (k == 3) = false) (hS : hv k n line last = S) (hE : he k = E) :
    Calls Try.prog 15 #[.agg #[.int .i64 k, .int .i64 n, .int .i64 r], .agg #[.int .i64 line, .bool last, f]] w fun e w' => e = .returned (.tuple #[.bool S, .int .i64 E]) ∧ Below w.heap.size w w' := by
  subst hS hE; exact holds_plain _ _ _ _ _ _ _ hk

def lastOn (K n i : Int) : Bool := decide (K ≤ i - 1 ∧ i - 1 < n)
theorem lastSel (K n i : Int) (hi : 1 ≤ i) (hn : i ≤ n) (hK : 1 ≤ K) : selS 1 K 2 0 (lastOn K n i) i (i == n) = decide (K ≤ i) ∧ selO 1 K 2 0 (lastOn K n i) i (i == n) = lastOn K n (i + 1) ∧ selE 1 2 = 0 ∧ hv 2 0 i (i == n) = (i == n) := by
  simp only [selS, selO, selE, lastOn, isK, hv, beh]
  grind
set_option maxHeartbeats 2000000 in
theorem last_walk (a b : Int) (ha : 0 ≤ a ∧ a ≤ 255) (hb : 0 ≤ b ∧ b ≤ 255) (w : World) :
    Calls Try.prog 6 #[.int .u8 a, .int .u8 b] w fun e w' => e = .returned (.bool true) ∧ Below w.heap.size w w' := by
  have hn1 : 0 ≤ b % 60 ∧ b % 60 < 60 := by omega
  have hk0 : 0 ≤ a % (1 + b % 60) := Int.emod_nonneg _ (by omega)
  have hk1 : a % (1 + b % 60) < 1 + b % 60 := Int.emod_lt_of_pos _ (by omega)
  go_enter Try.func6, Try.ntmps6
  go_wp2_with fail
  have hK : 1 ≤ 1 + a % (1 + b % 60) ∧ 1 + a % (1 + b % 60) ≤ 1 + b % 60 := by omega
  have hN : 1 + b % 60 ≤ 60 := by omega
  clear hn1 hk0 hk1
  generalize 1 + a % (1 + b % 60) = K at *
  generalize 1 + b % 60 = n at *
  go_loopw [9, 10] (fun on i wr => ∃ k : Int, 1 ≤ k ∧ k ≤ n + 1 ∧ i = .int .i64 k ∧ on = .bool (lastOn K n k) ∧ Below w.heap.size w wr ∧ Box3 wr w.heap.size 1 K 0 ∧ Box3 wr (w.heap.size + 1) 2 0 0 ∧ w.heap.size + 1 < wr.heap.size) (fun _ i _ => (n + 1 - intOf i).toNat)
  case atStart => 
    refine ⟨1, by omega, by omega, rfl, ?_, bl_alloc (bl_alloc (Below.refl _ _) _) _, ?_, ?_, ?_⟩
    · simp [lastOn]; omega
    · refine ⟨?_, ?_, ?_⟩ <;> go_simp
    · refine ⟨?_, ?_, ?_⟩ <;> go_simp
    · simp
  case round =>
    obtain ⟨k, hk1, hk2, rfl, rfl, hbl, hb1, hb2, hsz⟩ := hrel
    have hb1x := hb1
    have hb2x := hb2
    obtain ⟨q1, q2, q3⟩ := hb1x
    obtain ⟨p1, p2, p3⟩ := hb2x
    by_cases hlt : k ≤ n
    · obtain ⟨hss, hso, hse, hh⟩ := lastSel K n k hk1 hlt hK.1
      by_cases g1 : K ≤ k
      · by_cases g2 : k < n
        · -- inside
          have hO : lastOn K n (k + 1) = true := by simp [lastOn]; omega
          have H := Lib.hid (sel_at true true 0 1 K 0 2 0 0 k (lastOn K n k) (k == n) .nilFunc wr rfl rfl (hss.trans (by simpa using g1)) (hso.trans hO) hse)
          have H2 := fun w1 => Lib.hid (holds_at (k == n) 0 2 0 0 k (k == n) .nilFunc w1 rfl hh rfl)
          have hO := Lib.hid hO
          clear hss hso hse hh
          go_wp2_with (first | (go_at_call 18; refine (H.out).mono ?_; rintro e w1 ⟨rfl, hb3⟩; obtain ⟨q1', q2', q3'⟩ := hb1.below hb3 (by omega); obtain ⟨p1', p2', p3'⟩ := hb2.below hb3 (by omega)) | (go_at_call 15; refine ((H2 _).out).mono ?_; rintro e w2 ⟨rfl, hb4⟩))
          all_goals go_roundw
          case rel => exact ⟨k + 1, by omega, by omega, rfl, by rw [hO.out], hbl.trans ((hb3.trans (hb4.mono hb3.size)).mono hbl.size), (hb1.below hb3 (by omega)).below hb4 (by have := hb3.size; omega), (hb2.below hb3 (by omega)).below hb4 (by have := hb3.size; omega), by have := hb3.size; have := hb4.size; omega⟩
          case measure => simp [intOf]; omega
        · have g3 : n ≤ k := by omega
          have hO : lastOn K n (k + 1) = false := by simp [lastOn]; omega
          have H := Lib.hid (sel_at true false 0 1 K 0 2 0 0 k (lastOn K n k) (k == n) .nilFunc wr rfl rfl (hss.trans (by simpa using g1)) (hso.trans hO) hse)
          have H2 := fun w1 => Lib.hid (holds_at (k == n) 0 2 0 0 k (k == n) .nilFunc w1 rfl hh rfl)
          have hO := Lib.hid hO
          clear hss hso hse hh
          go_wp2_with (first | (go_at_call 18; refine (H.out).mono ?_; rintro e w1 ⟨rfl, hb3⟩; obtain ⟨q1', q2', q3'⟩ := hb1.below hb3 (by omega); obtain ⟨p1', p2', p3'⟩ := hb2.below hb3 (by omega)) | (go_at_call 15; refine ((H2 _).out).mono ?_; rintro e w2 ⟨rfl, hb4⟩))
          all_goals go_roundw
          case rel => exact ⟨k + 1, by omega, by omega, rfl, by rw [hO.out], hbl.trans ((hb3.trans (hb4.mono hb3.size)).mono hbl.size), (hb1.below hb3 (by omega)).below hb4 (by have := hb3.size; omega), (hb2.below hb3 (by omega)).below hb4 (by have := hb3.size; omega), by have := hb3.size; have := hb4.size; omega⟩
          case measure => simp [intOf]; omega
      · -- ahead
        have hO : lastOn K n (k + 1) = false := by simp [lastOn]; omega
        have H := Lib.hid (sel_at false false 0 1 K 0 2 0 0 k (lastOn K n k) (k == n) .nilFunc wr rfl rfl (hss.trans (by simpa using g1)) (hso.trans hO) hse)
        have H2 := fun w1 => Lib.hid (holds_at (k == n) 0 2 0 0 k (k == n) .nilFunc w1 rfl hh rfl)
        have hO := Lib.hid hO
        clear hss hso hse hh
        go_wp2_with (first | (go_at_call 18; refine (H.out).mono ?_; rintro e w1 ⟨rfl, hb3⟩; obtain ⟨q1', q2', q3'⟩ := hb1.below hb3 (by omega); obtain ⟨p1', p2', p3'⟩ := hb2.below hb3 (by omega)) | (go_at_call 15; refine ((H2 _).out).mono ?_; rintro e w2 ⟨rfl, hb4⟩))
        all_goals go_roundw
        case rel => exact ⟨k + 1, by omega, by omega, rfl, by rw [hO.out], hbl.trans ((hb3.trans (hb4.mono hb3.size)).mono hbl.size), (hb1.below hb3 (by omega)).below hb4 (by have := hb3.size; omega), (hb2.below hb3 (by omega)).below hb4 (by have := hb3.size; omega), by have := hb3.size; have := hb4.size; omega⟩
        case measure => simp [intOf]; omega
    · have hO : lastOn K n k = false := by simp [lastOn]; omega
      go_wp2_with (go_at_call 14; refine (awake_any _).mono ?_; rintro e w1 ⟨rfl, hb4⟩)
      all_goals go_ret
      all_goals exact ⟨rfl, hbl.trans (hb4.mono hbl.size)⟩
end Go.Proofs.Ytfbimghnimepjaa
