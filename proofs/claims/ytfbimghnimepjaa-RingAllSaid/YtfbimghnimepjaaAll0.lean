/-
  Contracts of a nil ring, and of Same where both slices are one.
  Conditions: as each theorem states them.
-/
import Derived.Test.YtfbimghnimepjaaRingK
import Derived.Test.YtfbimghnimepjaaIter3
namespace Go.Proofs.Ytfbimghnimepjaa
open Go.RowKit Go.Shelf
set_option linter.unusedVariables false
theorem low_nil (w : World) : Calls Try.prog 40 #[.pointer none] w fun e w' => e = .returned (.int .i64 0) ∧ w = w' := by
  go_enter Try.func40, Try.ntmps40
  go_wp2_with fail
  all_goals go_ret
  all_goals exact ⟨rfl, rfl⟩
theorem high_nil (w : World) : Calls Try.prog 41 #[.pointer none] w fun e w' => e = .returned (.int .i64 0) ∧ w = w' := by
  go_enter Try.func41, Try.ntmps41
  go_wp2_with fail
  all_goals go_ret
  all_goals exact ⟨rfl, rfl⟩
theorem at_nil (n : Int) (w : World) : Calls Try.prog 39 #[.pointer none, .int .i64 n] w fun e w' => e = .returned (.tuple #[.int .i64 0, .bool false]) ∧ w = w' := by
  go_enter Try.func39, Try.ntmps39
  go_wp2_with fail
  all_goals go_ret2
  all_goals exact ⟨rfl, rfl⟩
theorem push_nil (n : Int) (w : World) : Calls Try.prog 28 #[.pointer none, .int .i64 n] w fun e w' => e = .returned (.int .i64 (-1)) ∧ w = w' := by
  go_enter Try.func28, Try.ntmps28
  go_wp2_with fail
  all_goals go_ret
  all_goals exact ⟨rfl, rfl⟩
theorem cut_nil (n : Int) (w : World) : Calls Try.prog 30 #[.pointer none, .int .i64 n] w fun e w' => e = .returned (.int .i64 0) ∧ w = w' := by
  go_enter Try.func30, Try.ntmps30
  go_wp2_with fail
  all_goals go_ret
  all_goals exact ⟨rfl, rfl⟩
set_option maxHeartbeats 1000000 in
theorem all_nil (w : World) : Calls Try.prog 36 #[.pointer none] w fun e w' => e = .returned (.func (.func 67) #[] #[.pointer (some ⟨w.heap.size, 0, none⟩), .pointer (some ⟨w.heap.size + 1, 0, none⟩)]) ∧
      w' = (w.alloc (.cells #[.slice none 0 0] 61)).alloc (.cells #[.int .i64 0] 3) := by
  go_enter Try.func36, Try.ntmps36
  go_wp2_with (first | (go_at_call 40; refine (low_nil _).mono ?_; rintro e w2 ⟨rfl, rfl⟩) | (go_at_call 41; refine (high_nil _).mono ?_; rintro e w2 ⟨rfl, rfl⟩))
  go_loopw [5] (fun i wr => i = .int .i64 0 ∧ wr = (w.alloc (.cells #[.slice none 0 0] 61)).alloc (.cells #[.int .i64 0] 3)) (fun _ _ => 0)
  case atStart => exact ⟨rfl, rfl⟩
  case round =>
    obtain ⟨rfl, rfl⟩ := hrel
    go_wp2_with (go_at_call 41; refine (high_nil _).mono ?_; rintro e w2 ⟨rfl, rfl⟩)
    all_goals go_ret
    all_goals exact ⟨rfl, rfl⟩
set_option maxHeartbeats 1000000 in
theorem same_refl (a : Option Addr) (n c : Nat) (f : Nat → Int) (hn : n ≤ 9223372036854775807) (w : World) (hrow : 0 < n → ∃ b o, a = some ⟨b, o, none⟩ ∧ ∀ i, i < n → w.cell? ⟨b, o + i, none⟩ = some (.int .u8 (f i))) :
    Calls Try.prog 37 #[.slice a n c, .slice a n c] w fun e w' => e = .returned (.bool true) ∧ ∃ m, w' = w.drewN m := by
  replace hrow := Lib.hid hrow
  go_enter Try.func37, Try.ntmps37
  go_wp2_with fail
  go_loopw [5] (fun i wr => ∃ k m : Nat, k ≤ n ∧ i = .int .i64 (k : Int) ∧ wr = w.drewN m) (fun i _ => n - (intOf i).toNat)
  case atStart => exact ⟨0, 0, by omega, rfl, rfl⟩
  case round =>
    obtain ⟨k, m, hk, rfl, rfl⟩ := hrel
    by_cases hlt : k < n
    · obtain ⟨b, o, rfl, hc⟩ := hrow.out (by omega)
      have c1 := hc k hlt
      clear hc
      go_wp2_with (go_quiet (fail))
      all_goals go_roundw
      case measure => simp [intOf]; omega
      case rel => exact ⟨k + 1, _, by omega, by go_num, rfl⟩
    · go_wp2_with fail
      all_goals go_ret
      all_goals exact ⟨rfl, m, rfl⟩
end Go.Proofs.Ytfbimghnimepjaa
