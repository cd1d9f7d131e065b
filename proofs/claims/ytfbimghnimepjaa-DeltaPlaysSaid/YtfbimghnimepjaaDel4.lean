/-
  The contract of slices.Concat, as chapter 23 calls it.
  Conditions: as each theorem states them.
-/
import Derived.Test.YtfbimghnimepjaaDel3
namespace Go.Proofs.Ytfbimghnimepjaa
open Go.RowKit
set_option linter.unusedVariables false
set_option linter.unusedSimpArgs false
theorem flat_take {xs : List (List UInt8)} {k : Nat} (h : k < xs.length) : (xs.take (k + 1)).flatten = (xs.take k).flatten ++ xs[k] := by
  rw [List.take_succ_eq_append_getElem h, List.flatten_append]
  simp
theorem flat_le (xs : List (List UInt8)) (k : Nat) : (xs.take k).flatten.length ≤ xs.flatten.length := by
  conv => rhs; rw [← List.take_append_drop k xs]
  rw [List.flatten_append, List.length_append]
  omega
/-- how much the first k have -/
def flen (xs : List (List UInt8)) (k : Nat) : Nat := (xs.take k).flatten.length
def flat (xs : List (List UInt8)) (k : Nat) : List UInt8 := (xs.take k).flatten
theorem flen_succ {xs : List (List UInt8)} {k : Nat} (h : k < xs.length) : flen xs (k + 1) = flen xs k + xs[k].length := by unfold flen; rw [flat_take h, List.length_append]
theorem flat_succ {xs : List (List UInt8)} {k : Nat} (h : k < xs.length) : flat xs (k + 1) = flat xs k ++ xs[k] := by unfold flat; rw [flat_take h]
theorem flen_le (xs : List (List UInt8)) (k : Nat) : flen xs k ≤ xs.flatten.length := flat_le xs k
theorem flen_all (xs : List (List UInt8)) : flen xs xs.length = xs.flatten.length := by unfold flen; rw [List.take_length]
theorem flat_all (xs : List (List UInt8)) : flat xs xs.length = xs.flatten := by unfold flat; rw [List.take_length]
set_option maxRecDepth 100000 in
set_option maxHeartbeats 1000000 in
theorem concat_any (la : Option Addr) (xs : List (List UInt8)) (c : Nat) (w : World) (hn : xs.length ≤ 1000) (hs : xs.flatten.length ≤ 1000000) (ha : TxAt (fun _ => True) false w la xs) :
    Calls Try.prog 83 #[.slice la xs.length c] w fun e w' => ∃ v, e = .returned v ∧ w'.ownsRow w.heap.size 5 1 v xs.flatten.length (xs.flatten.map bv) ∧ Below w.heap.size w w' := by
  obtain ⟨i0, hi, hz0, hz1, hz2⟩ := info_parts info5_
  replace ha := Lib.hid ha
  replace hs := Lib.hid hs
  go_enter Try.func83, Try.ntmps83
  go_wp2_with fail
  go_loop [3, 11] (fun s i => ∃ k : Nat, i = .int .i64 (k : Int) ∧ k ≤ xs.length ∧ s = .int .i64 (flen xs k : Nat)) (fun _ i => xs.length - (intOf i).toNat)
  case atStart => exact ⟨0, rfl, by omega, rfl⟩
  case round =>
    obtain ⟨k, rfl, hk, rfl⟩ := hrel
    by_cases h1 : k < xs.length
    · obtain ⟨b, o, xa, xc, rfl, c1, _, _, _⟩ := ha.out.nth h1
      have e1 := flen_succ h1
      have e2 := Nat.le_trans (flen_le xs (k + 1)) hs.out
      have e3 : flen xs k + xs[k].length ≤ 1000000 := by omega
      replace e1 := Lib.hid e1
      clear e2
      generalize flen xs k = s at *
      go_wp2_with fail
      all_goals go_round
      case measure => simp [intOf]; omega
      case rel => exact ⟨k + 1, by go_num, by omega, by rw [e1.out]; go_num⟩
    · obtain rfl : k = xs.length := by omega
      have e2 := Nat.le_trans (flen_le xs xs.length) hs.out
      have hgrow := Lib.hid (growNil_any (flen xs xs.length) w (by omega))
      go_wp2_with (go_at_call 85; refine hgrow.out.mono ?_; rintro e w1 ⟨v0, rfl, hown, hb1⟩)
      replace hown := Lib.hid hown
      go_loopw [6, 27] (fun v i wr => ∃ j : Nat, i = .int .i64 (j : Int) ∧ j ≤ xs.length ∧ Below w.heap.size w wr ∧ wr.ownsRow w.heap.size 5 1 v (flen xs j) ((flat xs j).map bv)) (fun _ i _ => xs.length - (intOf i).toNat)
      case atStart => exact ⟨0, rfl, by omega, hb1, hown.out⟩
      case round =>
        obtain ⟨j, rfl, hj, hbr, hor⟩ := hrel
        replace hor := Lib.hid hor
        by_cases h2 : j < xs.length
        · obtain ⟨b, o, xa, xc, rfl, c1, _, _, hB⟩ := (ha.out.below hbr).nth h2
          have e1 := flat_succ h2
          have e1' := flen_succ h2
          have e2 := Nat.le_trans (flen_le xs (j + 1)) hs.out
          have e3 : flen xs j + xs[j].length ≤ 1000000 := by omega
          have hv := Lib.hid hB.vals
          have hm : (xs[j].map bv).length = xs[j].length := by simp
          have ho := bv_one xs[j]
          replace hm := Lib.hid hm
          replace ho := Lib.hid ho
          replace e1 := Lib.hid e1
          replace e1' := Lib.hid e1'
          have e4 : xs[j].length ≤ 1000000 := by omega
          clear e2 hB
          go_wp2_with (at_builtin; refine wpList_append_vs rfl (.tmp 31) (.tmp 32) 73 rfl w.heap.size 5 i0 (.int .u8 0) 1 Try.underlying73 hi hz0 hz1 hz2 rfl _ _ _ rfl hor.out xa xs[j].length xc (xs[j].map bv) hm.out rfl hv.out ho.out (by unfold maxLen; omega) (by omega) hbr.size ?_; intro v1 w2 hown1 hgrow1)
          replace hown1 := Lib.hid hown1
          all_goals go_wp2_with fail
          all_goals go_roundw
          case measure => simp [intOf]; omega
          case rel => exact ⟨j + 1, by go_num, by omega, hbr.grown hgrow1 hbr.size (fun q hq => (hor.out.lt q hq).1), by rw [e1.out, e1'.out, List.map_append]; exact hown1.out⟩
        · obtain rfl : j = xs.length := by omega
          go_wp2_with fail
          all_goals go_ret
          all_goals exact ⟨_, rfl, by rw [← flen_all, ← flat_all]; exact hor.out, hbr⟩
end Go.Proofs.Ytfbimghnimepjaa
