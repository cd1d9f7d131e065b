/-
  The walks of three laws of chapter 01: DigitNums, DigitClasses, DigitKinds.
  Conditions: the table of powers of ten lies as laid ('Pow').
-/
import Derived.Test.YtjfpepinmbbnbaaDoorNum2
import Derived.Test.YtjfpepinmbbnbaaDoorAwake1
namespace Go.Proofs.YtjfpepinmbbnbaaDoor
open Go.RowKit
set_option linter.unusedVariables false
theorem numS_out {l : List UInt8} {a most : Int} (h : a < 0 ∨ (l.length : Int) < a) : numS l a most = (0, 0, 1) := by rw [numS, if_pos h]
theorem num_all (ba : Option Addr) (bc : Nat) (xs : List UInt8) (a most : Int) (w : World) (hl : xs.length ≤ 4611686018427387904) (hm : -9223372036854775808 ≤ most ∧ most ≤ 9223372036854775807)
    (hb : 0 < xs.length → ∃ p o, ba = some ⟨p, o, none⟩ ∧ ByteRow w p o xs) :
    Calls Tryd.prog 14 #[.slice ba xs.length bc, .int .i64 a, .int .i64 most] w fun e w' => e = .returned (.tuple #[.int .i64 (numS xs a most).1, .int .i64 (numS xs a most).2.1, .int .i64 (numS xs a most).2.2]) ∧ w = w' := by
  by_cases h : a < 0 ∨ (xs.length : Int) < a
  · rw [numS_out h]; exact num_out _ _ _ _ _ _ h
  · obtain ⟨n, rfl⟩ : ∃ n : Nat, a = n := ⟨a.toNat, by omega⟩
    exact num_in _ _ _ _ _ _ (by omega) hl hm hb
theorem refnum_all (ba : Option Addr) (bc : Nat) (xs : List UInt8) (a most : Int) (w : World) (hl : xs.length ≤ 4611686018427387904) (hm : -9223372036854775808 ≤ most ∧ most ≤ 9223372036854775807)
    (hb : 0 < xs.length → ∃ p o, ba = some ⟨p, o, none⟩ ∧ ByteRow w p o xs) :
    Calls Tryd.prog 15 #[.slice ba xs.length bc, .int .i64 a, .int .i64 most] w fun e w' => e = .returned (.tuple #[.int .i64 (numS xs a most).1, .int .i64 (numS xs a most).2.1, .int .i64 (numS xs a most).2.2]) ∧ w = w' := by
  by_cases h : a < 0 ∨ (xs.length : Int) < a
  · rw [numS_out h]; exact refnum_out _ _ _ _ _ _ h
  · obtain ⟨n, rfl⟩ : ∃ n : Nat, a = n := ⟨a.toNat, by omega⟩
    exact refnum_in _ _ _ _ _ _ (by omega) hl hm hb
set_option maxHeartbeats 2000000 in
theorem digitNums_walk (W : World) (hp : Pow W) (ba : Option Addr) (bl bc : Nat) (xs : List UInt8) (h : (rSl rByte).ok (Sub.all W) [.slice ba bl bc] xs) (a : Int) (wa : (Lit.int .i64 a).wf = true) (m : Int) (wm : (Lit.int .i64 m).wf = true) :
    Calls Tryd.prog 3 #[.slice ba bl bc, .int .i64 a, .int .i64 m] W fun e w' => e = .returned (.bool true) ∧ Below W.heap.size W w' := by
  obtain ⟨ba', bc', e, hc, hmx, hrow⟩ := h
  obtain ⟨rfl, rfl, rfl⟩ : ba = ba' ∧ bl = xs.length ∧ bc = bc' := by simpa using e
  have hw : -9223372036854775808 ≤ m ∧ m ≤ 9223372036854775807 := by simp [Lit.wf, IntKind.min, IntKind.max, IntKind.signed, IntKind.bits] at wm; omega
  have hb : 0 < xs.length → ∃ p o, ba = some ⟨p, o, none⟩ ∧ ByteRow W p o xs := fun h0 => by
    obtain ⟨b, o, h1, h2⟩ := hrow h0
    exact ⟨b, o, h1, h2.bytes (Sub.all_in W)⟩
  have ha := Lib.hid (awake01 W hp)
  clear e hc hmx hrow wa wm hp
  by_cases hlen : 60 < xs.length
  · go_enter Tryd.func3, Tryd.ntmps3
    go_wp2_with (go_at_call 13; refine ha.out.mono ?_; rintro e w' ⟨rfl, hbel⟩)
    all_goals go_ret
    all_goals exact ⟨rfl, hbel⟩
  · have k1 := Lib.hid (num_all ba bc xs a m W (by omega) hw hb)
    have k2 := Lib.hid (refnum_all ba bc xs a m W (by omega) hw hb)
    clear hb
    generalize numS xs a m = r at *
    obtain ⟨r1, r2, r3⟩ := r
    go_enter Tryd.func3, Tryd.ntmps3
    go_wp2_with (first
      | (go_at_call 14; refine k1.out.mono ?_; rintro e w' ⟨rfl, rfl⟩)
      | (go_at_call 15; refine k2.out.mono ?_; rintro e w' ⟨rfl, rfl⟩)
      | (go_at_call 13; refine ha.out.mono ?_; rintro e w' ⟨rfl, hbel⟩))
    all_goals go_ret
    all_goals exact ⟨rfl, hbel⟩
set_option maxHeartbeats 2000000 in
theorem digitClasses_walk (W : World) (hp : Pow W) (s : ByteArray) (hs : s.size ≤ maxLen) (c : Int) (wc : (Lit.int .u8 c).wf = true) :
    Calls Tryd.prog 6 #[.string s, .int .u8 c] W fun e w' => e = .returned (.bool true) ∧ Below W.heap.size W w' := by
  have hw : 0 ≤ c ∧ c ≤ 255 := by simp [Lit.wf, IntKind.min, IntKind.max, IntKind.signed, IntKind.bits] at wc; omega
  have ha := Lib.hid (awake01 W hp)
  have k1 := Lib.hid (is_any s c hw W)
  have k2 := Lib.hid (refis_any s c hw W)
  generalize isS s.toList c = r at *
  obtain ⟨r1, r2⟩ := r
  clear hp wc
  by_cases hlen : 20 < s.size
  all_goals go_enter Tryd.func6, Tryd.ntmps6
  all_goals go_wp2_with (first
      | (go_at_call 20; refine k1.out.mono ?_; rintro e w' ⟨rfl, rfl⟩)
      | (go_at_call 21; refine k2.out.mono ?_; rintro e w' ⟨rfl, rfl⟩)
      | (go_at_call 13; refine ha.out.mono ?_; rintro e w' ⟨rfl, hbel⟩))
  all_goals go_ret
  all_goals exact ⟨rfl, hbel⟩
end Go.Proofs.YtjfpepinmbbnbaaDoor
