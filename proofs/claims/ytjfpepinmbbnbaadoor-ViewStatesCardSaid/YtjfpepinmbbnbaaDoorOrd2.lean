/-
  The contracts of a word's number, of chapter 29.
  Conditions: as each theorem states them.
-/
import Derived.Test.YtjfpepinmbbnbaaDoorOrd1
import Derived.Laws.IdiomStrings
namespace Go.Proofs.YtjfpepinmbbnbaaDoor
open Go.RowKit
set_option linter.unusedVariables false
set_option linter.unusedSimpArgs false
/-- '[]byte(s)' -/
theorem conv_bytes {P : Program} (w : World) (src dst e : TypeId) (xs : List UInt8) (hs : P.underlying src = some .string) (hd : P.underlying dst = some (.slice e)) (he : P.underlying e = some (.int .u8)) :
    ∃ c w', (convert src dst (strV xs)).run P w = .ok (.slice (some ⟨w.heap.size, 0, none⟩) xs.length c) w' ∧ Below w.heap.size w w' ∧ ByteRow w' w.heap.size 0 xs ∧ w.heap.size < w'.heap.size := by
  have h := run_bytes_of_string (P := P) w src dst e ⟨xs.toArray⟩ hs hd he
  rw [show (⟨xs.toArray⟩ : ByteArray).size = xs.length from ba_size xs] at h
  refine ⟨_, _, h, bl_alloc (bl_drew (Below.refl _ _)) _, fun i hi => ?_, by simp⟩
  rw [Nat.zero_add]
  have hsz : i < (⟨xs.toArray⟩ : ByteArray).data.size := by simpa using hi
  exact (World.cell?_alloc_mark w.drew _ _ _ i).trans ((bytesRow_at _ _ _ hsz).trans (by simp))
theorem isDig_any (c : Int) (hc : 0 ≤ c ∧ c ≤ 255) (w : World) : Calls Tryd.prog 20 #[.string ⟨#[100, 105, 103, 105, 116]⟩, .int .u8 c] w fun e w' => e = .returned (.tuple #[.bool (wi c 48 57), .bool true]) ∧ w = w' := by
  have h := is_any ⟨#[100, 105, 103, 105, 116]⟩ c hc w
  have e : isS (⟨#[100, 105, 103, 105, 116]⟩ : ByteArray).toList c = (wi c 48 57, true) := by
    rw [show (⟨#[100, 105, 103, 105, 116]⟩ : ByteArray).toList = [100, 105, 103, 105, 116] by decide +kernel]
    rfl
  rw [e] at h
  exact h
theorem onum_all {xs : List UInt8} {k : Nat} (h : AllB dig k xs) (hk : xs.length ≤ k) : OM.num xs = ((numS xs 0 2147483648).1, (numS xs 0 2147483648).2.2) := by
  unfold OM.num; rw [if_pos (h.all hk)]
theorem onum_not {xs : List UInt8} {k : Nat} (hk : k < xs.length) (e : dig xs[k] = false) : OM.num xs = (0, 9) := by
  unfold OM.num; rw [if_neg (by rw [all_not hk e]; simp)]
theorem wi_dig (c : UInt8) : wi (c.toNat : Int) 48 57 = dig c := by
  unfold wi dig
  rw [Bool.eq_iff_iff]; simp; omega
theorem ret_ii {p : Int × Int} {a b : Int} (h : p = (a, b)) : Ending.returned (.tuple #[.int .i64 a, .int .i64 b]) = .returned (.tuple #[.int .i64 p.1, .int .i64 p.2]) := by rw [h]
set_option maxHeartbeats 2000000 in
theorem number_any (xs : List UInt8) (w : World) (hs : xs.length ≤ 1000000) :
    Calls Tryd.prog 83 #[strV xs] w fun e w' => e = .returned (.tuple #[.int .i64 (OM.num xs).1, .int .i64 (OM.num xs).2]) ∧ Below w.heap.size w w' := by
  obtain ⟨c1, w1, hc1, hb1, hr1, hl1⟩ := conv_bytes (P := Tryd.prog) w 9 22 5 xs Tryd.underlying9 Tryd.underlying22 Tryd.underlying5
  obtain ⟨c2, w2, hc2, hb2, hr2, hl2⟩ := conv_bytes (P := Tryd.prog) w1 9 22 5 xs Tryd.underlying9 Tryd.underlying22 Tryd.underlying5
  replace hr1 := Lib.hid hr1
  have hn2 := Lib.hid (num_in (some ⟨w1.heap.size, 0, none⟩) c2 xs 0 2147483648 w2 (by omega) (by omega) (by omega) (fun _ => ⟨_, _, rfl, hr2⟩) : Calls Tryd.prog 14 #[.slice (some ⟨w1.heap.size, 0, none⟩) xs.length c2, .int .i64 0, .int .i64 2147483648] w2 fun e w' => e = .returned (.tuple #[.int .i64 (numS xs 0 2147483648).1, .int .i64 (numS xs 0 2147483648).2.1, .int .i64 (numS xs 0 2147483648).2.2]) ∧ w2 = w')
  clear hr2
  go_enter Tryd.func83, Tryd.ntmps83
  go_wp2_with fail
  clear hc1
  go_loopg [14] xs.length (fun g i wr => ∃ k : Nat, g = xs.length - k ∧ i = .int .i64 (k : Int) ∧ k ≤ xs.length ∧ AllB dig k xs ∧ w1 = wr)
  case atStart => exact ⟨0, rfl, rfl, by omega, fun i _ h => by omega, rfl⟩
  case round =>
    obtain ⟨k, rfl, rfl, hk, hn, rfl⟩ := hrel
    by_cases hlt : k < xs.length
    · have ck := hr1.out k hlt
      rw [Nat.zero_add] at ck
      have hdd := Lib.hid (isDig_any (xs[k].toNat : Int) (by have := xs[k].toNat_lt; omega) w1)
      rw [wi_dig] at hdd
      clear hc2
      by_cases hp : dig xs[k] = true
      · have hn' := hn.succ hlt hp
        rw [hp] at hdd
        clear hn hp
        go_wp2_with (go_at_call 20; refine hdd.out.mono ?_; rintro e w' ⟨rfl, rfl⟩)
        all_goals go_roundg (xs.length - (k + 1))
        case measure => omega
        case rel => exact ⟨k + 1, rfl, by go_num, by omega, hn', rfl⟩
      · rw [Bool.not_eq_true] at hp
        have hf := Lib.hid (onum_not hlt hp)
        rw [hp] at hdd
        clear hn hp
        go_wp2_with (go_at_call 20; refine hdd.out.mono ?_; rintro e w' ⟨rfl, rfl⟩)
        all_goals go_ret2
        all_goals exact ⟨ret_ii hf.out, hb1⟩
    · have hf := Lib.hid (onum_all hn (by omega))
      clear hn
      go_wp2_with (go_at_call 14; refine hn2.out.mono ?_; rintro e w' ⟨rfl, rfl⟩)
      all_goals go_ret2
      all_goals exact ⟨ret_ii hf.out, bl_trans hb1 hb2⟩
set_option maxHeartbeats 2000000 in
theorem rnumber_any (xs : List UInt8) (w : World) (hs : xs.length ≤ 1000000) :
    Calls Tryd.prog 54 #[strV xs] w fun e w' => e = .returned (.tuple #[.int .i64 (OM.num xs).1, .int .i64 (OM.num xs).2]) ∧ Below w.heap.size w w' := by
  obtain ⟨c2, w2, hc2, hb2, hr2, hl2⟩ := conv_bytes (P := Tryd.prog) w 9 22 5 xs Tryd.underlying9 Tryd.underlying22 Tryd.underlying5
  have hn2 := Lib.hid (refnum_in (some ⟨w.heap.size, 0, none⟩) c2 xs 0 2147483648 w2 (by omega) (by omega) (by omega) (fun _ => ⟨_, _, rfl, hr2⟩) : Calls Tryd.prog 15 #[.slice (some ⟨w.heap.size, 0, none⟩) xs.length c2, .int .i64 0, .int .i64 2147483648] w2 fun e w' => e = .returned (.tuple #[.int .i64 (numS xs 0 2147483648).1, .int .i64 (numS xs 0 2147483648).2.1, .int .i64 (numS xs 0 2147483648).2.2]) ∧ w2 = w')
  clear hr2
  go_enter Tryd.func54, Tryd.ntmps54
  go_wp2_with fail
  go_loopg [4] xs.length (fun g i wr => ∃ k : Nat, g = xs.length - k ∧ i = .int .i64 (k : Int) ∧ k ≤ xs.length ∧ AllB dig k xs ∧ w = wr)
  case atStart => exact ⟨0, rfl, rfl, by omega, fun i _ h => by omega, rfl⟩
  case round =>
    obtain ⟨k, rfl, rfl, hk, hn, rfl⟩ := hrel
    by_cases hlt : k < xs.length
    · have hby := ba_at hlt (by rw [ba_size]; exact hlt)
      clear hc2
      by_cases hp : dig xs[k] = true
      · have hn' := hn.succ hlt hp
        simp only [dig, Bool.and_eq_true, decide_eq_true_eq] at hp
        have q3 : 48 ≤ ((⟨xs.toArray⟩ : ByteArray)[k]'(by rw [ba_size]; exact hlt)).toNat ∧ ((⟨xs.toArray⟩ : ByteArray)[k]'(by rw [ba_size]; exact hlt)).toNat ≤ 57 := by rw [hby]; omega
        clear hn hp hby
        go_wp2_with fail
        all_goals go_roundg (xs.length - (k + 1))
        case measure => omega
        case rel => exact ⟨k + 1, rfl, by go_num, by omega, hn', rfl⟩
      · rw [Bool.not_eq_true] at hp
        have hf := Lib.hid (onum_not hlt hp)
        simp only [dig, Bool.and_eq_false_iff, decide_eq_false_iff_not] at hp
        clear hn
        by_cases hp1 : 48 ≤ xs[k].toNat
        · have q1 : 48 ≤ ((⟨xs.toArray⟩ : ByteArray)[k]'(by rw [ba_size]; exact hlt)).toNat ∧ 57 < ((⟨xs.toArray⟩ : ByteArray)[k]'(by rw [ba_size]; exact hlt)).toNat := by rw [hby]; omega
          clear hp hp1 hby
          go_wp2_with fail
          all_goals go_ret2
          all_goals exact ⟨ret_ii hf.out, Below.refl _ _⟩
        · have q1 : ((⟨xs.toArray⟩ : ByteArray)[k]'(by rw [ba_size]; exact hlt)).toNat < 48 := by rw [hby]; omega
          clear hp hp1 hby
          go_wp2_with fail
          all_goals go_ret2
          all_goals exact ⟨ret_ii hf.out, Below.refl _ _⟩
    · have hf := Lib.hid (onum_all hn (by omega))
      clear hn
      go_wp2_with (go_at_call 15; refine hn2.out.mono ?_; rintro e w' ⟨rfl, rfl⟩)
      all_goals go_ret2
      all_goals exact ⟨ret_ii hf.out, hb2⟩
end Go.Proofs.YtjfpepinmbbnbaaDoor
