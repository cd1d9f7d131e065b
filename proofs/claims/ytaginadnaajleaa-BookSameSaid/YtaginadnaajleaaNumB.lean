/-
  book.num: a number that goes to the end; of chapter 32.
  Conditions: as each theorem states them.
-/
import Derived.Test.YtaginadnaajleaaCutP
import Derived.Test.YtaginadnaajleaaDigit
import Derived.Test.YtaginadnaajleaaNum
import Derived.Laws.IdiomStrings
namespace Go.Proofs.Ytaginadnaajleaa
open Go.RowKit
set_option linter.unusedVariables false
set_option linter.unusedSimpArgs false
def AllB (p : UInt8 → Bool) (k : Nat) (xs : List UInt8) : Prop := ∀ i (h : i < xs.length), i < k → p xs[i] = true
theorem AllB.succ {p : UInt8 → Bool} {k : Nat} {xs : List UInt8} (h : AllB p k xs) (hk : k < xs.length) (e : p xs[k] = true) : AllB p (k + 1) xs := fun i hi hlt => by
  by_cases hik : i = k
  · subst hik; exact e
  · exact h i hi (by omega)
theorem AllB.all {p : UInt8 → Bool} {k : Nat} {xs : List UInt8} (h : AllB p k xs) (hk : xs.length ≤ k) : xs.all p = true := by
  rw [List.all_eq_true]
  intro x hx
  obtain ⟨i, hi, e⟩ := List.mem_iff_getElem.1 hx
  subst e
  exact h i hi (by omega)
theorem all_not {p : UInt8 → Bool} {k : Nat} {xs : List UInt8} (hk : k < xs.length) (e : p xs[k] = false) : xs.all p = false := by
  rw [Bool.eq_false_iff]
  intro h
  rw [List.all_eq_true] at h
  rw [h _ (List.getElem_mem hk)] at e
  cases e
/-- '[]byte(s)' -/
theorem conv_bytes {P : Program} (w : World) (src dst e : TypeId) (xs : List UInt8) (hs : P.underlying src = some .string) (hd : P.underlying dst = some (.slice e)) (he : P.underlying e = some (.int .u8)) :
    ∃ c w', (convert src dst (strV xs)).run P w = .ok (.slice (some ⟨w.heap.size, 0, none⟩) xs.length c) w' ∧ Below w.heap.size w w' ∧ ByteRow w' w.heap.size 0 xs ∧ w.heap.size < w'.heap.size := by
  have h := run_bytes_of_string (P := P) w src dst e ⟨xs.toArray⟩ hs hd he
  rw [show (⟨xs.toArray⟩ : ByteArray).size = xs.length from ba_size xs] at h
  refine ⟨_, _, h, bl_alloc (bl_drew (Below.refl _ _)) _, fun i hi => ?_, by simp⟩
  rw [Nat.zero_add]
  have hsz : i < (⟨xs.toArray⟩ : ByteArray).data.size := by simpa using hi
  exact (World.cell?_alloc_mark w.drew _ _ _ i).trans ((bytesRow_at _ _ _ hsz).trans (by simp))
theorem isDig_any (c : Int) (hc : 0 ≤ c ∧ c ≤ 255) (w : World) : Calls Try.prog 35 #[.string ⟨#[100, 105, 103, 105, 116]⟩, .int .u8 c] w fun e w' => e = .returned (.tuple #[.bool (wi c 48 57), .bool true]) ∧ w = w' := by
  have h := is_any ⟨#[100, 105, 103, 105, 116]⟩ c hc w
  have e : isS (⟨#[100, 105, 103, 105, 116]⟩ : ByteArray).toList c = (wi c 48 57, true) := by
    rw [show (⟨#[100, 105, 103, 105, 116]⟩ : ByteArray).toList = [100, 105, 103, 105, 116] by decide +kernel]
    rfl
  rw [e] at h
  exact h
theorem bnum_all {xs : List UInt8} {k : Nat} (h : AllB dig k xs) (hk : xs.length ≤ k) : BM.numAll xs = ((numS xs 0 1073741824).1, (numS xs 0 1073741824).2.2) := by
  unfold BM.numAll; rw [if_pos (h.all hk)]
theorem bnum_not {xs : List UInt8} {k : Nat} (hk : k < xs.length) (e : dig xs[k] = false) : BM.numAll xs = (0, 9) := by
  unfold BM.numAll; rw [if_neg (by rw [all_not hk e]; simp)]
theorem wi_dig (c : UInt8) : wi (c.toNat : Int) 48 57 = dig c := by
  unfold wi dig
  rw [Bool.eq_iff_iff]; simp; omega
theorem ret_ii {p : Int × Int} {a b : Int} (h : p = (a, b)) : Ending.returned (.tuple #[.int .i64 a, .int .i64 b]) = .returned (.tuple #[.int .i64 p.1, .int .i64 p.2]) := by rw [h]
set_option maxHeartbeats 2000000 in
theorem bnum_any (xs : List UInt8) (w : World) (hs : xs.length ≤ 1000000) :
    Calls Try.prog 24 #[strV xs] w fun e w' => e = .returned (.tuple #[.int .i64 (BM.numAll xs).1, .int .i64 (BM.numAll xs).2]) ∧ Below w.heap.size w w' := by
  obtain ⟨c1, w1, hc1, hb1, hr1, hl1⟩ := conv_bytes (P := Try.prog) w 9 23 5 xs Try.underlying9 Try.underlying23 Try.underlying5
  obtain ⟨c2, w2, hc2, hb2, hr2, hl2⟩ := conv_bytes (P := Try.prog) w1 9 23 5 xs Try.underlying9 Try.underlying23 Try.underlying5
  replace hr1 := Lib.hid hr1
  have hn2 := Lib.hid (num_in (some ⟨w1.heap.size, 0, none⟩) c2 xs 0 1073741824 w2 (by omega) (by omega) (by omega) (fun _ => ⟨_, _, rfl, hr2⟩) : Calls Try.prog 36 #[.slice (some ⟨w1.heap.size, 0, none⟩) xs.length c2, .int .i64 0, .int .i64 1073741824] w2 fun e w' => e = .returned (.tuple #[.int .i64 (numS xs 0 1073741824).1, .int .i64 (numS xs 0 1073741824).2.1, .int .i64 (numS xs 0 1073741824).2.2]) ∧ w2 = w')
  clear hr2
  go_enter Try.func24, Try.ntmps24
  go_wp2_with fail
  clear hc1
  go_loopg [14] xs.length (fun g i wr => ∃ k : Nat, g = xs.length - k ∧ i = .int .i64 (k : Int) ∧ k ≤ xs.length ∧ AllB dig k xs ∧ w1 = wr)
  case atStart => exact ⟨0, rfl, rfl, by omega, fun i _ h => by omega, rfl⟩
  case round =>
    obtain ⟨k, rfl, rfl, hk, hn, rfl⟩ := hrel
    by_cases hlt : k < xs.length
    · have ck := hr1.out k hlt
      rw [Nat.zero_add] at ck
      have hdd := Lib.hid (isDig_any (xs[k].toNat : Int) (by have := xs[k].toNat_lt; omega) w1)
      rw [wi_dig] at hdd
      clear hc2
      by_cases hp : dig xs[k] = true
      · have hn' := hn.succ hlt hp
        rw [hp] at hdd
        clear hn hp
        go_wp2_with (go_at_call 35; refine hdd.out.mono ?_; rintro e w' ⟨rfl, rfl⟩)
        all_goals go_roundg (xs.length - (k + 1))
        case measure => omega
        case rel => exact ⟨k + 1, rfl, by go_num, by omega, hn', rfl⟩
      · rw [Bool.not_eq_true] at hp
        have hf := Lib.hid (bnum_not hlt hp)
        rw [hp] at hdd
        clear hn hp
        go_wp2_with (go_at_call 35; refine hdd.out.mono ?_; rintro e w' ⟨rfl, rfl⟩)
        all_goals go_ret2
        all_goals exact ⟨ret_ii hf.out, hb1⟩
    · have hf := Lib.hid (bnum_all hn (by omega))
      clear hn
      go_wp2_with (go_at_call 36; refine hn2.out.mono ?_; rintro e w' ⟨rfl, rfl⟩)
      all_goals go_ret2
      all_goals exact ⟨ret_ii hf.out, bl_trans hb1 hb2⟩
end Go.Proofs.Ytaginadnaajleaa
