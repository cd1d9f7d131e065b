/-
  strings.Cut at a blank; book.quote; of chapter 32.
  Conditions: as each theorem states them.
-/
import Derived.Test.YtaginadnaajleaaUnqP
import Derived.Test.YtaginadnaajleaaBookM
namespace Go.Proofs.Ytaginadnaajleaa
open Go.RowKit
set_option linter.unusedVariables false
set_option linter.unusedSimpArgs false
theorem ix_blank (s : List UInt8) : Lib.indexByte s 32 = if (s.takeWhile OM.nb).length = s.length then -1 else ((s.takeWhile OM.nb).length : Int) := by
  induction s with
  | nil => rfl
  | cons c r ih =>
    unfold Lib.indexByte
    rw [ih]
    by_cases hc : c = 32
    · subst hc
      simp [OM.nb, List.takeWhile]
    · have h1 : OM.nb c = true := by unfold OM.nb; simpa using hc
      have h2 : (c == 32) = false := by simpa using hc
      rw [h2, List.takeWhile_cons, h1]
      simp only [if_true, List.length_cons, Nat.add_right_cancel_iff]
      by_cases hr : (r.takeWhile OM.nb).length = r.length
      · simp [hr]
      · simp only [if_neg hr]
        have : (((r.takeWhile OM.nb).length : Int) == -1) = false := by first | (simp; done) | (simp; omega)
        rw [this]; simp
theorem tw_take (s : List UInt8) : s.take (s.takeWhile OM.nb).length = s.takeWhile OM.nb := by
  induction s with
  | nil => rfl
  | cons c r ih => rw [List.takeWhile_cons]; split <;> simp_all
theorem tw_le (s : List UInt8) : (s.takeWhile OM.nb).length ≤ s.length := (List.takeWhile_sublist OM.nb (l := s)).length_le
set_option maxHeartbeats 2000000 in
theorem cutB_any (s : List UInt8) (hl : s.length ≤ 100000) (w : World) : Calls Try.prog 34 #[strV s, .string ⟨#[32]⟩] w fun e w' => e = .returned (.tuple #[strV (BM.cut s).1, strV (BM.cut s).2.1, .bool (BM.cut s).2.2]) ∧ ∃ m, w' = w.drewN m := by
  have hi := fun W => Try.stringslite_Index_one ⟨s.toArray⟩ 32 W
  have hle := tw_le s
  have hix := ix_blank s
  have hd : (⟨s.toArray⟩ : ByteArray).data.toList = s := by simp
  rw [hd, hix] at hi
  have htk := tw_take s
  by_cases hc : (s.takeWhile OM.nb).length = s.length
  · rw [if_pos hc] at hi
    have hR : BM.cut s = (s, [], false) := by
      unfold BM.cut
      rw [hc, List.take_length] at htk
      rw [← htk, List.drop_eq_nil_of_le (by omega)]; simp
    rw [hR]
    replace hi := Lib.hid hi
    clear hix hd htk hc hR
    go_enter Try.func34, Try.ntmps34
    go_wp2_with (go_at_call 41; refine (hi.out _).mono ?_; rintro e w2 ⟨rfl, rfl⟩)
    all_goals go_ret3
    all_goals exact ⟨rfl, 0, rfl⟩
  · rw [if_neg hc] at hi
    obtain ⟨i, hn⟩ : ∃ i, (s.takeWhile OM.nb).length = i := ⟨_, rfl⟩
    rw [hn] at hi htk hle hc
    have hR : BM.cut s = (s.take i, s.drop (i + 1), true) := by
      unfold BM.cut
      rw [hn, htk, decide_eq_true (by omega)]
    have hx1 : (⟨s.toArray⟩ : ByteArray).extract 0 i = ⟨(s.take i).toArray⟩ := by rw [ext_list]; simp
    have hx2 : (⟨s.toArray⟩ : ByteArray).extract (i + 1) s.length = ⟨(s.drop (i + 1)).toArray⟩ := by rw [ext_list, List.take_of_length_le (by simp)]
    rw [hR]
    replace hi := Lib.hid hi
    replace hx1 := Lib.hid hx1
    replace hx2 := Lib.hid hx2
    have hi1 : i < s.length := by omega
    clear hix hd htk hc hR hn
    go_enter Try.func34, Try.ntmps34
    go_wp2_with (first | (go_at_call 41; refine (hi.out _).mono ?_; rintro e w2 ⟨rfl, rfl⟩) | (go_quiet (fail)))
    all_goals go_ret3
    all_goals exact ⟨by simp only [hx1.out, hx2.out]; rfl, _, rfl⟩
set_option maxHeartbeats 2000000 in
theorem cut_any (s : List UInt8) (hl : s.length ≤ 100000) (w : World) : Calls Try.prog 16 #[strV s, .string ⟨#[32]⟩] w fun e w' => e = .returned (.tuple #[strV (BM.cut s).1, strV (BM.cut s).2.1, .bool (BM.cut s).2.2]) ∧ ∃ m, w' = w.drewN m := by
  have hc := Lib.hid (cutB_any s hl w)
  go_enter Try.func16, Try.ntmps16
  go_wp2_with (go_at_call 34; refine hc.out.mono ?_; rintro e w2 ⟨rfl, m, rfl⟩)
  all_goals go_ret3
  all_goals exact ⟨rfl, m, rfl⟩
/-- what book.quote answers -/
def QuIs (R : List UInt8 × Int) (w : World) (e : Ending) (w' : World) : Prop := ∃ v l, e = .returned (.tuple #[v, .int .i64 R.2]) ∧ (R.2 = 0 → l = R.1) ∧ w'.ownsRow w.heap.size 5 1 v l.length (Lib.byteCells l) ∧ Below w.heap.size w w'
set_option maxHeartbeats 2000000 in
theorem bquote_any (s : List UInt8) (hl : s.length ≤ 100000) (w : World) : Calls Try.prog 37 #[strV s] w (QuIs (BM.quoteAll s) w) := by
  have hu := Lib.hid (unquote_any s hl w)
  have hq : BM.quoteAll s = if (unquoteS s 0).2.2 = 0 ∧ (unquoteS s 0).2.1 < s.length then ((unquoteS s 0).1, 9) else ((unquoteS s 0).1, (unquoteS s 0).2.2) := rfl
  generalize unquoteS s 0 = R at *
  obtain ⟨l, p, c⟩ := R
  simp only at hq
  unfold UnqIs at hu
  generalize BM.quoteAll s = Q at *
  by_cases h0 : c = 0
  · have q0 : (c == 0) = true := by simpa using h0
    by_cases h1 : p < s.length
    · rw [if_pos ⟨h0, h1⟩] at hq
      replace hq := Lib.hid hq
      have q1 : decide (p < (s.length : Int)) = true := by simpa using h1
      replace h0 := Lib.hid h0
      replace h1 := Lib.hid h1
      go_enter Try.func37, Try.ntmps37
      go_wp2_with (go_at_call 49; refine hu.out.mono ?_; rintro e w2 ⟨v, rfl, ho, hb⟩)
      all_goals go_ret2
      all_goals exact ⟨v, l, by rw [hq.out]; rfl, fun _ => by rw [hq.out], ho, hb⟩
    · rw [if_neg (fun h => h1 h.2)] at hq
      replace hq := Lib.hid hq
      have q1 : decide (p < (s.length : Int)) = false := by simpa using h1
      replace h0 := Lib.hid h0
      replace h1 := Lib.hid h1
      go_enter Try.func37, Try.ntmps37
      go_wp2_with (go_at_call 49; refine hu.out.mono ?_; rintro e w2 ⟨v, rfl, ho, hb⟩)
      all_goals go_ret2
      all_goals exact ⟨v, l, by rw [hq.out]; rfl, fun _ => by rw [hq.out], ho, hb⟩
  · rw [if_neg (fun h => h0 h.1)] at hq
    replace hq := Lib.hid hq
    have q0 : (c == 0) = false := by simpa using h0
    replace h0 := Lib.hid h0
    go_enter Try.func37, Try.ntmps37
    go_wp2_with (go_at_call 49; refine hu.out.mono ?_; rintro e w2 ⟨v, rfl, ho, hb⟩)
    all_goals go_ret2
    all_goals exact ⟨v, l, by rw [hq.out]; rfl, fun _ => by rw [hq.out], ho, hb⟩
end Go.Proofs.Ytaginadnaajleaa
