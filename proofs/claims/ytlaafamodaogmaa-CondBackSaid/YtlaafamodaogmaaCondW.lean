/-
  cond.isWord, cond.fail; of chapter 27.
  Conditions: as each theorem states them.
-/
import Derived.Test.YtlaafamodaogmaaCondG
namespace Go.Proofs.Ytlaafamodaogmaa
open Go.RowKit
set_option linter.unusedVariables false
set_option linter.unusedSimpArgs false
open CM (Sv)
/-- what a parser gives up by -/
def broken (a e : Int) : PanicEntry := { v := .iface 73 (.agg #[.int .i64 a, .int .i64 e]), recovered := false }
theorem fail_any (a e : Int) (w : World) : Calls Try.prog 49 #[.int .i64 a, .int .i64 e] w fun q w' => q = .panicked [broken a e] ∧ w = w' := by
  go_enter Try.func49, Try.ntmps49
  go_wp2_with fail
  exact ⟨rfl, rfl, rfl⟩
/-- what a lookup of a word answers -/
theorem look_tab {w : World} {g : Nat} {T : List (List UInt8 × Value)} (h : StrMap w g (tabF T)) {mty et : TypeId} (hm : Try.prog.underlying mty = some (.map 9 et)) {z : Value} (hz : (zeroValue et).run Try.prog w = .ok z w) (s : List UInt8) :
    (Instr.lookup mty (.map (some g)) (.string ⟨s.toArray⟩) true).run Try.prog w = .ok (.tuple #[(tabF T ⟨s.toArray⟩).getD z, .bool (tabF T ⟨s.toArray⟩).isSome]) w := by
  rw [h.look hm Try.underlying9 hz]
  cases tabF T ⟨s.toArray⟩ <;> rfl
theorem zero_num (w : World) : (zeroValue 123).run Try.prog w = .ok .nilFunc w := by simp [Try.zeroValue123]
theorem zero_txt (w : World) : (zeroValue 127).run Try.prog w = .ok .nilFunc w := by simp [Try.zeroValue127]
theorem zero_flag (w : World) : (zeroValue 131).run Try.prog w = .ok .nilFunc w := by simp [Try.zeroValue131]
theorem zero_int (w : World) : (zeroValue 3).run Try.prog w = .ok (.int .i64 0) w := by simp [Try.zeroValue3]
theorem num_some (s : List UInt8) : (tabF numT ⟨s.toArray⟩).isSome = (CM.numOf s).isSome := by
  rw [tabF_at]
  unfold numT CM.numOf
  simp only [List.find?]
  by_cases h1 : s = CM.lineW
  · subst h1; rfl
  by_cases h2 : s = CM.pcW
  · subst h2; rfl
  by_cases h3 : s = CM.exitW
  · subst h3; rfl
  by_cases h4 : s = CM.waitsW
  · subst h4; rfl
  simp only [beq_eq_false_iff_ne.2 h1, beq_eq_false_iff_ne.2 h2, beq_eq_false_iff_ne.2 h3, beq_eq_false_iff_ne.2 h4, if_neg h1, if_neg h2, if_neg h3, if_neg h4, Option.map_none, Option.isSome_none]
theorem txt_some (s : List UInt8) : (tabF txtT ⟨s.toArray⟩).isSome = (CM.txtOf s).isSome := by
  rw [tabF_at]
  unfold txtT CM.txtOf
  simp only [List.find?]
  by_cases h1 : s = CM.patternW
  · subst h1; rfl
  by_cases h2 : s = CM.holdW
  · subst h2; rfl
  by_cases h3 : s = CM.restW
  · subst h3; rfl
  by_cases h4 : s = CM.outW
  · subst h4; rfl
  simp only [beq_eq_false_iff_ne.2 h1, beq_eq_false_iff_ne.2 h2, beq_eq_false_iff_ne.2 h3, beq_eq_false_iff_ne.2 h4, if_neg h1, if_neg h2, if_neg h3, if_neg h4, Option.map_none, Option.isSome_none]
theorem flag_some (s : List UInt8) : (tabF flagT ⟨s.toArray⟩).isSome = (CM.flagOf s).isSome := by
  rw [tabF_at]
  unfold flagT CM.flagOf
  simp only [List.find?]
  by_cases h1 : s = CM.substW
  · subst h1; rfl
  by_cases h2 : s = CM.silentW
  · subst h2; rfl
  by_cases h3 : s = CM.quitW
  · subst h3; rfl
  by_cases h4 : s = CM.againW
  · subst h4; rfl
  by_cases h5 : s = CM.failedW
  · subst h5; rfl
  simp only [beq_eq_false_iff_ne.2 h1, beq_eq_false_iff_ne.2 h2, beq_eq_false_iff_ne.2 h3, beq_eq_false_iff_ne.2 h4, beq_eq_false_iff_ne.2 h5, if_neg h1, if_neg h2, if_neg h3, if_neg h4, if_neg h5, Option.map_none, Option.isSome_none]
theorem ph_some (s : List UInt8) : (tabF phT ⟨s.toArray⟩).isSome = (CM.phOf s).isSome := by
  rw [tabF_at]
  unfold phT CM.phOf
  simp only [List.find?]
  by_cases h1 : s = CM.beginW
  · subst h1; rfl
  by_cases h2 : s = CM.bodyW
  · subst h2; rfl
  by_cases h3 : s = CM.endingW
  · subst h3; rfl
  by_cases h4 : s = CM.haltedW
  · subst h4; rfl
  simp only [beq_eq_false_iff_ne.2 h1, beq_eq_false_iff_ne.2 h2, beq_eq_false_iff_ne.2 h3, beq_eq_false_iff_ne.2 h4, if_neg h1, if_neg h2, if_neg h3, if_neg h4, Option.map_none, Option.isSome_none]
/-- what the tables give -/
theorem num_is (s : List UInt8) (f : Sv → Int) (h : CM.numOf s = some f) : ∃ k, (tabF numT ⟨s.toArray⟩).getD .nilFunc = fnV k ∧ GetN k f := by
  rw [tabF_at]
  unfold CM.numOf at h
  by_cases h1 : s = CM.lineW
  · subst h1; rw [if_pos rfl] at h; injection h with h; subst h; exact ⟨_, rfl, get_line⟩
  by_cases h2 : s = CM.pcW
  · subst h2; rw [if_neg (by decide), if_pos rfl] at h; injection h with h; subst h; exact ⟨_, rfl, get_pc⟩
  by_cases h3 : s = CM.exitW
  · subst h3; rw [if_neg (by decide), if_neg (by decide), if_pos rfl] at h; injection h with h; subst h; exact ⟨_, rfl, get_exit⟩
  by_cases h4 : s = CM.waitsW
  · subst h4; rw [if_neg (by decide), if_neg (by decide), if_neg (by decide), if_pos rfl] at h; injection h with h; subst h; exact ⟨_, rfl, get_waits⟩
  simp [h1, h2, h3, h4] at h
theorem txt_is (s : List UInt8) (f : Sv → List UInt8) (h : CM.txtOf s = some f) : ∃ k, (tabF txtT ⟨s.toArray⟩).getD .nilFunc = fnV k ∧ GetT k f := by
  rw [tabF_at]
  unfold CM.txtOf at h
  by_cases h1 : s = CM.patternW
  · subst h1; rw [if_pos rfl] at h; injection h with h; subst h; exact ⟨_, rfl, get_pattern⟩
  by_cases h2 : s = CM.holdW
  · subst h2; rw [if_neg (by decide), if_pos rfl] at h; injection h with h; subst h; exact ⟨_, rfl, get_hold⟩
  by_cases h3 : s = CM.restW
  · subst h3; rw [if_neg (by decide), if_neg (by decide), if_pos rfl] at h; injection h with h; subst h; exact ⟨_, rfl, get_rest⟩
  by_cases h4 : s = CM.outW
  · subst h4; rw [if_neg (by decide), if_neg (by decide), if_neg (by decide), if_pos rfl] at h; injection h with h; subst h; exact ⟨_, rfl, get_out⟩
  simp [h1, h2, h3, h4] at h
theorem flag_is (s : List UInt8) (f : Sv → Bool) (h : CM.flagOf s = some f) : ∃ k, (tabF flagT ⟨s.toArray⟩).getD .nilFunc = fnV k ∧ GetB k f := by
  rw [tabF_at]
  unfold CM.flagOf at h
  by_cases h1 : s = CM.substW
  · subst h1; rw [if_pos rfl] at h; injection h with h; subst h; exact ⟨_, rfl, get_subst⟩
  by_cases h2 : s = CM.silentW
  · subst h2; rw [if_neg (by decide), if_pos rfl] at h; injection h with h; subst h; exact ⟨_, rfl, get_silent⟩
  by_cases h3 : s = CM.quitW
  · subst h3; rw [if_neg (by decide), if_neg (by decide), if_pos rfl] at h; injection h with h; subst h; exact ⟨_, rfl, get_quit⟩
  by_cases h4 : s = CM.againW
  · subst h4; rw [if_neg (by decide), if_neg (by decide), if_neg (by decide), if_pos rfl] at h; injection h with h; subst h; exact ⟨_, rfl, get_again⟩
  by_cases h5 : s = CM.failedW
  · subst h5; rw [if_neg (by decide), if_neg (by decide), if_neg (by decide), if_neg (by decide), if_pos rfl] at h; injection h with h; subst h; exact ⟨_, rfl, get_failed⟩
  simp [h1, h2, h3, h4, h5] at h
theorem ph_is (s : List UInt8) (n : Int) (h : CM.phOf s = some n) : (tabF phT ⟨s.toArray⟩).getD (.int .i64 0) = .int .i64 n := by
  rw [tabF_at]
  unfold CM.phOf at h
  by_cases h1 : s = CM.beginW
  · subst h1; rw [if_pos rfl] at h; injection h with h; subst h; rfl
  by_cases h2 : s = CM.bodyW
  · subst h2; rw [if_neg (by decide), if_pos rfl] at h; injection h with h; subst h; rfl
  by_cases h3 : s = CM.endingW
  · subst h3; rw [if_neg (by decide), if_neg (by decide), if_pos rfl] at h; injection h with h; subst h; rfl
  by_cases h4 : s = CM.haltedW
  · subst h4; rw [if_neg (by decide), if_neg (by decide), if_neg (by decide), if_pos rfl] at h; injection h with h; subst h; rfl
  simp [h1, h2, h3, h4] at h
set_option maxHeartbeats 4000000 in
set_option maxRecDepth 100000 in
theorem isWord_any (s : List UInt8) (w : World) : Calls Try.prog 48 #[strV s] w fun e w' => e = .returned (.bool (CM.isWord s)) ∧ Below w.heap.size w w' := by
  obtain ⟨na, hna⟩ : ∃ b, (CM.numOf s).isSome = b := ⟨_, rfl⟩
  obtain ⟨nb, hnb⟩ : ∃ b, (CM.txtOf s).isSome = b := ⟨_, rfl⟩
  obtain ⟨nc, hnc⟩ : ∃ b, (CM.flagOf s).isSome = b := ⟨_, rfl⟩
  obtain ⟨nd, hnd⟩ : ∃ b, (CM.phOf s).isSome = b := ⟨_, rfl⟩
  have hR : CM.isWord s = (na || nb || nc || nd || s == CM.orW || s == CM.andW || s == CM.notW || s == CM.isW || s == CM.hasW || s == CM.changedW || s == CM.phaseW) := by
    unfold CM.isWord; rw [hna, hnb, hnc, hnd]
  have c1 := Lib.hid (fun W => num_any W)
  have c2 := Lib.hid (fun W => txt_any W)
  have c3 := Lib.hid (fun W => flag_any W)
  have c4 := Lib.hid (fun W => ph_any W)
  rw [← num_some] at hna
  rw [← txt_some] at hnb
  rw [← flag_some] at hnc
  rw [← ph_some] at hnd
  obtain ⟨va, hva⟩ : ∃ v, (tabF numT ⟨s.toArray⟩).getD .nilFunc = v := ⟨_, rfl⟩
  obtain ⟨vb, hvb⟩ : ∃ v, (tabF txtT ⟨s.toArray⟩).getD .nilFunc = v := ⟨_, rfl⟩
  obtain ⟨vc, hvc⟩ : ∃ v, (tabF flagT ⟨s.toArray⟩).getD .nilFunc = v := ⟨_, rfl⟩
  obtain ⟨vd, hvd⟩ : ∃ v, (tabF phT ⟨s.toArray⟩).getD (.int .i64 0) = v := ⟨_, rfl⟩
  replace hR := Lib.hid hR
  replace hna := Lib.hid hna
  replace hnb := Lib.hid hnb
  replace hnc := Lib.hid hnc
  replace hnd := Lib.hid hnd
  replace hva := Lib.hid hva
  replace hvb := Lib.hid hvb
  replace hvc := Lib.hid hvc
  replace hvd := Lib.hid hvd
  go_enter Try.func48, Try.ntmps48
  go_wp2_with (first
    | (go_at_call 65; refine (c1.out _).mono ?_; rintro e w1 ⟨g1, rfl, hM1, hg1, hl1, hb1⟩; have k1 := look_tab hM1 Try.underlying125 (zero_num _) s; rw [hna.out, hva.out] at k1; clear hM1)
    | (go_at_call 66; refine (c2.out _).mono ?_; rintro e w2 ⟨g2, rfl, hM2, hg2, hl2, hb2⟩; have k2 := look_tab hM2 Try.underlying129 (zero_txt _) s; rw [hnb.out, hvb.out] at k2; clear hM2)
    | (go_at_call 67; refine (c3.out _).mono ?_; rintro e w3 ⟨g3, rfl, hM3, hg3, hl3, hb3⟩; have k3 := look_tab hM3 Try.underlying133 (zero_flag _) s; rw [hnc.out, hvc.out] at k3; clear hM3)
    | (go_at_call 68; refine (c4.out _).mono ?_; rintro e w4 ⟨g4, rfl, hM4, hg4, hl4, hb4⟩; have k4 := look_tab hM4 Try.underlying136 (zero_int _) s; rw [hnd.out, hvd.out] at k4; clear hM4))
  all_goals go_ret
  all_goals (refine ⟨?_, bl_trans hb1 (bl_trans hb2 (bl_trans hb3 hb4))⟩)
  all_goals (rw [hR.out]; go_light)
  all_goals (simp_all; done)
end Go.Proofs.Ytlaafamodaogmaa
