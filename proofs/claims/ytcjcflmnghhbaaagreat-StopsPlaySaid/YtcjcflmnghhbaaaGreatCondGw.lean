/-
  What a condition sees of a state, in memory; the words' tables; of chapter 27 (printed by gen_condg.py).
  Conditions: as each theorem states them.
-/
import Derived.Test.YtcjcflmnghhbaaaGreatMapSe
import Derived.Test.YtcjcflmnghhbaaaGreatCondMl
namespace Go.Proofs.YtcjcflmnghhbaaaGreat
open Go.RowKit
set_option linter.unusedVariables false
set_option linter.unusedSimpArgs false
open CM (Sv)
/-- a text of a state, in memory -/
def TxAt (w : World) (b j : Nat) (t : List UInt8) : Prop := ∃ a c, w.cell? ⟨b, j, none⟩ = some (.slice a t.length c) ∧ t.length ≤ c ∧ BytesAt w a t ∧ t.length ≤ 100000
/-- a state in memory, as a condition sees it -/
structure SvAt (w : World) (b : Nat) (s : Sv) : Prop where
  lt : b < w.heap.size
  line : w.cell? ⟨b, 3, none⟩ = some (.int .i64 s.line)
  pc : w.cell? ⟨b, 16, none⟩ = some (.int .i64 s.pc)
  exit : w.cell? ⟨b, 17, none⟩ = some (.int .i64 s.exit)
  waits : ∃ a n c, w.cell? ⟨b, 24, none⟩ = some (.slice a n c) ∧ (n : Int) = s.waits
  pattern : TxAt w b 0 s.pattern
  hold : TxAt w b 1 s.hold
  rest : TxAt w b 10 s.rest
  out : TxAt w b 11 s.out
  subst : w.cell? ⟨b, 4, none⟩ = some (.bool s.subst)
  silent : w.cell? ⟨b, 20, none⟩ = some (.bool s.silent)
  quit : w.cell? ⟨b, 21, none⟩ = some (.bool s.quit)
  again : w.cell? ⟨b, 22, none⟩ = some (.bool s.again)
  err : w.cell? ⟨b, 19, none⟩ = some (.int .i64 s.err)
  phase : w.cell? ⟨b, 15, none⟩ = some (.int .i64 s.phase)
theorem TxAt.below {w w' : World} {b j : Nat} {t : List UInt8} (h : TxAt w b j t) (hl : b < w.heap.size) (hb : Below w.heap.size w w') : TxAt w' b j t := by
  obtain ⟨a, c, h1, h2, h3, h4⟩ := h
  exact ⟨a, c, (hb.cell (p := ⟨b, j, none⟩) hl).trans h1, h2, h3.below hb, h4⟩
theorem SvAt.below {w w' : World} {b : Nat} {s : Sv} (h : SvAt w b s) (hb : Below w.heap.size w w') : SvAt w' b s := by
  have e : ∀ j, w'.cell? ⟨b, j, none⟩ = w.cell? ⟨b, j, none⟩ := fun j => hb.cell (p := ⟨b, j, none⟩) h.lt
  obtain ⟨a, n, c, h1, h2⟩ := h.waits
  exact ⟨Nat.lt_of_lt_of_le h.lt hb.size, (e _).trans h.line, (e _).trans h.pc, (e _).trans h.exit, ⟨a, n, c, (e _).trans h1, h2⟩, h.pattern.below h.lt hb, h.hold.below h.lt hb, h.rest.below h.lt hb, h.out.below h.lt hb,
    (e _).trans h.subst, (e _).trans h.silent, (e _).trans h.quit, (e _).trans h.again, (e _).trans h.err, (e _).trans h.phase⟩
/-- a function that gives a number of a state -/
def GetN (k : FuncId) (f : Sv → Int) : Prop := ∀ (w : World) b s, SvAt w b s → Calls Tryz.prog k #[.pointer (some ⟨b, 0, none⟩)] w fun e w' => e = .returned (.int .i64 (f s)) ∧ w = w'
def GetB (k : FuncId) (f : Sv → Bool) : Prop := ∀ (w : World) b s, SvAt w b s → Calls Tryz.prog k #[.pointer (some ⟨b, 0, none⟩)] w fun e w' => e = .returned (.bool (f s)) ∧ w = w'
def GetT (k : FuncId) (f : Sv → List UInt8) : Prop := ∀ (w : World) b s, SvAt w b s → Calls Tryz.prog k #[.pointer (some ⟨b, 0, none⟩)] w fun e w' => (∃ a c, e = .returned (.slice a (f s).length c) ∧ (f s).length ≤ c ∧ BytesAt w a (f s) ∧ (f s).length ≤ 100000) ∧ w = w'
theorem get_line : GetN 71 (·.line) := by
  intro w b s h
  have k0 := h.line
  go_enter Tryz.func71, Tryz.ntmps71
  go_wp2_with fail
  go_ret
  exact ⟨rfl, rfl⟩
theorem get_pc : GetN 72 (·.pc) := by
  intro w b s h
  have k0 := h.pc
  go_enter Tryz.func72, Tryz.ntmps72
  go_wp2_with fail
  go_ret
  exact ⟨rfl, rfl⟩
theorem get_exit : GetN 73 (·.exit) := by
  intro w b s h
  have k0 := h.exit
  go_enter Tryz.func73, Tryz.ntmps73
  go_wp2_with fail
  go_ret
  exact ⟨rfl, rfl⟩
theorem get_waits : GetN 74 (·.waits) := by
  intro w b s h
  obtain ⟨a, n, c, k0, hn⟩ := h.waits
  go_enter Tryz.func74, Tryz.ntmps74
  go_wp2_with fail
  go_ret
  exact ⟨by rw [← hn]; rfl, rfl⟩
theorem get_pattern : GetT 75 (·.pattern) := by
  intro w b s h
  obtain ⟨a, c, k0, h2, h3, h4⟩ := h.pattern
  go_enter Tryz.func75, Tryz.ntmps75
  go_wp2_with fail
  go_ret
  exact ⟨⟨a, c, rfl, h2, h3, h4⟩, rfl⟩
theorem get_hold : GetT 76 (·.hold) := by
  intro w b s h
  obtain ⟨a, c, k0, h2, h3, h4⟩ := h.hold
  go_enter Tryz.func76, Tryz.ntmps76
  go_wp2_with fail
  go_ret
  exact ⟨⟨a, c, rfl, h2, h3, h4⟩, rfl⟩
theorem get_rest : GetT 77 (·.rest) := by
  intro w b s h
  obtain ⟨a, c, k0, h2, h3, h4⟩ := h.rest
  go_enter Tryz.func77, Tryz.ntmps77
  go_wp2_with fail
  go_ret
  exact ⟨⟨a, c, rfl, h2, h3, h4⟩, rfl⟩
theorem get_out : GetT 78 (·.out) := by
  intro w b s h
  obtain ⟨a, c, k0, h2, h3, h4⟩ := h.out
  go_enter Tryz.func78, Tryz.ntmps78
  go_wp2_with fail
  go_ret
  exact ⟨⟨a, c, rfl, h2, h3, h4⟩, rfl⟩
theorem get_subst : GetB 79 (·.subst) := by
  intro w b s h
  have k0 := h.subst
  go_enter Tryz.func79, Tryz.ntmps79
  go_wp2_with fail
  go_ret
  exact ⟨rfl, rfl⟩
theorem get_silent : GetB 80 (·.silent) := by
  intro w b s h
  have k0 := h.silent
  go_enter Tryz.func80, Tryz.ntmps80
  go_wp2_with fail
  go_ret
  exact ⟨rfl, rfl⟩
theorem get_quit : GetB 81 (·.quit) := by
  intro w b s h
  have k0 := h.quit
  go_enter Tryz.func81, Tryz.ntmps81
  go_wp2_with fail
  go_ret
  exact ⟨rfl, rfl⟩
theorem get_again : GetB 82 (·.again) := by
  intro w b s h
  have k0 := h.again
  go_enter Tryz.func82, Tryz.ntmps82
  go_wp2_with fail
  go_ret
  exact ⟨rfl, rfl⟩
theorem get_failed : GetB 83 (fun s => s.err != 0) := by
  intro w b s h
  have k0 := h.err
  go_enter Tryz.func83, Tryz.ntmps83
  go_wp2_with fail
  go_ret
  exact ⟨rfl, rfl⟩
theorem StrMap.eq {w : World} {g : Nat} {f h : ByteArray → Option Value} (hm : StrMap w g f) (e : ∀ t, f t = h t) : StrMap w g h := by rw [← funext e]; exact hm
def numT : List (List UInt8 × Value) := [(CM.waitsW, fnV 74), (CM.exitW, fnV 73), (CM.pcW, fnV 72), (CM.lineW, fnV 71)]
set_option maxHeartbeats 4000000 in
set_option maxRecDepth 100000 in
theorem num_any (w : World) : Calls Tryz.prog 60 #[] w (MapIs (tabF numT) w) := by
  have hmm := @run_makeMap Tryz.prog
  have hM := Lib.hid (StrMap.made w)
  have hB := Lib.hid (bl_alloc (Below.refl w.heap.size w) (.map #[] 0))
  have hz : w.heap.size < (w.alloc (.map #[] 0)).heap.size := by simp
  go_enter Tryz.func60, Tryz.ntmps60
  go_wp2_with ((with_reducible show wpList _ _ _ (⟨none, .insert _ _ _ _, _, _, _, _⟩ :: _) _ _); refine wpList_entry rfl _ _ _ 126 rfl _ _ Tryz.underlying126 Tryz.underlying9 _ _ hM.out rfl _ rfl _ rfl (by kernel_rfl) ?_; intro w1 hM1 hB1 hz1; replace hB := Lib.hid (hB1 _ _ (Nat.le_refl _) hB.out); replace hM := Lib.hid hM1; clear hM1 hB1)
  go_ret
  exact ⟨w.heap.size, rfl, hM.out, Nat.le_refl _, by omega, hB.out⟩
def txtT : List (List UInt8 × Value) := [(CM.outW, fnV 78), (CM.restW, fnV 77), (CM.holdW, fnV 76), (CM.patternW, fnV 75)]
set_option maxHeartbeats 4000000 in
set_option maxRecDepth 100000 in
theorem txt_any (w : World) : Calls Tryz.prog 61 #[] w (MapIs (tabF txtT) w) := by
  have hmm := @run_makeMap Tryz.prog
  have hM := Lib.hid (StrMap.made w)
  have hB := Lib.hid (bl_alloc (Below.refl w.heap.size w) (.map #[] 0))
  have hz : w.heap.size < (w.alloc (.map #[] 0)).heap.size := by simp
  go_enter Tryz.func61, Tryz.ntmps61
  go_wp2_with ((with_reducible show wpList _ _ _ (⟨none, .insert _ _ _ _, _, _, _, _⟩ :: _) _ _); refine wpList_entry rfl _ _ _ 130 rfl _ _ Tryz.underlying130 Tryz.underlying9 _ _ hM.out rfl _ rfl _ rfl (by kernel_rfl) ?_; intro w1 hM1 hB1 hz1; replace hB := Lib.hid (hB1 _ _ (Nat.le_refl _) hB.out); replace hM := Lib.hid hM1; clear hM1 hB1)
  go_ret
  exact ⟨w.heap.size, rfl, hM.out, Nat.le_refl _, by omega, hB.out⟩
def flagT : List (List UInt8 × Value) := [(CM.failedW, fnV 83), (CM.againW, fnV 82), (CM.quitW, fnV 81), (CM.silentW, fnV 80), (CM.substW, fnV 79)]
set_option maxHeartbeats 4000000 in
set_option maxRecDepth 100000 in
theorem flag_any (w : World) : Calls Tryz.prog 62 #[] w (MapIs (tabF flagT) w) := by
  have hmm := @run_makeMap Tryz.prog
  have hM := Lib.hid (StrMap.made w)
  have hB := Lib.hid (bl_alloc (Below.refl w.heap.size w) (.map #[] 0))
  have hz : w.heap.size < (w.alloc (.map #[] 0)).heap.size := by simp
  go_enter Tryz.func62, Tryz.ntmps62
  go_wp2_with ((with_reducible show wpList _ _ _ (⟨none, .insert _ _ _ _, _, _, _, _⟩ :: _) _ _); refine wpList_entry rfl _ _ _ 134 rfl _ _ Tryz.underlying134 Tryz.underlying9 _ _ hM.out rfl _ rfl _ rfl (by kernel_rfl) ?_; intro w1 hM1 hB1 hz1; replace hB := Lib.hid (hB1 _ _ (Nat.le_refl _) hB.out); replace hM := Lib.hid hM1; clear hM1 hB1)
  go_ret
  exact ⟨w.heap.size, rfl, hM.out, Nat.le_refl _, by omega, hB.out⟩
def phT : List (List UInt8 × Value) := [(CM.haltedW, .int .i64 3), (CM.endingW, .int .i64 2), (CM.bodyW, .int .i64 1), (CM.beginW, .int .i64 0)]
set_option maxHeartbeats 4000000 in
set_option maxRecDepth 100000 in
theorem ph_any (w : World) : Calls Tryz.prog 63 #[] w (MapIs (tabF phT) w) := by
  have hmm := @run_makeMap Tryz.prog
  have hM := Lib.hid (StrMap.made w)
  have hB := Lib.hid (bl_alloc (Below.refl w.heap.size w) (.map #[] 0))
  have hz : w.heap.size < (w.alloc (.map #[] 0)).heap.size := by simp
  go_enter Tryz.func63, Tryz.ntmps63
  go_wp2_with ((with_reducible show wpList _ _ _ (⟨none, .insert _ _ _ _, _, _, _, _⟩ :: _) _ _); refine wpList_entry rfl _ _ _ 137 rfl _ _ Tryz.underlying137 Tryz.underlying9 _ _ hM.out rfl _ rfl _ rfl (by kernel_rfl) ?_; intro w1 hM1 hB1 hz1; replace hB := Lib.hid (hB1 _ _ (Nat.le_refl _) hB.out); replace hM := Lib.hid hM1; clear hM1 hB1)
  go_ret
  exact ⟨w.heap.size, rfl, hM.out, Nat.le_refl _, by omega, hB.out⟩
end Go.Proofs.YtcjcflmnghhbaaaGreat
/-
  cond.isWord, cond.fail; of chapter 27.
  Conditions: as each theorem states them.
-/
namespace Go.Proofs.YtcjcflmnghhbaaaGreat
open Go.RowKit
set_option linter.unusedVariables false
set_option linter.unusedSimpArgs false
open CM (Sv)
/-- what a parser gives up by -/
def broken (a e : Int) : PanicEntry := { v := .iface 88 (.agg #[.int .i64 a, .int .i64 e]), recovered := false }
theorem fail_any (a e : Int) (w : World) : Calls Tryz.prog 46 #[.int .i64 a, .int .i64 e] w fun q w' => q = .panicked [broken a e] ∧ w = w' := by
  go_enter Tryz.func46, Tryz.ntmps46
  go_wp2_with fail
  exact ⟨rfl, rfl, rfl⟩
/-- what a lookup of a word answers -/
theorem look_tab {w : World} {g : Nat} {T : List (List UInt8 × Value)} (h : StrMap w g (tabF T)) {mty et : TypeId} (hm : Tryz.prog.underlying mty = some (.map 9 et)) {z : Value} (hz : (zeroValue et).run Tryz.prog w = .ok z w) (s : List UInt8) :
    (Instr.lookup mty (.map (some g)) (.string ⟨s.toArray⟩) true).run Tryz.prog w = .ok (.tuple #[(tabF T ⟨s.toArray⟩).getD z, .bool (tabF T ⟨s.toArray⟩).isSome]) w := by
  rw [h.look hm Tryz.underlying9 hz]
  cases tabF T ⟨s.toArray⟩ <;> rfl
theorem zero_num (w : World) : (zeroValue 124).run Tryz.prog w = .ok .nilFunc w := by simp [Tryz.zeroValue124]
theorem zero_txt (w : World) : (zeroValue 128).run Tryz.prog w = .ok .nilFunc w := by simp [Tryz.zeroValue128]
theorem zero_flag (w : World) : (zeroValue 132).run Tryz.prog w = .ok .nilFunc w := by simp [Tryz.zeroValue132]
theorem zero_int (w : World) : (zeroValue 3).run Tryz.prog w = .ok (.int .i64 0) w := by simp [Tryz.zeroValue3]
theorem num_some (s : List UInt8) : (tabF numT ⟨s.toArray⟩).isSome = (CM.numOf s).isSome := by
  rw [tabF_at]
  unfold numT CM.numOf
  simp only [List.find?]
  by_cases h1 : s = CM.lineW
  · subst h1; rfl
  by_cases h2 : s = CM.pcW
  · subst h2; rfl
  by_cases h3 : s = CM.exitW
  · subst h3; rfl
  by_cases h4 : s = CM.waitsW
  · subst h4; rfl
  simp only [beq_eq_false_iff_ne.2 h1, beq_eq_false_iff_ne.2 h2, beq_eq_false_iff_ne.2 h3, beq_eq_false_iff_ne.2 h4, if_neg h1, if_neg h2, if_neg h3, if_neg h4, Option.map_none, Option.isSome_none]
theorem txt_some (s : List UInt8) : (tabF txtT ⟨s.toArray⟩).isSome = (CM.txtOf s).isSome := by
  rw [tabF_at]
  unfold txtT CM.txtOf
  simp only [List.find?]
  by_cases h1 : s = CM.patternW
  · subst h1; rfl
  by_cases h2 : s = CM.holdW
  · subst h2; rfl
  by_cases h3 : s = CM.restW
  · subst h3; rfl
  by_cases h4 : s = CM.outW
  · subst h4; rfl
  simp only [beq_eq_false_iff_ne.2 h1, beq_eq_false_iff_ne.2 h2, beq_eq_false_iff_ne.2 h3, beq_eq_false_iff_ne.2 h4, if_neg h1, if_neg h2, if_neg h3, if_neg h4, Option.map_none, Option.isSome_none]
theorem flag_some (s : List UInt8) : (tabF flagT ⟨s.toArray⟩).isSome = (CM.flagOf s).isSome := by
  rw [tabF_at]
  unfold flagT CM.flagOf
  simp only [List.find?]
  by_cases h1 : s = CM.substW
  · subst h1; rfl
  by_cases h2 : s = CM.silentW
  · subst h2; rfl
  by_cases h3 : s = CM.quitW
  · subst h3; rfl
  by_cases h4 : s = CM.againW
  · subst h4; rfl
  by_cases h5 : s = CM.failedW
  · subst h5; rfl
  simp only [beq_eq_false_iff_ne.2 h1, beq_eq_false_iff_ne.2 h2, beq_eq_false_iff_ne.2 h3, beq_eq_false_iff_ne.2 h4, beq_eq_false_iff_ne.2 h5, if_neg h1, if_neg h2, if_neg h3, if_neg h4, if_neg h5, Option.map_none, Option.isSome_none]
theorem ph_some (s : List UInt8) : (tabF phT ⟨s.toArray⟩).isSome = (CM.phOf s).isSome := by
  rw [tabF_at]
  unfold phT CM.phOf
  simp only [List.find?]
  by_cases h1 : s = CM.beginW
  · subst h1; rfl
  by_cases h2 : s = CM.bodyW
  · subst h2; rfl
  by_cases h3 : s = CM.endingW
  · subst h3; rfl
  by_cases h4 : s = CM.haltedW
  · subst h4; rfl
  simp only [beq_eq_false_iff_ne.2 h1, beq_eq_false_iff_ne.2 h2, beq_eq_false_iff_ne.2 h3, beq_eq_false_iff_ne.2 h4, if_neg h1, if_neg h2, if_neg h3, if_neg h4, Option.map_none, Option.isSome_none]
/-- what the tables give -/
theorem num_is (s : List UInt8) (f : Sv → Int) (h : CM.numOf s = some f) : ∃ k, (tabF numT ⟨s.toArray⟩).getD .nilFunc = fnV k ∧ GetN k f := by
  rw [tabF_at]
  unfold CM.numOf at h
  by_cases h1 : s = CM.lineW
  · subst h1; rw [if_pos rfl] at h; injection h with h; subst h; exact ⟨_, rfl, get_line⟩
  by_cases h2 : s = CM.pcW
  · subst h2; rw [if_neg (by decide), if_pos rfl] at h; injection h with h; subst h; exact ⟨_, rfl, get_pc⟩
  by_cases h3 : s = CM.exitW
  · subst h3; rw [if_neg (by decide), if_neg (by decide), if_pos rfl] at h; injection h with h; subst h; exact ⟨_, rfl, get_exit⟩
  by_cases h4 : s = CM.waitsW
  · subst h4; rw [if_neg (by decide), if_neg (by decide), if_neg (by decide), if_pos rfl] at h; injection h with h; subst h; exact ⟨_, rfl, get_waits⟩
  simp [h1, h2, h3, h4] at h
theorem txt_is (s : List UInt8) (f : Sv → List UInt8) (h : CM.txtOf s = some f) : ∃ k, (tabF txtT ⟨s.toArray⟩).getD .nilFunc = fnV k ∧ GetT k f := by
  rw [tabF_at]
  unfold CM.txtOf at h
  by_cases h1 : s = CM.patternW
  · subst h1; rw [if_pos rfl] at h; injection h with h; subst h; exact ⟨_, rfl, get_pattern⟩
  by_cases h2 : s = CM.holdW
  · subst h2; rw [if_neg (by decide), if_pos rfl] at h; injection h with h; subst h; exact ⟨_, rfl, get_hold⟩
  by_cases h3 : s = CM.restW
  · subst h3; rw [if_neg (by decide), if_neg (by decide), if_pos rfl] at h; injection h with h; subst h; exact ⟨_, rfl, get_rest⟩
  by_cases h4 : s = CM.outW
  · subst h4; rw [if_neg (by decide), if_neg (by decide), if_neg (by decide), if_pos rfl] at h; injection h with h; subst h; exact ⟨_, rfl, get_out⟩
  simp [h1, h2, h3, h4] at h
theorem flag_is (s : List UInt8) (f : Sv → Bool) (h : CM.flagOf s = some f) : ∃ k, (tabF flagT ⟨s.toArray⟩).getD .nilFunc = fnV k ∧ GetB k f := by
  rw [tabF_at]
  unfold CM.flagOf at h
  by_cases h1 : s = CM.substW
  · subst h1; rw [if_pos rfl] at h; injection h with h; subst h; exact ⟨_, rfl, get_subst⟩
  by_cases h2 : s = CM.silentW
  · subst h2; rw [if_neg (by decide), if_pos rfl] at h; injection h with h; subst h; exact ⟨_, rfl, get_silent⟩
  by_cases h3 : s = CM.quitW
  · subst h3; rw [if_neg (by decide), if_neg (by decide), if_pos rfl] at h; injection h with h; subst h; exact ⟨_, rfl, get_quit⟩
  by_cases h4 : s = CM.againW
  · subst h4; rw [if_neg (by decide), if_neg (by decide), if_neg (by decide), if_pos rfl] at h; injection h with h; subst h; exact ⟨_, rfl, get_again⟩
  by_cases h5 : s = CM.failedW
  · subst h5; rw [if_neg (by decide), if_neg (by decide), if_neg (by decide), if_neg (by decide), if_pos rfl] at h; injection h with h; subst h; exact ⟨_, rfl, get_failed⟩
  simp [h1, h2, h3, h4, h5] at h
theorem ph_is (s : List UInt8) (n : Int) (h : CM.phOf s = some n) : (tabF phT ⟨s.toArray⟩).getD (.int .i64 0) = .int .i64 n := by
  rw [tabF_at]
  unfold CM.phOf at h
  by_cases h1 : s = CM.beginW
  · subst h1; rw [if_pos rfl] at h; injection h with h; subst h; rfl
  by_cases h2 : s = CM.bodyW
  · subst h2; rw [if_neg (by decide), if_pos rfl] at h; injection h with h; subst h; rfl
  by_cases h3 : s = CM.endingW
  · subst h3; rw [if_neg (by decide), if_neg (by decide), if_pos rfl] at h; injection h with h; subst h; rfl
  by_cases h4 : s = CM.haltedW
  · subst h4; rw [if_neg (by decide), if_neg (by decide), if_neg (by decide), if_pos rfl] at h; injection h with h; subst h; rfl
  simp [h1, h2, h3, h4] at h
set_option maxHeartbeats 4000000 in
set_option maxRecDepth 100000 in
theorem isWord_any (s : List UInt8) (w : World) : Calls Tryz.prog 45 #[strV s] w fun e w' => e = .returned (.bool (CM.isWord s)) ∧ Below w.heap.size w w' := by
  obtain ⟨na, hna⟩ : ∃ b, (CM.numOf s).isSome = b := ⟨_, rfl⟩
  obtain ⟨nb, hnb⟩ : ∃ b, (CM.txtOf s).isSome = b := ⟨_, rfl⟩
  obtain ⟨nc, hnc⟩ : ∃ b, (CM.flagOf s).isSome = b := ⟨_, rfl⟩
  obtain ⟨nd, hnd⟩ : ∃ b, (CM.phOf s).isSome = b := ⟨_, rfl⟩
  have hR : CM.isWord s = (na || nb || nc || nd || s == CM.orW || s == CM.andW || s == CM.notW || s == CM.isW || s == CM.hasW || s == CM.changedW || s == CM.phaseW) := by
    unfold CM.isWord; rw [hna, hnb, hnc, hnd]
  have c1 := Lib.hid (fun W => num_any W)
  have c2 := Lib.hid (fun W => txt_any W)
  have c3 := Lib.hid (fun W => flag_any W)
  have c4 := Lib.hid (fun W => ph_any W)
  rw [← num_some] at hna
  rw [← txt_some] at hnb
  rw [← flag_some] at hnc
  rw [← ph_some] at hnd
  obtain ⟨va, hva⟩ : ∃ v, (tabF numT ⟨s.toArray⟩).getD .nilFunc = v := ⟨_, rfl⟩
  obtain ⟨vb, hvb⟩ : ∃ v, (tabF txtT ⟨s.toArray⟩).getD .nilFunc = v := ⟨_, rfl⟩
  obtain ⟨vc, hvc⟩ : ∃ v, (tabF flagT ⟨s.toArray⟩).getD .nilFunc = v := ⟨_, rfl⟩
  obtain ⟨vd, hvd⟩ : ∃ v, (tabF phT ⟨s.toArray⟩).getD (.int .i64 0) = v := ⟨_, rfl⟩
  replace hR := Lib.hid hR
  replace hna := Lib.hid hna
  replace hnb := Lib.hid hnb
  replace hnc := Lib.hid hnc
  replace hnd := Lib.hid hnd
  replace hva := Lib.hid hva
  replace hvb := Lib.hid hvb
  replace hvc := Lib.hid hvc
  replace hvd := Lib.hid hvd
  go_enter Tryz.func45, Tryz.ntmps45
  go_wp2_with (first
    | (go_at_call 60; refine (c1.out _).mono ?_; rintro e w1 ⟨g1, rfl, hM1, hg1, hl1, hb1⟩; have k1 := look_tab hM1 Tryz.underlying126 (zero_num _) s; rw [hna.out, hva.out] at k1; clear hM1)
    | (go_at_call 61; refine (c2.out _).mono ?_; rintro e w2 ⟨g2, rfl, hM2, hg2, hl2, hb2⟩; have k2 := look_tab hM2 Tryz.underlying130 (zero_txt _) s; rw [hnb.out, hvb.out] at k2; clear hM2)
    | (go_at_call 62; refine (c3.out _).mono ?_; rintro e w3 ⟨g3, rfl, hM3, hg3, hl3, hb3⟩; have k3 := look_tab hM3 Tryz.underlying134 (zero_flag _) s; rw [hnc.out, hvc.out] at k3; clear hM3)
    | (go_at_call 63; refine (c4.out _).mono ?_; rintro e w4 ⟨g4, rfl, hM4, hg4, hl4, hb4⟩; have k4 := look_tab hM4 Tryz.underlying137 (zero_int _) s; rw [hnd.out, hvd.out] at k4; clear hM4))
  all_goals go_ret
  all_goals (refine ⟨?_, bl_trans hb1 (bl_trans hb2 (bl_trans hb3 hb4))⟩)
  all_goals (rw [hR.out]; go_light)
  all_goals (simp_all; done)
end Go.Proofs.YtcjcflmnghhbaaaGreat
