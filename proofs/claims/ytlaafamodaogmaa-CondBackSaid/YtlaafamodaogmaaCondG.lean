/-
  What a condition sees of a state, in memory; the words' tables; of chapter 27 (printed by gen_condg.py).
  Conditions: as each theorem states them.
-/
import Derived.Test.YtlaafamodaogmaaMapE
import Derived.Test.YtlaafamodaogmaaCondL
namespace Go.Proofs.Ytlaafamodaogmaa
open Go.RowKit
set_option linter.unusedVariables false
set_option linter.unusedSimpArgs false
open CM (Sv)
/-- a text of a state, in memory -/
def TxAt (w : World) (b j : Nat) (t : List UInt8) : Prop := ∃ a c, w.cell? ⟨b, j, none⟩ = some (.slice a t.length c) ∧ t.length ≤ c ∧ BytesAt w a t ∧ t.length ≤ 100000
/-- a state in memory, as a condition sees it -/
structure SvAt (w : World) (b : Nat) (s : Sv) : Prop where
  lt : b < w.heap.size
  line : w.cell? ⟨b, 3, none⟩ = some (.int .i64 s.line)
  pc : w.cell? ⟨b, 16, none⟩ = some (.int .i64 s.pc)
  exit : w.cell? ⟨b, 17, none⟩ = some (.int .i64 s.exit)
  waits : ∃ a n c, w.cell? ⟨b, 24, none⟩ = some (.slice a n c) ∧ (n : Int) = s.waits
  pattern : TxAt w b 0 s.pattern
  hold : TxAt w b 1 s.hold
  rest : TxAt w b 10 s.rest
  out : TxAt w b 11 s.out
  subst : w.cell? ⟨b, 4, none⟩ = some (.bool s.subst)
  silent : w.cell? ⟨b, 20, none⟩ = some (.bool s.silent)
  quit : w.cell? ⟨b, 21, none⟩ = some (.bool s.quit)
  again : w.cell? ⟨b, 22, none⟩ = some (.bool s.again)
  err : w.cell? ⟨b, 19, none⟩ = some (.int .i64 s.err)
  phase : w.cell? ⟨b, 15, none⟩ = some (.int .i64 s.phase)
theorem TxAt.below {w w' : World} {b j : Nat} {t : List UInt8} (h : TxAt w b j t) (hl : b < w.heap.size) (hb : Below w.heap.size w w') : TxAt w' b j t := by
  obtain ⟨a, c, h1, h2, h3, h4⟩ := h
  exact ⟨a, c, (hb.cell (p := ⟨b, j, none⟩) hl).trans h1, h2, h3.below hb, h4⟩
theorem SvAt.below {w w' : World} {b : Nat} {s : Sv} (h : SvAt w b s) (hb : Below w.heap.size w w') : SvAt w' b s := by
  have e : ∀ j, w'.cell? ⟨b, j, none⟩ = w.cell? ⟨b, j, none⟩ := fun j => hb.cell (p := ⟨b, j, none⟩) h.lt
  obtain ⟨a, n, c, h1, h2⟩ := h.waits
  exact ⟨Nat.lt_of_lt_of_le h.lt hb.size, (e _).trans h.line, (e _).trans h.pc, (e _).trans h.exit, ⟨a, n, c, (e _).trans h1, h2⟩, h.pattern.below h.lt hb, h.hold.below h.lt hb, h.rest.below h.lt hb, h.out.below h.lt hb,
    (e _).trans h.subst, (e _).trans h.silent, (e _).trans h.quit, (e _).trans h.again, (e _).trans h.err, (e _).trans h.phase⟩
/-- a function that gives a number of a state -/
def GetN (k : FuncId) (f : Sv → Int) : Prop := ∀ (w : World) b s, SvAt w b s → Calls Try.prog k #[.pointer (some ⟨b, 0, none⟩)] w fun e w' => e = .returned (.int .i64 (f s)) ∧ w = w'
def GetB (k : FuncId) (f : Sv → Bool) : Prop := ∀ (w : World) b s, SvAt w b s → Calls Try.prog k #[.pointer (some ⟨b, 0, none⟩)] w fun e w' => e = .returned (.bool (f s)) ∧ w = w'
def GetT (k : FuncId) (f : Sv → List UInt8) : Prop := ∀ (w : World) b s, SvAt w b s → Calls Try.prog k #[.pointer (some ⟨b, 0, none⟩)] w fun e w' => (∃ a c, e = .returned (.slice a (f s).length c) ∧ (f s).length ≤ c ∧ BytesAt w a (f s) ∧ (f s).length ≤ 100000) ∧ w = w'
theorem get_line : GetN 75 (·.line) := by
  intro w b s h
  have k0 := h.line
  go_enter Try.func75, Try.ntmps75
  go_wp2_with fail
  go_ret
  exact ⟨rfl, rfl⟩
theorem get_pc : GetN 76 (·.pc) := by
  intro w b s h
  have k0 := h.pc
  go_enter Try.func76, Try.ntmps76
  go_wp2_with fail
  go_ret
  exact ⟨rfl, rfl⟩
theorem get_exit : GetN 77 (·.exit) := by
  intro w b s h
  have k0 := h.exit
  go_enter Try.func77, Try.ntmps77
  go_wp2_with fail
  go_ret
  exact ⟨rfl, rfl⟩
theorem get_waits : GetN 78 (·.waits) := by
  intro w b s h
  obtain ⟨a, n, c, k0, hn⟩ := h.waits
  go_enter Try.func78, Try.ntmps78
  go_wp2_with fail
  go_ret
  exact ⟨by rw [← hn]; rfl, rfl⟩
theorem get_pattern : GetT 79 (·.pattern) := by
  intro w b s h
  obtain ⟨a, c, k0, h2, h3, h4⟩ := h.pattern
  go_enter Try.func79, Try.ntmps79
  go_wp2_with fail
  go_ret
  exact ⟨⟨a, c, rfl, h2, h3, h4⟩, rfl⟩
theorem get_hold : GetT 80 (·.hold) := by
  intro w b s h
  obtain ⟨a, c, k0, h2, h3, h4⟩ := h.hold
  go_enter Try.func80, Try.ntmps80
  go_wp2_with fail
  go_ret
  exact ⟨⟨a, c, rfl, h2, h3, h4⟩, rfl⟩
theorem get_rest : GetT 81 (·.rest) := by
  intro w b s h
  obtain ⟨a, c, k0, h2, h3, h4⟩ := h.rest
  go_enter Try.func81, Try.ntmps81
  go_wp2_with fail
  go_ret
  exact ⟨⟨a, c, rfl, h2, h3, h4⟩, rfl⟩
theorem get_out : GetT 82 (·.out) := by
  intro w b s h
  obtain ⟨a, c, k0, h2, h3, h4⟩ := h.out
  go_enter Try.func82, Try.ntmps82
  go_wp2_with fail
  go_ret
  exact ⟨⟨a, c, rfl, h2, h3, h4⟩, rfl⟩
theorem get_subst : GetB 83 (·.subst) := by
  intro w b s h
  have k0 := h.subst
  go_enter Try.func83, Try.ntmps83
  go_wp2_with fail
  go_ret
  exact ⟨rfl, rfl⟩
theorem get_silent : GetB 84 (·.silent) := by
  intro w b s h
  have k0 := h.silent
  go_enter Try.func84, Try.ntmps84
  go_wp2_with fail
  go_ret
  exact ⟨rfl, rfl⟩
theorem get_quit : GetB 85 (·.quit) := by
  intro w b s h
  have k0 := h.quit
  go_enter Try.func85, Try.ntmps85
  go_wp2_with fail
  go_ret
  exact ⟨rfl, rfl⟩
theorem get_again : GetB 86 (·.again) := by
  intro w b s h
  have k0 := h.again
  go_enter Try.func86, Try.ntmps86
  go_wp2_with fail
  go_ret
  exact ⟨rfl, rfl⟩
theorem get_failed : GetB 87 (fun s => s.err != 0) := by
  intro w b s h
  have k0 := h.err
  go_enter Try.func87, Try.ntmps87
  go_wp2_with fail
  go_ret
  exact ⟨rfl, rfl⟩
theorem StrMap.eq {w : World} {g : Nat} {f h : ByteArray → Option Value} (hm : StrMap w g f) (e : ∀ t, f t = h t) : StrMap w g h := by rw [← funext e]; exact hm
def numT : List (List UInt8 × Value) := [(CM.waitsW, fnV 78), (CM.exitW, fnV 77), (CM.pcW, fnV 76), (CM.lineW, fnV 75)]
set_option maxHeartbeats 4000000 in
set_option maxRecDepth 100000 in
theorem num_any (w : World) : Calls Try.prog 65 #[] w (MapIs (tabF numT) w) := by
  have hmm := @run_makeMap Try.prog
  have hM := Lib.hid (StrMap.made w)
  have hB := Lib.hid (bl_alloc (Below.refl w.heap.size w) (.map #[] 0))
  have hz : w.heap.size < (w.alloc (.map #[] 0)).heap.size := by simp
  go_enter Try.func65, Try.ntmps65
  go_wp2_with ((with_reducible show wpList _ _ _ (⟨none, .insert _ _ _ _, _, _, _, _⟩ :: _) _ _); refine wpList_entry rfl _ _ _ 125 rfl _ _ Try.underlying125 Try.underlying9 _ _ hM.out rfl _ rfl _ rfl (by kernel_rfl) ?_; intro w1 hM1 hB1 hz1; replace hB := Lib.hid (hB1 _ _ (Nat.le_refl _) hB.out); replace hM := Lib.hid hM1; clear hM1 hB1)
  go_ret
  exact ⟨w.heap.size, rfl, hM.out, Nat.le_refl _, by omega, hB.out⟩
def txtT : List (List UInt8 × Value) := [(CM.outW, fnV 82), (CM.restW, fnV 81), (CM.holdW, fnV 80), (CM.patternW, fnV 79)]
set_option maxHeartbeats 4000000 in
set_option maxRecDepth 100000 in
theorem txt_any (w : World) : Calls Try.prog 66 #[] w (MapIs (tabF txtT) w) := by
  have hmm := @run_makeMap Try.prog
  have hM := Lib.hid (StrMap.made w)
  have hB := Lib.hid (bl_alloc (Below.refl w.heap.size w) (.map #[] 0))
  have hz : w.heap.size < (w.alloc (.map #[] 0)).heap.size := by simp
  go_enter Try.func66, Try.ntmps66
  go_wp2_with ((with_reducible show wpList _ _ _ (⟨none, .insert _ _ _ _, _, _, _, _⟩ :: _) _ _); refine wpList_entry rfl _ _ _ 129 rfl _ _ Try.underlying129 Try.underlying9 _ _ hM.out rfl _ rfl _ rfl (by kernel_rfl) ?_; intro w1 hM1 hB1 hz1; replace hB := Lib.hid (hB1 _ _ (Nat.le_refl _) hB.out); replace hM := Lib.hid hM1; clear hM1 hB1)
  go_ret
  exact ⟨w.heap.size, rfl, hM.out, Nat.le_refl _, by omega, hB.out⟩
def flagT : List (List UInt8 × Value) := [(CM.failedW, fnV 87), (CM.againW, fnV 86), (CM.quitW, fnV 85), (CM.silentW, fnV 84), (CM.substW, fnV 83)]
set_option maxHeartbeats 4000000 in
set_option maxRecDepth 100000 in
theorem flag_any (w : World) : Calls Try.prog 67 #[] w (MapIs (tabF flagT) w) := by
  have hmm := @run_makeMap Try.prog
  have hM := Lib.hid (StrMap.made w)
  have hB := Lib.hid (bl_alloc (Below.refl w.heap.size w) (.map #[] 0))
  have hz : w.heap.size < (w.alloc (.map #[] 0)).heap.size := by simp
  go_enter Try.func67, Try.ntmps67
  go_wp2_with ((with_reducible show wpList _ _ _ (⟨none, .insert _ _ _ _, _, _, _, _⟩ :: _) _ _); refine wpList_entry rfl _ _ _ 133 rfl _ _ Try.underlying133 Try.underlying9 _ _ hM.out rfl _ rfl _ rfl (by kernel_rfl) ?_; intro w1 hM1 hB1 hz1; replace hB := Lib.hid (hB1 _ _ (Nat.le_refl _) hB.out); replace hM := Lib.hid hM1; clear hM1 hB1)
  go_ret
  exact ⟨w.heap.size, rfl, hM.out, Nat.le_refl _, by omega, hB.out⟩
def phT : List (List UInt8 × Value) := [(CM.haltedW, .int .i64 3), (CM.endingW, .int .i64 2), (CM.bodyW, .int .i64 1), (CM.beginW, .int .i64 0)]
set_option maxHeartbeats 4000000 in
set_option maxRecDepth 100000 in
theorem ph_any (w : World) : Calls Try.prog 68 #[] w (MapIs (tabF phT) w) := by
  have hmm := @run_makeMap Try.prog
  have hM := Lib.hid (StrMap.made w)
  have hB := Lib.hid (bl_alloc (Below.refl w.heap.size w) (.map #[] 0))
  have hz : w.heap.size < (w.alloc (.map #[] 0)).heap.size := by simp
  go_enter Try.func68, Try.ntmps68
  go_wp2_with ((with_reducible show wpList _ _ _ (⟨none, .insert _ _ _ _, _, _, _, _⟩ :: _) _ _); refine wpList_entry rfl _ _ _ 136 rfl _ _ Try.underlying136 Try.underlying9 _ _ hM.out rfl _ rfl _ rfl (by kernel_rfl) ?_; intro w1 hM1 hB1 hz1; replace hB := Lib.hid (hB1 _ _ (Nat.le_refl _) hB.out); replace hM := Lib.hid hM1; clear hM1 hB1)
  go_ret
  exact ⟨w.heap.size, rfl, hM.out, Nat.le_refl _, by omega, hB.out⟩
end Go.Proofs.Ytlaafamodaogmaa
