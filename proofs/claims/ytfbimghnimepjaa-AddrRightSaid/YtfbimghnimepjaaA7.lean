/-
  Contracts of Holds where a regular expression is asked, and of the reference of Holds.
  Conditions: as each theorem states them; none beyond.
-/
import Derived.Test.YtfbimghnimepjaaA6
import Derived.Deep.RegionHeld3
import Derived.Deep.Light
namespace Go.Proofs.Ytfbimghnimepjaa
open Go.RowKit
set_option linter.unusedVariables false
theorem AfterAsk.ahead {w W w' : World} {b : Nat} {re : Int} (hb : b < w.heap.size) (h : Below w.heap.size w W) (k : AfterAsk W w' b re) : AfterAsk w w' b re :=
  ⟨(h.mono (Nat.le_of_lt hb)).trans k.below,
    ⟨k.grown.os.trans h.os, k.grown.tape.trans h.tape, k.grown.output.trans h.output, Nat.le_trans h.size k.grown.size, fun i hi hne => (k.grown.block i (Nat.lt_of_lt_of_le hi h.size) hne).trans (h.block i hi)⟩, k.c3, k.c4⟩
set_option maxHeartbeats 1000000 in
theorem holds_nil (n r line : Int) (last : Bool) (w : World) :
    Calls Try.prog 15 #[.agg #[.int .i64 3, .int .i64 n, .int .i64 r], .agg #[.int .i64 line, .bool last, .nilFunc]] w fun e w' => e = .returned (.tuple #[.bool false, .int .i64 0]) ∧ Below w.heap.size w w' := by
  have fn := nil_eq_nil
  go_enter Try.func15, Try.ntmps15
  go_wp2
  all_goals go_ret2
  all_goals exact ⟨rfl, by repeat (first | (with_reducible exact Below.refl _ _) | (with_reducible refine bl_alloc ?_ _))⟩
set_option maxHeartbeats 1000000 in
set_option maxRecDepth 100000 in
theorem holds_ask (b : Nat) (n line re : Int) (last x : Bool) (e : Int) (w : World) (hx : e = 0 ∨ x = true ∧ e = 27) (hb : b < w.heap.size)
    (h : ∀ W, Below w.heap.size w W → Calls Try.prog 56 #[.pointer (some ⟨b, 0, none⟩), .int .i64 re] W fun en w' => en = .returned (.tuple #[.bool x, .int .i64 e]) ∧ AfterAsk W w' b re) :
    Calls Try.prog 15 #[.agg #[.int .i64 3, .int .i64 n, .int .i64 re], .agg #[.int .i64 line, .bool last, .func (.func 56) #[.pointer (some ⟨b, 0, none⟩)] #[]]] w
      fun en w' => en = .returned (.tuple #[.bool (x && e == 0), .int .i64 e]) ∧ AfterAsk w w' b re := by
  have H := Lib.hid h
  have hx := Lib.hid hx
  clear h
  go_enter Try.func15, Try.ntmps15
  go_wp2_with (go_at_call 55; refine (lfind_any b line re last x e _ (fun w' => AfterAsk w w' b re) hx.out ((H.out _ ?_).mono ?_)).mono ?_)
  · repeat (first | (with_reducible exact Below.refl _ _) | (with_reducible refine bl_alloc ?_ _))
  · rintro e' w1 ⟨rfl, h1⟩
    exact ⟨rfl, h1.ahead hb (by repeat (first | (with_reducible exact Below.refl _ _) | (with_reducible refine bl_alloc ?_ _)))⟩
  · rintro e' w1 ⟨rfl, h1⟩
    go_wp2
    go_ret2
    exact ⟨rfl, h1⟩
set_option maxHeartbeats 1000000 in
theorem refh_plain (k n r line : Int) (last : Bool) (fa : Option Addr) (len cap : Nat) (w : World) (hk : (k == 3) = false) :
    Calls Try.prog 17 #[.agg #[.int .i64 k, .int .i64 n, .int .i64 r], .agg #[.int .i64 line, .bool last, .slice fa len cap]] w fun e w' => e = .returned (.tuple #[.bool (hv k n line last), .int .i64 (he k)]) ∧ Below w.heap.size w w' := by
  go_enter Try.func17, Try.ntmps17
  go_wp2
  all_goals go_ret2
  all_goals (refine ⟨ret_be ?_ ?_, by repeat (first | (with_reducible exact Below.refl _ _) | (with_reducible refine bl_alloc ?_ _))⟩)
  all_goals (go_light; simp_all [hv, he])
  all_goals omega
set_option maxHeartbeats 1000000 in
theorem refh_out (n r line : Int) (last : Bool) (fa : Option Addr) (len cap : Nat) (w : World) (hout : r < 0 ∨ (len : Int) ≤ r) :
    Calls Try.prog 17 #[.agg #[.int .i64 3, .int .i64 n, .int .i64 r], .agg #[.int .i64 line, .bool last, .slice fa len cap]] w fun e w' => e = .returned (.tuple #[.bool false, .int .i64 27]) ∧ Below w.heap.size w w' := by
  by_cases h0 : r < 0
  · go_enter Try.func17, Try.ntmps17
    go_wp2
    all_goals go_ret2
    all_goals (refine ⟨rfl, by repeat (first | (with_reducible exact Below.refl _ _) | (with_reducible refine bl_alloc ?_ _))⟩)
  · have h1 : (len : Int) ≤ r := by omega
    go_enter Try.func17, Try.ntmps17
    go_wp2
    all_goals go_ret2
    all_goals (refine ⟨rfl, by repeat (first | (with_reducible exact Below.refl _ _) | (with_reducible refine bl_alloc ?_ _))⟩)
set_option maxHeartbeats 1000000 in
theorem refh_in (n line : Int) (last : Bool) (g o len cap k : Nat) (x : Bool) (w : World) (hin : k < len) (hx : w.cell? ⟨g, o + k, none⟩ = some (.bool x)) :
    Calls Try.prog 17 #[.agg #[.int .i64 3, .int .i64 n, .int .i64 k], .agg #[.int .i64 line, .bool last, .slice (some ⟨g, o, none⟩) len cap]] w fun e w' => e = .returned (.tuple #[.bool x, .int .i64 0]) ∧ Below w.heap.size w w' := by
  have hg : g < w.heap.size := World.block_lt_of_cell? w _ hx
  go_enter Try.func17, Try.ntmps17
  go_wp2
  all_goals go_ret2
  all_goals (refine ⟨rfl, by repeat (first | (with_reducible exact Below.refl _ _) | (with_reducible refine bl_alloc ?_ _))⟩)
end Go.Proofs.Ytfbimghnimepjaa
