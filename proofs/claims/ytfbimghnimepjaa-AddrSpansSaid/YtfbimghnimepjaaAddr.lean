/-
  Contracts of the functions Holds, Select, isKind, behind of package addr where no regular expression is asked, and of the example (awake): each returns what the plain functions here say and changes nothing that was there.
  Conditions: as each theorem states them; none beyond.
-/
import Derived.Test.YtfbimghnimepjaaRows
import Derived.Test.YtfbimghnimepjaaBase
import Derived.WalkKit
import Derived.WalkSpells
import Derived.WalkLawsBesides
import Derived.Laws.EntriesVeiled
import Derived.Deep.QuietTactic
import Derived.BigQuiet
import Derived.Lib.Hide
import Derived.Handy
namespace Go.Proofs.Ytfbimghnimepjaa
open Go.RowKit
set_option linter.unusedVariables false

theorem look_any (b : Nat) (line : Int) (last : Bool) (w : World) (h0 : w.cell? ⟨b, 0, none⟩ = some (.int .i64 line)) (h1 : w.cell? ⟨b, 1, none⟩ = some (.bool last)) :
    Calls Try.prog 16 #[.pointer (some ⟨b, 0, none⟩)] w fun e w' => e = .returned (.agg #[.int .i64 line, .bool last, .func (.func 56) #[.pointer (some ⟨b, 0, none⟩)] #[]]) ∧ Below w.heap.size w w' := by
  have hb : b < w.heap.size := World.block_lt_of_cell? w _ h0
  go_enter Try.func16, Try.ntmps16
  go_wp2
  go_region
  all_goals go_wp2
  all_goals refine bodyPost_ret (v := .agg #[.int .i64 line, .bool last, .func (.func 56) #[.pointer (some ⟨b, 0, none⟩)] #[]]) (by simp [results, Try.results16, go_sem]) rfl ⟨rfl, ?_⟩
  all_goals exact ((Below.refl _ _).alloc (Nat.le_refl _) _).drew
def isK (k : Int) : Bool := decide (0 ≤ k) && decide (k ≤ 3)
def hv (k n : Int) (line : Int) (last : Bool) : Bool := k == 0 || k == 1 && n == line || k == 2 && last
def he (k : Int) : Int := if 0 ≤ k ∧ k ≤ 3 then 0 else 1
def beh (k n : Int) (line : Int) (last : Bool) : Bool := k == 1 && decide (n ≤ line) || k == 2 && last
set_option maxHeartbeats 1000000 in
theorem holds_plain (k n r line : Int) (last : Bool) (f : Value) (w : World) (hk : (k == 3) = false) :
    Calls Try.prog 15 #[.agg #[.int .i64 k, .int .i64 n, .int .i64 r], .agg #[.int .i64 line, .bool last, f]] w fun e w' => e = .returned (.tuple #[.bool (hv k n line last), .int .i64 (he k)]) ∧ Below w.heap.size w w' := by
  go_enter Try.func15, Try.ntmps15
  go_wp2
  all_goals go_ret2
  all_goals (refine ⟨ret_be ?_ ?_, by repeat (first | (with_reducible exact Below.refl _ _) | (with_reducible refine bl_alloc ?_ _))⟩)
  all_goals simp_all [hv, he]
  all_goals omega
set_option maxHeartbeats 1000000 in
theorem isk_any (k n r : Int) (w : World) :
    Calls Try.prog 57 #[.agg #[.int .i64 k, .int .i64 n, .int .i64 r]] w fun e w' => e = .returned (.bool (isK k)) ∧ Below w.heap.size w w' := by
  go_enter Try.func57, Try.ntmps57
  go_wp2
  all_goals go_ret
  all_goals (refine ⟨ret_bool ?_, by repeat (first | (with_reducible exact Below.refl _ _) | (with_reducible refine bl_alloc ?_ _))⟩)
  all_goals simp_all [isK]
  all_goals omega
set_option maxHeartbeats 1000000 in
theorem beh_any (k n r line : Int) (last : Bool) (f : Value) (w : World)  :
    Calls Try.prog 58 #[.agg #[.int .i64 k, .int .i64 n, .int .i64 r], .agg #[.int .i64 line, .bool last, f]] w fun e w' => e = .returned (.bool (beh k n line last)) ∧ Below w.heap.size w w' := by
  go_enter Try.func58, Try.ntmps58
  go_wp2
  all_goals go_ret
  all_goals (refine ⟨ret_bool ?_, by repeat (first | (with_reducible exact Below.refl _ _) | (with_reducible refine bl_alloc ?_ _))⟩)
  all_goals simp_all [beh]

def selS (k1 n1 k2 n2 : Int) (active : Bool) (line : Int) (last : Bool) : Bool := isK k1 && isK k2 && ((k2 != 0 && active) || hv k1 n1 line last)
def selO (k1 n1 k2 n2 : Int) (active : Bool) (line : Int) (last : Bool) : Bool := isK k1 && isK k2 && (k2 != 0 && (active || hv k1 n1 line last) && !beh k2 n2 line last)
def selE (k1 k2 : Int) : Int := if isK k1 && isK k2 then 0 else 1
set_option maxHeartbeats 2000000 in
theorem sel_plain (k1 n1 r1 k2 n2 r2 line : Int) (active last : Bool) (f : Value) (w : World) (h1 : (k1 == 3) = false) (h2 : (k2 == 3) = false) :
    Calls Try.prog 18 #[.agg #[.int .i64 k1, .int .i64 n1, .int .i64 r1], .agg #[.int .i64 k2, .int .i64 n2, .int .i64 r2], .bool active, .agg #[.int .i64 line, .bool last, f]] w
      fun e w' => e = .returned (.tuple #[.bool (selS k1 n1 k2 n2 active line last), .bool (selO k1 n1 k2 n2 active line last), .int .i64 (selE k1 k2)]) ∧ Below w.heap.size w w' := by
  go_enter Try.func18, Try.ntmps18
  go_wp2
  all_goals (refine bodyPost_ret (results_tmp3 rfl _ _ _) rfl ?_)
  all_goals (refine ⟨ret_bbe ?_ ?_ ?_, by repeat (first | (with_reducible exact Below.refl _ _) | (with_reducible refine bl_alloc ?_ _))⟩)
  all_goals simp_all [selS, selO, selE, hv, isK, beh]
  all_goals omega

set_option maxHeartbeats 4000000 in
set_option maxRecDepth 100000 in
theorem awake_any (w : World) :
    Calls Try.prog 14 #[] w fun e w' => e = .returned (.bool true) ∧ Below w.heap.size w w' := by
    go_enter Try.func14, Try.ntmps14
    go_wp2
    go_ret
    exact ⟨rfl, by repeat (first | (with_reducible exact Below.refl _ _) | (with_reducible refine bl_alloc ?_ _))⟩
end Go.Proofs.Ytfbimghnimepjaa
