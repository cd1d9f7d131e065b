/-
  Contracts of the function find of an asked look, and of find of Look over it: what it answers, and that it notes that it was asked.
  Conditions: as each theorem states them; none beyond.
-/
import Derived.Test.YtfbimghnimepjaaA1
import Derived.Test.YtfbimghnimepjaaA5
import Derived.Test.YtfbimghnimepjaaBase
namespace Go.Proofs.Ytfbimghnimepjaa
open Go.RowKit
set_option linter.unusedVariables false
/-- the asked look at block b, not asked yet -/
structure Asked (w : World) (b : Nat) (line : Int) (last : Bool) (fa : Option Addr) (len cap : Nat) (n lst : Int) : Prop where
  c0 : w.cell? ⟨b, 0, none⟩ = some (.int .i64 line)
  c1 : w.cell? ⟨b, 1, none⟩ = some (.bool last)
  c2 : w.cell? ⟨b, 2, none⟩ = some (.slice fa len cap)
  c3 : w.cell? ⟨b, 3, none⟩ = some (.int .i64 n)
  c4 : w.cell? ⟨b, 4, none⟩ = some (.int .i64 lst)
  fr : ∀ o, w.frozen? ⟨b, o, none⟩ = false
structure AfterAsk (w w' : World) (b : Nat) (re : Int) : Prop where
  below : Below b w w'
  grown : w.grownBy w' (some b)
  c3 : w'.cell? ⟨b, 3, none⟩ = some (.int .i64 1)
  c4 : w'.cell? ⟨b, 4, none⟩ = some (.int .i64 re)
theorem below_set2 (w : World) (b i j : Nat) (x y : Value) : Below b w ((w.setCell ⟨b, i, none⟩ x).setCell ⟨b, j, none⟩ y) := ((Below.refl _ _).setCell (p := ⟨b, i, none⟩) (Nat.le_refl b) _).setCell (p := ⟨b, j, none⟩) (Nat.le_refl b) _
theorem grown_set2 (w : World) (b i j : Nat) (x y : Value) : w.grownBy ((w.setCell ⟨b, i, none⟩ x).setCell ⟨b, j, none⟩ y) (some b) :=
  ⟨rfl, rfl, rfl, by simp [World.setCell], fun k _ hk => by
    rw [Below.heap_setCell _ _ _ _ (fun e => hk (by rw [e])), Below.heap_setCell _ _ _ _ (fun e => hk (by rw [e]))]⟩
set_option maxHeartbeats 1000000 in
theorem find_out (b : Nat) (line : Int) (last : Bool) (fa : Option Addr) (len cap : Nat) (lst re : Int) (w : World) (h : Asked w b line last fa len cap 0 lst) (hout : re < 0 ∨ (len : Int) ≤ re) :
    Calls Try.prog 56 #[.pointer (some ⟨b, 0, none⟩), .int .i64 re] w fun e w' => e = .returned (.tuple #[.bool true, .int .i64 27]) ∧ AfterAsk w w' b re := by
  obtain ⟨c0, c1, c2, c3, c4, fr⟩ := h
  have f3 := fr 3
  have f4 := fr 4
  clear fr
  rcases hout with hout | hout
  · go_enter Try.func56, Try.ntmps56
    go_wp2
    go_ret2
    refine ⟨rfl, below_set2 _ _ _ _ _ _, grown_set2 _ _ _ _ _ _, ?_, ?_⟩ <;> go_simp
  · by_cases h0 : re < 0
    · omega
    · go_enter Try.func56, Try.ntmps56
      go_wp2
      go_ret2
      refine ⟨rfl, below_set2 _ _ _ _ _ _, grown_set2 _ _ _ _ _ _, ?_, ?_⟩ <;> go_simp
set_option maxHeartbeats 1000000 in
theorem find_in (b : Nat) (line : Int) (last : Bool) (g o len cap : Nat) (lst : Int) (k : Nat) (x : Bool) (w : World) (h : Asked w b line last (some ⟨g, o, none⟩) len cap 0 lst) (hin : k < len) (hx : w.cell? ⟨g, o + k, none⟩ = some (.bool x)) (hg : g ≠ b) :
    Calls Try.prog 56 #[.pointer (some ⟨b, 0, none⟩), .int .i64 k] w fun e w' => e = .returned (.tuple #[.bool x, .int .i64 0]) ∧ AfterAsk w w' b k := by
  obtain ⟨c0, c1, c2, c3, c4, fr⟩ := h
  have f3 := fr 3
  have f4 := fr 4
  clear fr
  go_enter Try.func56, Try.ntmps56
  go_wp2
  go_ret2
  refine ⟨rfl, below_set2 _ _ _ _ _ _, grown_set2 _ _ _ _ _ _, ?_, ?_⟩ <;> go_simp



theorem func_ne_nil (b : Nat) (w : World) : (binOp .eql 34 (.func (.func 56) #[.pointer (some ⟨b, 0, none⟩)] #[]) .nilFunc).run Try.prog w = .ok (.bool false) w := by kernel_rfl
theorem nil_eq_nil (w : World) : (binOp .eql 34 .nilFunc .nilFunc).run Try.prog w = .ok (.bool true) w := by kernel_rfl
set_option maxRecDepth 100000 in
theorem lfind_any (b : Nat) (line re : Int) (last x : Bool) (e : Int) (w : World) (R : World → Prop) (hx : e = 0 ∨ x = true ∧ e = 27)
    (h : Calls Try.prog 56 #[.pointer (some ⟨b, 0, none⟩), .int .i64 re] (w.alloc (.cells #[.int .i64 line, .bool last, .func (.func 56) #[.pointer (some ⟨b, 0, none⟩)] #[]] 36)) fun en w' => en = .returned (.tuple #[.bool x, .int .i64 e]) ∧ R w') :
    Calls Try.prog 55 #[.agg #[.int .i64 line, .bool last, .func (.func 56) #[.pointer (some ⟨b, 0, none⟩)] #[]], .int .i64 re] w fun en w' => en = .returned (.tuple #[.bool (x && e == 0), .int .i64 e]) ∧ R w' := by
  have H := Lib.hid h
  have fn := func_ne_nil b
  clear h
  rcases hx with rfl | ⟨rfl, rfl⟩
  · go_enter Try.func55, Try.ntmps55
    go_wp2_with (go_at_call 56; refine (H.out).mono ?_; rintro e w1 ⟨rfl, hb1⟩)
    all_goals go_ret2
    all_goals exact ⟨ret_be (by simp_all) rfl, hb1⟩
  · go_enter Try.func55, Try.ntmps55
    go_wp2_with (go_at_call 56; refine (H.out).mono ?_; rintro e w1 ⟨rfl, hb1⟩)
    all_goals go_ret2
    all_goals exact ⟨ret_be (by simp_all) rfl, hb1⟩
end Go.Proofs.Ytfbimghnimepjaa
