/-
  The walk of DigitKinds, of chapter 01: kinds of byte, part b.
  Conditions: the table of powers of ten lies as laid ('Pow').
-/
import Derived.Test.YtjfpepinmbbnbaaDoorD1
namespace Go.Proofs.YtjfpepinmbbnbaaDoor
open Go.RowKit
set_option linter.unusedVariables false
set_option linter.unusedSimpArgs false
set_option maxRecDepth 100000
theorem ask_b (s : ByteArray) (l : List UInt8) (c : Int) (hc : 0 ≤ c ∧ c ≤ 255) (w : World) (hs : s.toList = l) (b : Bool) (h : isS l c = (b, true)) : Calls Tryd.prog 20 #[.string s, .int .u8 c] w fun e w' => e = .returned (.tuple #[.bool b, .bool true]) ∧ w = w' := by
  have k := is_any s c hc w
  rw [hs, h] at k
  exact k
set_option maxHeartbeats 2000000 in
theorem kind_d (c : Int) (hc : 0 ≤ c ∧ c ≤ 255) (h : c = 32) (W : World) (ha : Hid (Calls Tryd.prog 13 #[] W fun e w' => e = .returned (.bool true) ∧ Below W.heap.size W w')) :
    Calls Tryd.prog 7 #[.int .u8 c] W fun e w' => e = .returned (.bool true) ∧ Below W.heap.size W w' := by
  have k_alnum := Lib.hid (ask_b ⟨#[97, 108, 110, 117, 109]⟩ sAlnum c hc W (by decide +kernel) false (by simp [isS, sUpper, sLower, sDigit, sAlpha, sAlnum, sBlank, sSpace, sCntrl, sGraph, sPrint, sPunct, sXdigit, wi, alnumB]; try omega))
  have k_alpha := Lib.hid (ask_b ⟨#[97, 108, 112, 104, 97]⟩ sAlpha c hc W (by decide +kernel) false (by simp [isS, sUpper, sLower, sDigit, sAlpha, sAlnum, sBlank, sSpace, sCntrl, sGraph, sPrint, sPunct, sXdigit, wi, alnumB]; try omega))
  have k_num := Lib.hid (ask_b ⟨#[100, 105, 103, 105, 116]⟩ sDigit c hc W (by decide +kernel) false (by simp [isS, sUpper, sLower, sDigit, sAlpha, sAlnum, sBlank, sSpace, sCntrl, sGraph, sPrint, sPunct, sXdigit, wi, alnumB]; try omega))
  have k_upper := Lib.hid (ask_b ⟨#[117, 112, 112, 101, 114]⟩ sUpper c hc W (by decide +kernel) false (by simp [isS, sUpper, sLower, sDigit, sAlpha, sAlnum, sBlank, sSpace, sCntrl, sGraph, sPrint, sPunct, sXdigit, wi, alnumB]; try omega))
  have k_lower := Lib.hid (ask_b ⟨#[108, 111, 119, 101, 114]⟩ sLower c hc W (by decide +kernel) false (by simp [isS, sUpper, sLower, sDigit, sAlpha, sAlnum, sBlank, sSpace, sCntrl, sGraph, sPrint, sPunct, sXdigit, wi, alnumB]; try omega))
  have k_graph := Lib.hid (ask_b ⟨#[103, 114, 97, 112, 104]⟩ sGraph c hc W (by decide +kernel) false (by simp [isS, sUpper, sLower, sDigit, sAlpha, sAlnum, sBlank, sSpace, sCntrl, sGraph, sPrint, sPunct, sXdigit, wi, alnumB]; try omega))
  have k_punct := Lib.hid (ask_b ⟨#[112, 117, 110, 99, 116]⟩ sPunct c hc W (by decide +kernel) false (by simp [isS, sUpper, sLower, sDigit, sAlpha, sAlnum, sBlank, sSpace, sCntrl, sGraph, sPrint, sPunct, sXdigit, wi, alnumB]; try omega))
  have k_cntrl := Lib.hid (ask_b ⟨#[99, 110, 116, 114, 108]⟩ sCntrl c hc W (by decide +kernel) false (by simp [isS, sUpper, sLower, sDigit, sAlpha, sAlnum, sBlank, sSpace, sCntrl, sGraph, sPrint, sPunct, sXdigit, wi, alnumB]; try omega))
  have k_print := Lib.hid (ask_b ⟨#[112, 114, 105, 110, 116]⟩ sPrint c hc W (by decide +kernel) true (by simp [isS, sUpper, sLower, sDigit, sAlpha, sAlnum, sBlank, sSpace, sCntrl, sGraph, sPrint, sPunct, sXdigit, wi, alnumB]; try omega))
  have k_blank := Lib.hid (ask_b ⟨#[98, 108, 97, 110, 107]⟩ sBlank c hc W (by decide +kernel) true (by simp [isS, sUpper, sLower, sDigit, sAlpha, sAlnum, sBlank, sSpace, sCntrl, sGraph, sPrint, sPunct, sXdigit, wi, alnumB]; try omega))
  have k_space := Lib.hid (ask_b ⟨#[115, 112, 97, 99, 101]⟩ sSpace c hc W (by decide +kernel) true (by simp [isS, sUpper, sLower, sDigit, sAlpha, sAlnum, sBlank, sSpace, sCntrl, sGraph, sPrint, sPunct, sXdigit, wi, alnumB]; try omega))
  have k_hex := Lib.hid (ask_b ⟨#[120, 100, 105, 103, 105, 116]⟩ sXdigit c hc W (by decide +kernel) false (by simp [isS, sUpper, sLower, sDigit, sAlpha, sAlnum, sBlank, sSpace, sCntrl, sGraph, sPrint, sPunct, sXdigit, wi, alnumB]; try omega))
  clear h hc
  go_enter Tryd.func7, Tryd.ntmps7
  go_wp2_with (first
    | (go_at_call 20; (first | (with_reducible refine k_alnum.out.mono ?_) | (with_reducible refine k_alpha.out.mono ?_) | (with_reducible refine k_num.out.mono ?_) | (with_reducible refine k_upper.out.mono ?_) | (with_reducible refine k_lower.out.mono ?_) | (with_reducible refine k_graph.out.mono ?_) | (with_reducible refine k_punct.out.mono ?_) | (with_reducible refine k_cntrl.out.mono ?_) | (with_reducible refine k_print.out.mono ?_) | (with_reducible refine k_blank.out.mono ?_) | (with_reducible refine k_space.out.mono ?_) | (with_reducible refine k_hex.out.mono ?_)); rintro e w' ⟨rfl, rfl⟩)
    | (go_at_call 13; refine ha.out.mono ?_; rintro e w' ⟨rfl, hbel⟩))
  all_goals go_ret
  all_goals exact ⟨rfl, hbel⟩
set_option maxHeartbeats 2000000 in
theorem kind_e (c : Int) (hc : 0 ≤ c ∧ c ≤ 255) (h : (33 ≤ c ∧ c ≤ 47) ∨ (58 ≤ c ∧ c ≤ 64) ∨ (91 ≤ c ∧ c ≤ 96) ∨ (123 ≤ c ∧ c ≤ 126)) (W : World) (ha : Hid (Calls Tryd.prog 13 #[] W fun e w' => e = .returned (.bool true) ∧ Below W.heap.size W w')) :
    Calls Tryd.prog 7 #[.int .u8 c] W fun e w' => e = .returned (.bool true) ∧ Below W.heap.size W w' := by
  have k_alnum := Lib.hid (ask_b ⟨#[97, 108, 110, 117, 109]⟩ sAlnum c hc W (by decide +kernel) false (by simp [isS, sUpper, sLower, sDigit, sAlpha, sAlnum, sBlank, sSpace, sCntrl, sGraph, sPrint, sPunct, sXdigit, wi, alnumB]; try omega))
  have k_alpha := Lib.hid (ask_b ⟨#[97, 108, 112, 104, 97]⟩ sAlpha c hc W (by decide +kernel) false (by simp [isS, sUpper, sLower, sDigit, sAlpha, sAlnum, sBlank, sSpace, sCntrl, sGraph, sPrint, sPunct, sXdigit, wi, alnumB]; try omega))
  have k_num := Lib.hid (ask_b ⟨#[100, 105, 103, 105, 116]⟩ sDigit c hc W (by decide +kernel) false (by simp [isS, sUpper, sLower, sDigit, sAlpha, sAlnum, sBlank, sSpace, sCntrl, sGraph, sPrint, sPunct, sXdigit, wi, alnumB]; try omega))
  have k_upper := Lib.hid (ask_b ⟨#[117, 112, 112, 101, 114]⟩ sUpper c hc W (by decide +kernel) false (by simp [isS, sUpper, sLower, sDigit, sAlpha, sAlnum, sBlank, sSpace, sCntrl, sGraph, sPrint, sPunct, sXdigit, wi, alnumB]; try omega))
  have k_lower := Lib.hid (ask_b ⟨#[108, 111, 119, 101, 114]⟩ sLower c hc W (by decide +kernel) false (by simp [isS, sUpper, sLower, sDigit, sAlpha, sAlnum, sBlank, sSpace, sCntrl, sGraph, sPrint, sPunct, sXdigit, wi, alnumB]; try omega))
  have k_graph := Lib.hid (ask_b ⟨#[103, 114, 97, 112, 104]⟩ sGraph c hc W (by decide +kernel) true (by simp [isS, sUpper, sLower, sDigit, sAlpha, sAlnum, sBlank, sSpace, sCntrl, sGraph, sPrint, sPunct, sXdigit, wi, alnumB]; try omega))
  have k_punct := Lib.hid (ask_b ⟨#[112, 117, 110, 99, 116]⟩ sPunct c hc W (by decide +kernel) true (by simp [isS, sUpper, sLower, sDigit, sAlpha, sAlnum, sBlank, sSpace, sCntrl, sGraph, sPrint, sPunct, sXdigit, wi, alnumB]; try omega))
  have k_cntrl := Lib.hid (ask_b ⟨#[99, 110, 116, 114, 108]⟩ sCntrl c hc W (by decide +kernel) false (by simp [isS, sUpper, sLower, sDigit, sAlpha, sAlnum, sBlank, sSpace, sCntrl, sGraph, sPrint, sPunct, sXdigit, wi, alnumB]; try omega))
  have k_print := Lib.hid (ask_b ⟨#[112, 114, 105, 110, 116]⟩ sPrint c hc W (by decide +kernel) true (by simp [isS, sUpper, sLower, sDigit, sAlpha, sAlnum, sBlank, sSpace, sCntrl, sGraph, sPrint, sPunct, sXdigit, wi, alnumB]; try omega))
  have k_blank := Lib.hid (ask_b ⟨#[98, 108, 97, 110, 107]⟩ sBlank c hc W (by decide +kernel) false (by simp [isS, sUpper, sLower, sDigit, sAlpha, sAlnum, sBlank, sSpace, sCntrl, sGraph, sPrint, sPunct, sXdigit, wi, alnumB]; try omega))
  have k_space := Lib.hid (ask_b ⟨#[115, 112, 97, 99, 101]⟩ sSpace c hc W (by decide +kernel) false (by simp [isS, sUpper, sLower, sDigit, sAlpha, sAlnum, sBlank, sSpace, sCntrl, sGraph, sPrint, sPunct, sXdigit, wi, alnumB]; try omega))
  have k_hex := Lib.hid (ask_b ⟨#[120, 100, 105, 103, 105, 116]⟩ sXdigit c hc W (by decide +kernel) false (by simp [isS, sUpper, sLower, sDigit, sAlpha, sAlnum, sBlank, sSpace, sCntrl, sGraph, sPrint, sPunct, sXdigit, wi, alnumB]; try omega))
  clear h hc
  go_enter Tryd.func7, Tryd.ntmps7
  go_wp2_with (first
    | (go_at_call 20; (first | (with_reducible refine k_alnum.out.mono ?_) | (with_reducible refine k_alpha.out.mono ?_) | (with_reducible refine k_num.out.mono ?_) | (with_reducible refine k_upper.out.mono ?_) | (with_reducible refine k_lower.out.mono ?_) | (with_reducible refine k_graph.out.mono ?_) | (with_reducible refine k_punct.out.mono ?_) | (with_reducible refine k_cntrl.out.mono ?_) | (with_reducible refine k_print.out.mono ?_) | (with_reducible refine k_blank.out.mono ?_) | (with_reducible refine k_space.out.mono ?_) | (with_reducible refine k_hex.out.mono ?_)); rintro e w' ⟨rfl, rfl⟩)
    | (go_at_call 13; refine ha.out.mono ?_; rintro e w' ⟨rfl, hbel⟩))
  all_goals go_ret
  all_goals exact ⟨rfl, hbel⟩
set_option maxHeartbeats 2000000 in
theorem kind_f (c : Int) (hc : 0 ≤ c ∧ c ≤ 255) (h : 48 ≤ c ∧ c ≤ 57) (W : World) (ha : Hid (Calls Tryd.prog 13 #[] W fun e w' => e = .returned (.bool true) ∧ Below W.heap.size W w')) :
    Calls Tryd.prog 7 #[.int .u8 c] W fun e w' => e = .returned (.bool true) ∧ Below W.heap.size W w' := by
  have k_alnum := Lib.hid (ask_b ⟨#[97, 108, 110, 117, 109]⟩ sAlnum c hc W (by decide +kernel) true (by simp [isS, sUpper, sLower, sDigit, sAlpha, sAlnum, sBlank, sSpace, sCntrl, sGraph, sPrint, sPunct, sXdigit, wi, alnumB]; try omega))
  have k_alpha := Lib.hid (ask_b ⟨#[97, 108, 112, 104, 97]⟩ sAlpha c hc W (by decide +kernel) false (by simp [isS, sUpper, sLower, sDigit, sAlpha, sAlnum, sBlank, sSpace, sCntrl, sGraph, sPrint, sPunct, sXdigit, wi, alnumB]; try omega))
  have k_num := Lib.hid (ask_b ⟨#[100, 105, 103, 105, 116]⟩ sDigit c hc W (by decide +kernel) true (by simp [isS, sUpper, sLower, sDigit, sAlpha, sAlnum, sBlank, sSpace, sCntrl, sGraph, sPrint, sPunct, sXdigit, wi, alnumB]; try omega))
  have k_upper := Lib.hid (ask_b ⟨#[117, 112, 112, 101, 114]⟩ sUpper c hc W (by decide +kernel) false (by simp [isS, sUpper, sLower, sDigit, sAlpha, sAlnum, sBlank, sSpace, sCntrl, sGraph, sPrint, sPunct, sXdigit, wi, alnumB]; try omega))
  have k_lower := Lib.hid (ask_b ⟨#[108, 111, 119, 101, 114]⟩ sLower c hc W (by decide +kernel) false (by simp [isS, sUpper, sLower, sDigit, sAlpha, sAlnum, sBlank, sSpace, sCntrl, sGraph, sPrint, sPunct, sXdigit, wi, alnumB]; try omega))
  have k_graph := Lib.hid (ask_b ⟨#[103, 114, 97, 112, 104]⟩ sGraph c hc W (by decide +kernel) true (by simp [isS, sUpper, sLower, sDigit, sAlpha, sAlnum, sBlank, sSpace, sCntrl, sGraph, sPrint, sPunct, sXdigit, wi, alnumB]; try omega))
  have k_punct := Lib.hid (ask_b ⟨#[112, 117, 110, 99, 116]⟩ sPunct c hc W (by decide +kernel) false (by simp [isS, sUpper, sLower, sDigit, sAlpha, sAlnum, sBlank, sSpace, sCntrl, sGraph, sPrint, sPunct, sXdigit, wi, alnumB]; try omega))
  have k_cntrl := Lib.hid (ask_b ⟨#[99, 110, 116, 114, 108]⟩ sCntrl c hc W (by decide +kernel) false (by simp [isS, sUpper, sLower, sDigit, sAlpha, sAlnum, sBlank, sSpace, sCntrl, sGraph, sPrint, sPunct, sXdigit, wi, alnumB]; try omega))
  have k_print := Lib.hid (ask_b ⟨#[112, 114, 105, 110, 116]⟩ sPrint c hc W (by decide +kernel) true (by simp [isS, sUpper, sLower, sDigit, sAlpha, sAlnum, sBlank, sSpace, sCntrl, sGraph, sPrint, sPunct, sXdigit, wi, alnumB]; try omega))
  have k_blank := Lib.hid (ask_b ⟨#[98, 108, 97, 110, 107]⟩ sBlank c hc W (by decide +kernel) false (by simp [isS, sUpper, sLower, sDigit, sAlpha, sAlnum, sBlank, sSpace, sCntrl, sGraph, sPrint, sPunct, sXdigit, wi, alnumB]; try omega))
  have k_space := Lib.hid (ask_b ⟨#[115, 112, 97, 99, 101]⟩ sSpace c hc W (by decide +kernel) false (by simp [isS, sUpper, sLower, sDigit, sAlpha, sAlnum, sBlank, sSpace, sCntrl, sGraph, sPrint, sPunct, sXdigit, wi, alnumB]; try omega))
  have k_hex := Lib.hid (ask_b ⟨#[120, 100, 105, 103, 105, 116]⟩ sXdigit c hc W (by decide +kernel) true (by simp [isS, sUpper, sLower, sDigit, sAlpha, sAlnum, sBlank, sSpace, sCntrl, sGraph, sPrint, sPunct, sXdigit, wi, alnumB]; try omega))
  clear h hc
  go_enter Tryd.func7, Tryd.ntmps7
  go_wp2_with (first
    | (go_at_call 20; (first | (with_reducible refine k_alnum.out.mono ?_) | (with_reducible refine k_alpha.out.mono ?_) | (with_reducible refine k_num.out.mono ?_) | (with_reducible refine k_upper.out.mono ?_) | (with_reducible refine k_lower.out.mono ?_) | (with_reducible refine k_graph.out.mono ?_) | (with_reducible refine k_punct.out.mono ?_) | (with_reducible refine k_cntrl.out.mono ?_) | (with_reducible refine k_print.out.mono ?_) | (with_reducible refine k_blank.out.mono ?_) | (with_reducible refine k_space.out.mono ?_) | (with_reducible refine k_hex.out.mono ?_)); rintro e w' ⟨rfl, rfl⟩)
    | (go_at_call 13; refine ha.out.mono ?_; rintro e w' ⟨rfl, hbel⟩))
  all_goals go_ret
  all_goals exact ⟨rfl, hbel⟩
end Go.Proofs.YtjfpepinmbbnbaaDoor
