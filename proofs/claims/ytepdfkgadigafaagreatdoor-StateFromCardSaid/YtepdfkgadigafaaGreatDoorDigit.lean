/-
  Contracts of package digit and of its reference: Is, In: each answers what the plain functions here say, and leaves the memory as it was.
  Conditions: as each theorem states them; none beyond.
-/
import Derived.Test.YtepdfkgadigafaaGreatDoorProg
import Derived.Test.YtepdfkgadigafaaGreatDoorBase
import Derived.Deep.Light
namespace Go.Proofs.YtepdfkgadigafaaGreatDoor
open Go.RowKit
set_option linter.unusedVariables false

def wi (c lo hi : Int) : Bool := decide (lo ≤ c) && decide (c ≤ hi)
def sUpper : List UInt8 := [117, 112, 112, 101, 114]
def sLower : List UInt8 := [108, 111, 119, 101, 114]
def sDigit : List UInt8 := [100, 105, 103, 105, 116]
def sAlpha : List UInt8 := [97, 108, 112, 104, 97]
def sAlnum : List UInt8 := [97, 108, 110, 117, 109]
def sBlank : List UInt8 := [98, 108, 97, 110, 107]
def sSpace : List UInt8 := [115, 112, 97, 99, 101]
def sCntrl : List UInt8 := [99, 110, 116, 114, 108]
def sGraph : List UInt8 := [103, 114, 97, 112, 104]
def sPrint : List UInt8 := [112, 114, 105, 110, 116]
def sPunct : List UInt8 := [112, 117, 110, 99, 116]
def sXdigit : List UInt8 := [120, 100, 105, 103, 105, 116]
def alnumB (c : Int) : Bool := wi c 48 57 || wi c 65 90 || wi c 97 122
/-- is it in the class, and is there one of that name -/
def isS (l : List UInt8) (c : Int) : Bool × Bool :=
  if l == sUpper then (wi c 65 90, true)
  else if l == sLower then (wi c 97 122, true)
  else if l == sDigit then (wi c 48 57, true)
  else if l == sAlpha then (wi c 65 90 || wi c 97 122, true)
  else if l == sAlnum then (alnumB c, true)
  else if l == sBlank then (c == 32 || c == 9, true)
  else if l == sSpace then (c == 32 || wi c 9 13, true)
  else if l == sCntrl then (decide (c ≤ 31) || c == 127, true)
  else if l == sGraph then (wi c 33 126, true)
  else if l == sPrint then (wi c 32 126, true)
  else if l == sPunct then (wi c 33 126 && !alnumB c, true)
  else if l == sXdigit then (wi c 48 57 || wi c 65 70 || wi c 97 102, true)
  else (false, false)
theorem ret_bb {a b c d : Bool} (h : a = b) (h' : c = d) : Ending.returned (.tuple #[.bool a, .bool c]) = .returned (.tuple #[.bool b, .bool d]) := by rw [h, h']

set_option maxHeartbeats 2000000 in
theorem is_any (s : ByteArray) (c : Int) (hc : 0 ≤ c ∧ c ≤ 255) (w : World) :
    Calls Tryz.prog 163 #[.string s, .int .u8 c] w fun e w' => e = .returned (.tuple #[.bool (isS s.toList c).1, .bool (isS s.toList c).2]) ∧ w = w' := by
  go_enter Tryz.func163, Tryz.ntmps163
  go_wp2
  all_goals go_ret2
  all_goals (refine ⟨ret_bb ?_ ?_, rfl⟩ <;> go_light)
  all_goals (simp_all [isS, sUpper, sLower, sDigit, sAlpha, sAlnum, sBlank, sSpace, sCntrl, sGraph, sPrint, sPunct, sXdigit])
  all_goals (try simp_all [wi, alnumB])
  all_goals first | omega | grind | (rw [Bool.eq_iff_iff]; simp; omega)
theorem size_list (s : ByteArray) : s.data.toList.length = s.size := by rw [Array.length_toList]; rfl
end Go.Proofs.YtepdfkgadigafaaGreatDoor
