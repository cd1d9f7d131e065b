/-
  NARROWER THAN 'FOR EVERY INPUT', by the rows' own cells (each row's printed sentence says how): DigitNums: laid · DigitBack: laid · DigitJoins: laid · DigitClasses: laid · DigitKinds: laid · OrderBack: laid · OrderSound: laid · ViewBreaks: laid · ViewReads: laid · ViewStates: laid.
  DERIVED. THE GIVEN ROWS OF THIS SEAT. 10 by the template 'for every input the law returns true; each argument reads behind the call as it read before'; 0 by the template 'total and deterministic' (their statements: YtjfpepinmbbnbaaDoorTotals.lean).
  GIVEN WITH THE SEED: the statements are not yours to turn. If you find one false, say at which input.
  Laid BY PROGRAM, IN A SANDBOX (cutbox-rows.mjs): the forced cells as the released guide's own fill.sh prints them over the translation c331de33909b1949… (all of the seat's roots in one cut). By AI agents, Wed Nov 11 2026. No macro, syntax, notation, axiom, sorry.
-/
import Derived.Test.YtjfpepinmbbnbaaDoorChecked
import GoSem.Claim
import GoSem.ClaimJoined
import GoSem.ClaimMapViews
import Derived.JoinedTies
import Derived.KernelRfl
namespace Go.Proofs.YtjfpepinmbbnbaaDoor
/- THE CELL 'sum', in the pinned program and in every row, IS THE sha256 OF THE DUMP (.gsa) THAT YtjfpepinmbbnbaaDoorProg.lean LOADS. Nothing in Lean hashes anything: it is a label: what it is worth is what the hold of that sum in a sandbox is worth. -/
noncomputable def Tryd.pinned : Pinned := { name := "ytjfpepinmbbnbaadoor", sum := "c331de33909b1949123814e3ff17dd2c3665e814086919f95da5d6a25bab83d0", checked := Tryd.checked }
namespace Rows
def none {H : Type} : Left H := { results := [], args := [] }

/- WHAT THE LISTED PACKAGE-LEVEL VARIABLES READ AS WHEN THE CALL BEGINS. Each datum BY PROGRAM (the guide's laid-datum.mjs) off the statement by which the dump's own 'gosem.cut.vars' lays the variable. In a bare row this is a premise. The card (YtjfpepinmbbnbaaDoorCards.lean) ties it to the program's text. -/
def laid_math_bits_deBruijn32tab {H : Type} : DataW H := .agg [.lit (.int .u8 0), .lit (.int .u8 1), .lit (.int .u8 28), .lit (.int .u8 2), .lit (.int .u8 29), .lit (.int .u8 14), .lit (.int .u8 24), .lit (.int .u8 3), .lit (.int .u8 30), .lit (.int .u8 22), .lit (.int .u8 20), .lit (.int .u8 15), .lit (.int .u8 25), .lit (.int .u8 17), .lit (.int .u8 4), .lit (.int .u8 8), .lit (.int .u8 31), .lit (.int .u8 27), .lit (.int .u8 13), .lit (.int .u8 23), .lit (.int .u8 21), .lit (.int .u8 19), .lit (.int .u8 16), .lit (.int .u8 7), .lit (.int .u8 26), .lit (.int .u8 12), .lit (.int .u8 18), .lit (.int .u8 6), .lit (.int .u8 11), .lit (.int .u8 5), .lit (.int .u8 10), .lit (.int .u8 9)]
def laid_math_bits_deBruijn64tab {H : Type} : DataW H := .agg [.lit (.int .u8 0), .lit (.int .u8 1), .lit (.int .u8 56), .lit (.int .u8 2), .lit (.int .u8 57), .lit (.int .u8 49), .lit (.int .u8 28), .lit (.int .u8 3), .lit (.int .u8 61), .lit (.int .u8 58), .lit (.int .u8 42), .lit (.int .u8 50), .lit (.int .u8 38), .lit (.int .u8 29), .lit (.int .u8 17), .lit (.int .u8 4), .lit (.int .u8 62), .lit (.int .u8 47), .lit (.int .u8 59), .lit (.int .u8 36), .lit (.int .u8 45), .lit (.int .u8 43), .lit (.int .u8 51), .lit (.int .u8 22), .lit (.int .u8 53), .lit (.int .u8 39), .lit (.int .u8 33), .lit (.int .u8 30), .lit (.int .u8 24), .lit (.int .u8 18), .lit (.int .u8 12), .lit (.int .u8 5), .lit (.int .u8 63), .lit (.int .u8 55), .lit (.int .u8 48), .lit (.int .u8 27), .lit (.int .u8 60), .lit (.int .u8 41), .lit (.int .u8 37), .lit (.int .u8 16), .lit (.int .u8 46), .lit (.int .u8 35), .lit (.int .u8 44), .lit (.int .u8 21), .lit (.int .u8 52), .lit (.int .u8 32), .lit (.int .u8 23), .lit (.int .u8 11), .lit (.int .u8 54), .lit (.int .u8 26), .lit (.int .u8 40), .lit (.int .u8 15), .lit (.int .u8 34), .lit (.int .u8 20), .lit (.int .u8 31), .lit (.int .u8 10), .lit (.int .u8 25), .lit (.int .u8 14), .lit (.int .u8 19), .lit (.int .u8 9), .lit (.int .u8 13), .lit (.int .u8 8), .lit (.int .u8 7), .lit (.int .u8 6)]
def laid_internal_strconv_uint64pow10 {H : Type} : DataW H := .agg [.lit (.int .u64 1), .lit (.int .u64 10), .lit (.int .u64 100), .lit (.int .u64 1000), .lit (.int .u64 10000), .lit (.int .u64 100000), .lit (.int .u64 1000000), .lit (.int .u64 10000000), .lit (.int .u64 100000000), .lit (.int .u64 1000000000), .lit (.int .u64 10000000000), .lit (.int .u64 100000000000), .lit (.int .u64 1000000000000), .lit (.int .u64 10000000000000), .lit (.int .u64 100000000000000), .lit (.int .u64 1000000000000000), .lit (.int .u64 10000000000000000), .lit (.int .u64 100000000000000000), .lit (.int .u64 1000000000000000000), .lit (.int .u64 10000000000000000000)]

/-- 'palinodelaw01.DigitNums': WHATEVER THE INPUT: true; the input reads as it did. -/
def digitNumsSpec : ChangeSpec := { name := "digitNums", fn := fun _ => fun
  | [d1, d2, d3] => { results := [.lit (.bool true)], args := [d1, d2, d3] }
  | _ => none }
def digitNumsRow : OpenClaim := { program := "ytjfpepinmbbnbaadoor", sum := "c331de33909b1949123814e3ff17dd2c3665e814086919f95da5d6a25bab83d0", func := "palinode/palinodelaw01.DigitNums", spec := "digitNums", inPlace := ["internal/abi.NoEscape", "internal/bytealg.MakeNoZero"], named := ["internal/strconv.uint64pow10", "math/bits.deBruijn32tab", "math/bits.deBruijn64tab"], apart := false, laid := [("math/bits.deBruijn32tab", laid_math_bits_deBruijn32tab), ("math/bits.deBruijn64tab", laid_math_bits_deBruijn64tab), ("internal/strconv.uint64pow10", laid_internal_strconv_uint64pow10)] }
def DigitNumsSaid : Prop := digitNumsRow.holds Tryd.pinned (OpenSpec.ofChange digitNumsSpec)

/-- ITS FALSE NEIGHBOUR: 'it returns false'. Refute it at one input. -/
def digitNumsWrong : ChangeSpec := { name := "digitNums", fn := fun _ => fun
  | [d1, d2, d3] => { results := [.lit (.bool false)], args := [d1, d2, d3] }
  | _ => none }
def DigitNumsWrongFalsely : Prop := digitNumsRow.holds Tryd.pinned (OpenSpec.ofChange digitNumsWrong)

/-- 'palinodelaw01.DigitBack': WHATEVER THE INPUT: true; the input reads as it did. -/
def digitBackSpec : ChangeSpec := { name := "digitBack", fn := fun _ => fun
  | [d1, d2, d3] => { results := [.lit (.bool true)], args := [d1, d2, d3] }
  | _ => none }
def digitBackRow : OpenClaim := { program := "ytjfpepinmbbnbaadoor", sum := "c331de33909b1949123814e3ff17dd2c3665e814086919f95da5d6a25bab83d0", func := "palinode/palinodelaw01.DigitBack", spec := "digitBack", inPlace := ["internal/abi.NoEscape", "internal/bytealg.MakeNoZero"], recurses := true, named := ["internal/strconv.uint64pow10", "math/bits.deBruijn32tab", "math/bits.deBruijn64tab"], apart := false, laid := [("math/bits.deBruijn32tab", laid_math_bits_deBruijn32tab), ("math/bits.deBruijn64tab", laid_math_bits_deBruijn64tab), ("internal/strconv.uint64pow10", laid_internal_strconv_uint64pow10)] }
def DigitBackSaid : Prop := digitBackRow.holds Tryd.pinned (OpenSpec.ofChange digitBackSpec)

/-- ITS FALSE NEIGHBOUR: 'it returns false'. Refute it at one input. -/
def digitBackWrong : ChangeSpec := { name := "digitBack", fn := fun _ => fun
  | [d1, d2, d3] => { results := [.lit (.bool false)], args := [d1, d2, d3] }
  | _ => none }
def DigitBackWrongFalsely : Prop := digitBackRow.holds Tryd.pinned (OpenSpec.ofChange digitBackWrong)

/-- 'palinodelaw01.DigitJoins': WHATEVER THE INPUT: true; the input reads as it did. -/
def digitJoinsSpec : ChangeSpec := { name := "digitJoins", fn := fun _ => fun
  | [d1, d2] => { results := [.lit (.bool true)], args := [d1, d2] }
  | _ => none }
def digitJoinsRow : OpenClaim := { program := "ytjfpepinmbbnbaadoor", sum := "c331de33909b1949123814e3ff17dd2c3665e814086919f95da5d6a25bab83d0", func := "palinode/palinodelaw01.DigitJoins", spec := "digitJoins", inPlace := ["internal/abi.NoEscape", "internal/bytealg.MakeNoZero"], recurses := true, named := ["internal/strconv.uint64pow10", "math/bits.deBruijn32tab", "math/bits.deBruijn64tab"], apart := false, laid := [("math/bits.deBruijn32tab", laid_math_bits_deBruijn32tab), ("math/bits.deBruijn64tab", laid_math_bits_deBruijn64tab), ("internal/strconv.uint64pow10", laid_internal_strconv_uint64pow10)] }
def DigitJoinsSaid : Prop := digitJoinsRow.holds Tryd.pinned (OpenSpec.ofChange digitJoinsSpec)

/-- ITS FALSE NEIGHBOUR: 'it returns false'. Refute it at one input. -/
def digitJoinsWrong : ChangeSpec := { name := "digitJoins", fn := fun _ => fun
  | [d1, d2] => { results := [.lit (.bool false)], args := [d1, d2] }
  | _ => none }
def DigitJoinsWrongFalsely : Prop := digitJoinsRow.holds Tryd.pinned (OpenSpec.ofChange digitJoinsWrong)

/-- 'palinodelaw01.DigitClasses': WHATEVER THE INPUT: true; the input reads as it did. -/
def digitClassesSpec : ChangeSpec := { name := "digitClasses", fn := fun _ => fun
  | [d1, d2] => { results := [.lit (.bool true)], args := [d1, d2] }
  | _ => none }
def digitClassesRow : OpenClaim := { program := "ytjfpepinmbbnbaadoor", sum := "c331de33909b1949123814e3ff17dd2c3665e814086919f95da5d6a25bab83d0", func := "palinode/palinodelaw01.DigitClasses", spec := "digitClasses", inPlace := ["internal/abi.NoEscape", "internal/bytealg.MakeNoZero"], named := ["internal/strconv.uint64pow10", "math/bits.deBruijn32tab", "math/bits.deBruijn64tab"], apart := false, laid := [("math/bits.deBruijn32tab", laid_math_bits_deBruijn32tab), ("math/bits.deBruijn64tab", laid_math_bits_deBruijn64tab), ("internal/strconv.uint64pow10", laid_internal_strconv_uint64pow10)] }
def DigitClassesSaid : Prop := digitClassesRow.holds Tryd.pinned (OpenSpec.ofChange digitClassesSpec)

/-- ITS FALSE NEIGHBOUR: 'it returns false'. Refute it at one input. -/
def digitClassesWrong : ChangeSpec := { name := "digitClasses", fn := fun _ => fun
  | [d1, d2] => { results := [.lit (.bool false)], args := [d1, d2] }
  | _ => none }
def DigitClassesWrongFalsely : Prop := digitClassesRow.holds Tryd.pinned (OpenSpec.ofChange digitClassesWrong)

/-- 'palinodelaw01.DigitKinds': WHATEVER THE INPUT: true; the input reads as it did. -/
def digitKindsSpec : ChangeSpec := { name := "digitKinds", fn := fun _ => fun
  | [d] => { results := [.lit (.bool true)], args := [d] }
  | _ => none }
def digitKindsRow : OpenClaim := { program := "ytjfpepinmbbnbaadoor", sum := "c331de33909b1949123814e3ff17dd2c3665e814086919f95da5d6a25bab83d0", func := "palinode/palinodelaw01.DigitKinds", spec := "digitKinds", inPlace := ["internal/abi.NoEscape", "internal/bytealg.MakeNoZero"], named := ["internal/strconv.uint64pow10", "math/bits.deBruijn32tab", "math/bits.deBruijn64tab"], apart := false, laid := [("math/bits.deBruijn32tab", laid_math_bits_deBruijn32tab), ("math/bits.deBruijn64tab", laid_math_bits_deBruijn64tab), ("internal/strconv.uint64pow10", laid_internal_strconv_uint64pow10)] }
def DigitKindsSaid : Prop := digitKindsRow.holds Tryd.pinned (OpenSpec.ofChange digitKindsSpec)

/-- ITS FALSE NEIGHBOUR: 'it returns false'. Refute it at one input. -/
def digitKindsWrong : ChangeSpec := { name := "digitKinds", fn := fun _ => fun
  | [d] => { results := [.lit (.bool false)], args := [d] }
  | _ => none }
def DigitKindsWrongFalsely : Prop := digitKindsRow.holds Tryd.pinned (OpenSpec.ofChange digitKindsWrong)

/-- 'palinodelaw29.OrderBack': WHATEVER THE INPUT: true; the input reads as it did. -/
def orderBackSpec : ChangeSpec := { name := "orderBack", fn := fun _ => fun
  | [d] => { results := [.lit (.bool true)], args := [d] }
  | _ => none }
def orderBackRow : OpenClaim := { program := "ytjfpepinmbbnbaadoor", sum := "c331de33909b1949123814e3ff17dd2c3665e814086919f95da5d6a25bab83d0", func := "palinode/palinodelaw29.OrderBack", spec := "orderBack", inPlace := ["internal/bytealg.IndexByteString", "internal/abi.NoEscape", "internal/bytealg.MakeNoZero"], unfollowed := true, recurses := true, named := ["internal/strconv.uint64pow10", "math/bits.deBruijn32tab", "math/bits.deBruijn64tab"], apart := false, laid := [("math/bits.deBruijn32tab", laid_math_bits_deBruijn32tab), ("math/bits.deBruijn64tab", laid_math_bits_deBruijn64tab), ("internal/strconv.uint64pow10", laid_internal_strconv_uint64pow10)] }
def OrderBackSaid : Prop := orderBackRow.holds Tryd.pinned (OpenSpec.ofChange orderBackSpec)

/-- ITS FALSE NEIGHBOUR: 'it returns false'. Refute it at one input. -/
def orderBackWrong : ChangeSpec := { name := "orderBack", fn := fun _ => fun
  | [d] => { results := [.lit (.bool false)], args := [d] }
  | _ => none }
def OrderBackWrongFalsely : Prop := orderBackRow.holds Tryd.pinned (OpenSpec.ofChange orderBackWrong)

/-- 'palinodelaw29.OrderSound': WHATEVER THE INPUT: true; the input reads as it did. -/
def orderSoundSpec : ChangeSpec := { name := "orderSound", fn := fun _ => fun
  | [d] => { results := [.lit (.bool true)], args := [d] }
  | _ => none }
def orderSoundRow : OpenClaim := { program := "ytjfpepinmbbnbaadoor", sum := "c331de33909b1949123814e3ff17dd2c3665e814086919f95da5d6a25bab83d0", func := "palinode/palinodelaw29.OrderSound", spec := "orderSound", inPlace := ["internal/bytealg.IndexByteString", "internal/abi.NoEscape", "internal/bytealg.MakeNoZero"], unfollowed := true, recurses := true, named := ["internal/strconv.uint64pow10", "math/bits.deBruijn32tab", "math/bits.deBruijn64tab"], apart := false, laid := [("math/bits.deBruijn32tab", laid_math_bits_deBruijn32tab), ("math/bits.deBruijn64tab", laid_math_bits_deBruijn64tab), ("internal/strconv.uint64pow10", laid_internal_strconv_uint64pow10)] }
def OrderSoundSaid : Prop := orderSoundRow.holds Tryd.pinned (OpenSpec.ofChange orderSoundSpec)

/-- ITS FALSE NEIGHBOUR: 'it returns false'. Refute it at one input. -/
def orderSoundWrong : ChangeSpec := { name := "orderSound", fn := fun _ => fun
  | [d] => { results := [.lit (.bool false)], args := [d] }
  | _ => none }
def OrderSoundWrongFalsely : Prop := orderSoundRow.holds Tryd.pinned (OpenSpec.ofChange orderSoundWrong)

/-- 'palinodelaw30.ViewBreaks': WHATEVER THE INPUT: true; the input reads as it did. -/
def viewBreaksSpec : ChangeSpec := { name := "viewBreaks", fn := fun _ => fun
  | [d1, d2] => { results := [.lit (.bool true)], args := [d1, d2] }
  | _ => none }
def viewBreaksRow : OpenClaim := { program := "ytjfpepinmbbnbaadoor", sum := "c331de33909b1949123814e3ff17dd2c3665e814086919f95da5d6a25bab83d0", func := "palinode/palinodelaw30.ViewBreaks", spec := "viewBreaks", inPlace := ["internal/abi.NoEscape", "internal/bytealg.MakeNoZero"], recurses := true, named := ["internal/strconv.uint64pow10", "math/bits.deBruijn32tab", "math/bits.deBruijn64tab"], apart := false, laid := [("math/bits.deBruijn32tab", laid_math_bits_deBruijn32tab), ("math/bits.deBruijn64tab", laid_math_bits_deBruijn64tab), ("internal/strconv.uint64pow10", laid_internal_strconv_uint64pow10)] }
def ViewBreaksSaid : Prop := viewBreaksRow.holds Tryd.pinned (OpenSpec.ofChange viewBreaksSpec)

/-- ITS FALSE NEIGHBOUR: 'it returns false'. Refute it at one input. -/
def viewBreaksWrong : ChangeSpec := { name := "viewBreaks", fn := fun _ => fun
  | [d1, d2] => { results := [.lit (.bool false)], args := [d1, d2] }
  | _ => none }
def ViewBreaksWrongFalsely : Prop := viewBreaksRow.holds Tryd.pinned (OpenSpec.ofChange viewBreaksWrong)

/-- 'palinodelaw30.ViewReads': WHATEVER THE INPUT: true; the input reads as it did. -/
def viewReadsSpec : ChangeSpec := { name := "viewReads", fn := fun _ => fun
  | [d1, d2] => { results := [.lit (.bool true)], args := [d1, d2] }
  | _ => none }
def viewReadsRow : OpenClaim := { program := "ytjfpepinmbbnbaadoor", sum := "c331de33909b1949123814e3ff17dd2c3665e814086919f95da5d6a25bab83d0", func := "palinode/palinodelaw30.ViewReads", spec := "viewReads", inPlace := ["internal/abi.NoEscape", "internal/bytealg.MakeNoZero"], unfollowed := true, recurses := true, named := ["internal/strconv.uint64pow10", "math/bits.deBruijn32tab", "math/bits.deBruijn64tab"], apart := false, laid := [("math/bits.deBruijn32tab", laid_math_bits_deBruijn32tab), ("math/bits.deBruijn64tab", laid_math_bits_deBruijn64tab), ("internal/strconv.uint64pow10", laid_internal_strconv_uint64pow10)] }
def ViewReadsSaid : Prop := viewReadsRow.holds Tryd.pinned (OpenSpec.ofChange viewReadsSpec)

/-- ITS FALSE NEIGHBOUR: 'it returns false'. Refute it at one input. -/
def viewReadsWrong : ChangeSpec := { name := "viewReads", fn := fun _ => fun
  | [d1, d2] => { results := [.lit (.bool false)], args := [d1, d2] }
  | _ => none }
def ViewReadsWrongFalsely : Prop := viewReadsRow.holds Tryd.pinned (OpenSpec.ofChange viewReadsWrong)

/-- 'palinodelaw30.ViewStates': WHATEVER THE INPUT: true; the input reads as it did. -/
def viewStatesSpec : ChangeSpec := { name := "viewStates", fn := fun _ => fun
  | [d1, d2, d3] => { results := [.lit (.bool true)], args := [d1, d2, d3] }
  | _ => none }
def viewStatesRow : OpenClaim := { program := "ytjfpepinmbbnbaadoor", sum := "c331de33909b1949123814e3ff17dd2c3665e814086919f95da5d6a25bab83d0", func := "palinode/palinodelaw30.ViewStates", spec := "viewStates", inPlace := ["internal/abi.NoEscape", "internal/bytealg.MakeNoZero"], unfollowed := true, recurses := true, named := ["internal/strconv.uint64pow10", "math/bits.deBruijn32tab", "math/bits.deBruijn64tab"], apart := false, laid := [("math/bits.deBruijn32tab", laid_math_bits_deBruijn32tab), ("math/bits.deBruijn64tab", laid_math_bits_deBruijn64tab), ("internal/strconv.uint64pow10", laid_internal_strconv_uint64pow10)] }
def ViewStatesSaid : Prop := viewStatesRow.holds Tryd.pinned (OpenSpec.ofChange viewStatesSpec)

/-- ITS FALSE NEIGHBOUR: 'it returns false'. Refute it at one input. -/
def viewStatesWrong : ChangeSpec := { name := "viewStates", fn := fun _ => fun
  | [d1, d2, d3] => { results := [.lit (.bool false)], args := [d1, d2, d3] }
  | _ => none }
def ViewStatesWrongFalsely : Prop := viewStatesRow.holds Tryd.pinned (OpenSpec.ofChange viewStatesWrong)

/- THE SECOND FORM. 'bulk': how many values and letters a reading holds, each counted each time it is reached (what is shared counts as often as it is met; a slice's spare places count too). A statement '..UptoSaid' is the law's where the arguments, and the package variables that the reading takes, are together of bulk at most 1048576: NARROWER than '..Said'. Prove '..Said' where nothing that the law and all that it calls make is longer than what came in: it says more and counts as full. Else prove '..UptoSaid'. A law counts once. -/
mutual
def uptoBulk {H : Type} : DataW H → Nat
  | .lit (.string bytes) => bytes.length + 1
  | .lit _ => 1
  | .nil => 1
  | .ptr d => uptoBulk d + 1
  | .slice elems spare => uptoBulkAll elems + uptoBulkAll spare + 1
  | .agg parts => uptoBulkAll parts + 1
  | .iface _ d => uptoBulk d + 1
  | .map entries => uptoBulkEntries entries + 1
  | .held _ => 1
def uptoBulkAll {H : Type} : List (DataW H) → Nat
  | [] => 0
  | d :: r => uptoBulk d + uptoBulkAll r
def uptoBulkEntries {H : Type} : List (Lit × DataW H) → Nat
  | [] => 0
  | x :: r => uptoBulkEntry x + uptoBulkEntries r
def uptoBulkEntry {H : Type} : Lit × DataW H → Nat
  | (.string bytes, d) => bytes.length + uptoBulk d + 1
  | (_, d) => uptoBulk d + 1
 end
def uptoSmall : (H : Type) → List (DataW H) → Bool := fun _ ds => decide (uptoBulkAll ds ≤ 1048576)
def OpenSpec.upto (s : _root_.Go.ChangeSpec) : _root_.Go.OpenSpec := { _root_.Go.OpenSpec.ofChange s with cond := some uptoSmall }

/-- 'palinodelaw01.DigitNums', WHERE WHAT IT READS IS OF BULK AT MOST 1048576: true; the input reads as it did. -/
def digitNumsUptoRow : OpenClaim := { program := "ytjfpepinmbbnbaadoor", sum := "c331de33909b1949123814e3ff17dd2c3665e814086919f95da5d6a25bab83d0", func := "palinode/palinodelaw01.DigitNums", spec := "digitNums", inPlace := ["internal/abi.NoEscape", "internal/bytealg.MakeNoZero"], named := ["internal/strconv.uint64pow10", "math/bits.deBruijn32tab", "math/bits.deBruijn64tab"], apart := false, laid := [("math/bits.deBruijn32tab", laid_math_bits_deBruijn32tab), ("math/bits.deBruijn64tab", laid_math_bits_deBruijn64tab), ("internal/strconv.uint64pow10", laid_internal_strconv_uint64pow10)], narrowed := true }
def DigitNumsUptoSaid : Prop := digitNumsUptoRow.holds Tryd.pinned (OpenSpec.upto digitNumsSpec)

/-- 'palinodelaw01.DigitBack', WHERE WHAT IT READS IS OF BULK AT MOST 1048576: true; the input reads as it did. -/
def digitBackUptoRow : OpenClaim := { program := "ytjfpepinmbbnbaadoor", sum := "c331de33909b1949123814e3ff17dd2c3665e814086919f95da5d6a25bab83d0", func := "palinode/palinodelaw01.DigitBack", spec := "digitBack", inPlace := ["internal/abi.NoEscape", "internal/bytealg.MakeNoZero"], recurses := true, named := ["internal/strconv.uint64pow10", "math/bits.deBruijn32tab", "math/bits.deBruijn64tab"], apart := false, laid := [("math/bits.deBruijn32tab", laid_math_bits_deBruijn32tab), ("math/bits.deBruijn64tab", laid_math_bits_deBruijn64tab), ("internal/strconv.uint64pow10", laid_internal_strconv_uint64pow10)], narrowed := true }
def DigitBackUptoSaid : Prop := digitBackUptoRow.holds Tryd.pinned (OpenSpec.upto digitBackSpec)

/-- 'palinodelaw01.DigitJoins', WHERE WHAT IT READS IS OF BULK AT MOST 1048576: true; the input reads as it did. -/
def digitJoinsUptoRow : OpenClaim := { program := "ytjfpepinmbbnbaadoor", sum := "c331de33909b1949123814e3ff17dd2c3665e814086919f95da5d6a25bab83d0", func := "palinode/palinodelaw01.DigitJoins", spec := "digitJoins", inPlace := ["internal/abi.NoEscape", "internal/bytealg.MakeNoZero"], recurses := true, named := ["internal/strconv.uint64pow10", "math/bits.deBruijn32tab", "math/bits.deBruijn64tab"], apart := false, laid := [("math/bits.deBruijn32tab", laid_math_bits_deBruijn32tab), ("math/bits.deBruijn64tab", laid_math_bits_deBruijn64tab), ("internal/strconv.uint64pow10", laid_internal_strconv_uint64pow10)], narrowed := true }
def DigitJoinsUptoSaid : Prop := digitJoinsUptoRow.holds Tryd.pinned (OpenSpec.upto digitJoinsSpec)

/-- 'palinodelaw01.DigitClasses', WHERE WHAT IT READS IS OF BULK AT MOST 1048576: true; the input reads as it did. -/
def digitClassesUptoRow : OpenClaim := { program := "ytjfpepinmbbnbaadoor", sum := "c331de33909b1949123814e3ff17dd2c3665e814086919f95da5d6a25bab83d0", func := "palinode/palinodelaw01.DigitClasses", spec := "digitClasses", inPlace := ["internal/abi.NoEscape", "internal/bytealg.MakeNoZero"], named := ["internal/strconv.uint64pow10", "math/bits.deBruijn32tab", "math/bits.deBruijn64tab"], apart := false, laid := [("math/bits.deBruijn32tab", laid_math_bits_deBruijn32tab), ("math/bits.deBruijn64tab", laid_math_bits_deBruijn64tab), ("internal/strconv.uint64pow10", laid_internal_strconv_uint64pow10)], narrowed := true }
def DigitClassesUptoSaid : Prop := digitClassesUptoRow.holds Tryd.pinned (OpenSpec.upto digitClassesSpec)

/-- 'palinodelaw01.DigitKinds', WHERE WHAT IT READS IS OF BULK AT MOST 1048576: true; the input reads as it did. -/
def digitKindsUptoRow : OpenClaim := { program := "ytjfpepinmbbnbaadoor", sum := "c331de33909b1949123814e3ff17dd2c3665e814086919f95da5d6a25bab83d0", func := "palinode/palinodelaw01.DigitKinds", spec := "digitKinds", inPlace := ["internal/abi.NoEscape", "internal/bytealg.MakeNoZero"], named := ["internal/strconv.uint64pow10", "math/bits.deBruijn32tab", "math/bits.deBruijn64tab"], apart := false, laid := [("math/bits.deBruijn32tab", laid_math_bits_deBruijn32tab), ("math/bits.deBruijn64tab", laid_math_bits_deBruijn64tab), ("internal/strconv.uint64pow10", laid_internal_strconv_uint64pow10)], narrowed := true }
def DigitKindsUptoSaid : Prop := digitKindsUptoRow.holds Tryd.pinned (OpenSpec.upto digitKindsSpec)

/-- 'palinodelaw29.OrderBack', WHERE WHAT IT READS IS OF BULK AT MOST 1048576: true; the input reads as it did. -/
def orderBackUptoRow : OpenClaim := { program := "ytjfpepinmbbnbaadoor", sum := "c331de33909b1949123814e3ff17dd2c3665e814086919f95da5d6a25bab83d0", func := "palinode/palinodelaw29.OrderBack", spec := "orderBack", inPlace := ["internal/bytealg.IndexByteString", "internal/abi.NoEscape", "internal/bytealg.MakeNoZero"], unfollowed := true, recurses := true, named := ["internal/strconv.uint64pow10", "math/bits.deBruijn32tab", "math/bits.deBruijn64tab"], apart := false, laid := [("math/bits.deBruijn32tab", laid_math_bits_deBruijn32tab), ("math/bits.deBruijn64tab", laid_math_bits_deBruijn64tab), ("internal/strconv.uint64pow10", laid_internal_strconv_uint64pow10)], narrowed := true }
def OrderBackUptoSaid : Prop := orderBackUptoRow.holds Tryd.pinned (OpenSpec.upto orderBackSpec)

/-- 'palinodelaw29.OrderSound', WHERE WHAT IT READS IS OF BULK AT MOST 1048576: true; the input reads as it did. -/
def orderSoundUptoRow : OpenClaim := { program := "ytjfpepinmbbnbaadoor", sum := "c331de33909b1949123814e3ff17dd2c3665e814086919f95da5d6a25bab83d0", func := "palinode/palinodelaw29.OrderSound", spec := "orderSound", inPlace := ["internal/bytealg.IndexByteString", "internal/abi.NoEscape", "internal/bytealg.MakeNoZero"], unfollowed := true, recurses := true, named := ["internal/strconv.uint64pow10", "math/bits.deBruijn32tab", "math/bits.deBruijn64tab"], apart := false, laid := [("math/bits.deBruijn32tab", laid_math_bits_deBruijn32tab), ("math/bits.deBruijn64tab", laid_math_bits_deBruijn64tab), ("internal/strconv.uint64pow10", laid_internal_strconv_uint64pow10)], narrowed := true }
def OrderSoundUptoSaid : Prop := orderSoundUptoRow.holds Tryd.pinned (OpenSpec.upto orderSoundSpec)

/-- 'palinodelaw30.ViewBreaks', WHERE WHAT IT READS IS OF BULK AT MOST 1048576: true; the input reads as it did. -/
def viewBreaksUptoRow : OpenClaim := { program := "ytjfpepinmbbnbaadoor", sum := "c331de33909b1949123814e3ff17dd2c3665e814086919f95da5d6a25bab83d0", func := "palinode/palinodelaw30.ViewBreaks", spec := "viewBreaks", inPlace := ["internal/abi.NoEscape", "internal/bytealg.MakeNoZero"], recurses := true, named := ["internal/strconv.uint64pow10", "math/bits.deBruijn32tab", "math/bits.deBruijn64tab"], apart := false, laid := [("math/bits.deBruijn32tab", laid_math_bits_deBruijn32tab), ("math/bits.deBruijn64tab", laid_math_bits_deBruijn64tab), ("internal/strconv.uint64pow10", laid_internal_strconv_uint64pow10)], narrowed := true }
def ViewBreaksUptoSaid : Prop := viewBreaksUptoRow.holds Tryd.pinned (OpenSpec.upto viewBreaksSpec)

/-- 'palinodelaw30.ViewReads', WHERE WHAT IT READS IS OF BULK AT MOST 1048576: true; the input reads as it did. -/
def viewReadsUptoRow : OpenClaim := { program := "ytjfpepinmbbnbaadoor", sum := "c331de33909b1949123814e3ff17dd2c3665e814086919f95da5d6a25bab83d0", func := "palinode/palinodelaw30.ViewReads", spec := "viewReads", inPlace := ["internal/abi.NoEscape", "internal/bytealg.MakeNoZero"], unfollowed := true, recurses := true, named := ["internal/strconv.uint64pow10", "math/bits.deBruijn32tab", "math/bits.deBruijn64tab"], apart := false, laid := [("math/bits.deBruijn32tab", laid_math_bits_deBruijn32tab), ("math/bits.deBruijn64tab", laid_math_bits_deBruijn64tab), ("internal/strconv.uint64pow10", laid_internal_strconv_uint64pow10)], narrowed := true }
def ViewReadsUptoSaid : Prop := viewReadsUptoRow.holds Tryd.pinned (OpenSpec.upto viewReadsSpec)

/-- 'palinodelaw30.ViewStates', WHERE WHAT IT READS IS OF BULK AT MOST 1048576: true; the input reads as it did. -/
def viewStatesUptoRow : OpenClaim := { program := "ytjfpepinmbbnbaadoor", sum := "c331de33909b1949123814e3ff17dd2c3665e814086919f95da5d6a25bab83d0", func := "palinode/palinodelaw30.ViewStates", spec := "viewStates", inPlace := ["internal/abi.NoEscape", "internal/bytealg.MakeNoZero"], unfollowed := true, recurses := true, named := ["internal/strconv.uint64pow10", "math/bits.deBruijn32tab", "math/bits.deBruijn64tab"], apart := false, laid := [("math/bits.deBruijn32tab", laid_math_bits_deBruijn32tab), ("math/bits.deBruijn64tab", laid_math_bits_deBruijn64tab), ("internal/strconv.uint64pow10", laid_internal_strconv_uint64pow10)], narrowed := true }
def ViewStatesUptoSaid : Prop := viewStatesUptoRow.holds Tryd.pinned (OpenSpec.upto viewStatesSpec)

end Rows
end Go.Proofs.YtjfpepinmbbnbaaDoor
