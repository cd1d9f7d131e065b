/-
  No cell of these rows narrows 'for every input' (looked for: loops, veiled, ifaces, maps, wideKeys, modest, calm, conditions, laid).
  DERIVED. THE GIVEN ROWS OF THIS SEAT. 11 by the template 'for every input the law returns true; each argument reads behind the call as it read before'; 0 by the template 'total and deterministic' (their statements: YtfbimghnimepjaaTotals.lean).
  GIVEN WITH THE SEED: the statements are not yours to turn. If you find one false, say at which input.
  Laid BY PROGRAM, IN A SANDBOX (cutbox-rows.mjs): the forced cells as the released guide's own fill.sh prints them over the translation 301e338ce02eb075… (all of the seat's roots in one cut). By AI agents, Wed Nov 11 2026. No macro, syntax, notation, axiom, sorry.
-/
import Derived.Test.YtfbimghnimepjaaChecked
import GoSem.Claim
import GoSem.ClaimJoined
import GoSem.ClaimMapViews
import Derived.JoinedTies
import Derived.KernelRfl
namespace Go.Proofs.Ytfbimghnimepjaa
/- THE CELL 'sum', in the pinned program and in every row, IS THE sha256 OF THE DUMP (.gsa) THAT YtfbimghnimepjaaProg.lean LOADS. Nothing in Lean hashes anything: it is a label: what it is worth is what the hold of that sum in a sandbox is worth. -/
noncomputable def Try.pinned : Pinned := { name := "ytfbimghnimepjaa", sum := "301e338ce02eb0754b9dcca209c1168175198992a21584b5eb7446c406326736", checked := Try.checked }
namespace Rows
def none {H : Type} : Left H := { results := [], args := [] }

/-- 'palinodelaw15.AddrHolds': WHATEVER THE INPUT: true; the input reads as it did. -/
def addrHoldsSpec : ChangeSpec := { name := "addrHolds", fn := fun _ => fun
  | [d1, d2] => { results := [.lit (.bool true)], args := [d1, d2] }
  | _ => none }
def addrHoldsRow : OpenClaim := { program := "ytfbimghnimepjaa", sum := "301e338ce02eb0754b9dcca209c1168175198992a21584b5eb7446c406326736", func := "palinode/palinodelaw15.AddrHolds", spec := "addrHolds", unfollowed := true, recurses := true, apart := false }
def AddrHoldsSaid : Prop := addrHoldsRow.holds Try.pinned (OpenSpec.ofChange addrHoldsSpec)

/-- ITS FALSE NEIGHBOUR: 'it returns false'. Refute it at one input. -/
def addrHoldsWrong : ChangeSpec := { name := "addrHolds", fn := fun _ => fun
  | [d1, d2] => { results := [.lit (.bool false)], args := [d1, d2] }
  | _ => none }
def AddrHoldsWrongFalsely : Prop := addrHoldsRow.holds Try.pinned (OpenSpec.ofChange addrHoldsWrong)

/-- 'palinodelaw15.AddrSpans': WHATEVER THE INPUT: true; the input reads as it did. -/
def addrSpansSpec : ChangeSpec := { name := "addrSpans", fn := fun _ => fun
  | [d1, d2, d3] => { results := [.lit (.bool true)], args := [d1, d2, d3] }
  | _ => none }
def addrSpansRow : OpenClaim := { program := "ytfbimghnimepjaa", sum := "301e338ce02eb0754b9dcca209c1168175198992a21584b5eb7446c406326736", func := "palinode/palinodelaw15.AddrSpans", spec := "addrSpans", unfollowed := true, recurses := true, apart := false }
def AddrSpansSaid : Prop := addrSpansRow.holds Try.pinned (OpenSpec.ofChange addrSpansSpec)

/-- ITS FALSE NEIGHBOUR: 'it returns false'. Refute it at one input. -/
def addrSpansWrong : ChangeSpec := { name := "addrSpans", fn := fun _ => fun
  | [d1, d2, d3] => { results := [.lit (.bool false)], args := [d1, d2, d3] }
  | _ => none }
def AddrSpansWrongFalsely : Prop := addrSpansRow.holds Try.pinned (OpenSpec.ofChange addrSpansWrong)

/-- 'palinodelaw15.AddrFinds': WHATEVER THE INPUT: true; the input reads as it did. -/
def addrFindsSpec : ChangeSpec := { name := "addrFinds", fn := fun _ => fun
  | [d1, d2] => { results := [.lit (.bool true)], args := [d1, d2] }
  | _ => none }
def addrFindsRow : OpenClaim := { program := "ytfbimghnimepjaa", sum := "301e338ce02eb0754b9dcca209c1168175198992a21584b5eb7446c406326736", func := "palinode/palinodelaw15.AddrFinds", spec := "addrFinds", unfollowed := true, recurses := true, apart := false }
def AddrFindsSaid : Prop := addrFindsRow.holds Try.pinned (OpenSpec.ofChange addrFindsSpec)

/-- ITS FALSE NEIGHBOUR: 'it returns false'. Refute it at one input. -/
def addrFindsWrong : ChangeSpec := { name := "addrFinds", fn := fun _ => fun
  | [d1, d2] => { results := [.lit (.bool false)], args := [d1, d2] }
  | _ => none }
def AddrFindsWrongFalsely : Prop := addrFindsRow.holds Try.pinned (OpenSpec.ofChange addrFindsWrong)

/-- 'palinodelaw15.AddrLast': WHATEVER THE INPUT: true; the input reads as it did. -/
def addrLastSpec : ChangeSpec := { name := "addrLast", fn := fun _ => fun
  | [d1, d2] => { results := [.lit (.bool true)], args := [d1, d2] }
  | _ => none }
def addrLastRow : OpenClaim := { program := "ytfbimghnimepjaa", sum := "301e338ce02eb0754b9dcca209c1168175198992a21584b5eb7446c406326736", func := "palinode/palinodelaw15.AddrLast", spec := "addrLast", unfollowed := true, recurses := true, apart := false }
def AddrLastSaid : Prop := addrLastRow.holds Try.pinned (OpenSpec.ofChange addrLastSpec)

/-- ITS FALSE NEIGHBOUR: 'it returns false'. Refute it at one input. -/
def addrLastWrong : ChangeSpec := { name := "addrLast", fn := fun _ => fun
  | [d1, d2] => { results := [.lit (.bool false)], args := [d1, d2] }
  | _ => none }
def AddrLastWrongFalsely : Prop := addrLastRow.holds Try.pinned (OpenSpec.ofChange addrLastWrong)

/-- 'palinodelaw24.RingKeeps': WHATEVER THE INPUT: true; the input reads as it did. -/
def ringKeepsSpec : ChangeSpec := { name := "ringKeeps", fn := fun _ => fun
  | [d1, d2] => { results := [.lit (.bool true)], args := [d1, d2] }
  | _ => none }
def ringKeepsRow : OpenClaim := { program := "ytfbimghnimepjaa", sum := "301e338ce02eb0754b9dcca209c1168175198992a21584b5eb7446c406326736", func := "palinode/palinodelaw24.RingKeeps", spec := "ringKeeps", apart := false }
def RingKeepsSaid : Prop := ringKeepsRow.holds Try.pinned (OpenSpec.ofChange ringKeepsSpec)

/-- ITS FALSE NEIGHBOUR: 'it returns false'. Refute it at one input. -/
def ringKeepsWrong : ChangeSpec := { name := "ringKeeps", fn := fun _ => fun
  | [d1, d2] => { results := [.lit (.bool false)], args := [d1, d2] }
  | _ => none }
def RingKeepsWrongFalsely : Prop := ringKeepsRow.holds Try.pinned (OpenSpec.ofChange ringKeepsWrong)

/-- 'palinodelaw15.AddrRight': WHATEVER THE INPUT: true; the input reads as it did. -/
def addrRightSpec : ChangeSpec := { name := "addrRight", fn := fun _ => fun
  | [d1, d2] => { results := [.lit (.bool true)], args := [d1, d2] }
  | _ => none }
def addrRightRow : OpenClaim := { program := "ytfbimghnimepjaa", sum := "301e338ce02eb0754b9dcca209c1168175198992a21584b5eb7446c406326736", func := "palinode/palinodelaw15.AddrRight", spec := "addrRight", unfollowed := true, recurses := true, apart := false }
def AddrRightSaid : Prop := addrRightRow.holds Try.pinned (OpenSpec.ofChange addrRightSpec)

/-- ITS FALSE NEIGHBOUR: 'it returns false'. Refute it at one input. -/
def addrRightWrong : ChangeSpec := { name := "addrRight", fn := fun _ => fun
  | [d1, d2] => { results := [.lit (.bool false)], args := [d1, d2] }
  | _ => none }
def AddrRightWrongFalsely : Prop := addrRightRow.holds Try.pinned (OpenSpec.ofChange addrRightWrong)

/-- 'palinodelaw24.RingPlays': WHATEVER THE INPUT: true; the input reads as it did. -/
def ringPlaysSpec : ChangeSpec := { name := "ringPlays", fn := fun _ => fun
  | [d1, d2] => { results := [.lit (.bool true)], args := [d1, d2] }
  | _ => none }
def ringPlaysRow : OpenClaim := { program := "ytfbimghnimepjaa", sum := "301e338ce02eb0754b9dcca209c1168175198992a21584b5eb7446c406326736", func := "palinode/palinodelaw24.RingPlays", spec := "ringPlays", unfollowed := true, recurses := true, apart := false }
def RingPlaysSaid : Prop := ringPlaysRow.holds Try.pinned (OpenSpec.ofChange ringPlaysSpec)

/-- ITS FALSE NEIGHBOUR: 'it returns false'. Refute it at one input. -/
def ringPlaysWrong : ChangeSpec := { name := "ringPlays", fn := fun _ => fun
  | [d1, d2] => { results := [.lit (.bool false)], args := [d1, d2] }
  | _ => none }
def RingPlaysWrongFalsely : Prop := ringPlaysRow.holds Try.pinned (OpenSpec.ofChange ringPlaysWrong)

/-- 'palinodelaw24.RingAll': WHATEVER THE INPUT: true; the input reads as it did. -/
def ringAllSpec : ChangeSpec := { name := "ringAll", fn := fun _ => fun
  | [d1, d2] => { results := [.lit (.bool true)], args := [d1, d2] }
  | _ => none }
def ringAllRow : OpenClaim := { program := "ytfbimghnimepjaa", sum := "301e338ce02eb0754b9dcca209c1168175198992a21584b5eb7446c406326736", func := "palinode/palinodelaw24.RingAll", spec := "ringAll", unfollowed := true, recurses := true, apart := false }
def RingAllSaid : Prop := ringAllRow.holds Try.pinned (OpenSpec.ofChange ringAllSpec)

/-- ITS FALSE NEIGHBOUR: 'it returns false'. Refute it at one input. -/
def ringAllWrong : ChangeSpec := { name := "ringAll", fn := fun _ => fun
  | [d1, d2] => { results := [.lit (.bool false)], args := [d1, d2] }
  | _ => none }
def RingAllWrongFalsely : Prop := ringAllRow.holds Try.pinned (OpenSpec.ofChange ringAllWrong)

/-- 'palinodelaw23.DeltaBetween': WHATEVER THE INPUT: true; the input reads as it did. -/
def deltaBetweenSpec : ChangeSpec := { name := "deltaBetween", fn := fun _ => fun
  | [d1, d2] => { results := [.lit (.bool true)], args := [d1, d2] }
  | _ => none }
def deltaBetweenRow : OpenClaim := { program := "ytfbimghnimepjaa", sum := "301e338ce02eb0754b9dcca209c1168175198992a21584b5eb7446c406326736", func := "palinode/palinodelaw23.DeltaBetween", spec := "deltaBetween", unfollowed := true, recurses := true, apart := false }
def DeltaBetweenSaid : Prop := deltaBetweenRow.holds Try.pinned (OpenSpec.ofChange deltaBetweenSpec)

/-- ITS FALSE NEIGHBOUR: 'it returns false'. Refute it at one input. -/
def deltaBetweenWrong : ChangeSpec := { name := "deltaBetween", fn := fun _ => fun
  | [d1, d2] => { results := [.lit (.bool false)], args := [d1, d2] }
  | _ => none }
def DeltaBetweenWrongFalsely : Prop := deltaBetweenRow.holds Try.pinned (OpenSpec.ofChange deltaBetweenWrong)

/-- 'palinodelaw23.DeltaPlays': WHATEVER THE INPUT: true; the input reads as it did. -/
def deltaPlaysSpec : ChangeSpec := { name := "deltaPlays", fn := fun _ => fun
  | [d1, d2] => { results := [.lit (.bool true)], args := [d1, d2] }
  | _ => none }
def deltaPlaysRow : OpenClaim := { program := "ytfbimghnimepjaa", sum := "301e338ce02eb0754b9dcca209c1168175198992a21584b5eb7446c406326736", func := "palinode/palinodelaw23.DeltaPlays", spec := "deltaPlays", unfollowed := true, recurses := true, apart := false }
def DeltaPlaysSaid : Prop := deltaPlaysRow.holds Try.pinned (OpenSpec.ofChange deltaPlaysSpec)

/-- ITS FALSE NEIGHBOUR: 'it returns false'. Refute it at one input. -/
def deltaPlaysWrong : ChangeSpec := { name := "deltaPlays", fn := fun _ => fun
  | [d1, d2] => { results := [.lit (.bool false)], args := [d1, d2] }
  | _ => none }
def DeltaPlaysWrongFalsely : Prop := deltaPlaysRow.holds Try.pinned (OpenSpec.ofChange deltaPlaysWrong)

/-- 'palinodelaw23.DeltaBack': WHATEVER THE INPUT: true; the input reads as it did. -/
def deltaBackSpec : ChangeSpec := { name := "deltaBack", fn := fun _ => fun
  | [d1, d2] => { results := [.lit (.bool true)], args := [d1, d2] }
  | _ => none }
def deltaBackRow : OpenClaim := { program := "ytfbimghnimepjaa", sum := "301e338ce02eb0754b9dcca209c1168175198992a21584b5eb7446c406326736", func := "palinode/palinodelaw23.DeltaBack", spec := "deltaBack", unfollowed := true, recurses := true, apart := false }
def DeltaBackSaid : Prop := deltaBackRow.holds Try.pinned (OpenSpec.ofChange deltaBackSpec)

/-- ITS FALSE NEIGHBOUR: 'it returns false'. Refute it at one input. -/
def deltaBackWrong : ChangeSpec := { name := "deltaBack", fn := fun _ => fun
  | [d1, d2] => { results := [.lit (.bool false)], args := [d1, d2] }
  | _ => none }
def DeltaBackWrongFalsely : Prop := deltaBackRow.holds Try.pinned (OpenSpec.ofChange deltaBackWrong)

/- THE SECOND FORM. 'bulk': how many values and letters a reading holds, each counted each time it is reached (what is shared counts as often as it is met; a slice's spare places count too). A statement '..UptoSaid' is the law's where the arguments, and the package variables that the reading takes, are together of bulk at most 1048576: NARROWER than '..Said'. Prove '..Said' where nothing that the law and all that it calls make is longer than what came in: it says more and counts as full. Else prove '..UptoSaid'. A law counts once. -/
mutual
def uptoBulk {H : Type} : DataW H → Nat
  | .lit (.string bytes) => bytes.length + 1
  | .lit _ => 1
  | .nil => 1
  | .ptr d => uptoBulk d + 1
  | .slice elems spare => uptoBulkAll elems + uptoBulkAll spare + 1
  | .agg parts => uptoBulkAll parts + 1
  | .iface _ d => uptoBulk d + 1
  | .map entries => uptoBulkEntries entries + 1
  | .held _ => 1
def uptoBulkAll {H : Type} : List (DataW H) → Nat
  | [] => 0
  | d :: r => uptoBulk d + uptoBulkAll r
def uptoBulkEntries {H : Type} : List (Lit × DataW H) → Nat
  | [] => 0
  | x :: r => uptoBulkEntry x + uptoBulkEntries r
def uptoBulkEntry {H : Type} : Lit × DataW H → Nat
  | (.string bytes, d) => bytes.length + uptoBulk d + 1
  | (_, d) => uptoBulk d + 1
 end
def uptoSmall : (H : Type) → List (DataW H) → Bool := fun _ ds => decide (uptoBulkAll ds ≤ 1048576)
def OpenSpec.upto (s : _root_.Go.ChangeSpec) : _root_.Go.OpenSpec := { _root_.Go.OpenSpec.ofChange s with cond := some uptoSmall }

/-- 'palinodelaw15.AddrHolds', WHERE WHAT IT READS IS OF BULK AT MOST 1048576: true; the input reads as it did. -/
def addrHoldsUptoRow : OpenClaim := { program := "ytfbimghnimepjaa", sum := "301e338ce02eb0754b9dcca209c1168175198992a21584b5eb7446c406326736", func := "palinode/palinodelaw15.AddrHolds", spec := "addrHolds", unfollowed := true, recurses := true, apart := false, narrowed := true }
def AddrHoldsUptoSaid : Prop := addrHoldsUptoRow.holds Try.pinned (OpenSpec.upto addrHoldsSpec)

/-- 'palinodelaw15.AddrSpans', WHERE WHAT IT READS IS OF BULK AT MOST 1048576: true; the input reads as it did. -/
def addrSpansUptoRow : OpenClaim := { program := "ytfbimghnimepjaa", sum := "301e338ce02eb0754b9dcca209c1168175198992a21584b5eb7446c406326736", func := "palinode/palinodelaw15.AddrSpans", spec := "addrSpans", unfollowed := true, recurses := true, apart := false, narrowed := true }
def AddrSpansUptoSaid : Prop := addrSpansUptoRow.holds Try.pinned (OpenSpec.upto addrSpansSpec)

/-- 'palinodelaw15.AddrFinds', WHERE WHAT IT READS IS OF BULK AT MOST 1048576: true; the input reads as it did. -/
def addrFindsUptoRow : OpenClaim := { program := "ytfbimghnimepjaa", sum := "301e338ce02eb0754b9dcca209c1168175198992a21584b5eb7446c406326736", func := "palinode/palinodelaw15.AddrFinds", spec := "addrFinds", unfollowed := true, recurses := true, apart := false, narrowed := true }
def AddrFindsUptoSaid : Prop := addrFindsUptoRow.holds Try.pinned (OpenSpec.upto addrFindsSpec)

/-- 'palinodelaw15.AddrLast', WHERE WHAT IT READS IS OF BULK AT MOST 1048576: true; the input reads as it did. -/
def addrLastUptoRow : OpenClaim := { program := "ytfbimghnimepjaa", sum := "301e338ce02eb0754b9dcca209c1168175198992a21584b5eb7446c406326736", func := "palinode/palinodelaw15.AddrLast", spec := "addrLast", unfollowed := true, recurses := true, apart := false, narrowed := true }
def AddrLastUptoSaid : Prop := addrLastUptoRow.holds Try.pinned (OpenSpec.upto addrLastSpec)

/-- 'palinodelaw24.RingKeeps', WHERE WHAT IT READS IS OF BULK AT MOST 1048576: true; the input reads as it did. -/
def ringKeepsUptoRow : OpenClaim := { program := "ytfbimghnimepjaa", sum := "301e338ce02eb0754b9dcca209c1168175198992a21584b5eb7446c406326736", func := "palinode/palinodelaw24.RingKeeps", spec := "ringKeeps", apart := false, narrowed := true }
def RingKeepsUptoSaid : Prop := ringKeepsUptoRow.holds Try.pinned (OpenSpec.upto ringKeepsSpec)

/-- 'palinodelaw15.AddrRight', WHERE WHAT IT READS IS OF BULK AT MOST 1048576: true; the input reads as it did. -/
def addrRightUptoRow : OpenClaim := { program := "ytfbimghnimepjaa", sum := "301e338ce02eb0754b9dcca209c1168175198992a21584b5eb7446c406326736", func := "palinode/palinodelaw15.AddrRight", spec := "addrRight", unfollowed := true, recurses := true, apart := false, narrowed := true }
def AddrRightUptoSaid : Prop := addrRightUptoRow.holds Try.pinned (OpenSpec.upto addrRightSpec)

/-- 'palinodelaw24.RingPlays', WHERE WHAT IT READS IS OF BULK AT MOST 1048576: true; the input reads as it did. -/
def ringPlaysUptoRow : OpenClaim := { program := "ytfbimghnimepjaa", sum := "301e338ce02eb0754b9dcca209c1168175198992a21584b5eb7446c406326736", func := "palinode/palinodelaw24.RingPlays", spec := "ringPlays", unfollowed := true, recurses := true, apart := false, narrowed := true }
def RingPlaysUptoSaid : Prop := ringPlaysUptoRow.holds Try.pinned (OpenSpec.upto ringPlaysSpec)

/-- 'palinodelaw24.RingAll', WHERE WHAT IT READS IS OF BULK AT MOST 1048576: true; the input reads as it did. -/
def ringAllUptoRow : OpenClaim := { program := "ytfbimghnimepjaa", sum := "301e338ce02eb0754b9dcca209c1168175198992a21584b5eb7446c406326736", func := "palinode/palinodelaw24.RingAll", spec := "ringAll", unfollowed := true, recurses := true, apart := false, narrowed := true }
def RingAllUptoSaid : Prop := ringAllUptoRow.holds Try.pinned (OpenSpec.upto ringAllSpec)

/-- 'palinodelaw23.DeltaBetween', WHERE WHAT IT READS IS OF BULK AT MOST 1048576: true; the input reads as it did. -/
def deltaBetweenUptoRow : OpenClaim := { program := "ytfbimghnimepjaa", sum := "301e338ce02eb0754b9dcca209c1168175198992a21584b5eb7446c406326736", func := "palinode/palinodelaw23.DeltaBetween", spec := "deltaBetween", unfollowed := true, recurses := true, apart := false, narrowed := true }
def DeltaBetweenUptoSaid : Prop := deltaBetweenUptoRow.holds Try.pinned (OpenSpec.upto deltaBetweenSpec)

/-- 'palinodelaw23.DeltaPlays', WHERE WHAT IT READS IS OF BULK AT MOST 1048576: true; the input reads as it did. -/
def deltaPlaysUptoRow : OpenClaim := { program := "ytfbimghnimepjaa", sum := "301e338ce02eb0754b9dcca209c1168175198992a21584b5eb7446c406326736", func := "palinode/palinodelaw23.DeltaPlays", spec := "deltaPlays", unfollowed := true, recurses := true, apart := false, narrowed := true }
def DeltaPlaysUptoSaid : Prop := deltaPlaysUptoRow.holds Try.pinned (OpenSpec.upto deltaPlaysSpec)

/-- 'palinodelaw23.DeltaBack', WHERE WHAT IT READS IS OF BULK AT MOST 1048576: true; the input reads as it did. -/
def deltaBackUptoRow : OpenClaim := { program := "ytfbimghnimepjaa", sum := "301e338ce02eb0754b9dcca209c1168175198992a21584b5eb7446c406326736", func := "palinode/palinodelaw23.DeltaBack", spec := "deltaBack", unfollowed := true, recurses := true, apart := false, narrowed := true }
def DeltaBackUptoSaid : Prop := deltaBackUptoRow.holds Try.pinned (OpenSpec.upto deltaBackSpec)

end Rows
end Go.Proofs.Ytfbimghnimepjaa
