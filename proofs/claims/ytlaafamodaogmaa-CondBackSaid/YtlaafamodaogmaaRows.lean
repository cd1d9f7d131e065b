/-
  No cell of these rows narrows 'for every input' (looked for: loops, veiled, ifaces, maps, wideKeys, modest, calm, conditions, laid).
  DERIVED. THE GIVEN ROWS OF THIS SEAT. 6 by the template 'for every input the law returns true; each argument reads behind the call as it read before'; 0 by the template 'total and deterministic' (their statements: YtlaafamodaogmaaTotals.lean).
  GIVEN WITH THE SEED: the statements are not yours to turn. If you find one false, say at which input.
  Laid BY PROGRAM, IN A SANDBOX (cutbox-rows.mjs): the forced cells as the released guide's own fill.sh prints them over the translation bbe267756c7d79f7… (all of the seat's roots in one cut). By AI agents, Wed Nov 11 2026. No macro, syntax, notation, axiom, sorry.
-/
import Derived.Test.YtlaafamodaogmaaChecked
import GoSem.Claim
import GoSem.ClaimJoined
import GoSem.ClaimMapViews
import Derived.JoinedTies
import Derived.KernelRfl
namespace Go.Proofs.Ytlaafamodaogmaa
/- THE CELL 'sum', in the pinned program and in every row, IS THE sha256 OF THE DUMP (.gsa) THAT YtlaafamodaogmaaProg.lean LOADS. Nothing in Lean hashes anything: it is a label: what it is worth is what the hold of that sum in a sandbox is worth. -/
noncomputable def Try.pinned : Pinned := { name := "ytlaafamodaogmaa", sum := "bbe267756c7d79f7bb488f58b7e852383233ff8335774f435569dec68b085b88", checked := Try.checked }
namespace Rows
def none {H : Type} : Left H := { results := [], args := [] }

/-- 'palinodelaw27.CondLogic': WHATEVER THE INPUT: true; the input reads as it did. -/
def condLogicSpec : ChangeSpec := { name := "condLogic", fn := fun _ => fun
  | [d1, d2, d3, d4] => { results := [.lit (.bool true)], args := [d1, d2, d3, d4] }
  | _ => none }
def condLogicRow : OpenClaim := { program := "ytlaafamodaogmaa", sum := "bbe267756c7d79f7bb488f58b7e852383233ff8335774f435569dec68b085b88", func := "palinode/palinodelaw27.CondLogic", spec := "condLogic", inPlace := ["internal/bytealg.IndexByteString", "internal/bytealg.IndexByte", "internal/bytealg.Index"], unfollowed := true, recurses := true, named := ["internal/bytealg.MaxLen"], apart := false }
def CondLogicSaid : Prop := condLogicRow.holds Try.pinned (OpenSpec.ofChange condLogicSpec)

/-- ITS FALSE NEIGHBOUR: 'it returns false'. Refute it at one input. -/
def condLogicWrong : ChangeSpec := { name := "condLogic", fn := fun _ => fun
  | [d1, d2, d3, d4] => { results := [.lit (.bool false)], args := [d1, d2, d3, d4] }
  | _ => none }
def CondLogicWrongFalsely : Prop := condLogicRow.holds Try.pinned (OpenSpec.ofChange condLogicWrong)

/-- 'palinodelaw27.CondSigns': WHATEVER THE INPUT: true; the input reads as it did. -/
def condSignsSpec : ChangeSpec := { name := "condSigns", fn := fun _ => fun
  | [d1, d2, d3, d4, d5] => { results := [.lit (.bool true)], args := [d1, d2, d3, d4, d5] }
  | _ => none }
def condSignsRow : OpenClaim := { program := "ytlaafamodaogmaa", sum := "bbe267756c7d79f7bb488f58b7e852383233ff8335774f435569dec68b085b88", func := "palinode/palinodelaw27.CondSigns", spec := "condSigns", inPlace := ["internal/bytealg.IndexByteString", "internal/bytealg.IndexByte", "internal/bytealg.Index"], unfollowed := true, recurses := true, named := ["internal/bytealg.MaxLen"], apart := false }
def CondSignsSaid : Prop := condSignsRow.holds Try.pinned (OpenSpec.ofChange condSignsSpec)

/-- ITS FALSE NEIGHBOUR: 'it returns false'. Refute it at one input. -/
def condSignsWrong : ChangeSpec := { name := "condSigns", fn := fun _ => fun
  | [d1, d2, d3, d4, d5] => { results := [.lit (.bool false)], args := [d1, d2, d3, d4, d5] }
  | _ => none }
def CondSignsWrongFalsely : Prop := condSignsRow.holds Try.pinned (OpenSpec.ofChange condSignsWrong)

/-- 'palinodelaw27.CondTells': WHATEVER THE INPUT: true; the input reads as it did. -/
def condTellsSpec : ChangeSpec := { name := "condTells", fn := fun _ => fun
  | [d1, d2, d3] => { results := [.lit (.bool true)], args := [d1, d2, d3] }
  | _ => none }
def condTellsRow : OpenClaim := { program := "ytlaafamodaogmaa", sum := "bbe267756c7d79f7bb488f58b7e852383233ff8335774f435569dec68b085b88", func := "palinode/palinodelaw27.CondTells", spec := "condTells", inPlace := ["internal/bytealg.IndexByteString", "internal/bytealg.IndexByte", "internal/bytealg.Index"], unfollowed := true, recurses := true, named := ["internal/bytealg.MaxLen"], apart := false }
def CondTellsSaid : Prop := condTellsRow.holds Try.pinned (OpenSpec.ofChange condTellsSpec)

/-- ITS FALSE NEIGHBOUR: 'it returns false'. Refute it at one input. -/
def condTellsWrong : ChangeSpec := { name := "condTells", fn := fun _ => fun
  | [d1, d2, d3] => { results := [.lit (.bool false)], args := [d1, d2, d3] }
  | _ => none }
def CondTellsWrongFalsely : Prop := condTellsRow.holds Try.pinned (OpenSpec.ofChange condTellsWrong)

/-- 'palinodelaw27.CondBack': WHATEVER THE INPUT: true; the input reads as it did. -/
def condBackSpec : ChangeSpec := { name := "condBack", fn := fun _ => fun
  | [d1, d2, d3] => { results := [.lit (.bool true)], args := [d1, d2, d3] }
  | _ => none }
def condBackRow : OpenClaim := { program := "ytlaafamodaogmaa", sum := "bbe267756c7d79f7bb488f58b7e852383233ff8335774f435569dec68b085b88", func := "palinode/palinodelaw27.CondBack", spec := "condBack", inPlace := ["internal/bytealg.IndexByteString", "internal/bytealg.IndexByte", "internal/bytealg.Index"], unfollowed := true, recurses := true, named := ["internal/bytealg.MaxLen"], apart := false }
def CondBackSaid : Prop := condBackRow.holds Try.pinned (OpenSpec.ofChange condBackSpec)

/-- ITS FALSE NEIGHBOUR: 'it returns false'. Refute it at one input. -/
def condBackWrong : ChangeSpec := { name := "condBack", fn := fun _ => fun
  | [d1, d2, d3] => { results := [.lit (.bool false)], args := [d1, d2, d3] }
  | _ => none }
def CondBackWrongFalsely : Prop := condBackRow.holds Try.pinned (OpenSpec.ofChange condBackWrong)

/-- 'palinodelaw28.StopsFull': WHATEVER THE INPUT: true; the input reads as it did. -/
def stopsFullSpec : ChangeSpec := { name := "stopsFull", fn := fun _ => fun
  | [d] => { results := [.lit (.bool true)], args := [d] }
  | _ => none }
def stopsFullRow : OpenClaim := { program := "ytlaafamodaogmaa", sum := "bbe267756c7d79f7bb488f58b7e852383233ff8335774f435569dec68b085b88", func := "palinode/palinodelaw28.StopsFull", spec := "stopsFull", inPlace := ["internal/bytealg.IndexByteString", "internal/bytealg.IndexByte", "internal/bytealg.Index"], unfollowed := true, recurses := true, named := ["internal/bytealg.MaxLen"], apart := false }
def StopsFullSaid : Prop := stopsFullRow.holds Try.pinned (OpenSpec.ofChange stopsFullSpec)

/-- ITS FALSE NEIGHBOUR: 'it returns false'. Refute it at one input. -/
def stopsFullWrong : ChangeSpec := { name := "stopsFull", fn := fun _ => fun
  | [d] => { results := [.lit (.bool false)], args := [d] }
  | _ => none }
def StopsFullWrongFalsely : Prop := stopsFullRow.holds Try.pinned (OpenSpec.ofChange stopsFullWrong)

/-- 'palinodelaw28.StopsOff': WHATEVER THE INPUT: true; the input reads as it did. -/
def stopsOffSpec : ChangeSpec := { name := "stopsOff", fn := fun _ => fun
  | [d1, d2, d3, d4, d5] => { results := [.lit (.bool true)], args := [d1, d2, d3, d4, d5] }
  | _ => none }
def stopsOffRow : OpenClaim := { program := "ytlaafamodaogmaa", sum := "bbe267756c7d79f7bb488f58b7e852383233ff8335774f435569dec68b085b88", func := "palinode/palinodelaw28.StopsOff", spec := "stopsOff", inPlace := ["internal/bytealg.IndexByteString", "internal/bytealg.IndexByte", "internal/bytealg.Index"], unfollowed := true, recurses := true, named := ["internal/bytealg.MaxLen"], apart := false }
def StopsOffSaid : Prop := stopsOffRow.holds Try.pinned (OpenSpec.ofChange stopsOffSpec)

/-- ITS FALSE NEIGHBOUR: 'it returns false'. Refute it at one input. -/
def stopsOffWrong : ChangeSpec := { name := "stopsOff", fn := fun _ => fun
  | [d1, d2, d3, d4, d5] => { results := [.lit (.bool false)], args := [d1, d2, d3, d4, d5] }
  | _ => none }
def StopsOffWrongFalsely : Prop := stopsOffRow.holds Try.pinned (OpenSpec.ofChange stopsOffWrong)

/- THE SECOND FORM. 'bulk': how many values and letters a reading holds, each counted each time it is reached (what is shared counts as often as it is met; a slice's spare places count too). A statement '..UptoSaid' is the law's where the arguments, and the package variables that the reading takes, are together of bulk at most 1048576: NARROWER than '..Said'. Prove '..Said' where nothing that the law and all that it calls make is longer than what came in: it says more and counts as full. Else prove '..UptoSaid'. A law counts once. -/
mutual
def uptoBulk {H : Type} : DataW H → Nat
  | .lit (.string bytes) => bytes.length + 1
  | .lit _ => 1
  | .nil => 1
  | .ptr d => uptoBulk d + 1
  | .slice elems spare => uptoBulkAll elems + uptoBulkAll spare + 1
  | .agg parts => uptoBulkAll parts + 1
  | .iface _ d => uptoBulk d + 1
  | .map entries => uptoBulkEntries entries + 1
  | .held _ => 1
def uptoBulkAll {H : Type} : List (DataW H) → Nat
  | [] => 0
  | d :: r => uptoBulk d + uptoBulkAll r
def uptoBulkEntries {H : Type} : List (Lit × DataW H) → Nat
  | [] => 0
  | x :: r => uptoBulkEntry x + uptoBulkEntries r
def uptoBulkEntry {H : Type} : Lit × DataW H → Nat
  | (.string bytes, d) => bytes.length + uptoBulk d + 1
  | (_, d) => uptoBulk d + 1
 end
def uptoSmall : (H : Type) → List (DataW H) → Bool := fun _ ds => decide (uptoBulkAll ds ≤ 1048576)
def OpenSpec.upto (s : _root_.Go.ChangeSpec) : _root_.Go.OpenSpec := { _root_.Go.OpenSpec.ofChange s with cond := some uptoSmall }

/-- 'palinodelaw27.CondLogic', WHERE WHAT IT READS IS OF BULK AT MOST 1048576: true; the input reads as it did. -/
def condLogicUptoRow : OpenClaim := { program := "ytlaafamodaogmaa", sum := "bbe267756c7d79f7bb488f58b7e852383233ff8335774f435569dec68b085b88", func := "palinode/palinodelaw27.CondLogic", spec := "condLogic", inPlace := ["internal/bytealg.IndexByteString", "internal/bytealg.IndexByte", "internal/bytealg.Index"], unfollowed := true, recurses := true, named := ["internal/bytealg.MaxLen"], apart := false, narrowed := true }
def CondLogicUptoSaid : Prop := condLogicUptoRow.holds Try.pinned (OpenSpec.upto condLogicSpec)

/-- 'palinodelaw27.CondSigns', WHERE WHAT IT READS IS OF BULK AT MOST 1048576: true; the input reads as it did. -/
def condSignsUptoRow : OpenClaim := { program := "ytlaafamodaogmaa", sum := "bbe267756c7d79f7bb488f58b7e852383233ff8335774f435569dec68b085b88", func := "palinode/palinodelaw27.CondSigns", spec := "condSigns", inPlace := ["internal/bytealg.IndexByteString", "internal/bytealg.IndexByte", "internal/bytealg.Index"], unfollowed := true, recurses := true, named := ["internal/bytealg.MaxLen"], apart := false, narrowed := true }
def CondSignsUptoSaid : Prop := condSignsUptoRow.holds Try.pinned (OpenSpec.upto condSignsSpec)

/-- 'palinodelaw27.CondTells', WHERE WHAT IT READS IS OF BULK AT MOST 1048576: true; the input reads as it did. -/
def condTellsUptoRow : OpenClaim := { program := "ytlaafamodaogmaa", sum := "bbe267756c7d79f7bb488f58b7e852383233ff8335774f435569dec68b085b88", func := "palinode/palinodelaw27.CondTells", spec := "condTells", inPlace := ["internal/bytealg.IndexByteString", "internal/bytealg.IndexByte", "internal/bytealg.Index"], unfollowed := true, recurses := true, named := ["internal/bytealg.MaxLen"], apart := false, narrowed := true }
def CondTellsUptoSaid : Prop := condTellsUptoRow.holds Try.pinned (OpenSpec.upto condTellsSpec)

/-- 'palinodelaw27.CondBack', WHERE WHAT IT READS IS OF BULK AT MOST 1048576: true; the input reads as it did. -/
def condBackUptoRow : OpenClaim := { program := "ytlaafamodaogmaa", sum := "bbe267756c7d79f7bb488f58b7e852383233ff8335774f435569dec68b085b88", func := "palinode/palinodelaw27.CondBack", spec := "condBack", inPlace := ["internal/bytealg.IndexByteString", "internal/bytealg.IndexByte", "internal/bytealg.Index"], unfollowed := true, recurses := true, named := ["internal/bytealg.MaxLen"], apart := false, narrowed := true }
def CondBackUptoSaid : Prop := condBackUptoRow.holds Try.pinned (OpenSpec.upto condBackSpec)

/-- 'palinodelaw28.StopsFull', WHERE WHAT IT READS IS OF BULK AT MOST 1048576: true; the input reads as it did. -/
def stopsFullUptoRow : OpenClaim := { program := "ytlaafamodaogmaa", sum := "bbe267756c7d79f7bb488f58b7e852383233ff8335774f435569dec68b085b88", func := "palinode/palinodelaw28.StopsFull", spec := "stopsFull", inPlace := ["internal/bytealg.IndexByteString", "internal/bytealg.IndexByte", "internal/bytealg.Index"], unfollowed := true, recurses := true, named := ["internal/bytealg.MaxLen"], apart := false, narrowed := true }
def StopsFullUptoSaid : Prop := stopsFullUptoRow.holds Try.pinned (OpenSpec.upto stopsFullSpec)

/-- 'palinodelaw28.StopsOff', WHERE WHAT IT READS IS OF BULK AT MOST 1048576: true; the input reads as it did. -/
def stopsOffUptoRow : OpenClaim := { program := "ytlaafamodaogmaa", sum := "bbe267756c7d79f7bb488f58b7e852383233ff8335774f435569dec68b085b88", func := "palinode/palinodelaw28.StopsOff", spec := "stopsOff", inPlace := ["internal/bytealg.IndexByteString", "internal/bytealg.IndexByte", "internal/bytealg.Index"], unfollowed := true, recurses := true, named := ["internal/bytealg.MaxLen"], apart := false, narrowed := true }
def StopsOffUptoSaid : Prop := stopsOffUptoRow.holds Try.pinned (OpenSpec.upto stopsOffSpec)

end Rows
end Go.Proofs.Ytlaafamodaogmaa
