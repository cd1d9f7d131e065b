/-
  DERIVED. GIVEN WITH THE SEED: THE CARDS: each row of YtepdfkgadigafaaGreatDoorRows.lean that lists a variable, with what it lists TIED to the program's text (the seventh form; the later family's looks); each row that meets fmt, with fmt's text TOLD by the authors' own Lean function (tested against real Go, not proved from fmt's source: count such statements apart). THE CARD IS WHAT COUNTS. Prove the row's statement (the work); the ties are given (YtepdfkgadigafaaGreatDoorTie.lean); close each card by the builder's one call (the guide's Derived/Test/ToyasCard.lean, 'card_holds'). Laid BY PROGRAM, IN A SANDBOX (cutbox-door.mjs). By AI agents, Wed Nov 11 2026. No macro, syntax, notation, axiom, sorry.
-/
import Derived.Test.YtepdfkgadigafaaGreatDoorRows
import GoSem.ClaimSeven
namespace Go.Proofs.YtepdfkgadigafaaGreatDoor
namespace Rows

/-- THE TIED CARD OF 'palinodelaw23.DeltaStates'. -/
def deltaStatesCard : Claim7 := { stood := { row := deltaStatesRow, standIns := [], harness := (true, "856df044dd319c2ecce639dfb4713888295efaa7f654182b7a5dfc188748ba3e"), looks := true }, kinds := [], alts := [], laidByText := true, laidKinds := [.data, .data, .data, .data, .sentinel, .sentinel, .pinned], laidTests := true, laidLooks := .later }
def DeltaStatesCardSaid : Prop := Claim7.holds Tryz.pinned (.plain (OpenSpec.ofChange deltaStatesSpec)) deltaStatesCard

/-- THE TIED CARD OF 'palinodelaw20.StateSame'. -/
def stateSameCard : Claim7 := { stood := { row := stateSameRow, standIns := [], harness := (true, "856df044dd319c2ecce639dfb4713888295efaa7f654182b7a5dfc188748ba3e"), looks := true }, kinds := [], alts := [], laidByText := true, laidKinds := [.data, .data, .data], laidTests := true, laidLooks := .later }
def StateSameCardSaid : Prop := Claim7.holds Tryz.pinned (.plain (OpenSpec.ofChange stateSameSpec)) stateSameCard

/-- THE TIED CARD OF 'palinodelaw20.StateFields'. -/
def stateFieldsCard : Claim7 := { stood := { row := stateFieldsRow, standIns := [], harness := (true, "856df044dd319c2ecce639dfb4713888295efaa7f654182b7a5dfc188748ba3e"), looks := true }, kinds := [], alts := [], laidByText := true, laidKinds := [.data, .data, .data, .data, .sentinel, .sentinel, .pinned], laidTests := true, laidLooks := .later }
def StateFieldsCardSaid : Prop := Claim7.holds Tryz.pinned (.plain (OpenSpec.ofChange stateFieldsSpec)) stateFieldsCard

/-- THE TIED CARD OF 'palinodelaw20.StateFrom'. -/
def stateFromCard : Claim7 := { stood := { row := stateFromRow, standIns := [], harness := (true, "856df044dd319c2ecce639dfb4713888295efaa7f654182b7a5dfc188748ba3e"), looks := true }, kinds := [], alts := [], laidByText := true, laidKinds := [.data, .data, .data, .data, .sentinel, .sentinel, .pinned], laidTests := true, laidLooks := .later }
def StateFromCardSaid : Prop := Claim7.holds Tryz.pinned (.plain (OpenSpec.ofChange stateFromSpec)) stateFromCard

/-- THE SECOND FORM's CARD OF 'palinodelaw23.DeltaStates'. -/
def deltaStatesUptoCard : Claim7 := { stood := { row := deltaStatesUptoRow, standIns := [], harness := (true, "856df044dd319c2ecce639dfb4713888295efaa7f654182b7a5dfc188748ba3e"), looks := true }, kinds := [], alts := [], laidByText := true, laidKinds := [.data, .data, .data, .data, .sentinel, .sentinel, .pinned], laidTests := true, laidLooks := .later }
def DeltaStatesUptoCardSaid : Prop := Claim7.holds Tryz.pinned (.plain (OpenSpec.upto deltaStatesSpec)) deltaStatesUptoCard

/-- THE SECOND FORM's CARD OF 'palinodelaw20.StateSame'. -/
def stateSameUptoCard : Claim7 := { stood := { row := stateSameUptoRow, standIns := [], harness := (true, "856df044dd319c2ecce639dfb4713888295efaa7f654182b7a5dfc188748ba3e"), looks := true }, kinds := [], alts := [], laidByText := true, laidKinds := [.data, .data, .data], laidTests := true, laidLooks := .later }
def StateSameUptoCardSaid : Prop := Claim7.holds Tryz.pinned (.plain (OpenSpec.upto stateSameSpec)) stateSameUptoCard

/-- THE SECOND FORM's CARD OF 'palinodelaw20.StateFields'. -/
def stateFieldsUptoCard : Claim7 := { stood := { row := stateFieldsUptoRow, standIns := [], harness := (true, "856df044dd319c2ecce639dfb4713888295efaa7f654182b7a5dfc188748ba3e"), looks := true }, kinds := [], alts := [], laidByText := true, laidKinds := [.data, .data, .data, .data, .sentinel, .sentinel, .pinned], laidTests := true, laidLooks := .later }
def StateFieldsUptoCardSaid : Prop := Claim7.holds Tryz.pinned (.plain (OpenSpec.upto stateFieldsSpec)) stateFieldsUptoCard

/-- THE SECOND FORM's CARD OF 'palinodelaw20.StateFrom'. -/
def stateFromUptoCard : Claim7 := { stood := { row := stateFromUptoRow, standIns := [], harness := (true, "856df044dd319c2ecce639dfb4713888295efaa7f654182b7a5dfc188748ba3e"), looks := true }, kinds := [], alts := [], laidByText := true, laidKinds := [.data, .data, .data, .data, .sentinel, .sentinel, .pinned], laidTests := true, laidLooks := .later }
def StateFromUptoCardSaid : Prop := Claim7.holds Tryz.pinned (.plain (OpenSpec.upto stateFromSpec)) stateFromUptoCard
end Rows
end Go.Proofs.YtepdfkgadigafaaGreatDoor
