/-
  DERIVED. GIVEN WITH THE SEED: THE CARDS: each row of YtjfpepinmbbnbaaDoorRows.lean that lists a variable, with what it lists TIED to the program's text (the seventh form; the later family's looks); each row that meets fmt, with fmt's text TOLD by the authors' own Lean function (tested against real Go, not proved from fmt's source: count such statements apart). THE CARD IS WHAT COUNTS. Prove the row's statement (the work); the ties are given (YtjfpepinmbbnbaaDoorTie.lean); close each card by the builder's one call (the guide's Derived/Test/ToyasCard.lean, 'card_holds'). Laid BY PROGRAM, IN A SANDBOX (cutbox-door.mjs). By AI agents, Wed Nov 11 2026. No macro, syntax, notation, axiom, sorry.
-/
import Derived.Test.YtjfpepinmbbnbaaDoorRows
import GoSem.ClaimSeven
namespace Go.Proofs.YtjfpepinmbbnbaaDoor
namespace Rows

/-- THE TIED CARD OF 'palinodelaw01.DigitNums'. -/
def digitNumsCard : Claim7 := { stood := { row := digitNumsRow, standIns := [], harness := (true, "3a800ae91ff3368c6f02043ee3932875cf7b082e9cb03bfab9b3127b628b1e83"), looks := false }, kinds := [], alts := [], laidByText := true, laidKinds := [.data, .data, .data], laidTests := true, laidLooks := .later }
def DigitNumsCardSaid : Prop := Claim7.holds Tryd.pinned (.plain (OpenSpec.ofChange digitNumsSpec)) digitNumsCard

/-- THE TIED CARD OF 'palinodelaw01.DigitBack'. -/
def digitBackCard : Claim7 := { stood := { row := digitBackRow, standIns := [], harness := (true, "3a800ae91ff3368c6f02043ee3932875cf7b082e9cb03bfab9b3127b628b1e83"), looks := false }, kinds := [], alts := [], laidByText := true, laidKinds := [.data, .data, .data], laidTests := true, laidLooks := .later }
def DigitBackCardSaid : Prop := Claim7.holds Tryd.pinned (.plain (OpenSpec.ofChange digitBackSpec)) digitBackCard

/-- THE TIED CARD OF 'palinodelaw01.DigitJoins'. -/
def digitJoinsCard : Claim7 := { stood := { row := digitJoinsRow, standIns := [], harness := (true, "3a800ae91ff3368c6f02043ee3932875cf7b082e9cb03bfab9b3127b628b1e83"), looks := false }, kinds := [], alts := [], laidByText := true, laidKinds := [.data, .data, .data], laidTests := true, laidLooks := .later }
def DigitJoinsCardSaid : Prop := Claim7.holds Tryd.pinned (.plain (OpenSpec.ofChange digitJoinsSpec)) digitJoinsCard

/-- THE TIED CARD OF 'palinodelaw01.DigitClasses'. -/
def digitClassesCard : Claim7 := { stood := { row := digitClassesRow, standIns := [], harness := (true, "3a800ae91ff3368c6f02043ee3932875cf7b082e9cb03bfab9b3127b628b1e83"), looks := false }, kinds := [], alts := [], laidByText := true, laidKinds := [.data, .data, .data], laidTests := true, laidLooks := .later }
def DigitClassesCardSaid : Prop := Claim7.holds Tryd.pinned (.plain (OpenSpec.ofChange digitClassesSpec)) digitClassesCard

/-- THE TIED CARD OF 'palinodelaw01.DigitKinds'. -/
def digitKindsCard : Claim7 := { stood := { row := digitKindsRow, standIns := [], harness := (true, "3a800ae91ff3368c6f02043ee3932875cf7b082e9cb03bfab9b3127b628b1e83"), looks := false }, kinds := [], alts := [], laidByText := true, laidKinds := [.data, .data, .data], laidTests := true, laidLooks := .later }
def DigitKindsCardSaid : Prop := Claim7.holds Tryd.pinned (.plain (OpenSpec.ofChange digitKindsSpec)) digitKindsCard

/-- THE TIED CARD OF 'palinodelaw29.OrderBack'. -/
def orderBackCard : Claim7 := { stood := { row := orderBackRow, standIns := [], harness := (true, "3a800ae91ff3368c6f02043ee3932875cf7b082e9cb03bfab9b3127b628b1e83"), looks := false }, kinds := [], alts := [], laidByText := true, laidKinds := [.data, .data, .data], laidTests := true, laidLooks := .later }
def OrderBackCardSaid : Prop := Claim7.holds Tryd.pinned (.plain (OpenSpec.ofChange orderBackSpec)) orderBackCard

/-- THE TIED CARD OF 'palinodelaw29.OrderSound'. -/
def orderSoundCard : Claim7 := { stood := { row := orderSoundRow, standIns := [], harness := (true, "3a800ae91ff3368c6f02043ee3932875cf7b082e9cb03bfab9b3127b628b1e83"), looks := false }, kinds := [], alts := [], laidByText := true, laidKinds := [.data, .data, .data], laidTests := true, laidLooks := .later }
def OrderSoundCardSaid : Prop := Claim7.holds Tryd.pinned (.plain (OpenSpec.ofChange orderSoundSpec)) orderSoundCard

/-- THE TIED CARD OF 'palinodelaw30.ViewBreaks'. -/
def viewBreaksCard : Claim7 := { stood := { row := viewBreaksRow, standIns := [], harness := (true, "3a800ae91ff3368c6f02043ee3932875cf7b082e9cb03bfab9b3127b628b1e83"), looks := false }, kinds := [], alts := [], laidByText := true, laidKinds := [.data, .data, .data], laidTests := true, laidLooks := .later }
def ViewBreaksCardSaid : Prop := Claim7.holds Tryd.pinned (.plain (OpenSpec.ofChange viewBreaksSpec)) viewBreaksCard

/-- THE TIED CARD OF 'palinodelaw30.ViewReads'. -/
def viewReadsCard : Claim7 := { stood := { row := viewReadsRow, standIns := [], harness := (true, "3a800ae91ff3368c6f02043ee3932875cf7b082e9cb03bfab9b3127b628b1e83"), looks := false }, kinds := [], alts := [], laidByText := true, laidKinds := [.data, .data, .data], laidTests := true, laidLooks := .later }
def ViewReadsCardSaid : Prop := Claim7.holds Tryd.pinned (.plain (OpenSpec.ofChange viewReadsSpec)) viewReadsCard

/-- THE TIED CARD OF 'palinodelaw30.ViewStates'. -/
def viewStatesCard : Claim7 := { stood := { row := viewStatesRow, standIns := [], harness := (true, "3a800ae91ff3368c6f02043ee3932875cf7b082e9cb03bfab9b3127b628b1e83"), looks := false }, kinds := [], alts := [], laidByText := true, laidKinds := [.data, .data, .data], laidTests := true, laidLooks := .later }
def ViewStatesCardSaid : Prop := Claim7.holds Tryd.pinned (.plain (OpenSpec.ofChange viewStatesSpec)) viewStatesCard

/-- THE SECOND FORM's CARD OF 'palinodelaw01.DigitNums'. -/
def digitNumsUptoCard : Claim7 := { stood := { row := digitNumsUptoRow, standIns := [], harness := (true, "3a800ae91ff3368c6f02043ee3932875cf7b082e9cb03bfab9b3127b628b1e83"), looks := false }, kinds := [], alts := [], laidByText := true, laidKinds := [.data, .data, .data], laidTests := true, laidLooks := .later }
def DigitNumsUptoCardSaid : Prop := Claim7.holds Tryd.pinned (.plain (OpenSpec.upto digitNumsSpec)) digitNumsUptoCard

/-- THE SECOND FORM's CARD OF 'palinodelaw01.DigitBack'. -/
def digitBackUptoCard : Claim7 := { stood := { row := digitBackUptoRow, standIns := [], harness := (true, "3a800ae91ff3368c6f02043ee3932875cf7b082e9cb03bfab9b3127b628b1e83"), looks := false }, kinds := [], alts := [], laidByText := true, laidKinds := [.data, .data, .data], laidTests := true, laidLooks := .later }
def DigitBackUptoCardSaid : Prop := Claim7.holds Tryd.pinned (.plain (OpenSpec.upto digitBackSpec)) digitBackUptoCard

/-- THE SECOND FORM's CARD OF 'palinodelaw01.DigitJoins'. -/
def digitJoinsUptoCard : Claim7 := { stood := { row := digitJoinsUptoRow, standIns := [], harness := (true, "3a800ae91ff3368c6f02043ee3932875cf7b082e9cb03bfab9b3127b628b1e83"), looks := false }, kinds := [], alts := [], laidByText := true, laidKinds := [.data, .data, .data], laidTests := true, laidLooks := .later }
def DigitJoinsUptoCardSaid : Prop := Claim7.holds Tryd.pinned (.plain (OpenSpec.upto digitJoinsSpec)) digitJoinsUptoCard

/-- THE SECOND FORM's CARD OF 'palinodelaw01.DigitClasses'. -/
def digitClassesUptoCard : Claim7 := { stood := { row := digitClassesUptoRow, standIns := [], harness := (true, "3a800ae91ff3368c6f02043ee3932875cf7b082e9cb03bfab9b3127b628b1e83"), looks := false }, kinds := [], alts := [], laidByText := true, laidKinds := [.data, .data, .data], laidTests := true, laidLooks := .later }
def DigitClassesUptoCardSaid : Prop := Claim7.holds Tryd.pinned (.plain (OpenSpec.upto digitClassesSpec)) digitClassesUptoCard

/-- THE SECOND FORM's CARD OF 'palinodelaw01.DigitKinds'. -/
def digitKindsUptoCard : Claim7 := { stood := { row := digitKindsUptoRow, standIns := [], harness := (true, "3a800ae91ff3368c6f02043ee3932875cf7b082e9cb03bfab9b3127b628b1e83"), looks := false }, kinds := [], alts := [], laidByText := true, laidKinds := [.data, .data, .data], laidTests := true, laidLooks := .later }
def DigitKindsUptoCardSaid : Prop := Claim7.holds Tryd.pinned (.plain (OpenSpec.upto digitKindsSpec)) digitKindsUptoCard

/-- THE SECOND FORM's CARD OF 'palinodelaw29.OrderBack'. -/
def orderBackUptoCard : Claim7 := { stood := { row := orderBackUptoRow, standIns := [], harness := (true, "3a800ae91ff3368c6f02043ee3932875cf7b082e9cb03bfab9b3127b628b1e83"), looks := false }, kinds := [], alts := [], laidByText := true, laidKinds := [.data, .data, .data], laidTests := true, laidLooks := .later }
def OrderBackUptoCardSaid : Prop := Claim7.holds Tryd.pinned (.plain (OpenSpec.upto orderBackSpec)) orderBackUptoCard

/-- THE SECOND FORM's CARD OF 'palinodelaw29.OrderSound'. -/
def orderSoundUptoCard : Claim7 := { stood := { row := orderSoundUptoRow, standIns := [], harness := (true, "3a800ae91ff3368c6f02043ee3932875cf7b082e9cb03bfab9b3127b628b1e83"), looks := false }, kinds := [], alts := [], laidByText := true, laidKinds := [.data, .data, .data], laidTests := true, laidLooks := .later }
def OrderSoundUptoCardSaid : Prop := Claim7.holds Tryd.pinned (.plain (OpenSpec.upto orderSoundSpec)) orderSoundUptoCard

/-- THE SECOND FORM's CARD OF 'palinodelaw30.ViewBreaks'. -/
def viewBreaksUptoCard : Claim7 := { stood := { row := viewBreaksUptoRow, standIns := [], harness := (true, "3a800ae91ff3368c6f02043ee3932875cf7b082e9cb03bfab9b3127b628b1e83"), looks := false }, kinds := [], alts := [], laidByText := true, laidKinds := [.data, .data, .data], laidTests := true, laidLooks := .later }
def ViewBreaksUptoCardSaid : Prop := Claim7.holds Tryd.pinned (.plain (OpenSpec.upto viewBreaksSpec)) viewBreaksUptoCard

/-- THE SECOND FORM's CARD OF 'palinodelaw30.ViewReads'. -/
def viewReadsUptoCard : Claim7 := { stood := { row := viewReadsUptoRow, standIns := [], harness := (true, "3a800ae91ff3368c6f02043ee3932875cf7b082e9cb03bfab9b3127b628b1e83"), looks := false }, kinds := [], alts := [], laidByText := true, laidKinds := [.data, .data, .data], laidTests := true, laidLooks := .later }
def ViewReadsUptoCardSaid : Prop := Claim7.holds Tryd.pinned (.plain (OpenSpec.upto viewReadsSpec)) viewReadsUptoCard

/-- THE SECOND FORM's CARD OF 'palinodelaw30.ViewStates'. -/
def viewStatesUptoCard : Claim7 := { stood := { row := viewStatesUptoRow, standIns := [], harness := (true, "3a800ae91ff3368c6f02043ee3932875cf7b082e9cb03bfab9b3127b628b1e83"), looks := false }, kinds := [], alts := [], laidByText := true, laidKinds := [.data, .data, .data], laidTests := true, laidLooks := .later }
def ViewStatesUptoCardSaid : Prop := Claim7.holds Tryd.pinned (.plain (OpenSpec.upto viewStatesSpec)) viewStatesUptoCard
end Rows
end Go.Proofs.YtjfpepinmbbnbaaDoor
