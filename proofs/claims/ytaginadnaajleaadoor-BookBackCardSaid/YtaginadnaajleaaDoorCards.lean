/-
  DERIVED. GIVEN WITH THE SEED: THE CARDS: each row of YtaginadnaajleaaDoorRows.lean that lists a variable, with what it lists TIED to the program's text (the seventh form; the later family's looks); each row that meets fmt, with fmt's text TOLD by the authors' own Lean function (tested against real Go, not proved from fmt's source: count such statements apart). THE CARD IS WHAT COUNTS. Prove the row's statement (the work); the ties are given (YtaginadnaajleaaDoorTie.lean); close each card by the builder's one call (the guide's Derived/Test/ToyasCard.lean, 'card_holds'). Laid BY PROGRAM, IN A SANDBOX (cutbox-door.mjs). By AI agents, Wed Nov 11 2026. No macro, syntax, notation, axiom, sorry.
-/
import Derived.Test.YtaginadnaajleaaDoorRows
import GoSem.ClaimSeven
namespace Go.Proofs.YtaginadnaajleaaDoor
namespace Rows

/-- THE TIED CARD OF 'palinodelaw32.BookBack'. -/
def bookBackCard : Claim7 := { stood := { row := bookBackRow, standIns := [], harness := (true, "96ec87c312e6793dcad35a33978361538a803a2e63a43ff77965702660c74638"), looks := false }, kinds := [], alts := [], laidByText := true, laidKinds := [.data, .data, .data], laidTests := true, laidLooks := .later }
def BookBackCardSaid : Prop := Claim7.holds Tryd.pinned (.plain (OpenSpec.ofChange bookBackSpec)) bookBackCard

/-- THE TIED CARD OF 'palinodelaw32.BookSound'. -/
def bookSoundCard : Claim7 := { stood := { row := bookSoundRow, standIns := [], harness := (true, "96ec87c312e6793dcad35a33978361538a803a2e63a43ff77965702660c74638"), looks := false }, kinds := [], alts := [], laidByText := true, laidKinds := [.data, .data, .data], laidTests := true, laidLooks := .later }
def BookSoundCardSaid : Prop := Claim7.holds Tryd.pinned (.plain (OpenSpec.ofChange bookSoundSpec)) bookSoundCard

/-- THE SECOND FORM's CARD OF 'palinodelaw32.BookBack'. -/
def bookBackUptoCard : Claim7 := { stood := { row := bookBackUptoRow, standIns := [], harness := (true, "96ec87c312e6793dcad35a33978361538a803a2e63a43ff77965702660c74638"), looks := false }, kinds := [], alts := [], laidByText := true, laidKinds := [.data, .data, .data], laidTests := true, laidLooks := .later }
def BookBackUptoCardSaid : Prop := Claim7.holds Tryd.pinned (.plain (OpenSpec.upto bookBackSpec)) bookBackUptoCard

/-- THE SECOND FORM's CARD OF 'palinodelaw32.BookSound'. -/
def bookSoundUptoCard : Claim7 := { stood := { row := bookSoundUptoRow, standIns := [], harness := (true, "96ec87c312e6793dcad35a33978361538a803a2e63a43ff77965702660c74638"), looks := false }, kinds := [], alts := [], laidByText := true, laidKinds := [.data, .data, .data], laidTests := true, laidLooks := .later }
def BookSoundUptoCardSaid : Prop := Claim7.holds Tryd.pinned (.plain (OpenSpec.upto bookSoundSpec)) bookSoundUptoCard
end Rows
end Go.Proofs.YtaginadnaajleaaDoor
