/-
  DERIVED. GIVEN WITH THE SEED: THE CARDS: each row of YthadldnojdjlnaaGreatDoorRows.lean that lists a variable, with what it lists TIED to the program's text (the seventh form; the later family's looks); each row that meets fmt, with fmt's text TOLD by the authors' own Lean function (tested against real Go, not proved from fmt's source: count such statements apart). THE CARD IS WHAT COUNTS. Prove the row's statement (the work); the ties are given (YthadldnojdjlnaaGreatDoorTie.lean); close each card by the builder's one call (the guide's Derived/Test/ToyasCard.lean, 'card_holds'). Laid BY PROGRAM, IN A SANDBOX (cutbox-door.mjs). By AI agents, Wed Nov 11 2026. No macro, syntax, notation, axiom, sorry.
-/
import Derived.Test.YthadldnojdjlnaaGreatDoorRows
import GoSem.ClaimSeven
namespace Go.Proofs.YthadldnojdjlnaaGreatDoor
namespace Rows

/-- THE TIED CARD OF 'shalelaw22.PinsPlays'. -/
def pinsPlaysCard : Claim7 := { stood := { row := pinsPlaysRow, standIns := [], harness := (true, "33a4a467b778791c9653aca8bd1caabc1aa06094cbbe885cf4ce587d8f2a358b"), looks := true }, kinds := [], alts := [], laidByText := true, laidKinds := [.data, .handle, .pinned], laidTests := true, laidLooks := .later }
def PinsPlaysCardSaid : Prop := Claim7.holds Tryz.pinned (.plain (OpenSpec.ofChange pinsPlaysSpec)) pinsPlaysCard

/-- THE SECOND FORM's CARD OF 'shalelaw22.PinsPlays'. -/
def pinsPlaysUptoCard : Claim7 := { stood := { row := pinsPlaysUptoRow, standIns := [], harness := (true, "33a4a467b778791c9653aca8bd1caabc1aa06094cbbe885cf4ce587d8f2a358b"), looks := true }, kinds := [], alts := [], laidByText := true, laidKinds := [.data, .handle, .pinned], laidTests := true, laidLooks := .later }
def PinsPlaysUptoCardSaid : Prop := Claim7.holds Tryz.pinned (.plain (OpenSpec.upto pinsPlaysSpec)) pinsPlaysUptoCard
end Rows
end Go.Proofs.YthadldnojdjlnaaGreatDoor
