/-
  DERIVED. GIVEN WITH THE SEED: THE CARDS: each row of YtneefmgidplbcaaGreatDoorRows.lean that lists a variable, with what it lists TIED to the program's text (the seventh form; the later family's looks); each row that meets fmt, with fmt's text TOLD by the authors' own Lean function (tested against real Go, not proved from fmt's source: count such statements apart). THE CARD IS WHAT COUNTS. Prove the row's statement (the work); the ties are given (YtneefmgidplbcaaGreatDoorTie.lean); close each card by the builder's one call (the guide's Derived/Test/ToyasCard.lean, 'card_holds'). Laid BY PROGRAM, IN A SANDBOX (cutbox-door.mjs). By AI agents, Wed Nov 11 2026. No macro, syntax, notation, axiom, sorry.
-/
import Derived.Test.YtneefmgidplbcaaGreatDoorRows
import GoSem.ClaimSeven
namespace Go.Proofs.YtneefmgidplbcaaGreatDoor
namespace Rows

/-- THE TIED CARD OF 'shalelaw22.PinsPlays'. -/
def pinsPlaysCard : Claim7 := { stood := { row := pinsPlaysRow, standIns := [], harness := (true, "3b3656fd5d062c3bc0d2d989ccffba516224694428b6f95bf053c860a559b058"), looks := true }, kinds := [], alts := [], laidByText := true, laidKinds := [.data, .handle, .pinned], laidTests := true, laidLooks := .later }
def PinsPlaysCardSaid : Prop := Claim7.holds Tryz.pinned (.plain (OpenSpec.ofChange pinsPlaysSpec)) pinsPlaysCard

/-- THE TIED CARD OF 'shalelaw14.EditLower'. -/
def editLowerCard : Claim7 := { stood := { row := editLowerRow, standIns := [], harness := (true, "3b3656fd5d062c3bc0d2d989ccffba516224694428b6f95bf053c860a559b058"), looks := true }, kinds := [], alts := [], laidByText := true, laidKinds := [.data, .handle, .pinned], laidTests := true, laidLooks := .later }
def EditLowerCardSaid : Prop := Claim7.holds Tryz.pinned (.plain (OpenSpec.ofChange editLowerSpec)) editLowerCard

/-- THE TIED CARD OF 'shalelaw14.EditTouches'. -/
def editTouchesCard : Claim7 := { stood := { row := editTouchesRow, standIns := [], harness := (true, "3b3656fd5d062c3bc0d2d989ccffba516224694428b6f95bf053c860a559b058"), looks := true }, kinds := [], alts := [], laidByText := true, laidKinds := [.data, .handle, .pinned], laidTests := true, laidLooks := .later }
def EditTouchesCardSaid : Prop := Claim7.holds Tryz.pinned (.plain (OpenSpec.ofChange editTouchesSpec)) editTouchesCard

/-- THE TIED CARD OF 'shalelaw14.EditRuns'. -/
def editRunsCard : Claim7 := { stood := { row := editRunsRow, standIns := [], harness := (true, "3b3656fd5d062c3bc0d2d989ccffba516224694428b6f95bf053c860a559b058"), looks := true }, kinds := [], alts := [], laidByText := true, laidKinds := [.data, .handle, .pinned], laidTests := true, laidLooks := .later }
def EditRunsCardSaid : Prop := Claim7.holds Tryz.pinned (.plain (OpenSpec.ofChange editRunsSpec)) editRunsCard

/-- THE TIED CARD OF 'shalelaw14.EditCopies'. -/
def editCopiesCard : Claim7 := { stood := { row := editCopiesRow, standIns := [], harness := (true, "3b3656fd5d062c3bc0d2d989ccffba516224694428b6f95bf053c860a559b058"), looks := true }, kinds := [], alts := [], laidByText := true, laidKinds := [.data, .handle, .pinned], laidTests := true, laidLooks := .later }
def EditCopiesCardSaid : Prop := Claim7.holds Tryz.pinned (.plain (OpenSpec.ofChange editCopiesSpec)) editCopiesCard

/-- THE SECOND FORM's CARD OF 'shalelaw22.PinsPlays'. -/
def pinsPlaysUptoCard : Claim7 := { stood := { row := pinsPlaysUptoRow, standIns := [], harness := (true, "3b3656fd5d062c3bc0d2d989ccffba516224694428b6f95bf053c860a559b058"), looks := true }, kinds := [], alts := [], laidByText := true, laidKinds := [.data, .handle, .pinned], laidTests := true, laidLooks := .later }
def PinsPlaysUptoCardSaid : Prop := Claim7.holds Tryz.pinned (.plain (OpenSpec.upto pinsPlaysSpec)) pinsPlaysUptoCard

/-- THE SECOND FORM's CARD OF 'shalelaw14.EditLower'. -/
def editLowerUptoCard : Claim7 := { stood := { row := editLowerUptoRow, standIns := [], harness := (true, "3b3656fd5d062c3bc0d2d989ccffba516224694428b6f95bf053c860a559b058"), looks := true }, kinds := [], alts := [], laidByText := true, laidKinds := [.data, .handle, .pinned], laidTests := true, laidLooks := .later }
def EditLowerUptoCardSaid : Prop := Claim7.holds Tryz.pinned (.plain (OpenSpec.upto editLowerSpec)) editLowerUptoCard

/-- THE SECOND FORM's CARD OF 'shalelaw14.EditTouches'. -/
def editTouchesUptoCard : Claim7 := { stood := { row := editTouchesUptoRow, standIns := [], harness := (true, "3b3656fd5d062c3bc0d2d989ccffba516224694428b6f95bf053c860a559b058"), looks := true }, kinds := [], alts := [], laidByText := true, laidKinds := [.data, .handle, .pinned], laidTests := true, laidLooks := .later }
def EditTouchesUptoCardSaid : Prop := Claim7.holds Tryz.pinned (.plain (OpenSpec.upto editTouchesSpec)) editTouchesUptoCard

/-- THE SECOND FORM's CARD OF 'shalelaw14.EditRuns'. -/
def editRunsUptoCard : Claim7 := { stood := { row := editRunsUptoRow, standIns := [], harness := (true, "3b3656fd5d062c3bc0d2d989ccffba516224694428b6f95bf053c860a559b058"), looks := true }, kinds := [], alts := [], laidByText := true, laidKinds := [.data, .handle, .pinned], laidTests := true, laidLooks := .later }
def EditRunsUptoCardSaid : Prop := Claim7.holds Tryz.pinned (.plain (OpenSpec.upto editRunsSpec)) editRunsUptoCard

/-- THE SECOND FORM's CARD OF 'shalelaw14.EditCopies'. -/
def editCopiesUptoCard : Claim7 := { stood := { row := editCopiesUptoRow, standIns := [], harness := (true, "3b3656fd5d062c3bc0d2d989ccffba516224694428b6f95bf053c860a559b058"), looks := true }, kinds := [], alts := [], laidByText := true, laidKinds := [.data, .handle, .pinned], laidTests := true, laidLooks := .later }
def EditCopiesUptoCardSaid : Prop := Claim7.holds Tryz.pinned (.plain (OpenSpec.upto editCopiesSpec)) editCopiesUptoCard
end Rows
end Go.Proofs.YtneefmgidplbcaaGreatDoor
