/-
  DERIVED. GIVEN WITH THE SEED: THE CARDS: each row of YtknfaabhlcdeoaaGreatDoorRows.lean that lists a variable, with what it lists TIED to the program's text (the seventh form; the later family's looks); each row that meets fmt, with fmt's text TOLD by the authors' own Lean function (tested against real Go, not proved from fmt's source: count such statements apart). THE CARD IS WHAT COUNTS. Prove the row's statement (the work); the ties are given (YtknfaabhlcdeoaaGreatDoorTie.lean); close each card by the builder's one call (the guide's Derived/Test/ToyasCard.lean, 'card_holds'). Laid BY PROGRAM, IN A SANDBOX (cutbox-door.mjs). By AI agents, Wed Nov 11 2026. No macro, syntax, notation, axiom, sorry.
-/
import Derived.Test.YtknfaabhlcdeoaaGreatDoorRows
import GoSem.ClaimSeven
namespace Go.Proofs.YtknfaabhlcdeoaaGreatDoor
namespace Rows

/-- THE TIED CARD OF 'shalelaw13.ListOver'. -/
def listOverCard : Claim7 := { stood := { row := listOverRow, standIns := [], harness := (true, "d18b5e3ad3b5845962f998eece4f738f126bfc0acf17d4e65a0d4d1294d1b27c"), looks := true }, kinds := [], alts := [], laidByText := true, laidKinds := [.data, .handle, .pinned], laidTests := true, laidLooks := .later }
def ListOverCardSaid : Prop := Claim7.holds Tryz.pinned (.plain (OpenSpec.ofChange listOverSpec)) listOverCard

/-- THE TIED CARD OF 'shalelaw13.ListNames'. -/
def listNamesCard : Claim7 := { stood := { row := listNamesRow, standIns := [], harness := (true, "d18b5e3ad3b5845962f998eece4f738f126bfc0acf17d4e65a0d4d1294d1b27c"), looks := true }, kinds := [], alts := [], laidByText := true, laidKinds := [.data, .handle, .pinned], laidTests := true, laidLooks := .later }
def ListNamesCardSaid : Prop := Claim7.holds Tryz.pinned (.plain (OpenSpec.ofChange listNamesSpec)) listNamesCard

/-- THE TIED CARD OF 'shalelaw22.PinsRefs'. -/
def pinsRefsCard : Claim7 := { stood := { row := pinsRefsRow, standIns := [], harness := (true, "d18b5e3ad3b5845962f998eece4f738f126bfc0acf17d4e65a0d4d1294d1b27c"), looks := true }, kinds := [], alts := [], laidByText := true, laidKinds := [.data, .handle, .pinned], laidTests := true, laidLooks := .later }
def PinsRefsCardSaid : Prop := Claim7.holds Tryz.pinned (.plain (OpenSpec.ofChange pinsRefsSpec)) pinsRefsCard

/-- THE TIED CARD OF 'shalelaw22.PinsPlays'. -/
def pinsPlaysCard : Claim7 := { stood := { row := pinsPlaysRow, standIns := [], harness := (true, "d18b5e3ad3b5845962f998eece4f738f126bfc0acf17d4e65a0d4d1294d1b27c"), looks := true }, kinds := [], alts := [], laidByText := true, laidKinds := [.data, .handle, .pinned], laidTests := true, laidLooks := .later }
def PinsPlaysCardSaid : Prop := Claim7.holds Tryz.pinned (.plain (OpenSpec.ofChange pinsPlaysSpec)) pinsPlaysCard

/-- THE TIED CARD OF 'shalelaw13.ListParts'. -/
def listPartsCard : Claim7 := { stood := { row := listPartsRow, standIns := [], harness := (true, "d18b5e3ad3b5845962f998eece4f738f126bfc0acf17d4e65a0d4d1294d1b27c"), looks := true }, kinds := [], alts := [], laidByText := true, laidKinds := [.data, .handle, .pinned], laidTests := true, laidLooks := .later }
def ListPartsCardSaid : Prop := Claim7.holds Tryz.pinned (.plain (OpenSpec.ofChange listPartsSpec)) listPartsCard

/-- THE TIED CARD OF 'shalelaw13.ListTwice'. -/
def listTwiceCard : Claim7 := { stood := { row := listTwiceRow, standIns := [], harness := (true, "d18b5e3ad3b5845962f998eece4f738f126bfc0acf17d4e65a0d4d1294d1b27c"), looks := true }, kinds := [], alts := [], laidByText := true, laidKinds := [.data, .handle, .pinned], laidTests := true, laidLooks := .later }
def ListTwiceCardSaid : Prop := Claim7.holds Tryz.pinned (.plain (OpenSpec.ofChange listTwiceSpec)) listTwiceCard

/-- THE TIED CARD OF 'shalelaw13.ListWalks'. -/
def listWalksCard : Claim7 := { stood := { row := listWalksRow, standIns := [], harness := (true, "d18b5e3ad3b5845962f998eece4f738f126bfc0acf17d4e65a0d4d1294d1b27c"), looks := true }, kinds := [], alts := [], laidByText := true, laidKinds := [.data, .handle, .pinned], laidTests := true, laidLooks := .later }
def ListWalksCardSaid : Prop := Claim7.holds Tryz.pinned (.plain (OpenSpec.ofChange listWalksSpec)) listWalksCard

/-- THE TIED CARD OF 'shalelaw14.EditLower'. -/
def editLowerCard : Claim7 := { stood := { row := editLowerRow, standIns := [], harness := (true, "d18b5e3ad3b5845962f998eece4f738f126bfc0acf17d4e65a0d4d1294d1b27c"), looks := true }, kinds := [], alts := [], laidByText := true, laidKinds := [.data, .handle, .pinned], laidTests := true, laidLooks := .later }
def EditLowerCardSaid : Prop := Claim7.holds Tryz.pinned (.plain (OpenSpec.ofChange editLowerSpec)) editLowerCard

/-- THE TIED CARD OF 'shalelaw14.EditTouches'. -/
def editTouchesCard : Claim7 := { stood := { row := editTouchesRow, standIns := [], harness := (true, "d18b5e3ad3b5845962f998eece4f738f126bfc0acf17d4e65a0d4d1294d1b27c"), looks := true }, kinds := [], alts := [], laidByText := true, laidKinds := [.data, .handle, .pinned], laidTests := true, laidLooks := .later }
def EditTouchesCardSaid : Prop := Claim7.holds Tryz.pinned (.plain (OpenSpec.ofChange editTouchesSpec)) editTouchesCard

/-- THE TIED CARD OF 'shalelaw14.EditRuns'. -/
def editRunsCard : Claim7 := { stood := { row := editRunsRow, standIns := [], harness := (true, "d18b5e3ad3b5845962f998eece4f738f126bfc0acf17d4e65a0d4d1294d1b27c"), looks := true }, kinds := [], alts := [], laidByText := true, laidKinds := [.data, .handle, .pinned], laidTests := true, laidLooks := .later }
def EditRunsCardSaid : Prop := Claim7.holds Tryz.pinned (.plain (OpenSpec.ofChange editRunsSpec)) editRunsCard

/-- THE TIED CARD OF 'shalelaw14.EditCopies'. -/
def editCopiesCard : Claim7 := { stood := { row := editCopiesRow, standIns := [], harness := (true, "d18b5e3ad3b5845962f998eece4f738f126bfc0acf17d4e65a0d4d1294d1b27c"), looks := true }, kinds := [], alts := [], laidByText := true, laidKinds := [.data, .handle, .pinned], laidTests := true, laidLooks := .later }
def EditCopiesCardSaid : Prop := Claim7.holds Tryz.pinned (.plain (OpenSpec.ofChange editCopiesSpec)) editCopiesCard

/-- THE SECOND FORM's CARD OF 'shalelaw13.ListOver'. -/
def listOverUptoCard : Claim7 := { stood := { row := listOverUptoRow, standIns := [], harness := (true, "d18b5e3ad3b5845962f998eece4f738f126bfc0acf17d4e65a0d4d1294d1b27c"), looks := true }, kinds := [], alts := [], laidByText := true, laidKinds := [.data, .handle, .pinned], laidTests := true, laidLooks := .later }
def ListOverUptoCardSaid : Prop := Claim7.holds Tryz.pinned (.plain (OpenSpec.upto listOverSpec)) listOverUptoCard

/-- THE SECOND FORM's CARD OF 'shalelaw13.ListNames'. -/
def listNamesUptoCard : Claim7 := { stood := { row := listNamesUptoRow, standIns := [], harness := (true, "d18b5e3ad3b5845962f998eece4f738f126bfc0acf17d4e65a0d4d1294d1b27c"), looks := true }, kinds := [], alts := [], laidByText := true, laidKinds := [.data, .handle, .pinned], laidTests := true, laidLooks := .later }
def ListNamesUptoCardSaid : Prop := Claim7.holds Tryz.pinned (.plain (OpenSpec.upto listNamesSpec)) listNamesUptoCard

/-- THE SECOND FORM's CARD OF 'shalelaw22.PinsRefs'. -/
def pinsRefsUptoCard : Claim7 := { stood := { row := pinsRefsUptoRow, standIns := [], harness := (true, "d18b5e3ad3b5845962f998eece4f738f126bfc0acf17d4e65a0d4d1294d1b27c"), looks := true }, kinds := [], alts := [], laidByText := true, laidKinds := [.data, .handle, .pinned], laidTests := true, laidLooks := .later }
def PinsRefsUptoCardSaid : Prop := Claim7.holds Tryz.pinned (.plain (OpenSpec.upto pinsRefsSpec)) pinsRefsUptoCard

/-- THE SECOND FORM's CARD OF 'shalelaw22.PinsPlays'. -/
def pinsPlaysUptoCard : Claim7 := { stood := { row := pinsPlaysUptoRow, standIns := [], harness := (true, "d18b5e3ad3b5845962f998eece4f738f126bfc0acf17d4e65a0d4d1294d1b27c"), looks := true }, kinds := [], alts := [], laidByText := true, laidKinds := [.data, .handle, .pinned], laidTests := true, laidLooks := .later }
def PinsPlaysUptoCardSaid : Prop := Claim7.holds Tryz.pinned (.plain (OpenSpec.upto pinsPlaysSpec)) pinsPlaysUptoCard

/-- THE SECOND FORM's CARD OF 'shalelaw13.ListParts'. -/
def listPartsUptoCard : Claim7 := { stood := { row := listPartsUptoRow, standIns := [], harness := (true, "d18b5e3ad3b5845962f998eece4f738f126bfc0acf17d4e65a0d4d1294d1b27c"), looks := true }, kinds := [], alts := [], laidByText := true, laidKinds := [.data, .handle, .pinned], laidTests := true, laidLooks := .later }
def ListPartsUptoCardSaid : Prop := Claim7.holds Tryz.pinned (.plain (OpenSpec.upto listPartsSpec)) listPartsUptoCard

/-- THE SECOND FORM's CARD OF 'shalelaw13.ListTwice'. -/
def listTwiceUptoCard : Claim7 := { stood := { row := listTwiceUptoRow, standIns := [], harness := (true, "d18b5e3ad3b5845962f998eece4f738f126bfc0acf17d4e65a0d4d1294d1b27c"), looks := true }, kinds := [], alts := [], laidByText := true, laidKinds := [.data, .handle, .pinned], laidTests := true, laidLooks := .later }
def ListTwiceUptoCardSaid : Prop := Claim7.holds Tryz.pinned (.plain (OpenSpec.upto listTwiceSpec)) listTwiceUptoCard

/-- THE SECOND FORM's CARD OF 'shalelaw13.ListWalks'. -/
def listWalksUptoCard : Claim7 := { stood := { row := listWalksUptoRow, standIns := [], harness := (true, "d18b5e3ad3b5845962f998eece4f738f126bfc0acf17d4e65a0d4d1294d1b27c"), looks := true }, kinds := [], alts := [], laidByText := true, laidKinds := [.data, .handle, .pinned], laidTests := true, laidLooks := .later }
def ListWalksUptoCardSaid : Prop := Claim7.holds Tryz.pinned (.plain (OpenSpec.upto listWalksSpec)) listWalksUptoCard

/-- THE SECOND FORM's CARD OF 'shalelaw14.EditLower'. -/
def editLowerUptoCard : Claim7 := { stood := { row := editLowerUptoRow, standIns := [], harness := (true, "d18b5e3ad3b5845962f998eece4f738f126bfc0acf17d4e65a0d4d1294d1b27c"), looks := true }, kinds := [], alts := [], laidByText := true, laidKinds := [.data, .handle, .pinned], laidTests := true, laidLooks := .later }
def EditLowerUptoCardSaid : Prop := Claim7.holds Tryz.pinned (.plain (OpenSpec.upto editLowerSpec)) editLowerUptoCard

/-- THE SECOND FORM's CARD OF 'shalelaw14.EditTouches'. -/
def editTouchesUptoCard : Claim7 := { stood := { row := editTouchesUptoRow, standIns := [], harness := (true, "d18b5e3ad3b5845962f998eece4f738f126bfc0acf17d4e65a0d4d1294d1b27c"), looks := true }, kinds := [], alts := [], laidByText := true, laidKinds := [.data, .handle, .pinned], laidTests := true, laidLooks := .later }
def EditTouchesUptoCardSaid : Prop := Claim7.holds Tryz.pinned (.plain (OpenSpec.upto editTouchesSpec)) editTouchesUptoCard

/-- THE SECOND FORM's CARD OF 'shalelaw14.EditRuns'. -/
def editRunsUptoCard : Claim7 := { stood := { row := editRunsUptoRow, standIns := [], harness := (true, "d18b5e3ad3b5845962f998eece4f738f126bfc0acf17d4e65a0d4d1294d1b27c"), looks := true }, kinds := [], alts := [], laidByText := true, laidKinds := [.data, .handle, .pinned], laidTests := true, laidLooks := .later }
def EditRunsUptoCardSaid : Prop := Claim7.holds Tryz.pinned (.plain (OpenSpec.upto editRunsSpec)) editRunsUptoCard

/-- THE SECOND FORM's CARD OF 'shalelaw14.EditCopies'. -/
def editCopiesUptoCard : Claim7 := { stood := { row := editCopiesUptoRow, standIns := [], harness := (true, "d18b5e3ad3b5845962f998eece4f738f126bfc0acf17d4e65a0d4d1294d1b27c"), looks := true }, kinds := [], alts := [], laidByText := true, laidKinds := [.data, .handle, .pinned], laidTests := true, laidLooks := .later }
def EditCopiesUptoCardSaid : Prop := Claim7.holds Tryz.pinned (.plain (OpenSpec.upto editCopiesSpec)) editCopiesUptoCard
end Rows
end Go.Proofs.YtknfaabhlcdeoaaGreatDoor
