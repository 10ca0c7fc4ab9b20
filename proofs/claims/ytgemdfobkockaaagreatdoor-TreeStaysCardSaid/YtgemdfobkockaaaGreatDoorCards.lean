/-
  DERIVED. GIVEN WITH THE SEED: THE CARDS: each row of YtgemdfobkockaaaGreatDoorRows.lean that lists a variable, with what it lists TIED to the program's text (the seventh form; the later family's looks); each row that meets fmt, with fmt's text TOLD by the authors' own Lean function (tested against real Go, not proved from fmt's source: count such statements apart). THE CARD IS WHAT COUNTS. Prove the row's statement (the work); the ties are given (YtgemdfobkockaaaGreatDoorTie.lean); close each card by the builder's one call (the guide's Derived/Test/ToyasCard.lean, 'card_holds'). Laid BY PROGRAM, IN A SANDBOX (cutbox-door.mjs). By AI agents, Wed Nov 11 2026. No macro, syntax, notation, axiom, sorry.
-/
import Derived.Test.YtgemdfobkockaaaGreatDoorRows
import GoSem.ClaimSeven
namespace Go.Proofs.YtgemdfobkockaaaGreatDoor
namespace Rows

/-- THE TIED CARD OF 'shalelaw13.ListShows'. -/
def listShowsCard : Claim7 := { stood := { row := listShowsRow, standIns := [], harness := (true, "5daafa4a93278c3532a9da91b19c3ce5b80eaea6cd8f38806d64157aa9c98425"), looks := true }, kinds := [], alts := [], laidByText := true, laidKinds := [.data, .handle, .pinned], laidTests := true, laidLooks := .later }
def ListShowsCardSaid : Prop := Claim7.holds Tryz.pinned (.plain (OpenSpec.ofChange listShowsSpec)) listShowsCard

/-- THE TIED CARD OF 'shalelaw13.ListOver'. -/
def listOverCard : Claim7 := { stood := { row := listOverRow, standIns := [], harness := (true, "5daafa4a93278c3532a9da91b19c3ce5b80eaea6cd8f38806d64157aa9c98425"), looks := true }, kinds := [], alts := [], laidByText := true, laidKinds := [.data, .handle, .pinned], laidTests := true, laidLooks := .later }
def ListOverCardSaid : Prop := Claim7.holds Tryz.pinned (.plain (OpenSpec.ofChange listOverSpec)) listOverCard

/-- THE TIED CARD OF 'shalelaw13.ListNames'. -/
def listNamesCard : Claim7 := { stood := { row := listNamesRow, standIns := [], harness := (true, "5daafa4a93278c3532a9da91b19c3ce5b80eaea6cd8f38806d64157aa9c98425"), looks := true }, kinds := [], alts := [], laidByText := true, laidKinds := [.data, .handle, .pinned], laidTests := true, laidLooks := .later }
def ListNamesCardSaid : Prop := Claim7.holds Tryz.pinned (.plain (OpenSpec.ofChange listNamesSpec)) listNamesCard

/-- THE TIED CARD OF 'shalelaw22.PinsRefs'. -/
def pinsRefsCard : Claim7 := { stood := { row := pinsRefsRow, standIns := [], harness := (true, "5daafa4a93278c3532a9da91b19c3ce5b80eaea6cd8f38806d64157aa9c98425"), looks := true }, kinds := [], alts := [], laidByText := true, laidKinds := [.data, .handle, .pinned], laidTests := true, laidLooks := .later }
def PinsRefsCardSaid : Prop := Claim7.holds Tryz.pinned (.plain (OpenSpec.ofChange pinsRefsSpec)) pinsRefsCard

/-- THE TIED CARD OF 'shalelaw22.PinsPlays'. -/
def pinsPlaysCard : Claim7 := { stood := { row := pinsPlaysRow, standIns := [], harness := (true, "5daafa4a93278c3532a9da91b19c3ce5b80eaea6cd8f38806d64157aa9c98425"), looks := true }, kinds := [], alts := [], laidByText := true, laidKinds := [.data, .handle, .pinned], laidTests := true, laidLooks := .later }
def PinsPlaysCardSaid : Prop := Claim7.holds Tryz.pinned (.plain (OpenSpec.ofChange pinsPlaysSpec)) pinsPlaysCard

/-- THE TIED CARD OF 'shalelaw11.TreeCuts'. -/
def treeCutsCard : Claim7 := { stood := { row := treeCutsRow, standIns := [], harness := (true, "5daafa4a93278c3532a9da91b19c3ce5b80eaea6cd8f38806d64157aa9c98425"), looks := true }, kinds := [], alts := [], laidByText := true, laidKinds := [.data, .handle, .pinned], laidTests := true, laidLooks := .later }
def TreeCutsCardSaid : Prop := Claim7.holds Tryz.pinned (.plain (OpenSpec.ofChange treeCutsSpec)) treeCutsCard

/-- THE TIED CARD OF 'shalelaw11.TreeReads'. -/
def treeReadsCard : Claim7 := { stood := { row := treeReadsRow, standIns := [], harness := (true, "5daafa4a93278c3532a9da91b19c3ce5b80eaea6cd8f38806d64157aa9c98425"), looks := true }, kinds := [], alts := [], laidByText := true, laidKinds := [.data, .handle, .pinned], laidTests := true, laidLooks := .later }
def TreeReadsCardSaid : Prop := Claim7.holds Tryz.pinned (.plain (OpenSpec.ofChange treeReadsSpec)) treeReadsCard

/-- THE TIED CARD OF 'shalelaw13.ListParts'. -/
def listPartsCard : Claim7 := { stood := { row := listPartsRow, standIns := [], harness := (true, "5daafa4a93278c3532a9da91b19c3ce5b80eaea6cd8f38806d64157aa9c98425"), looks := true }, kinds := [], alts := [], laidByText := true, laidKinds := [.data, .handle, .pinned], laidTests := true, laidLooks := .later }
def ListPartsCardSaid : Prop := Claim7.holds Tryz.pinned (.plain (OpenSpec.ofChange listPartsSpec)) listPartsCard

/-- THE TIED CARD OF 'shalelaw13.ListTwice'. -/
def listTwiceCard : Claim7 := { stood := { row := listTwiceRow, standIns := [], harness := (true, "5daafa4a93278c3532a9da91b19c3ce5b80eaea6cd8f38806d64157aa9c98425"), looks := true }, kinds := [], alts := [], laidByText := true, laidKinds := [.data, .handle, .pinned], laidTests := true, laidLooks := .later }
def ListTwiceCardSaid : Prop := Claim7.holds Tryz.pinned (.plain (OpenSpec.ofChange listTwiceSpec)) listTwiceCard

/-- THE TIED CARD OF 'shalelaw11.TreeBacks'. -/
def treeBacksCard : Claim7 := { stood := { row := treeBacksRow, standIns := [], harness := (true, "5daafa4a93278c3532a9da91b19c3ce5b80eaea6cd8f38806d64157aa9c98425"), looks := true }, kinds := [], alts := [], laidByText := true, laidKinds := [.data, .handle, .pinned], laidTests := true, laidLooks := .later }
def TreeBacksCardSaid : Prop := Claim7.holds Tryz.pinned (.plain (OpenSpec.ofChange treeBacksSpec)) treeBacksCard

/-- THE TIED CARD OF 'shalelaw11.TreeStays'. -/
def treeStaysCard : Claim7 := { stood := { row := treeStaysRow, standIns := [], harness := (true, "5daafa4a93278c3532a9da91b19c3ce5b80eaea6cd8f38806d64157aa9c98425"), looks := true }, kinds := [], alts := [], laidByText := true, laidKinds := [.data, .handle, .pinned], laidTests := true, laidLooks := .later }
def TreeStaysCardSaid : Prop := Claim7.holds Tryz.pinned (.plain (OpenSpec.ofChange treeStaysSpec)) treeStaysCard

/-- THE TIED CARD OF 'shalelaw13.ListWalks'. -/
def listWalksCard : Claim7 := { stood := { row := listWalksRow, standIns := [], harness := (true, "5daafa4a93278c3532a9da91b19c3ce5b80eaea6cd8f38806d64157aa9c98425"), looks := true }, kinds := [], alts := [], laidByText := true, laidKinds := [.data, .handle, .pinned], laidTests := true, laidLooks := .later }
def ListWalksCardSaid : Prop := Claim7.holds Tryz.pinned (.plain (OpenSpec.ofChange listWalksSpec)) listWalksCard

/-- THE SECOND FORM's CARD OF 'shalelaw13.ListShows'. -/
def listShowsUptoCard : Claim7 := { stood := { row := listShowsUptoRow, standIns := [], harness := (true, "5daafa4a93278c3532a9da91b19c3ce5b80eaea6cd8f38806d64157aa9c98425"), looks := true }, kinds := [], alts := [], laidByText := true, laidKinds := [.data, .handle, .pinned], laidTests := true, laidLooks := .later }
def ListShowsUptoCardSaid : Prop := Claim7.holds Tryz.pinned (.plain (OpenSpec.upto listShowsSpec)) listShowsUptoCard

/-- THE SECOND FORM's CARD OF 'shalelaw13.ListOver'. -/
def listOverUptoCard : Claim7 := { stood := { row := listOverUptoRow, standIns := [], harness := (true, "5daafa4a93278c3532a9da91b19c3ce5b80eaea6cd8f38806d64157aa9c98425"), looks := true }, kinds := [], alts := [], laidByText := true, laidKinds := [.data, .handle, .pinned], laidTests := true, laidLooks := .later }
def ListOverUptoCardSaid : Prop := Claim7.holds Tryz.pinned (.plain (OpenSpec.upto listOverSpec)) listOverUptoCard

/-- THE SECOND FORM's CARD OF 'shalelaw13.ListNames'. -/
def listNamesUptoCard : Claim7 := { stood := { row := listNamesUptoRow, standIns := [], harness := (true, "5daafa4a93278c3532a9da91b19c3ce5b80eaea6cd8f38806d64157aa9c98425"), looks := true }, kinds := [], alts := [], laidByText := true, laidKinds := [.data, .handle, .pinned], laidTests := true, laidLooks := .later }
def ListNamesUptoCardSaid : Prop := Claim7.holds Tryz.pinned (.plain (OpenSpec.upto listNamesSpec)) listNamesUptoCard

/-- THE SECOND FORM's CARD OF 'shalelaw22.PinsRefs'. -/
def pinsRefsUptoCard : Claim7 := { stood := { row := pinsRefsUptoRow, standIns := [], harness := (true, "5daafa4a93278c3532a9da91b19c3ce5b80eaea6cd8f38806d64157aa9c98425"), looks := true }, kinds := [], alts := [], laidByText := true, laidKinds := [.data, .handle, .pinned], laidTests := true, laidLooks := .later }
def PinsRefsUptoCardSaid : Prop := Claim7.holds Tryz.pinned (.plain (OpenSpec.upto pinsRefsSpec)) pinsRefsUptoCard

/-- THE SECOND FORM's CARD OF 'shalelaw22.PinsPlays'. -/
def pinsPlaysUptoCard : Claim7 := { stood := { row := pinsPlaysUptoRow, standIns := [], harness := (true, "5daafa4a93278c3532a9da91b19c3ce5b80eaea6cd8f38806d64157aa9c98425"), looks := true }, kinds := [], alts := [], laidByText := true, laidKinds := [.data, .handle, .pinned], laidTests := true, laidLooks := .later }
def PinsPlaysUptoCardSaid : Prop := Claim7.holds Tryz.pinned (.plain (OpenSpec.upto pinsPlaysSpec)) pinsPlaysUptoCard

/-- THE SECOND FORM's CARD OF 'shalelaw11.TreeCuts'. -/
def treeCutsUptoCard : Claim7 := { stood := { row := treeCutsUptoRow, standIns := [], harness := (true, "5daafa4a93278c3532a9da91b19c3ce5b80eaea6cd8f38806d64157aa9c98425"), looks := true }, kinds := [], alts := [], laidByText := true, laidKinds := [.data, .handle, .pinned], laidTests := true, laidLooks := .later }
def TreeCutsUptoCardSaid : Prop := Claim7.holds Tryz.pinned (.plain (OpenSpec.upto treeCutsSpec)) treeCutsUptoCard

/-- THE SECOND FORM's CARD OF 'shalelaw11.TreeReads'. -/
def treeReadsUptoCard : Claim7 := { stood := { row := treeReadsUptoRow, standIns := [], harness := (true, "5daafa4a93278c3532a9da91b19c3ce5b80eaea6cd8f38806d64157aa9c98425"), looks := true }, kinds := [], alts := [], laidByText := true, laidKinds := [.data, .handle, .pinned], laidTests := true, laidLooks := .later }
def TreeReadsUptoCardSaid : Prop := Claim7.holds Tryz.pinned (.plain (OpenSpec.upto treeReadsSpec)) treeReadsUptoCard

/-- THE SECOND FORM's CARD OF 'shalelaw13.ListParts'. -/
def listPartsUptoCard : Claim7 := { stood := { row := listPartsUptoRow, standIns := [], harness := (true, "5daafa4a93278c3532a9da91b19c3ce5b80eaea6cd8f38806d64157aa9c98425"), looks := true }, kinds := [], alts := [], laidByText := true, laidKinds := [.data, .handle, .pinned], laidTests := true, laidLooks := .later }
def ListPartsUptoCardSaid : Prop := Claim7.holds Tryz.pinned (.plain (OpenSpec.upto listPartsSpec)) listPartsUptoCard

/-- THE SECOND FORM's CARD OF 'shalelaw13.ListTwice'. -/
def listTwiceUptoCard : Claim7 := { stood := { row := listTwiceUptoRow, standIns := [], harness := (true, "5daafa4a93278c3532a9da91b19c3ce5b80eaea6cd8f38806d64157aa9c98425"), looks := true }, kinds := [], alts := [], laidByText := true, laidKinds := [.data, .handle, .pinned], laidTests := true, laidLooks := .later }
def ListTwiceUptoCardSaid : Prop := Claim7.holds Tryz.pinned (.plain (OpenSpec.upto listTwiceSpec)) listTwiceUptoCard

/-- THE SECOND FORM's CARD OF 'shalelaw11.TreeBacks'. -/
def treeBacksUptoCard : Claim7 := { stood := { row := treeBacksUptoRow, standIns := [], harness := (true, "5daafa4a93278c3532a9da91b19c3ce5b80eaea6cd8f38806d64157aa9c98425"), looks := true }, kinds := [], alts := [], laidByText := true, laidKinds := [.data, .handle, .pinned], laidTests := true, laidLooks := .later }
def TreeBacksUptoCardSaid : Prop := Claim7.holds Tryz.pinned (.plain (OpenSpec.upto treeBacksSpec)) treeBacksUptoCard

/-- THE SECOND FORM's CARD OF 'shalelaw11.TreeStays'. -/
def treeStaysUptoCard : Claim7 := { stood := { row := treeStaysUptoRow, standIns := [], harness := (true, "5daafa4a93278c3532a9da91b19c3ce5b80eaea6cd8f38806d64157aa9c98425"), looks := true }, kinds := [], alts := [], laidByText := true, laidKinds := [.data, .handle, .pinned], laidTests := true, laidLooks := .later }
def TreeStaysUptoCardSaid : Prop := Claim7.holds Tryz.pinned (.plain (OpenSpec.upto treeStaysSpec)) treeStaysUptoCard

/-- THE SECOND FORM's CARD OF 'shalelaw13.ListWalks'. -/
def listWalksUptoCard : Claim7 := { stood := { row := listWalksUptoRow, standIns := [], harness := (true, "5daafa4a93278c3532a9da91b19c3ce5b80eaea6cd8f38806d64157aa9c98425"), looks := true }, kinds := [], alts := [], laidByText := true, laidKinds := [.data, .handle, .pinned], laidTests := true, laidLooks := .later }
def ListWalksUptoCardSaid : Prop := Claim7.holds Tryz.pinned (.plain (OpenSpec.upto listWalksSpec)) listWalksUptoCard
end Rows
end Go.Proofs.YtgemdfobkockaaaGreatDoor
