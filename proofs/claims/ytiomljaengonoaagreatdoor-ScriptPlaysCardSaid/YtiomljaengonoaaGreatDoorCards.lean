/-
  DERIVED. GIVEN WITH THE SEED: THE CARDS: each row of YtiomljaengonoaaGreatDoorRows.lean that lists a variable, with what it lists TIED to the program's text (the seventh form; the later family's looks); each row that meets fmt, with fmt's text TOLD by the authors' own Lean function (tested against real Go, not proved from fmt's source: count such statements apart). THE CARD IS WHAT COUNTS. Prove the row's statement (the work); the ties are given (YtiomljaengonoaaGreatDoorTie.lean); close each card by the builder's one call (the guide's Derived/Test/ToyasCard.lean, 'card_holds'). Laid BY PROGRAM, IN A SANDBOX (cutbox-door.mjs). By AI agents, Wed Nov 11 2026. No macro, syntax, notation, axiom, sorry.
-/
import Derived.Test.YtiomljaengonoaaGreatDoorRows
import GoSem.ClaimSeven
namespace Go.Proofs.YtiomljaengonoaaGreatDoor
namespace Rows

/-- THE TIED CARD OF 'shalelaw22.PinsParts'. -/
def pinsPartsCard : Claim7 := { stood := { row := pinsPartsRow, standIns := [], harness := (true, "7dd412bae828619fd41ddee9b83d679ff8b82be72705864e0f48cf52aa9aa0c0"), looks := true }, kinds := [], alts := [], laidByText := true, laidKinds := [.data, .handle, .pinned], laidTests := true, laidLooks := .later }
def PinsPartsCardSaid : Prop := Claim7.holds Tryz.pinned (.plain (OpenSpec.ofChange pinsPartsSpec)) pinsPartsCard

/-- THE TIED CARD OF 'shalelaw22.PinsNumbers'. -/
def pinsNumbersCard : Claim7 := { stood := { row := pinsNumbersRow, standIns := [], harness := (true, "7dd412bae828619fd41ddee9b83d679ff8b82be72705864e0f48cf52aa9aa0c0"), looks := true }, kinds := [], alts := [], laidByText := true, laidKinds := [.data, .handle, .pinned], laidTests := true, laidLooks := .later }
def PinsNumbersCardSaid : Prop := Claim7.holds Tryz.pinned (.plain (OpenSpec.ofChange pinsNumbersSpec)) pinsNumbersCard

/-- THE TIED CARD OF 'shalelaw25.ScriptRights'. -/
def scriptRightsCard : Claim7 := { stood := { row := scriptRightsRow, standIns := [], harness := (true, "7dd412bae828619fd41ddee9b83d679ff8b82be72705864e0f48cf52aa9aa0c0"), looks := true }, kinds := [], alts := [], laidByText := true, laidKinds := [.data, .data, .data, .data, .handle, .sentinel, .sentinel, .pinned], laidTests := true, laidLooks := .later }
def ScriptRightsCardSaid : Prop := Claim7.holds Tryz.pinned (.plain (OpenSpec.ofChange scriptRightsSpec)) scriptRightsCard

/-- THE TIED CARD OF 'shalelaw25.ScriptOnly'. -/
def scriptOnlyCard : Claim7 := { stood := { row := scriptOnlyRow, standIns := [], harness := (true, "7dd412bae828619fd41ddee9b83d679ff8b82be72705864e0f48cf52aa9aa0c0"), looks := true }, kinds := [], alts := [], laidByText := true, laidKinds := [.data, .data, .data, .data, .handle, .sentinel, .sentinel, .pinned], laidTests := true, laidLooks := .later }
def ScriptOnlyCardSaid : Prop := Claim7.holds Tryz.pinned (.plain (OpenSpec.ofChange scriptOnlySpec)) scriptOnlyCard

/-- THE TIED CARD OF 'shalelaw25.ScriptLines'. -/
def scriptLinesCard : Claim7 := { stood := { row := scriptLinesRow, standIns := [], harness := (true, "7dd412bae828619fd41ddee9b83d679ff8b82be72705864e0f48cf52aa9aa0c0"), looks := true }, kinds := [], alts := [], laidByText := true, laidKinds := [.data, .data, .data, .data, .handle, .sentinel, .sentinel, .pinned], laidTests := true, laidLooks := .later }
def ScriptLinesCardSaid : Prop := Claim7.holds Tryz.pinned (.plain (OpenSpec.ofChange scriptLinesSpec)) scriptLinesCard

/-- THE TIED CARD OF 'shalelaw25.ScriptBad'. -/
def scriptBadCard : Claim7 := { stood := { row := scriptBadRow, standIns := [], harness := (true, "7dd412bae828619fd41ddee9b83d679ff8b82be72705864e0f48cf52aa9aa0c0"), looks := true }, kinds := [], alts := [], laidByText := true, laidKinds := [.data, .data, .data, .data, .handle, .sentinel, .sentinel, .pinned], laidTests := true, laidLooks := .later }
def ScriptBadCardSaid : Prop := Claim7.holds Tryz.pinned (.plain (OpenSpec.ofChange scriptBadSpec)) scriptBadCard

/-- THE TIED CARD OF 'shalelaw25.ScriptBack'. -/
def scriptBackCard : Claim7 := { stood := { row := scriptBackRow, standIns := [], harness := (true, "7dd412bae828619fd41ddee9b83d679ff8b82be72705864e0f48cf52aa9aa0c0"), looks := true }, kinds := [], alts := [], laidByText := true, laidKinds := [.data, .data, .data, .data, .handle, .sentinel, .sentinel, .pinned], laidTests := true, laidLooks := .later }
def ScriptBackCardSaid : Prop := Claim7.holds Tryz.pinned (.plain (OpenSpec.ofChange scriptBackSpec)) scriptBackCard

/-- THE TIED CARD OF 'shalelaw25.ScriptPlays'. -/
def scriptPlaysCard : Claim7 := { stood := { row := scriptPlaysRow, standIns := [], harness := (true, "7dd412bae828619fd41ddee9b83d679ff8b82be72705864e0f48cf52aa9aa0c0"), looks := true }, kinds := [], alts := [], laidByText := true, laidKinds := [.data, .data, .data, .data, .handle, .sentinel, .sentinel, .pinned], laidTests := true, laidLooks := .later }
def ScriptPlaysCardSaid : Prop := Claim7.holds Tryz.pinned (.plain (OpenSpec.ofChange scriptPlaysSpec)) scriptPlaysCard

/-- THE TIED CARD OF 'shalelaw22.PinsRefs'. -/
def pinsRefsCard : Claim7 := { stood := { row := pinsRefsRow, standIns := [], harness := (true, "7dd412bae828619fd41ddee9b83d679ff8b82be72705864e0f48cf52aa9aa0c0"), looks := true }, kinds := [], alts := [], laidByText := true, laidKinds := [.data, .handle, .pinned], laidTests := true, laidLooks := .later }
def PinsRefsCardSaid : Prop := Claim7.holds Tryz.pinned (.plain (OpenSpec.ofChange pinsRefsSpec)) pinsRefsCard

/-- THE TIED CARD OF 'shalelaw22.PinsPlays'. -/
def pinsPlaysCard : Claim7 := { stood := { row := pinsPlaysRow, standIns := [], harness := (true, "7dd412bae828619fd41ddee9b83d679ff8b82be72705864e0f48cf52aa9aa0c0"), looks := true }, kinds := [], alts := [], laidByText := true, laidKinds := [.data, .handle, .pinned], laidTests := true, laidLooks := .later }
def PinsPlaysCardSaid : Prop := Claim7.holds Tryz.pinned (.plain (OpenSpec.ofChange pinsPlaysSpec)) pinsPlaysCard

/-- THE SECOND FORM's CARD OF 'shalelaw22.PinsParts'. -/
def pinsPartsUptoCard : Claim7 := { stood := { row := pinsPartsUptoRow, standIns := [], harness := (true, "7dd412bae828619fd41ddee9b83d679ff8b82be72705864e0f48cf52aa9aa0c0"), looks := true }, kinds := [], alts := [], laidByText := true, laidKinds := [.data, .handle, .pinned], laidTests := true, laidLooks := .later }
def PinsPartsUptoCardSaid : Prop := Claim7.holds Tryz.pinned (.plain (OpenSpec.upto pinsPartsSpec)) pinsPartsUptoCard

/-- THE SECOND FORM's CARD OF 'shalelaw22.PinsNumbers'. -/
def pinsNumbersUptoCard : Claim7 := { stood := { row := pinsNumbersUptoRow, standIns := [], harness := (true, "7dd412bae828619fd41ddee9b83d679ff8b82be72705864e0f48cf52aa9aa0c0"), looks := true }, kinds := [], alts := [], laidByText := true, laidKinds := [.data, .handle, .pinned], laidTests := true, laidLooks := .later }
def PinsNumbersUptoCardSaid : Prop := Claim7.holds Tryz.pinned (.plain (OpenSpec.upto pinsNumbersSpec)) pinsNumbersUptoCard

/-- THE SECOND FORM's CARD OF 'shalelaw25.ScriptRights'. -/
def scriptRightsUptoCard : Claim7 := { stood := { row := scriptRightsUptoRow, standIns := [], harness := (true, "7dd412bae828619fd41ddee9b83d679ff8b82be72705864e0f48cf52aa9aa0c0"), looks := true }, kinds := [], alts := [], laidByText := true, laidKinds := [.data, .data, .data, .data, .handle, .sentinel, .sentinel, .pinned], laidTests := true, laidLooks := .later }
def ScriptRightsUptoCardSaid : Prop := Claim7.holds Tryz.pinned (.plain (OpenSpec.upto scriptRightsSpec)) scriptRightsUptoCard

/-- THE SECOND FORM's CARD OF 'shalelaw25.ScriptOnly'. -/
def scriptOnlyUptoCard : Claim7 := { stood := { row := scriptOnlyUptoRow, standIns := [], harness := (true, "7dd412bae828619fd41ddee9b83d679ff8b82be72705864e0f48cf52aa9aa0c0"), looks := true }, kinds := [], alts := [], laidByText := true, laidKinds := [.data, .data, .data, .data, .handle, .sentinel, .sentinel, .pinned], laidTests := true, laidLooks := .later }
def ScriptOnlyUptoCardSaid : Prop := Claim7.holds Tryz.pinned (.plain (OpenSpec.upto scriptOnlySpec)) scriptOnlyUptoCard

/-- THE SECOND FORM's CARD OF 'shalelaw25.ScriptLines'. -/
def scriptLinesUptoCard : Claim7 := { stood := { row := scriptLinesUptoRow, standIns := [], harness := (true, "7dd412bae828619fd41ddee9b83d679ff8b82be72705864e0f48cf52aa9aa0c0"), looks := true }, kinds := [], alts := [], laidByText := true, laidKinds := [.data, .data, .data, .data, .handle, .sentinel, .sentinel, .pinned], laidTests := true, laidLooks := .later }
def ScriptLinesUptoCardSaid : Prop := Claim7.holds Tryz.pinned (.plain (OpenSpec.upto scriptLinesSpec)) scriptLinesUptoCard

/-- THE SECOND FORM's CARD OF 'shalelaw25.ScriptBad'. -/
def scriptBadUptoCard : Claim7 := { stood := { row := scriptBadUptoRow, standIns := [], harness := (true, "7dd412bae828619fd41ddee9b83d679ff8b82be72705864e0f48cf52aa9aa0c0"), looks := true }, kinds := [], alts := [], laidByText := true, laidKinds := [.data, .data, .data, .data, .handle, .sentinel, .sentinel, .pinned], laidTests := true, laidLooks := .later }
def ScriptBadUptoCardSaid : Prop := Claim7.holds Tryz.pinned (.plain (OpenSpec.upto scriptBadSpec)) scriptBadUptoCard

/-- THE SECOND FORM's CARD OF 'shalelaw25.ScriptBack'. -/
def scriptBackUptoCard : Claim7 := { stood := { row := scriptBackUptoRow, standIns := [], harness := (true, "7dd412bae828619fd41ddee9b83d679ff8b82be72705864e0f48cf52aa9aa0c0"), looks := true }, kinds := [], alts := [], laidByText := true, laidKinds := [.data, .data, .data, .data, .handle, .sentinel, .sentinel, .pinned], laidTests := true, laidLooks := .later }
def ScriptBackUptoCardSaid : Prop := Claim7.holds Tryz.pinned (.plain (OpenSpec.upto scriptBackSpec)) scriptBackUptoCard

/-- THE SECOND FORM's CARD OF 'shalelaw25.ScriptPlays'. -/
def scriptPlaysUptoCard : Claim7 := { stood := { row := scriptPlaysUptoRow, standIns := [], harness := (true, "7dd412bae828619fd41ddee9b83d679ff8b82be72705864e0f48cf52aa9aa0c0"), looks := true }, kinds := [], alts := [], laidByText := true, laidKinds := [.data, .data, .data, .data, .handle, .sentinel, .sentinel, .pinned], laidTests := true, laidLooks := .later }
def ScriptPlaysUptoCardSaid : Prop := Claim7.holds Tryz.pinned (.plain (OpenSpec.upto scriptPlaysSpec)) scriptPlaysUptoCard

/-- THE SECOND FORM's CARD OF 'shalelaw22.PinsRefs'. -/
def pinsRefsUptoCard : Claim7 := { stood := { row := pinsRefsUptoRow, standIns := [], harness := (true, "7dd412bae828619fd41ddee9b83d679ff8b82be72705864e0f48cf52aa9aa0c0"), looks := true }, kinds := [], alts := [], laidByText := true, laidKinds := [.data, .handle, .pinned], laidTests := true, laidLooks := .later }
def PinsRefsUptoCardSaid : Prop := Claim7.holds Tryz.pinned (.plain (OpenSpec.upto pinsRefsSpec)) pinsRefsUptoCard

/-- THE SECOND FORM's CARD OF 'shalelaw22.PinsPlays'. -/
def pinsPlaysUptoCard : Claim7 := { stood := { row := pinsPlaysUptoRow, standIns := [], harness := (true, "7dd412bae828619fd41ddee9b83d679ff8b82be72705864e0f48cf52aa9aa0c0"), looks := true }, kinds := [], alts := [], laidByText := true, laidKinds := [.data, .handle, .pinned], laidTests := true, laidLooks := .later }
def PinsPlaysUptoCardSaid : Prop := Claim7.holds Tryz.pinned (.plain (OpenSpec.upto pinsPlaysSpec)) pinsPlaysUptoCard
end Rows
end Go.Proofs.YtiomljaengonoaaGreatDoor
