/-
  DERIVED. GIVEN WITH THE SEED: THE CARDS: each row of YtfkjokencmdiiaaDoorRows.lean that lists a variable, with what it lists TIED to the program's text (the seventh form; the later family's looks); each row that meets fmt, with fmt's text TOLD by the authors' own Lean function (tested against real Go, not proved from fmt's source: count such statements apart). THE CARD IS WHAT COUNTS. Prove the row's statement (the work); the ties are given (YtfkjokencmdiiaaDoorTie.lean); close each card by the builder's one call (the guide's Derived/Test/ToyasCard.lean, 'card_holds'). Laid BY PROGRAM, IN A SANDBOX (cutbox-door.mjs). By AI agents, Wed Nov 11 2026. No macro, syntax, notation, axiom, sorry.
-/
import Derived.Test.YtfkjokencmdiiaaDoorRows
import GoSem.ClaimSeven
namespace Go.Proofs.YtfkjokencmdiiaaDoor
namespace Rows

/-- THE TIED CARD OF 'weighbridgelaw02.AddrTexts'. -/
def addrTextsCard : Claim7 := { stood := { row := addrTextsRow, standIns := [], harness := (true, "c40801eade7f558d6244535a297775164dfa8a9c452621853d84ea768b5ecaba"), looks := true }, kinds := [], alts := [], laidByText := true, laidKinds := [.data, .data, .data, .data, .sentinel, .sentinel, .pinned], laidTests := true, laidLooks := .later }
def AddrTextsCardSaid : Prop := Claim7.holds Tryd.pinned (.plain (OpenSpec.ofChange addrTextsSpec)) addrTextsCard

/-- THE TIED CARD OF 'weighbridgelaw02.AddrHolds'. -/
def addrHoldsCard : Claim7 := { stood := { row := addrHoldsRow, standIns := [], harness := (true, "c40801eade7f558d6244535a297775164dfa8a9c452621853d84ea768b5ecaba"), looks := true }, kinds := [], alts := [], laidByText := true, laidKinds := [.data, .data, .data, .data, .sentinel, .sentinel, .pinned], laidTests := true, laidLooks := .later }
def AddrHoldsCardSaid : Prop := Claim7.holds Tryd.pinned (.plain (OpenSpec.ofChange addrHoldsSpec)) addrHoldsCard

/-- THE TIED CARD OF 'weighbridgelaw02.AddrMasks'. -/
def addrMasksCard : Claim7 := { stood := { row := addrMasksRow, standIns := [], harness := (true, "c40801eade7f558d6244535a297775164dfa8a9c452621853d84ea768b5ecaba"), looks := true }, kinds := [], alts := [], laidByText := true, laidKinds := [.data, .data, .data, .data, .sentinel, .sentinel, .pinned], laidTests := true, laidLooks := .later }
def AddrMasksCardSaid : Prop := Claim7.holds Tryd.pinned (.plain (OpenSpec.ofChange addrMasksSpec)) addrMasksCard

/-- THE TIED CARD OF 'weighbridgelaw02.AddrParts'. -/
def addrPartsCard : Claim7 := { stood := { row := addrPartsRow, standIns := [], harness := (true, "c40801eade7f558d6244535a297775164dfa8a9c452621853d84ea768b5ecaba"), looks := true }, kinds := [], alts := [], laidByText := true, laidKinds := [.data, .data, .data, .data, .sentinel, .sentinel, .pinned], laidTests := true, laidLooks := .later }
def AddrPartsCardSaid : Prop := Claim7.holds Tryd.pinned (.plain (OpenSpec.ofChange addrPartsSpec)) addrPartsCard

/-- THE TIED CARD OF 'weighbridgelaw02.AddrNested'. -/
def addrNestedCard : Claim7 := { stood := { row := addrNestedRow, standIns := [], harness := (true, "c40801eade7f558d6244535a297775164dfa8a9c452621853d84ea768b5ecaba"), looks := true }, kinds := [], alts := [], laidByText := true, laidKinds := [.data, .data, .data, .data, .sentinel, .sentinel, .pinned], laidTests := true, laidLooks := .later }
def AddrNestedCardSaid : Prop := Claim7.holds Tryd.pinned (.plain (OpenSpec.ofChange addrNestedSpec)) addrNestedCard

/-- THE TIED CARD OF 'weighbridgelaw02.AddrNets'. -/
def addrNetsCard : Claim7 := { stood := { row := addrNetsRow, standIns := [], harness := (true, "c40801eade7f558d6244535a297775164dfa8a9c452621853d84ea768b5ecaba"), looks := true }, kinds := [], alts := [], laidByText := true, laidKinds := [.data, .data, .data, .data, .sentinel, .sentinel, .pinned], laidTests := true, laidLooks := .later }
def AddrNetsCardSaid : Prop := Claim7.holds Tryd.pinned (.plain (OpenSpec.ofChange addrNetsSpec)) addrNetsCard

/-- THE TIED CARD OF 'weighbridgelaw02.AddrBack'. -/
def addrBackCard : Claim7 := { stood := { row := addrBackRow, standIns := [], harness := (true, "c40801eade7f558d6244535a297775164dfa8a9c452621853d84ea768b5ecaba"), looks := true }, kinds := [], alts := [], laidByText := true, laidKinds := [.data, .data, .data, .data, .sentinel, .sentinel, .pinned], laidTests := true, laidLooks := .later }
def AddrBackCardSaid : Prop := Claim7.holds Tryd.pinned (.plain (OpenSpec.ofChange addrBackSpec)) addrBackCard

/-- THE SECOND FORM's CARD OF 'weighbridgelaw02.AddrTexts'. -/
def addrTextsUptoCard : Claim7 := { stood := { row := addrTextsUptoRow, standIns := [], harness := (true, "c40801eade7f558d6244535a297775164dfa8a9c452621853d84ea768b5ecaba"), looks := true }, kinds := [], alts := [], laidByText := true, laidKinds := [.data, .data, .data, .data, .sentinel, .sentinel, .pinned], laidTests := true, laidLooks := .later }
def AddrTextsUptoCardSaid : Prop := Claim7.holds Tryd.pinned (.plain (OpenSpec.upto addrTextsSpec)) addrTextsUptoCard

/-- THE SECOND FORM's CARD OF 'weighbridgelaw02.AddrHolds'. -/
def addrHoldsUptoCard : Claim7 := { stood := { row := addrHoldsUptoRow, standIns := [], harness := (true, "c40801eade7f558d6244535a297775164dfa8a9c452621853d84ea768b5ecaba"), looks := true }, kinds := [], alts := [], laidByText := true, laidKinds := [.data, .data, .data, .data, .sentinel, .sentinel, .pinned], laidTests := true, laidLooks := .later }
def AddrHoldsUptoCardSaid : Prop := Claim7.holds Tryd.pinned (.plain (OpenSpec.upto addrHoldsSpec)) addrHoldsUptoCard

/-- THE SECOND FORM's CARD OF 'weighbridgelaw02.AddrMasks'. -/
def addrMasksUptoCard : Claim7 := { stood := { row := addrMasksUptoRow, standIns := [], harness := (true, "c40801eade7f558d6244535a297775164dfa8a9c452621853d84ea768b5ecaba"), looks := true }, kinds := [], alts := [], laidByText := true, laidKinds := [.data, .data, .data, .data, .sentinel, .sentinel, .pinned], laidTests := true, laidLooks := .later }
def AddrMasksUptoCardSaid : Prop := Claim7.holds Tryd.pinned (.plain (OpenSpec.upto addrMasksSpec)) addrMasksUptoCard

/-- THE SECOND FORM's CARD OF 'weighbridgelaw02.AddrParts'. -/
def addrPartsUptoCard : Claim7 := { stood := { row := addrPartsUptoRow, standIns := [], harness := (true, "c40801eade7f558d6244535a297775164dfa8a9c452621853d84ea768b5ecaba"), looks := true }, kinds := [], alts := [], laidByText := true, laidKinds := [.data, .data, .data, .data, .sentinel, .sentinel, .pinned], laidTests := true, laidLooks := .later }
def AddrPartsUptoCardSaid : Prop := Claim7.holds Tryd.pinned (.plain (OpenSpec.upto addrPartsSpec)) addrPartsUptoCard

/-- THE SECOND FORM's CARD OF 'weighbridgelaw02.AddrNested'. -/
def addrNestedUptoCard : Claim7 := { stood := { row := addrNestedUptoRow, standIns := [], harness := (true, "c40801eade7f558d6244535a297775164dfa8a9c452621853d84ea768b5ecaba"), looks := true }, kinds := [], alts := [], laidByText := true, laidKinds := [.data, .data, .data, .data, .sentinel, .sentinel, .pinned], laidTests := true, laidLooks := .later }
def AddrNestedUptoCardSaid : Prop := Claim7.holds Tryd.pinned (.plain (OpenSpec.upto addrNestedSpec)) addrNestedUptoCard

/-- THE SECOND FORM's CARD OF 'weighbridgelaw02.AddrNets'. -/
def addrNetsUptoCard : Claim7 := { stood := { row := addrNetsUptoRow, standIns := [], harness := (true, "c40801eade7f558d6244535a297775164dfa8a9c452621853d84ea768b5ecaba"), looks := true }, kinds := [], alts := [], laidByText := true, laidKinds := [.data, .data, .data, .data, .sentinel, .sentinel, .pinned], laidTests := true, laidLooks := .later }
def AddrNetsUptoCardSaid : Prop := Claim7.holds Tryd.pinned (.plain (OpenSpec.upto addrNetsSpec)) addrNetsUptoCard

/-- THE SECOND FORM's CARD OF 'weighbridgelaw02.AddrBack'. -/
def addrBackUptoCard : Claim7 := { stood := { row := addrBackUptoRow, standIns := [], harness := (true, "c40801eade7f558d6244535a297775164dfa8a9c452621853d84ea768b5ecaba"), looks := true }, kinds := [], alts := [], laidByText := true, laidKinds := [.data, .data, .data, .data, .sentinel, .sentinel, .pinned], laidTests := true, laidLooks := .later }
def AddrBackUptoCardSaid : Prop := Claim7.holds Tryd.pinned (.plain (OpenSpec.upto addrBackSpec)) addrBackUptoCard
end Rows
end Go.Proofs.YtfkjokencmdiiaaDoor
