/-
  DERIVED. GIVEN WITH THE SEED: THE CARDS: each row of YtbahcpejippcjaaDoorRows.lean that lists a variable, with what it lists TIED to the program's text (the seventh form; the later family's looks); each row that meets fmt, with fmt's text TOLD by the authors' own Lean function (tested against real Go, not proved from fmt's source: count such statements apart). THE CARD IS WHAT COUNTS. Prove the row's statement (the work); the ties are given (YtbahcpejippcjaaDoorTie.lean); close each card by the builder's one call (the guide's Derived/Test/ToyasCard.lean, 'card_holds'). Laid BY PROGRAM, IN A SANDBOX (cutbox-door.mjs). By AI agents, Wed Nov 11 2026. No macro, syntax, notation, axiom, sorry.
-/
import Derived.Test.YtbahcpejippcjaaDoorRows
import GoSem.ClaimSeven
namespace Go.Proofs.YtbahcpejippcjaaDoor
namespace Rows

/-- THE TIED CARD OF 'weighbridgelaw19.ServiceTexts'. -/
def serviceTextsCard : Claim7 := { stood := { row := serviceTextsRow, standIns := [], harness := (true, "bf131e040e8c768afdbf3a64c37f0e1ccbc5d18e3347246b05f3cbfac7fc637f"), looks := true }, kinds := [], alts := [], laidByText := true, laidKinds := [.data, .data, .data, .data, .sentinel, .sentinel, .pinned], laidTests := true, laidLooks := .later }
def ServiceTextsCardSaid : Prop := Claim7.holds Tryd.pinned (.plain (OpenSpec.ofChange serviceTextsSpec)) serviceTextsCard

/-- THE TIED CARD OF 'weighbridgelaw19.ServiceBack'. -/
def serviceBackCard : Claim7 := { stood := { row := serviceBackRow, standIns := [], harness := (true, "bf131e040e8c768afdbf3a64c37f0e1ccbc5d18e3347246b05f3cbfac7fc637f"), looks := true }, kinds := [], alts := [], laidByText := true, laidKinds := [.data, .data, .data, .data, .sentinel, .sentinel, .pinned], laidTests := true, laidLooks := .later }
def ServiceBackCardSaid : Prop := Claim7.holds Tryd.pinned (.plain (OpenSpec.ofChange serviceBackSpec)) serviceBackCard

/-- THE TIED CARD OF 'weighbridgelaw19.ServiceRight'. -/
def serviceRightCard : Claim7 := { stood := { row := serviceRightRow, standIns := [], harness := (true, "bf131e040e8c768afdbf3a64c37f0e1ccbc5d18e3347246b05f3cbfac7fc637f"), looks := true }, kinds := [], alts := [], laidByText := true, laidKinds := [.data, .data, .data, .data, .sentinel, .sentinel, .pinned], laidTests := true, laidLooks := .later }
def ServiceRightCardSaid : Prop := Claim7.holds Tryd.pinned (.plain (OpenSpec.ofChange serviceRightSpec)) serviceRightCard

/-- THE TIED CARD OF 'weighbridgelaw19.ServiceLines'. -/
def serviceLinesCard : Claim7 := { stood := { row := serviceLinesRow, standIns := [], harness := (true, "bf131e040e8c768afdbf3a64c37f0e1ccbc5d18e3347246b05f3cbfac7fc637f"), looks := true }, kinds := [], alts := [], laidByText := true, laidKinds := [.data, .data, .data, .data, .sentinel, .sentinel, .pinned], laidTests := true, laidLooks := .later }
def ServiceLinesCardSaid : Prop := Claim7.holds Tryd.pinned (.plain (OpenSpec.ofChange serviceLinesSpec)) serviceLinesCard

/-- THE TIED CARD OF 'weighbridgelaw19.ServiceFull'. -/
def serviceFullCard : Claim7 := { stood := { row := serviceFullRow, standIns := [], harness := (true, "bf131e040e8c768afdbf3a64c37f0e1ccbc5d18e3347246b05f3cbfac7fc637f"), looks := true }, kinds := [], alts := [], laidByText := true, laidKinds := [.data, .data, .data, .data, .sentinel, .sentinel, .pinned], laidTests := true, laidLooks := .later }
def ServiceFullCardSaid : Prop := Claim7.holds Tryd.pinned (.plain (OpenSpec.ofChange serviceFullSpec)) serviceFullCard

/-- THE TIED CARD OF 'weighbridgelaw19.ServicePlays'. -/
def servicePlaysCard : Claim7 := { stood := { row := servicePlaysRow, standIns := [], harness := (true, "bf131e040e8c768afdbf3a64c37f0e1ccbc5d18e3347246b05f3cbfac7fc637f"), looks := true }, kinds := [], alts := [], laidByText := true, laidKinds := [.data, .data, .data, .data, .sentinel, .sentinel, .pinned], laidTests := true, laidLooks := .later }
def ServicePlaysCardSaid : Prop := Claim7.holds Tryd.pinned (.plain (OpenSpec.ofChange servicePlaysSpec)) servicePlaysCard

/-- THE SECOND FORM's CARD OF 'weighbridgelaw19.ServiceTexts'. -/
def serviceTextsUptoCard : Claim7 := { stood := { row := serviceTextsUptoRow, standIns := [], harness := (true, "bf131e040e8c768afdbf3a64c37f0e1ccbc5d18e3347246b05f3cbfac7fc637f"), looks := true }, kinds := [], alts := [], laidByText := true, laidKinds := [.data, .data, .data, .data, .sentinel, .sentinel, .pinned], laidTests := true, laidLooks := .later }
def ServiceTextsUptoCardSaid : Prop := Claim7.holds Tryd.pinned (.plain (OpenSpec.upto serviceTextsSpec)) serviceTextsUptoCard

/-- THE SECOND FORM's CARD OF 'weighbridgelaw19.ServiceBack'. -/
def serviceBackUptoCard : Claim7 := { stood := { row := serviceBackUptoRow, standIns := [], harness := (true, "bf131e040e8c768afdbf3a64c37f0e1ccbc5d18e3347246b05f3cbfac7fc637f"), looks := true }, kinds := [], alts := [], laidByText := true, laidKinds := [.data, .data, .data, .data, .sentinel, .sentinel, .pinned], laidTests := true, laidLooks := .later }
def ServiceBackUptoCardSaid : Prop := Claim7.holds Tryd.pinned (.plain (OpenSpec.upto serviceBackSpec)) serviceBackUptoCard

/-- THE SECOND FORM's CARD OF 'weighbridgelaw19.ServiceRight'. -/
def serviceRightUptoCard : Claim7 := { stood := { row := serviceRightUptoRow, standIns := [], harness := (true, "bf131e040e8c768afdbf3a64c37f0e1ccbc5d18e3347246b05f3cbfac7fc637f"), looks := true }, kinds := [], alts := [], laidByText := true, laidKinds := [.data, .data, .data, .data, .sentinel, .sentinel, .pinned], laidTests := true, laidLooks := .later }
def ServiceRightUptoCardSaid : Prop := Claim7.holds Tryd.pinned (.plain (OpenSpec.upto serviceRightSpec)) serviceRightUptoCard

/-- THE SECOND FORM's CARD OF 'weighbridgelaw19.ServiceLines'. -/
def serviceLinesUptoCard : Claim7 := { stood := { row := serviceLinesUptoRow, standIns := [], harness := (true, "bf131e040e8c768afdbf3a64c37f0e1ccbc5d18e3347246b05f3cbfac7fc637f"), looks := true }, kinds := [], alts := [], laidByText := true, laidKinds := [.data, .data, .data, .data, .sentinel, .sentinel, .pinned], laidTests := true, laidLooks := .later }
def ServiceLinesUptoCardSaid : Prop := Claim7.holds Tryd.pinned (.plain (OpenSpec.upto serviceLinesSpec)) serviceLinesUptoCard

/-- THE SECOND FORM's CARD OF 'weighbridgelaw19.ServiceFull'. -/
def serviceFullUptoCard : Claim7 := { stood := { row := serviceFullUptoRow, standIns := [], harness := (true, "bf131e040e8c768afdbf3a64c37f0e1ccbc5d18e3347246b05f3cbfac7fc637f"), looks := true }, kinds := [], alts := [], laidByText := true, laidKinds := [.data, .data, .data, .data, .sentinel, .sentinel, .pinned], laidTests := true, laidLooks := .later }
def ServiceFullUptoCardSaid : Prop := Claim7.holds Tryd.pinned (.plain (OpenSpec.upto serviceFullSpec)) serviceFullUptoCard

/-- THE SECOND FORM's CARD OF 'weighbridgelaw19.ServicePlays'. -/
def servicePlaysUptoCard : Claim7 := { stood := { row := servicePlaysUptoRow, standIns := [], harness := (true, "bf131e040e8c768afdbf3a64c37f0e1ccbc5d18e3347246b05f3cbfac7fc637f"), looks := true }, kinds := [], alts := [], laidByText := true, laidKinds := [.data, .data, .data, .data, .sentinel, .sentinel, .pinned], laidTests := true, laidLooks := .later }
def ServicePlaysUptoCardSaid : Prop := Claim7.holds Tryd.pinned (.plain (OpenSpec.upto servicePlaysSpec)) servicePlaysUptoCard
end Rows
end Go.Proofs.YtbahcpejippcjaaDoor
