/-
  DERIVED. GIVEN WITH THE SEED: THE CARDS: each row of YtpbknbnhljjjcaaDoorRows.lean that lists a variable, with what it lists TIED to the program's text (the seventh form; the later family's looks); each row that meets fmt, with fmt's text TOLD by the authors' own Lean function (tested against real Go, not proved from fmt's source: count such statements apart). THE CARD IS WHAT COUNTS. Prove the row's statement (the work); the ties are given (YtpbknbnhljjjcaaDoorTie.lean); close each card by the builder's one call (the guide's Derived/Test/ToyasCard.lean, 'card_holds'). Laid BY PROGRAM, IN A SANDBOX (cutbox-door.mjs). By AI agents, Wed Nov 11 2026. No macro, syntax, notation, axiom, sorry.
-/
import Derived.Test.YtpbknbnhljjjcaaDoorRows
import GoSem.ClaimSeven
namespace Go.Proofs.YtpbknbnhljjjcaaDoor
namespace Rows

/-- THE TIED CARD OF 'weighbridgelaw20.FlowMakes'. -/
def flowMakesCard : Claim7 := { stood := { row := flowMakesRow, standIns := [], harness := (true, "7f52c03f1b20f830e3884465382770e343323ad34e023e4c8ba825a877caaa82"), looks := false }, kinds := [], alts := [], laidByText := true, laidKinds := [.data], laidTests := true, laidLooks := .later }
def FlowMakesCardSaid : Prop := Claim7.holds Tryd.pinned (.plain (OpenSpec.ofChange flowMakesSpec)) flowMakesCard

/-- THE TIED CARD OF 'weighbridgelaw20.FlowFull'. -/
def flowFullCard : Claim7 := { stood := { row := flowFullRow, standIns := [], harness := (true, "7f52c03f1b20f830e3884465382770e343323ad34e023e4c8ba825a877caaa82"), looks := false }, kinds := [], alts := [], laidByText := true, laidKinds := [.data], laidTests := true, laidLooks := .later }
def FlowFullCardSaid : Prop := Claim7.holds Tryd.pinned (.plain (OpenSpec.ofChange flowFullSpec)) flowFullCard

/-- THE TIED CARD OF 'weighbridgelaw20.FlowTimes'. -/
def flowTimesCard : Claim7 := { stood := { row := flowTimesRow, standIns := [], harness := (true, "7f52c03f1b20f830e3884465382770e343323ad34e023e4c8ba825a877caaa82"), looks := false }, kinds := [], alts := [], laidByText := true, laidKinds := [.data], laidTests := true, laidLooks := .later }
def FlowTimesCardSaid : Prop := Claim7.holds Tryd.pinned (.plain (OpenSpec.ofChange flowTimesSpec)) flowTimesCard

/-- THE TIED CARD OF 'weighbridgelaw20.FlowStates'. -/
def flowStatesCard : Claim7 := { stood := { row := flowStatesRow, standIns := [], harness := (true, "7f52c03f1b20f830e3884465382770e343323ad34e023e4c8ba825a877caaa82"), looks := false }, kinds := [], alts := [], laidByText := true, laidKinds := [.data], laidTests := true, laidLooks := .later }
def FlowStatesCardSaid : Prop := Claim7.holds Tryd.pinned (.plain (OpenSpec.ofChange flowStatesSpec)) flowStatesCard

/-- THE TIED CARD OF 'weighbridgelaw20.FlowNames'. -/
def flowNamesCard : Claim7 := { stood := { row := flowNamesRow, standIns := [], harness := (true, "7f52c03f1b20f830e3884465382770e343323ad34e023e4c8ba825a877caaa82"), looks := false }, kinds := [], alts := [], laidByText := true, laidKinds := [.data], laidTests := true, laidLooks := .later }
def FlowNamesCardSaid : Prop := Claim7.holds Tryd.pinned (.plain (OpenSpec.ofChange flowNamesSpec)) flowNamesCard

/-- THE TIED CARD OF 'weighbridgelaw20.FlowRests'. -/
def flowRestsCard : Claim7 := { stood := { row := flowRestsRow, standIns := [], harness := (true, "7f52c03f1b20f830e3884465382770e343323ad34e023e4c8ba825a877caaa82"), looks := false }, kinds := [], alts := [], laidByText := true, laidKinds := [.data], laidTests := true, laidLooks := .later }
def FlowRestsCardSaid : Prop := Claim7.holds Tryd.pinned (.plain (OpenSpec.ofChange flowRestsSpec)) flowRestsCard

/-- THE TIED CARD OF 'weighbridgelaw20.FlowKills'. -/
def flowKillsCard : Claim7 := { stood := { row := flowKillsRow, standIns := [], harness := (true, "7f52c03f1b20f830e3884465382770e343323ad34e023e4c8ba825a877caaa82"), looks := false }, kinds := [], alts := [], laidByText := true, laidKinds := [.data], laidTests := true, laidLooks := .later }
def FlowKillsCardSaid : Prop := Claim7.holds Tryd.pinned (.plain (OpenSpec.ofChange flowKillsSpec)) flowKillsCard

/-- THE TIED CARD OF 'weighbridgelaw20.FlowApart'. -/
def flowApartCard : Claim7 := { stood := { row := flowApartRow, standIns := [], harness := (true, "7f52c03f1b20f830e3884465382770e343323ad34e023e4c8ba825a877caaa82"), looks := false }, kinds := [], alts := [], laidByText := true, laidKinds := [.data], laidTests := true, laidLooks := .later }
def FlowApartCardSaid : Prop := Claim7.holds Tryd.pinned (.plain (OpenSpec.ofChange flowApartSpec)) flowApartCard

/-- THE SECOND FORM's CARD OF 'weighbridgelaw20.FlowMakes'. -/
def flowMakesUptoCard : Claim7 := { stood := { row := flowMakesUptoRow, standIns := [], harness := (true, "7f52c03f1b20f830e3884465382770e343323ad34e023e4c8ba825a877caaa82"), looks := false }, kinds := [], alts := [], laidByText := true, laidKinds := [.data], laidTests := true, laidLooks := .later }
def FlowMakesUptoCardSaid : Prop := Claim7.holds Tryd.pinned (.plain (OpenSpec.upto flowMakesSpec)) flowMakesUptoCard

/-- THE SECOND FORM's CARD OF 'weighbridgelaw20.FlowFull'. -/
def flowFullUptoCard : Claim7 := { stood := { row := flowFullUptoRow, standIns := [], harness := (true, "7f52c03f1b20f830e3884465382770e343323ad34e023e4c8ba825a877caaa82"), looks := false }, kinds := [], alts := [], laidByText := true, laidKinds := [.data], laidTests := true, laidLooks := .later }
def FlowFullUptoCardSaid : Prop := Claim7.holds Tryd.pinned (.plain (OpenSpec.upto flowFullSpec)) flowFullUptoCard

/-- THE SECOND FORM's CARD OF 'weighbridgelaw20.FlowTimes'. -/
def flowTimesUptoCard : Claim7 := { stood := { row := flowTimesUptoRow, standIns := [], harness := (true, "7f52c03f1b20f830e3884465382770e343323ad34e023e4c8ba825a877caaa82"), looks := false }, kinds := [], alts := [], laidByText := true, laidKinds := [.data], laidTests := true, laidLooks := .later }
def FlowTimesUptoCardSaid : Prop := Claim7.holds Tryd.pinned (.plain (OpenSpec.upto flowTimesSpec)) flowTimesUptoCard

/-- THE SECOND FORM's CARD OF 'weighbridgelaw20.FlowStates'. -/
def flowStatesUptoCard : Claim7 := { stood := { row := flowStatesUptoRow, standIns := [], harness := (true, "7f52c03f1b20f830e3884465382770e343323ad34e023e4c8ba825a877caaa82"), looks := false }, kinds := [], alts := [], laidByText := true, laidKinds := [.data], laidTests := true, laidLooks := .later }
def FlowStatesUptoCardSaid : Prop := Claim7.holds Tryd.pinned (.plain (OpenSpec.upto flowStatesSpec)) flowStatesUptoCard

/-- THE SECOND FORM's CARD OF 'weighbridgelaw20.FlowNames'. -/
def flowNamesUptoCard : Claim7 := { stood := { row := flowNamesUptoRow, standIns := [], harness := (true, "7f52c03f1b20f830e3884465382770e343323ad34e023e4c8ba825a877caaa82"), looks := false }, kinds := [], alts := [], laidByText := true, laidKinds := [.data], laidTests := true, laidLooks := .later }
def FlowNamesUptoCardSaid : Prop := Claim7.holds Tryd.pinned (.plain (OpenSpec.upto flowNamesSpec)) flowNamesUptoCard

/-- THE SECOND FORM's CARD OF 'weighbridgelaw20.FlowRests'. -/
def flowRestsUptoCard : Claim7 := { stood := { row := flowRestsUptoRow, standIns := [], harness := (true, "7f52c03f1b20f830e3884465382770e343323ad34e023e4c8ba825a877caaa82"), looks := false }, kinds := [], alts := [], laidByText := true, laidKinds := [.data], laidTests := true, laidLooks := .later }
def FlowRestsUptoCardSaid : Prop := Claim7.holds Tryd.pinned (.plain (OpenSpec.upto flowRestsSpec)) flowRestsUptoCard

/-- THE SECOND FORM's CARD OF 'weighbridgelaw20.FlowKills'. -/
def flowKillsUptoCard : Claim7 := { stood := { row := flowKillsUptoRow, standIns := [], harness := (true, "7f52c03f1b20f830e3884465382770e343323ad34e023e4c8ba825a877caaa82"), looks := false }, kinds := [], alts := [], laidByText := true, laidKinds := [.data], laidTests := true, laidLooks := .later }
def FlowKillsUptoCardSaid : Prop := Claim7.holds Tryd.pinned (.plain (OpenSpec.upto flowKillsSpec)) flowKillsUptoCard

/-- THE SECOND FORM's CARD OF 'weighbridgelaw20.FlowApart'. -/
def flowApartUptoCard : Claim7 := { stood := { row := flowApartUptoRow, standIns := [], harness := (true, "7f52c03f1b20f830e3884465382770e343323ad34e023e4c8ba825a877caaa82"), looks := false }, kinds := [], alts := [], laidByText := true, laidKinds := [.data], laidTests := true, laidLooks := .later }
def FlowApartUptoCardSaid : Prop := Claim7.holds Tryd.pinned (.plain (OpenSpec.upto flowApartSpec)) flowApartUptoCard
end Rows
end Go.Proofs.YtpbknbnhljjjcaaDoor
