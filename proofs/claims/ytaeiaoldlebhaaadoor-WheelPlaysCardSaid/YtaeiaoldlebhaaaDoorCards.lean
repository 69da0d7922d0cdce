/-
  DERIVED. GIVEN WITH THE SEED: THE CARDS: each row of YtaeiaoldlebhaaaDoorRows.lean that lists a variable, with what it lists TIED to the program's text (the seventh form; the later family's looks); each row that meets fmt, with fmt's text TOLD by the authors' own Lean function (tested against real Go, not proved from fmt's source: count such statements apart). THE CARD IS WHAT COUNTS. Prove the row's statement (the work); the ties are given (YtaeiaoldlebhaaaDoorTie.lean); close each card by the builder's one call (the guide's Derived/Test/ToyasCard.lean, 'card_holds'). Laid BY PROGRAM, IN A SANDBOX (cutbox-door.mjs). By AI agents, Wed Nov 11 2026. No macro, syntax, notation, axiom, sorry.
-/
import Derived.Test.YtaeiaoldlebhaaaDoorRows
import GoSem.ClaimSeven
namespace Go.Proofs.YtaeiaoldlebhaaaDoor
namespace Rows

/-- THE TIED CARD OF 'weighbridgelaw16.WheelOnce'. -/
def wheelOnceCard : Claim7 := { stood := { row := wheelOnceRow, standIns := [], harness := (true, "8ac9f09f568cd1c603806b517078e56abe5f78de59415ff833cd8079cce657e3"), looks := false }, kinds := [], alts := [], laidByText := true, laidKinds := [.data], laidTests := true, laidLooks := .later }
def WheelOnceCardSaid : Prop := Claim7.holds Tryd.pinned (.plain (OpenSpec.ofChange wheelOnceSpec)) wheelOnceCard

/-- THE TIED CARD OF 'weighbridgelaw16.WheelParts'. -/
def wheelPartsCard : Claim7 := { stood := { row := wheelPartsRow, standIns := [], harness := (true, "8ac9f09f568cd1c603806b517078e56abe5f78de59415ff833cd8079cce657e3"), looks := false }, kinds := [], alts := [], laidByText := true, laidKinds := [.data], laidTests := true, laidLooks := .later }
def WheelPartsCardSaid : Prop := Claim7.holds Tryd.pinned (.plain (OpenSpec.ofChange wheelPartsSpec)) wheelPartsCard

/-- THE TIED CARD OF 'weighbridgelaw16.WheelAnew'. -/
def wheelAnewCard : Claim7 := { stood := { row := wheelAnewRow, standIns := [], harness := (true, "8ac9f09f568cd1c603806b517078e56abe5f78de59415ff833cd8079cce657e3"), looks := false }, kinds := [], alts := [], laidByText := true, laidKinds := [.data], laidTests := true, laidLooks := .later }
def WheelAnewCardSaid : Prop := Claim7.holds Tryd.pinned (.plain (OpenSpec.ofChange wheelAnewSpec)) wheelAnewCard

/-- THE TIED CARD OF 'weighbridgelaw16.WheelRefuses'. -/
def wheelRefusesCard : Claim7 := { stood := { row := wheelRefusesRow, standIns := [], harness := (true, "8ac9f09f568cd1c603806b517078e56abe5f78de59415ff833cd8079cce657e3"), looks := false }, kinds := [], alts := [], laidByText := true, laidKinds := [.data], laidTests := true, laidLooks := .later }
def WheelRefusesCardSaid : Prop := Claim7.holds Tryd.pinned (.plain (OpenSpec.ofChange wheelRefusesSpec)) wheelRefusesCard

/-- THE TIED CARD OF 'weighbridgelaw16.WheelPlays'. -/
def wheelPlaysCard : Claim7 := { stood := { row := wheelPlaysRow, standIns := [], harness := (true, "8ac9f09f568cd1c603806b517078e56abe5f78de59415ff833cd8079cce657e3"), looks := false }, kinds := [], alts := [], laidByText := true, laidKinds := [.data], laidTests := true, laidLooks := .later }
def WheelPlaysCardSaid : Prop := Claim7.holds Tryd.pinned (.plain (OpenSpec.ofChange wheelPlaysSpec)) wheelPlaysCard

/-- THE TIED CARD OF 'weighbridgelaw16.WheelLeaves'. -/
def wheelLeavesCard : Claim7 := { stood := { row := wheelLeavesRow, standIns := [], harness := (true, "8ac9f09f568cd1c603806b517078e56abe5f78de59415ff833cd8079cce657e3"), looks := false }, kinds := [], alts := [], laidByText := true, laidKinds := [.data], laidTests := true, laidLooks := .later }
def WheelLeavesCardSaid : Prop := Claim7.holds Tryd.pinned (.plain (OpenSpec.ofChange wheelLeavesSpec)) wheelLeavesCard

/-- THE TIED CARD OF 'weighbridgelaw20.FlowFull'. -/
def flowFullCard : Claim7 := { stood := { row := flowFullRow, standIns := [], harness := (true, "8ac9f09f568cd1c603806b517078e56abe5f78de59415ff833cd8079cce657e3"), looks := false }, kinds := [], alts := [], laidByText := true, laidKinds := [.data], laidTests := true, laidLooks := .later }
def FlowFullCardSaid : Prop := Claim7.holds Tryd.pinned (.plain (OpenSpec.ofChange flowFullSpec)) flowFullCard

/-- THE TIED CARD OF 'weighbridgelaw20.FlowTimes'. -/
def flowTimesCard : Claim7 := { stood := { row := flowTimesRow, standIns := [], harness := (true, "8ac9f09f568cd1c603806b517078e56abe5f78de59415ff833cd8079cce657e3"), looks := false }, kinds := [], alts := [], laidByText := true, laidKinds := [.data], laidTests := true, laidLooks := .later }
def FlowTimesCardSaid : Prop := Claim7.holds Tryd.pinned (.plain (OpenSpec.ofChange flowTimesSpec)) flowTimesCard

/-- THE TIED CARD OF 'weighbridgelaw20.FlowStates'. -/
def flowStatesCard : Claim7 := { stood := { row := flowStatesRow, standIns := [], harness := (true, "8ac9f09f568cd1c603806b517078e56abe5f78de59415ff833cd8079cce657e3"), looks := false }, kinds := [], alts := [], laidByText := true, laidKinds := [.data], laidTests := true, laidLooks := .later }
def FlowStatesCardSaid : Prop := Claim7.holds Tryd.pinned (.plain (OpenSpec.ofChange flowStatesSpec)) flowStatesCard

/-- THE TIED CARD OF 'weighbridgelaw20.FlowNames'. -/
def flowNamesCard : Claim7 := { stood := { row := flowNamesRow, standIns := [], harness := (true, "8ac9f09f568cd1c603806b517078e56abe5f78de59415ff833cd8079cce657e3"), looks := false }, kinds := [], alts := [], laidByText := true, laidKinds := [.data], laidTests := true, laidLooks := .later }
def FlowNamesCardSaid : Prop := Claim7.holds Tryd.pinned (.plain (OpenSpec.ofChange flowNamesSpec)) flowNamesCard

/-- THE TIED CARD OF 'weighbridgelaw20.FlowRests'. -/
def flowRestsCard : Claim7 := { stood := { row := flowRestsRow, standIns := [], harness := (true, "8ac9f09f568cd1c603806b517078e56abe5f78de59415ff833cd8079cce657e3"), looks := false }, kinds := [], alts := [], laidByText := true, laidKinds := [.data], laidTests := true, laidLooks := .later }
def FlowRestsCardSaid : Prop := Claim7.holds Tryd.pinned (.plain (OpenSpec.ofChange flowRestsSpec)) flowRestsCard

/-- THE TIED CARD OF 'weighbridgelaw20.FlowKills'. -/
def flowKillsCard : Claim7 := { stood := { row := flowKillsRow, standIns := [], harness := (true, "8ac9f09f568cd1c603806b517078e56abe5f78de59415ff833cd8079cce657e3"), looks := false }, kinds := [], alts := [], laidByText := true, laidKinds := [.data], laidTests := true, laidLooks := .later }
def FlowKillsCardSaid : Prop := Claim7.holds Tryd.pinned (.plain (OpenSpec.ofChange flowKillsSpec)) flowKillsCard

/-- THE SECOND FORM's CARD OF 'weighbridgelaw16.WheelOnce'. -/
def wheelOnceUptoCard : Claim7 := { stood := { row := wheelOnceUptoRow, standIns := [], harness := (true, "8ac9f09f568cd1c603806b517078e56abe5f78de59415ff833cd8079cce657e3"), looks := false }, kinds := [], alts := [], laidByText := true, laidKinds := [.data], laidTests := true, laidLooks := .later }
def WheelOnceUptoCardSaid : Prop := Claim7.holds Tryd.pinned (.plain (OpenSpec.upto wheelOnceSpec)) wheelOnceUptoCard

/-- THE SECOND FORM's CARD OF 'weighbridgelaw16.WheelParts'. -/
def wheelPartsUptoCard : Claim7 := { stood := { row := wheelPartsUptoRow, standIns := [], harness := (true, "8ac9f09f568cd1c603806b517078e56abe5f78de59415ff833cd8079cce657e3"), looks := false }, kinds := [], alts := [], laidByText := true, laidKinds := [.data], laidTests := true, laidLooks := .later }
def WheelPartsUptoCardSaid : Prop := Claim7.holds Tryd.pinned (.plain (OpenSpec.upto wheelPartsSpec)) wheelPartsUptoCard

/-- THE SECOND FORM's CARD OF 'weighbridgelaw16.WheelAnew'. -/
def wheelAnewUptoCard : Claim7 := { stood := { row := wheelAnewUptoRow, standIns := [], harness := (true, "8ac9f09f568cd1c603806b517078e56abe5f78de59415ff833cd8079cce657e3"), looks := false }, kinds := [], alts := [], laidByText := true, laidKinds := [.data], laidTests := true, laidLooks := .later }
def WheelAnewUptoCardSaid : Prop := Claim7.holds Tryd.pinned (.plain (OpenSpec.upto wheelAnewSpec)) wheelAnewUptoCard

/-- THE SECOND FORM's CARD OF 'weighbridgelaw16.WheelRefuses'. -/
def wheelRefusesUptoCard : Claim7 := { stood := { row := wheelRefusesUptoRow, standIns := [], harness := (true, "8ac9f09f568cd1c603806b517078e56abe5f78de59415ff833cd8079cce657e3"), looks := false }, kinds := [], alts := [], laidByText := true, laidKinds := [.data], laidTests := true, laidLooks := .later }
def WheelRefusesUptoCardSaid : Prop := Claim7.holds Tryd.pinned (.plain (OpenSpec.upto wheelRefusesSpec)) wheelRefusesUptoCard

/-- THE SECOND FORM's CARD OF 'weighbridgelaw16.WheelPlays'. -/
def wheelPlaysUptoCard : Claim7 := { stood := { row := wheelPlaysUptoRow, standIns := [], harness := (true, "8ac9f09f568cd1c603806b517078e56abe5f78de59415ff833cd8079cce657e3"), looks := false }, kinds := [], alts := [], laidByText := true, laidKinds := [.data], laidTests := true, laidLooks := .later }
def WheelPlaysUptoCardSaid : Prop := Claim7.holds Tryd.pinned (.plain (OpenSpec.upto wheelPlaysSpec)) wheelPlaysUptoCard

/-- THE SECOND FORM's CARD OF 'weighbridgelaw16.WheelLeaves'. -/
def wheelLeavesUptoCard : Claim7 := { stood := { row := wheelLeavesUptoRow, standIns := [], harness := (true, "8ac9f09f568cd1c603806b517078e56abe5f78de59415ff833cd8079cce657e3"), looks := false }, kinds := [], alts := [], laidByText := true, laidKinds := [.data], laidTests := true, laidLooks := .later }
def WheelLeavesUptoCardSaid : Prop := Claim7.holds Tryd.pinned (.plain (OpenSpec.upto wheelLeavesSpec)) wheelLeavesUptoCard

/-- THE SECOND FORM's CARD OF 'weighbridgelaw20.FlowFull'. -/
def flowFullUptoCard : Claim7 := { stood := { row := flowFullUptoRow, standIns := [], harness := (true, "8ac9f09f568cd1c603806b517078e56abe5f78de59415ff833cd8079cce657e3"), looks := false }, kinds := [], alts := [], laidByText := true, laidKinds := [.data], laidTests := true, laidLooks := .later }
def FlowFullUptoCardSaid : Prop := Claim7.holds Tryd.pinned (.plain (OpenSpec.upto flowFullSpec)) flowFullUptoCard

/-- THE SECOND FORM's CARD OF 'weighbridgelaw20.FlowTimes'. -/
def flowTimesUptoCard : Claim7 := { stood := { row := flowTimesUptoRow, standIns := [], harness := (true, "8ac9f09f568cd1c603806b517078e56abe5f78de59415ff833cd8079cce657e3"), looks := false }, kinds := [], alts := [], laidByText := true, laidKinds := [.data], laidTests := true, laidLooks := .later }
def FlowTimesUptoCardSaid : Prop := Claim7.holds Tryd.pinned (.plain (OpenSpec.upto flowTimesSpec)) flowTimesUptoCard

/-- THE SECOND FORM's CARD OF 'weighbridgelaw20.FlowStates'. -/
def flowStatesUptoCard : Claim7 := { stood := { row := flowStatesUptoRow, standIns := [], harness := (true, "8ac9f09f568cd1c603806b517078e56abe5f78de59415ff833cd8079cce657e3"), looks := false }, kinds := [], alts := [], laidByText := true, laidKinds := [.data], laidTests := true, laidLooks := .later }
def FlowStatesUptoCardSaid : Prop := Claim7.holds Tryd.pinned (.plain (OpenSpec.upto flowStatesSpec)) flowStatesUptoCard

/-- THE SECOND FORM's CARD OF 'weighbridgelaw20.FlowNames'. -/
def flowNamesUptoCard : Claim7 := { stood := { row := flowNamesUptoRow, standIns := [], harness := (true, "8ac9f09f568cd1c603806b517078e56abe5f78de59415ff833cd8079cce657e3"), looks := false }, kinds := [], alts := [], laidByText := true, laidKinds := [.data], laidTests := true, laidLooks := .later }
def FlowNamesUptoCardSaid : Prop := Claim7.holds Tryd.pinned (.plain (OpenSpec.upto flowNamesSpec)) flowNamesUptoCard

/-- THE SECOND FORM's CARD OF 'weighbridgelaw20.FlowRests'. -/
def flowRestsUptoCard : Claim7 := { stood := { row := flowRestsUptoRow, standIns := [], harness := (true, "8ac9f09f568cd1c603806b517078e56abe5f78de59415ff833cd8079cce657e3"), looks := false }, kinds := [], alts := [], laidByText := true, laidKinds := [.data], laidTests := true, laidLooks := .later }
def FlowRestsUptoCardSaid : Prop := Claim7.holds Tryd.pinned (.plain (OpenSpec.upto flowRestsSpec)) flowRestsUptoCard

/-- THE SECOND FORM's CARD OF 'weighbridgelaw20.FlowKills'. -/
def flowKillsUptoCard : Claim7 := { stood := { row := flowKillsUptoRow, standIns := [], harness := (true, "8ac9f09f568cd1c603806b517078e56abe5f78de59415ff833cd8079cce657e3"), looks := false }, kinds := [], alts := [], laidByText := true, laidKinds := [.data], laidTests := true, laidLooks := .later }
def FlowKillsUptoCardSaid : Prop := Claim7.holds Tryd.pinned (.plain (OpenSpec.upto flowKillsSpec)) flowKillsUptoCard
end Rows
end Go.Proofs.YtaeiaoldlebhaaaDoor
