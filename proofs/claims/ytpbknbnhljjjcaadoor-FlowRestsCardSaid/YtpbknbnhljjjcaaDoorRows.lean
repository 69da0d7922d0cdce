/-
  NARROWER THAN 'FOR EVERY INPUT', by the rows' own cells (each row's printed sentence says how): FlowMakes: laid · FlowFull: laid · FlowTimes: laid · FlowStates: laid · FlowNames: laid · FlowRests: laid · FlowKills: laid · FlowApart: laid.
  DERIVED. THE GIVEN ROWS OF THIS SEAT. 8 by the template 'for every input the law returns true; each argument reads behind the call as it read before'; 0 by the template 'total and deterministic' (their statements: YtpbknbnhljjjcaaDoorTotals.lean).
  GIVEN WITH THE SEED: the statements are not yours to turn. If you find one false, say at which input.
  Laid BY PROGRAM, IN A SANDBOX (cutbox-rows.mjs): the forced cells as the released guide's own fill.sh prints them over the translation 7f7b7f23bba7b401… (all of the seat's roots in one cut). By AI agents, Wed Nov 11 2026. No macro, syntax, notation, axiom, sorry.
-/
import Derived.Test.YtpbknbnhljjjcaaDoorChecked
import GoSem.Claim
import GoSem.ClaimJoined
import GoSem.ClaimMapViews
import Derived.JoinedTies
import Derived.KernelRfl
namespace Go.Proofs.YtpbknbnhljjjcaaDoor
/- THE CELL 'sum', in the pinned program and in every row, IS THE sha256 OF THE DUMP (.gsa) THAT YtpbknbnhljjjcaaDoorProg.lean LOADS. Nothing in Lean hashes anything: it is a label: what it is worth is what the hold of that sum in a sandbox is worth. -/
noncomputable def Tryd.pinned : Pinned := { name := "ytpbknbnhljjjcaadoor", sum := "7f7b7f23bba7b40156abe567f1a2fda7c432f762f8fec89a4b0432271b155366", checked := Tryd.checked }
namespace Rows
def none {H : Type} : Left H := { results := [], args := [] }

/- WHAT THE LISTED PACKAGE-LEVEL VARIABLES READ AS WHEN THE CALL BEGINS. Each datum BY PROGRAM (the guide's laid-datum.mjs) off the statement by which the dump's own 'gosem.cut.vars' lays the variable. In a bare row this is a premise. The card (YtpbknbnhljjjcaaDoorCards.lean) ties it to the program's text. -/
def laid_math_bits_deBruijn64tab {H : Type} : DataW H := .agg [.lit (.int .u8 0), .lit (.int .u8 1), .lit (.int .u8 56), .lit (.int .u8 2), .lit (.int .u8 57), .lit (.int .u8 49), .lit (.int .u8 28), .lit (.int .u8 3), .lit (.int .u8 61), .lit (.int .u8 58), .lit (.int .u8 42), .lit (.int .u8 50), .lit (.int .u8 38), .lit (.int .u8 29), .lit (.int .u8 17), .lit (.int .u8 4), .lit (.int .u8 62), .lit (.int .u8 47), .lit (.int .u8 59), .lit (.int .u8 36), .lit (.int .u8 45), .lit (.int .u8 43), .lit (.int .u8 51), .lit (.int .u8 22), .lit (.int .u8 53), .lit (.int .u8 39), .lit (.int .u8 33), .lit (.int .u8 30), .lit (.int .u8 24), .lit (.int .u8 18), .lit (.int .u8 12), .lit (.int .u8 5), .lit (.int .u8 63), .lit (.int .u8 55), .lit (.int .u8 48), .lit (.int .u8 27), .lit (.int .u8 60), .lit (.int .u8 41), .lit (.int .u8 37), .lit (.int .u8 16), .lit (.int .u8 46), .lit (.int .u8 35), .lit (.int .u8 44), .lit (.int .u8 21), .lit (.int .u8 52), .lit (.int .u8 32), .lit (.int .u8 23), .lit (.int .u8 11), .lit (.int .u8 54), .lit (.int .u8 26), .lit (.int .u8 40), .lit (.int .u8 15), .lit (.int .u8 34), .lit (.int .u8 20), .lit (.int .u8 31), .lit (.int .u8 10), .lit (.int .u8 25), .lit (.int .u8 14), .lit (.int .u8 19), .lit (.int .u8 9), .lit (.int .u8 13), .lit (.int .u8 8), .lit (.int .u8 7), .lit (.int .u8 6)]

/-- 'weighbridgelaw20.FlowMakes': WHATEVER THE INPUT: true; the input reads as it did. -/
def flowMakesSpec : ChangeSpec := { name := "flowMakes", fn := fun _ => fun
  | [d] => { results := [.lit (.bool true)], args := [d] }
  | _ => none }
def flowMakesRow : OpenClaim := { program := "ytpbknbnhljjjcaadoor", sum := "7f7b7f23bba7b40156abe567f1a2fda7c432f762f8fec89a4b0432271b155366", func := "weighbridge/weighbridgelaw20.FlowMakes", spec := "flowMakes", unfollowed := true, recurses := true, named := ["math/bits.deBruijn64tab"], plainKeys := false, apart := false, laid := [("math/bits.deBruijn64tab", laid_math_bits_deBruijn64tab)] }
def FlowMakesSaid : Prop := flowMakesRow.holds Tryd.pinned (OpenSpec.ofChange flowMakesSpec)

/-- ITS FALSE NEIGHBOUR: 'it returns false'. Refute it at one input. -/
def flowMakesWrong : ChangeSpec := { name := "flowMakes", fn := fun _ => fun
  | [d] => { results := [.lit (.bool false)], args := [d] }
  | _ => none }
def FlowMakesWrongFalsely : Prop := flowMakesRow.holds Tryd.pinned (OpenSpec.ofChange flowMakesWrong)

/-- 'weighbridgelaw20.FlowFull': WHATEVER THE INPUT: true; the input reads as it did. -/
def flowFullSpec : ChangeSpec := { name := "flowFull", fn := fun _ => fun
  | [d1, d2] => { results := [.lit (.bool true)], args := [d1, d2] }
  | _ => none }
def flowFullRow : OpenClaim := { program := "ytpbknbnhljjjcaadoor", sum := "7f7b7f23bba7b40156abe567f1a2fda7c432f762f8fec89a4b0432271b155366", func := "weighbridge/weighbridgelaw20.FlowFull", spec := "flowFull", unfollowed := true, recurses := true, named := ["math/bits.deBruijn64tab"], plainKeys := false, apart := false, laid := [("math/bits.deBruijn64tab", laid_math_bits_deBruijn64tab)] }
def FlowFullSaid : Prop := flowFullRow.holds Tryd.pinned (OpenSpec.ofChange flowFullSpec)

/-- ITS FALSE NEIGHBOUR: 'it returns false'. Refute it at one input. -/
def flowFullWrong : ChangeSpec := { name := "flowFull", fn := fun _ => fun
  | [d1, d2] => { results := [.lit (.bool false)], args := [d1, d2] }
  | _ => none }
def FlowFullWrongFalsely : Prop := flowFullRow.holds Tryd.pinned (OpenSpec.ofChange flowFullWrong)

/-- 'weighbridgelaw20.FlowTimes': WHATEVER THE INPUT: true; the input reads as it did. -/
def flowTimesSpec : ChangeSpec := { name := "flowTimes", fn := fun _ => fun
  | [d1, d2] => { results := [.lit (.bool true)], args := [d1, d2] }
  | _ => none }
def flowTimesRow : OpenClaim := { program := "ytpbknbnhljjjcaadoor", sum := "7f7b7f23bba7b40156abe567f1a2fda7c432f762f8fec89a4b0432271b155366", func := "weighbridge/weighbridgelaw20.FlowTimes", spec := "flowTimes", unfollowed := true, recurses := true, named := ["math/bits.deBruijn64tab"], plainKeys := false, apart := false, laid := [("math/bits.deBruijn64tab", laid_math_bits_deBruijn64tab)] }
def FlowTimesSaid : Prop := flowTimesRow.holds Tryd.pinned (OpenSpec.ofChange flowTimesSpec)

/-- ITS FALSE NEIGHBOUR: 'it returns false'. Refute it at one input. -/
def flowTimesWrong : ChangeSpec := { name := "flowTimes", fn := fun _ => fun
  | [d1, d2] => { results := [.lit (.bool false)], args := [d1, d2] }
  | _ => none }
def FlowTimesWrongFalsely : Prop := flowTimesRow.holds Tryd.pinned (OpenSpec.ofChange flowTimesWrong)

/-- 'weighbridgelaw20.FlowStates': WHATEVER THE INPUT: true; the input reads as it did. -/
def flowStatesSpec : ChangeSpec := { name := "flowStates", fn := fun _ => fun
  | [d1, d2] => { results := [.lit (.bool true)], args := [d1, d2] }
  | _ => none }
def flowStatesRow : OpenClaim := { program := "ytpbknbnhljjjcaadoor", sum := "7f7b7f23bba7b40156abe567f1a2fda7c432f762f8fec89a4b0432271b155366", func := "weighbridge/weighbridgelaw20.FlowStates", spec := "flowStates", unfollowed := true, recurses := true, named := ["math/bits.deBruijn64tab"], plainKeys := false, apart := false, laid := [("math/bits.deBruijn64tab", laid_math_bits_deBruijn64tab)] }
def FlowStatesSaid : Prop := flowStatesRow.holds Tryd.pinned (OpenSpec.ofChange flowStatesSpec)

/-- ITS FALSE NEIGHBOUR: 'it returns false'. Refute it at one input. -/
def flowStatesWrong : ChangeSpec := { name := "flowStates", fn := fun _ => fun
  | [d1, d2] => { results := [.lit (.bool false)], args := [d1, d2] }
  | _ => none }
def FlowStatesWrongFalsely : Prop := flowStatesRow.holds Tryd.pinned (OpenSpec.ofChange flowStatesWrong)

/-- 'weighbridgelaw20.FlowNames': WHATEVER THE INPUT: true; the input reads as it did. -/
def flowNamesSpec : ChangeSpec := { name := "flowNames", fn := fun _ => fun
  | [d1, d2] => { results := [.lit (.bool true)], args := [d1, d2] }
  | _ => none }
def flowNamesRow : OpenClaim := { program := "ytpbknbnhljjjcaadoor", sum := "7f7b7f23bba7b40156abe567f1a2fda7c432f762f8fec89a4b0432271b155366", func := "weighbridge/weighbridgelaw20.FlowNames", spec := "flowNames", unfollowed := true, recurses := true, named := ["math/bits.deBruijn64tab"], plainKeys := false, apart := false, laid := [("math/bits.deBruijn64tab", laid_math_bits_deBruijn64tab)] }
def FlowNamesSaid : Prop := flowNamesRow.holds Tryd.pinned (OpenSpec.ofChange flowNamesSpec)

/-- ITS FALSE NEIGHBOUR: 'it returns false'. Refute it at one input. -/
def flowNamesWrong : ChangeSpec := { name := "flowNames", fn := fun _ => fun
  | [d1, d2] => { results := [.lit (.bool false)], args := [d1, d2] }
  | _ => none }
def FlowNamesWrongFalsely : Prop := flowNamesRow.holds Tryd.pinned (OpenSpec.ofChange flowNamesWrong)

/-- 'weighbridgelaw20.FlowRests': WHATEVER THE INPUT: true; the input reads as it did. -/
def flowRestsSpec : ChangeSpec := { name := "flowRests", fn := fun _ => fun
  | [d1, d2] => { results := [.lit (.bool true)], args := [d1, d2] }
  | _ => none }
def flowRestsRow : OpenClaim := { program := "ytpbknbnhljjjcaadoor", sum := "7f7b7f23bba7b40156abe567f1a2fda7c432f762f8fec89a4b0432271b155366", func := "weighbridge/weighbridgelaw20.FlowRests", spec := "flowRests", unfollowed := true, recurses := true, named := ["math/bits.deBruijn64tab"], plainKeys := false, apart := false, laid := [("math/bits.deBruijn64tab", laid_math_bits_deBruijn64tab)] }
def FlowRestsSaid : Prop := flowRestsRow.holds Tryd.pinned (OpenSpec.ofChange flowRestsSpec)

/-- ITS FALSE NEIGHBOUR: 'it returns false'. Refute it at one input. -/
def flowRestsWrong : ChangeSpec := { name := "flowRests", fn := fun _ => fun
  | [d1, d2] => { results := [.lit (.bool false)], args := [d1, d2] }
  | _ => none }
def FlowRestsWrongFalsely : Prop := flowRestsRow.holds Tryd.pinned (OpenSpec.ofChange flowRestsWrong)

/-- 'weighbridgelaw20.FlowKills': WHATEVER THE INPUT: true; the input reads as it did. -/
def flowKillsSpec : ChangeSpec := { name := "flowKills", fn := fun _ => fun
  | [d1, d2, d3] => { results := [.lit (.bool true)], args := [d1, d2, d3] }
  | _ => none }
def flowKillsRow : OpenClaim := { program := "ytpbknbnhljjjcaadoor", sum := "7f7b7f23bba7b40156abe567f1a2fda7c432f762f8fec89a4b0432271b155366", func := "weighbridge/weighbridgelaw20.FlowKills", spec := "flowKills", unfollowed := true, recurses := true, named := ["math/bits.deBruijn64tab"], plainKeys := false, apart := false, laid := [("math/bits.deBruijn64tab", laid_math_bits_deBruijn64tab)] }
def FlowKillsSaid : Prop := flowKillsRow.holds Tryd.pinned (OpenSpec.ofChange flowKillsSpec)

/-- ITS FALSE NEIGHBOUR: 'it returns false'. Refute it at one input. -/
def flowKillsWrong : ChangeSpec := { name := "flowKills", fn := fun _ => fun
  | [d1, d2, d3] => { results := [.lit (.bool false)], args := [d1, d2, d3] }
  | _ => none }
def FlowKillsWrongFalsely : Prop := flowKillsRow.holds Tryd.pinned (OpenSpec.ofChange flowKillsWrong)

/-- 'weighbridgelaw20.FlowApart': WHATEVER THE INPUT: true; the input reads as it did. -/
def flowApartSpec : ChangeSpec := { name := "flowApart", fn := fun _ => fun
  | [d1, d2] => { results := [.lit (.bool true)], args := [d1, d2] }
  | _ => none }
def flowApartRow : OpenClaim := { program := "ytpbknbnhljjjcaadoor", sum := "7f7b7f23bba7b40156abe567f1a2fda7c432f762f8fec89a4b0432271b155366", func := "weighbridge/weighbridgelaw20.FlowApart", spec := "flowApart", unfollowed := true, recurses := true, named := ["math/bits.deBruijn64tab"], plainKeys := false, apart := false, laid := [("math/bits.deBruijn64tab", laid_math_bits_deBruijn64tab)] }
def FlowApartSaid : Prop := flowApartRow.holds Tryd.pinned (OpenSpec.ofChange flowApartSpec)

/-- ITS FALSE NEIGHBOUR: 'it returns false'. Refute it at one input. -/
def flowApartWrong : ChangeSpec := { name := "flowApart", fn := fun _ => fun
  | [d1, d2] => { results := [.lit (.bool false)], args := [d1, d2] }
  | _ => none }
def FlowApartWrongFalsely : Prop := flowApartRow.holds Tryd.pinned (OpenSpec.ofChange flowApartWrong)

/- THE SECOND FORM. 'bulk': how many values and letters a reading holds, each counted each time it is reached (what is shared counts as often as it is met; a slice's spare places count too). A statement '..UptoSaid' is the law's where the arguments, and the package variables that the reading takes, are together of bulk at most 1048576: NARROWER than '..Said'. Prove '..Said' where nothing that the law and all that it calls make is longer than what came in: it says more and counts as full. Else prove '..UptoSaid'. A law counts once. -/
mutual
def uptoBulk {H : Type} : DataW H → Nat
  | .lit (.string bytes) => bytes.length + 1
  | .lit _ => 1
  | .nil => 1
  | .ptr d => uptoBulk d + 1
  | .slice elems spare => uptoBulkAll elems + uptoBulkAll spare + 1
  | .agg parts => uptoBulkAll parts + 1
  | .iface _ d => uptoBulk d + 1
  | .map entries => uptoBulkEntries entries + 1
  | .held _ => 1
def uptoBulkAll {H : Type} : List (DataW H) → Nat
  | [] => 0
  | d :: r => uptoBulk d + uptoBulkAll r
def uptoBulkEntries {H : Type} : List (Lit × DataW H) → Nat
  | [] => 0
  | x :: r => uptoBulkEntry x + uptoBulkEntries r
def uptoBulkEntry {H : Type} : Lit × DataW H → Nat
  | (.string bytes, d) => bytes.length + uptoBulk d + 1
  | (_, d) => uptoBulk d + 1
 end
def uptoSmall : (H : Type) → List (DataW H) → Bool := fun _ ds => decide (uptoBulkAll ds ≤ 1048576)
def OpenSpec.upto (s : _root_.Go.ChangeSpec) : _root_.Go.OpenSpec := { _root_.Go.OpenSpec.ofChange s with cond := some uptoSmall }

/-- 'weighbridgelaw20.FlowMakes', WHERE WHAT IT READS IS OF BULK AT MOST 1048576: true; the input reads as it did. -/
def flowMakesUptoRow : OpenClaim := { program := "ytpbknbnhljjjcaadoor", sum := "7f7b7f23bba7b40156abe567f1a2fda7c432f762f8fec89a4b0432271b155366", func := "weighbridge/weighbridgelaw20.FlowMakes", spec := "flowMakes", unfollowed := true, recurses := true, named := ["math/bits.deBruijn64tab"], plainKeys := false, apart := false, laid := [("math/bits.deBruijn64tab", laid_math_bits_deBruijn64tab)], narrowed := true }
def FlowMakesUptoSaid : Prop := flowMakesUptoRow.holds Tryd.pinned (OpenSpec.upto flowMakesSpec)

/-- 'weighbridgelaw20.FlowFull', WHERE WHAT IT READS IS OF BULK AT MOST 1048576: true; the input reads as it did. -/
def flowFullUptoRow : OpenClaim := { program := "ytpbknbnhljjjcaadoor", sum := "7f7b7f23bba7b40156abe567f1a2fda7c432f762f8fec89a4b0432271b155366", func := "weighbridge/weighbridgelaw20.FlowFull", spec := "flowFull", unfollowed := true, recurses := true, named := ["math/bits.deBruijn64tab"], plainKeys := false, apart := false, laid := [("math/bits.deBruijn64tab", laid_math_bits_deBruijn64tab)], narrowed := true }
def FlowFullUptoSaid : Prop := flowFullUptoRow.holds Tryd.pinned (OpenSpec.upto flowFullSpec)

/-- 'weighbridgelaw20.FlowTimes', WHERE WHAT IT READS IS OF BULK AT MOST 1048576: true; the input reads as it did. -/
def flowTimesUptoRow : OpenClaim := { program := "ytpbknbnhljjjcaadoor", sum := "7f7b7f23bba7b40156abe567f1a2fda7c432f762f8fec89a4b0432271b155366", func := "weighbridge/weighbridgelaw20.FlowTimes", spec := "flowTimes", unfollowed := true, recurses := true, named := ["math/bits.deBruijn64tab"], plainKeys := false, apart := false, laid := [("math/bits.deBruijn64tab", laid_math_bits_deBruijn64tab)], narrowed := true }
def FlowTimesUptoSaid : Prop := flowTimesUptoRow.holds Tryd.pinned (OpenSpec.upto flowTimesSpec)

/-- 'weighbridgelaw20.FlowStates', WHERE WHAT IT READS IS OF BULK AT MOST 1048576: true; the input reads as it did. -/
def flowStatesUptoRow : OpenClaim := { program := "ytpbknbnhljjjcaadoor", sum := "7f7b7f23bba7b40156abe567f1a2fda7c432f762f8fec89a4b0432271b155366", func := "weighbridge/weighbridgelaw20.FlowStates", spec := "flowStates", unfollowed := true, recurses := true, named := ["math/bits.deBruijn64tab"], plainKeys := false, apart := false, laid := [("math/bits.deBruijn64tab", laid_math_bits_deBruijn64tab)], narrowed := true }
def FlowStatesUptoSaid : Prop := flowStatesUptoRow.holds Tryd.pinned (OpenSpec.upto flowStatesSpec)

/-- 'weighbridgelaw20.FlowNames', WHERE WHAT IT READS IS OF BULK AT MOST 1048576: true; the input reads as it did. -/
def flowNamesUptoRow : OpenClaim := { program := "ytpbknbnhljjjcaadoor", sum := "7f7b7f23bba7b40156abe567f1a2fda7c432f762f8fec89a4b0432271b155366", func := "weighbridge/weighbridgelaw20.FlowNames", spec := "flowNames", unfollowed := true, recurses := true, named := ["math/bits.deBruijn64tab"], plainKeys := false, apart := false, laid := [("math/bits.deBruijn64tab", laid_math_bits_deBruijn64tab)], narrowed := true }
def FlowNamesUptoSaid : Prop := flowNamesUptoRow.holds Tryd.pinned (OpenSpec.upto flowNamesSpec)

/-- 'weighbridgelaw20.FlowRests', WHERE WHAT IT READS IS OF BULK AT MOST 1048576: true; the input reads as it did. -/
def flowRestsUptoRow : OpenClaim := { program := "ytpbknbnhljjjcaadoor", sum := "7f7b7f23bba7b40156abe567f1a2fda7c432f762f8fec89a4b0432271b155366", func := "weighbridge/weighbridgelaw20.FlowRests", spec := "flowRests", unfollowed := true, recurses := true, named := ["math/bits.deBruijn64tab"], plainKeys := false, apart := false, laid := [("math/bits.deBruijn64tab", laid_math_bits_deBruijn64tab)], narrowed := true }
def FlowRestsUptoSaid : Prop := flowRestsUptoRow.holds Tryd.pinned (OpenSpec.upto flowRestsSpec)

/-- 'weighbridgelaw20.FlowKills', WHERE WHAT IT READS IS OF BULK AT MOST 1048576: true; the input reads as it did. -/
def flowKillsUptoRow : OpenClaim := { program := "ytpbknbnhljjjcaadoor", sum := "7f7b7f23bba7b40156abe567f1a2fda7c432f762f8fec89a4b0432271b155366", func := "weighbridge/weighbridgelaw20.FlowKills", spec := "flowKills", unfollowed := true, recurses := true, named := ["math/bits.deBruijn64tab"], plainKeys := false, apart := false, laid := [("math/bits.deBruijn64tab", laid_math_bits_deBruijn64tab)], narrowed := true }
def FlowKillsUptoSaid : Prop := flowKillsUptoRow.holds Tryd.pinned (OpenSpec.upto flowKillsSpec)

/-- 'weighbridgelaw20.FlowApart', WHERE WHAT IT READS IS OF BULK AT MOST 1048576: true; the input reads as it did. -/
def flowApartUptoRow : OpenClaim := { program := "ytpbknbnhljjjcaadoor", sum := "7f7b7f23bba7b40156abe567f1a2fda7c432f762f8fec89a4b0432271b155366", func := "weighbridge/weighbridgelaw20.FlowApart", spec := "flowApart", unfollowed := true, recurses := true, named := ["math/bits.deBruijn64tab"], plainKeys := false, apart := false, laid := [("math/bits.deBruijn64tab", laid_math_bits_deBruijn64tab)], narrowed := true }
def FlowApartUptoSaid : Prop := flowApartUptoRow.holds Tryd.pinned (OpenSpec.upto flowApartSpec)

end Rows
end Go.Proofs.YtpbknbnhljjjcaaDoor
