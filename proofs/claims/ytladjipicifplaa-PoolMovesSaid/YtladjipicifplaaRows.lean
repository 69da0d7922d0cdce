/-
  No cell of these rows narrows 'for every input' (looked for: loops, veiled, ifaces, maps, wideKeys, modest, calm, conditions, laid).
  DERIVED. THE GIVEN ROWS OF THIS SEAT. 11 by the template 'for every input the law returns true; each argument reads behind the call as it read before'; 0 by the template 'total and deterministic' (their statements: YtladjipicifplaaTotals.lean).
  GIVEN WITH THE SEED: the statements are not yours to turn. If you find one false, say at which input.
  Laid BY PROGRAM, IN A SANDBOX (cutbox-rows.mjs): the forced cells as the released guide's own fill.sh prints them over the translation 4a431549131addf8… (all of the seat's roots in one cut). By AI agents, Wed Nov 11 2026. No macro, syntax, notation, axiom, sorry.
-/
import Derived.Test.YtladjipicifplaaChecked
import GoSem.Claim
import GoSem.ClaimJoined
import GoSem.ClaimMapViews
import Derived.JoinedTies
import Derived.KernelRfl
namespace Go.Proofs.Ytladjipicifplaa
/- THE CELL 'sum', in the pinned program and in every row, IS THE sha256 OF THE DUMP (.gsa) THAT YtladjipicifplaaProg.lean LOADS. Nothing in Lean hashes anything: it is a label: what it is worth is what the hold of that sum in a sandbox is worth. -/
noncomputable def Try.pinned : Pinned := { name := "ytladjipicifplaa", sum := "4a431549131addf81fffc20954ef68fe8158a1656a90aad85e73d6de186b8ac2", checked := Try.checked }
namespace Rows
def none {H : Type} : Left H := { results := [], args := [] }

/-- 'weighbridgelaw11.SipSame': WHATEVER THE INPUT: true; the input reads as it did. -/
def sipSameSpec : ChangeSpec := { name := "sipSame", fn := fun _ => fun
  | [d1, d2] => { results := [.lit (.bool true)], args := [d1, d2] }
  | _ => none }
def sipSameRow : OpenClaim := { program := "ytladjipicifplaa", sum := "4a431549131addf81fffc20954ef68fe8158a1656a90aad85e73d6de186b8ac2", func := "weighbridge/weighbridgelaw11.SipSame", spec := "sipSame", apart := false }
def SipSameSaid : Prop := sipSameRow.holds Try.pinned (OpenSpec.ofChange sipSameSpec)

/-- ITS FALSE NEIGHBOUR: 'it returns false'. Refute it at one input. -/
def sipSameWrong : ChangeSpec := { name := "sipSame", fn := fun _ => fun
  | [d1, d2] => { results := [.lit (.bool false)], args := [d1, d2] }
  | _ => none }
def SipSameWrongFalsely : Prop := sipSameRow.holds Try.pinned (OpenSpec.ofChange sipSameWrong)

/-- 'weighbridgelaw11.SipWords': WHATEVER THE INPUT: true; the input reads as it did. -/
def sipWordsSpec : ChangeSpec := { name := "sipWords", fn := fun _ => fun
  | [d1, d2] => { results := [.lit (.bool true)], args := [d1, d2] }
  | _ => none }
def sipWordsRow : OpenClaim := { program := "ytladjipicifplaa", sum := "4a431549131addf81fffc20954ef68fe8158a1656a90aad85e73d6de186b8ac2", func := "weighbridge/weighbridgelaw11.SipWords", spec := "sipWords", apart := false }
def SipWordsSaid : Prop := sipWordsRow.holds Try.pinned (OpenSpec.ofChange sipWordsSpec)

/-- ITS FALSE NEIGHBOUR: 'it returns false'. Refute it at one input. -/
def sipWordsWrong : ChangeSpec := { name := "sipWords", fn := fun _ => fun
  | [d1, d2] => { results := [.lit (.bool false)], args := [d1, d2] }
  | _ => none }
def SipWordsWrongFalsely : Prop := sipWordsRow.holds Try.pinned (OpenSpec.ofChange sipWordsWrong)

/-- 'weighbridgelaw11.SipKeys': WHATEVER THE INPUT: true; the input reads as it did. -/
def sipKeysSpec : ChangeSpec := { name := "sipKeys", fn := fun _ => fun
  | [d1, d2, d3] => { results := [.lit (.bool true)], args := [d1, d2, d3] }
  | _ => none }
def sipKeysRow : OpenClaim := { program := "ytladjipicifplaa", sum := "4a431549131addf81fffc20954ef68fe8158a1656a90aad85e73d6de186b8ac2", func := "weighbridge/weighbridgelaw11.SipKeys", spec := "sipKeys", apart := false }
def SipKeysSaid : Prop := sipKeysRow.holds Try.pinned (OpenSpec.ofChange sipKeysSpec)

/-- ITS FALSE NEIGHBOUR: 'it returns false'. Refute it at one input. -/
def sipKeysWrong : ChangeSpec := { name := "sipKeys", fn := fun _ => fun
  | [d1, d2, d3] => { results := [.lit (.bool false)], args := [d1, d2, d3] }
  | _ => none }
def SipKeysWrongFalsely : Prop := sipKeysRow.holds Try.pinned (OpenSpec.ofChange sipKeysWrong)

/-- 'weighbridgelaw11.SipHashes': WHATEVER THE INPUT: true; the input reads as it did. -/
def sipHashesSpec : ChangeSpec := { name := "sipHashes", fn := fun _ => fun
  | [d1, d2, d3, d4, d5] => { results := [.lit (.bool true)], args := [d1, d2, d3, d4, d5] }
  | _ => none }
def sipHashesRow : OpenClaim := { program := "ytladjipicifplaa", sum := "4a431549131addf81fffc20954ef68fe8158a1656a90aad85e73d6de186b8ac2", func := "weighbridge/weighbridgelaw11.SipHashes", spec := "sipHashes", apart := false }
def SipHashesSaid : Prop := sipHashesRow.holds Try.pinned (OpenSpec.ofChange sipHashesSpec)

/-- ITS FALSE NEIGHBOUR: 'it returns false'. Refute it at one input. -/
def sipHashesWrong : ChangeSpec := { name := "sipHashes", fn := fun _ => fun
  | [d1, d2, d3, d4, d5] => { results := [.lit (.bool false)], args := [d1, d2, d3, d4, d5] }
  | _ => none }
def SipHashesWrongFalsely : Prop := sipHashesRow.holds Try.pinned (OpenSpec.ofChange sipHashesWrong)

/-- 'weighbridgelaw11.SipMixes': WHATEVER THE INPUT: true; the input reads as it did. -/
def sipMixesSpec : ChangeSpec := { name := "sipMixes", fn := fun _ => fun
  | [d1, d2, d3, d4] => { results := [.lit (.bool true)], args := [d1, d2, d3, d4] }
  | _ => none }
def sipMixesRow : OpenClaim := { program := "ytladjipicifplaa", sum := "4a431549131addf81fffc20954ef68fe8158a1656a90aad85e73d6de186b8ac2", func := "weighbridge/weighbridgelaw11.SipMixes", spec := "sipMixes", apart := false }
def SipMixesSaid : Prop := sipMixesRow.holds Try.pinned (OpenSpec.ofChange sipMixesSpec)

/-- ITS FALSE NEIGHBOUR: 'it returns false'. Refute it at one input. -/
def sipMixesWrong : ChangeSpec := { name := "sipMixes", fn := fun _ => fun
  | [d1, d2, d3, d4] => { results := [.lit (.bool false)], args := [d1, d2, d3, d4] }
  | _ => none }
def SipMixesWrongFalsely : Prop := sipMixesRow.holds Try.pinned (OpenSpec.ofChange sipMixesWrong)

/-- 'weighbridgelaw12.AnchorPlays': WHATEVER THE INPUT: true; the input reads as it did. -/
def anchorPlaysSpec : ChangeSpec := { name := "anchorPlays", fn := fun _ => fun
  | [d1, d2, d3] => { results := [.lit (.bool true)], args := [d1, d2, d3] }
  | _ => none }
def anchorPlaysRow : OpenClaim := { program := "ytladjipicifplaa", sum := "4a431549131addf81fffc20954ef68fe8158a1656a90aad85e73d6de186b8ac2", func := "weighbridge/weighbridgelaw12.AnchorPlays", spec := "anchorPlays", unfollowed := true, recurses := true, apart := false }
def AnchorPlaysSaid : Prop := anchorPlaysRow.holds Try.pinned (OpenSpec.ofChange anchorPlaysSpec)

/-- ITS FALSE NEIGHBOUR: 'it returns false'. Refute it at one input. -/
def anchorPlaysWrong : ChangeSpec := { name := "anchorPlays", fn := fun _ => fun
  | [d1, d2, d3] => { results := [.lit (.bool false)], args := [d1, d2, d3] }
  | _ => none }
def AnchorPlaysWrongFalsely : Prop := anchorPlaysRow.holds Try.pinned (OpenSpec.ofChange anchorPlaysWrong)

/-- 'weighbridgelaw12.AnchorMoves': WHATEVER THE INPUT: true; the input reads as it did. -/
def anchorMovesSpec : ChangeSpec := { name := "anchorMoves", fn := fun _ => fun
  | [d1, d2, d3, d4] => { results := [.lit (.bool true)], args := [d1, d2, d3, d4] }
  | _ => none }
def anchorMovesRow : OpenClaim := { program := "ytladjipicifplaa", sum := "4a431549131addf81fffc20954ef68fe8158a1656a90aad85e73d6de186b8ac2", func := "weighbridge/weighbridgelaw12.AnchorMoves", spec := "anchorMoves", unfollowed := true, recurses := true, apart := false }
def AnchorMovesSaid : Prop := anchorMovesRow.holds Try.pinned (OpenSpec.ofChange anchorMovesSpec)

/-- ITS FALSE NEIGHBOUR: 'it returns false'. Refute it at one input. -/
def anchorMovesWrong : ChangeSpec := { name := "anchorMoves", fn := fun _ => fun
  | [d1, d2, d3, d4] => { results := [.lit (.bool false)], args := [d1, d2, d3, d4] }
  | _ => none }
def AnchorMovesWrongFalsely : Prop := anchorMovesRow.holds Try.pinned (OpenSpec.ofChange anchorMovesWrong)

/-- 'weighbridgelaw12.AnchorCounts': WHATEVER THE INPUT: true; the input reads as it did. -/
def anchorCountsSpec : ChangeSpec := { name := "anchorCounts", fn := fun _ => fun
  | [d1, d2] => { results := [.lit (.bool true)], args := [d1, d2] }
  | _ => none }
def anchorCountsRow : OpenClaim := { program := "ytladjipicifplaa", sum := "4a431549131addf81fffc20954ef68fe8158a1656a90aad85e73d6de186b8ac2", func := "weighbridge/weighbridgelaw12.AnchorCounts", spec := "anchorCounts", unfollowed := true, recurses := true, apart := false }
def AnchorCountsSaid : Prop := anchorCountsRow.holds Try.pinned (OpenSpec.ofChange anchorCountsSpec)

/-- ITS FALSE NEIGHBOUR: 'it returns false'. Refute it at one input. -/
def anchorCountsWrong : ChangeSpec := { name := "anchorCounts", fn := fun _ => fun
  | [d1, d2] => { results := [.lit (.bool false)], args := [d1, d2] }
  | _ => none }
def AnchorCountsWrongFalsely : Prop := anchorCountsRow.holds Try.pinned (OpenSpec.ofChange anchorCountsWrong)

/-- 'weighbridgelaw12.AnchorRooms': WHATEVER THE INPUT: true; the input reads as it did. -/
def anchorRoomsSpec : ChangeSpec := { name := "anchorRooms", fn := fun _ => fun
  | [d1, d2, d3] => { results := [.lit (.bool true)], args := [d1, d2, d3] }
  | _ => none }
def anchorRoomsRow : OpenClaim := { program := "ytladjipicifplaa", sum := "4a431549131addf81fffc20954ef68fe8158a1656a90aad85e73d6de186b8ac2", func := "weighbridge/weighbridgelaw12.AnchorRooms", spec := "anchorRooms", unfollowed := true, recurses := true, apart := false }
def AnchorRoomsSaid : Prop := anchorRoomsRow.holds Try.pinned (OpenSpec.ofChange anchorRoomsSpec)

/-- ITS FALSE NEIGHBOUR: 'it returns false'. Refute it at one input. -/
def anchorRoomsWrong : ChangeSpec := { name := "anchorRooms", fn := fun _ => fun
  | [d1, d2, d3] => { results := [.lit (.bool false)], args := [d1, d2, d3] }
  | _ => none }
def AnchorRoomsWrongFalsely : Prop := anchorRoomsRow.holds Try.pinned (OpenSpec.ofChange anchorRoomsWrong)

/-- 'weighbridgelaw13.PoolSame': WHATEVER THE INPUT: true; the input reads as it did. -/
def poolSameSpec : ChangeSpec := { name := "poolSame", fn := fun _ => fun
  | [d1, d2, d3, d4] => { results := [.lit (.bool true)], args := [d1, d2, d3, d4] }
  | _ => none }
def poolSameRow : OpenClaim := { program := "ytladjipicifplaa", sum := "4a431549131addf81fffc20954ef68fe8158a1656a90aad85e73d6de186b8ac2", func := "weighbridge/weighbridgelaw13.PoolSame", spec := "poolSame", unfollowed := true, recurses := true, apart := false }
def PoolSameSaid : Prop := poolSameRow.holds Try.pinned (OpenSpec.ofChange poolSameSpec)

/-- ITS FALSE NEIGHBOUR: 'it returns false'. Refute it at one input. -/
def poolSameWrong : ChangeSpec := { name := "poolSame", fn := fun _ => fun
  | [d1, d2, d3, d4] => { results := [.lit (.bool false)], args := [d1, d2, d3, d4] }
  | _ => none }
def PoolSameWrongFalsely : Prop := poolSameRow.holds Try.pinned (OpenSpec.ofChange poolSameWrong)

/-- 'weighbridgelaw13.PoolMoves': WHATEVER THE INPUT: true; the input reads as it did. -/
def poolMovesSpec : ChangeSpec := { name := "poolMoves", fn := fun _ => fun
  | [d1, d2, d3] => { results := [.lit (.bool true)], args := [d1, d2, d3] }
  | _ => none }
def poolMovesRow : OpenClaim := { program := "ytladjipicifplaa", sum := "4a431549131addf81fffc20954ef68fe8158a1656a90aad85e73d6de186b8ac2", func := "weighbridge/weighbridgelaw13.PoolMoves", spec := "poolMoves", unfollowed := true, recurses := true, apart := false }
def PoolMovesSaid : Prop := poolMovesRow.holds Try.pinned (OpenSpec.ofChange poolMovesSpec)

/-- ITS FALSE NEIGHBOUR: 'it returns false'. Refute it at one input. -/
def poolMovesWrong : ChangeSpec := { name := "poolMoves", fn := fun _ => fun
  | [d1, d2, d3] => { results := [.lit (.bool false)], args := [d1, d2, d3] }
  | _ => none }
def PoolMovesWrongFalsely : Prop := poolMovesRow.holds Try.pinned (OpenSpec.ofChange poolMovesWrong)

/- THE SECOND FORM. 'bulk': how many values and letters a reading holds, each counted each time it is reached (what is shared counts as often as it is met; a slice's spare places count too). A statement '..UptoSaid' is the law's where the arguments, and the package variables that the reading takes, are together of bulk at most 1048576: NARROWER than '..Said'. Prove '..Said' where nothing that the law and all that it calls make is longer than what came in: it says more and counts as full. Else prove '..UptoSaid'. A law counts once. -/
mutual
def uptoBulk {H : Type} : DataW H → Nat
  | .lit (.string bytes) => bytes.length + 1
  | .lit _ => 1
  | .nil => 1
  | .ptr d => uptoBulk d + 1
  | .slice elems spare => uptoBulkAll elems + uptoBulkAll spare + 1
  | .agg parts => uptoBulkAll parts + 1
  | .iface _ d => uptoBulk d + 1
  | .map entries => uptoBulkEntries entries + 1
  | .held _ => 1
def uptoBulkAll {H : Type} : List (DataW H) → Nat
  | [] => 0
  | d :: r => uptoBulk d + uptoBulkAll r
def uptoBulkEntries {H : Type} : List (Lit × DataW H) → Nat
  | [] => 0
  | x :: r => uptoBulkEntry x + uptoBulkEntries r
def uptoBulkEntry {H : Type} : Lit × DataW H → Nat
  | (.string bytes, d) => bytes.length + uptoBulk d + 1
  | (_, d) => uptoBulk d + 1
 end
def uptoSmall : (H : Type) → List (DataW H) → Bool := fun _ ds => decide (uptoBulkAll ds ≤ 1048576)
def OpenSpec.upto (s : _root_.Go.ChangeSpec) : _root_.Go.OpenSpec := { _root_.Go.OpenSpec.ofChange s with cond := some uptoSmall }

/-- 'weighbridgelaw11.SipSame', WHERE WHAT IT READS IS OF BULK AT MOST 1048576: true; the input reads as it did. -/
def sipSameUptoRow : OpenClaim := { program := "ytladjipicifplaa", sum := "4a431549131addf81fffc20954ef68fe8158a1656a90aad85e73d6de186b8ac2", func := "weighbridge/weighbridgelaw11.SipSame", spec := "sipSame", apart := false, narrowed := true }
def SipSameUptoSaid : Prop := sipSameUptoRow.holds Try.pinned (OpenSpec.upto sipSameSpec)

/-- 'weighbridgelaw11.SipWords', WHERE WHAT IT READS IS OF BULK AT MOST 1048576: true; the input reads as it did. -/
def sipWordsUptoRow : OpenClaim := { program := "ytladjipicifplaa", sum := "4a431549131addf81fffc20954ef68fe8158a1656a90aad85e73d6de186b8ac2", func := "weighbridge/weighbridgelaw11.SipWords", spec := "sipWords", apart := false, narrowed := true }
def SipWordsUptoSaid : Prop := sipWordsUptoRow.holds Try.pinned (OpenSpec.upto sipWordsSpec)

/-- 'weighbridgelaw11.SipKeys', WHERE WHAT IT READS IS OF BULK AT MOST 1048576: true; the input reads as it did. -/
def sipKeysUptoRow : OpenClaim := { program := "ytladjipicifplaa", sum := "4a431549131addf81fffc20954ef68fe8158a1656a90aad85e73d6de186b8ac2", func := "weighbridge/weighbridgelaw11.SipKeys", spec := "sipKeys", apart := false, narrowed := true }
def SipKeysUptoSaid : Prop := sipKeysUptoRow.holds Try.pinned (OpenSpec.upto sipKeysSpec)

/-- 'weighbridgelaw11.SipHashes', WHERE WHAT IT READS IS OF BULK AT MOST 1048576: true; the input reads as it did. -/
def sipHashesUptoRow : OpenClaim := { program := "ytladjipicifplaa", sum := "4a431549131addf81fffc20954ef68fe8158a1656a90aad85e73d6de186b8ac2", func := "weighbridge/weighbridgelaw11.SipHashes", spec := "sipHashes", apart := false, narrowed := true }
def SipHashesUptoSaid : Prop := sipHashesUptoRow.holds Try.pinned (OpenSpec.upto sipHashesSpec)

/-- 'weighbridgelaw11.SipMixes', WHERE WHAT IT READS IS OF BULK AT MOST 1048576: true; the input reads as it did. -/
def sipMixesUptoRow : OpenClaim := { program := "ytladjipicifplaa", sum := "4a431549131addf81fffc20954ef68fe8158a1656a90aad85e73d6de186b8ac2", func := "weighbridge/weighbridgelaw11.SipMixes", spec := "sipMixes", apart := false, narrowed := true }
def SipMixesUptoSaid : Prop := sipMixesUptoRow.holds Try.pinned (OpenSpec.upto sipMixesSpec)

/-- 'weighbridgelaw12.AnchorPlays', WHERE WHAT IT READS IS OF BULK AT MOST 1048576: true; the input reads as it did. -/
def anchorPlaysUptoRow : OpenClaim := { program := "ytladjipicifplaa", sum := "4a431549131addf81fffc20954ef68fe8158a1656a90aad85e73d6de186b8ac2", func := "weighbridge/weighbridgelaw12.AnchorPlays", spec := "anchorPlays", unfollowed := true, recurses := true, apart := false, narrowed := true }
def AnchorPlaysUptoSaid : Prop := anchorPlaysUptoRow.holds Try.pinned (OpenSpec.upto anchorPlaysSpec)

/-- 'weighbridgelaw12.AnchorMoves', WHERE WHAT IT READS IS OF BULK AT MOST 1048576: true; the input reads as it did. -/
def anchorMovesUptoRow : OpenClaim := { program := "ytladjipicifplaa", sum := "4a431549131addf81fffc20954ef68fe8158a1656a90aad85e73d6de186b8ac2", func := "weighbridge/weighbridgelaw12.AnchorMoves", spec := "anchorMoves", unfollowed := true, recurses := true, apart := false, narrowed := true }
def AnchorMovesUptoSaid : Prop := anchorMovesUptoRow.holds Try.pinned (OpenSpec.upto anchorMovesSpec)

/-- 'weighbridgelaw12.AnchorCounts', WHERE WHAT IT READS IS OF BULK AT MOST 1048576: true; the input reads as it did. -/
def anchorCountsUptoRow : OpenClaim := { program := "ytladjipicifplaa", sum := "4a431549131addf81fffc20954ef68fe8158a1656a90aad85e73d6de186b8ac2", func := "weighbridge/weighbridgelaw12.AnchorCounts", spec := "anchorCounts", unfollowed := true, recurses := true, apart := false, narrowed := true }
def AnchorCountsUptoSaid : Prop := anchorCountsUptoRow.holds Try.pinned (OpenSpec.upto anchorCountsSpec)

/-- 'weighbridgelaw12.AnchorRooms', WHERE WHAT IT READS IS OF BULK AT MOST 1048576: true; the input reads as it did. -/
def anchorRoomsUptoRow : OpenClaim := { program := "ytladjipicifplaa", sum := "4a431549131addf81fffc20954ef68fe8158a1656a90aad85e73d6de186b8ac2", func := "weighbridge/weighbridgelaw12.AnchorRooms", spec := "anchorRooms", unfollowed := true, recurses := true, apart := false, narrowed := true }
def AnchorRoomsUptoSaid : Prop := anchorRoomsUptoRow.holds Try.pinned (OpenSpec.upto anchorRoomsSpec)

/-- 'weighbridgelaw13.PoolSame', WHERE WHAT IT READS IS OF BULK AT MOST 1048576: true; the input reads as it did. -/
def poolSameUptoRow : OpenClaim := { program := "ytladjipicifplaa", sum := "4a431549131addf81fffc20954ef68fe8158a1656a90aad85e73d6de186b8ac2", func := "weighbridge/weighbridgelaw13.PoolSame", spec := "poolSame", unfollowed := true, recurses := true, apart := false, narrowed := true }
def PoolSameUptoSaid : Prop := poolSameUptoRow.holds Try.pinned (OpenSpec.upto poolSameSpec)

/-- 'weighbridgelaw13.PoolMoves', WHERE WHAT IT READS IS OF BULK AT MOST 1048576: true; the input reads as it did. -/
def poolMovesUptoRow : OpenClaim := { program := "ytladjipicifplaa", sum := "4a431549131addf81fffc20954ef68fe8158a1656a90aad85e73d6de186b8ac2", func := "weighbridge/weighbridgelaw13.PoolMoves", spec := "poolMoves", unfollowed := true, recurses := true, apart := false, narrowed := true }
def PoolMovesUptoSaid : Prop := poolMovesUptoRow.holds Try.pinned (OpenSpec.upto poolMovesSpec)

end Rows
end Go.Proofs.Ytladjipicifplaa
