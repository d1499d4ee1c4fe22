/-
  No cell of these rows narrows 'for every input' (looked for: loops, veiled, ifaces, maps, wideKeys, modest, calm, conditions, laid).
  DERIVED. THE GIVEN ROWS OF THIS SEAT. 15 by the template 'for every input the law returns true; each argument reads behind the call as it read before'; 0 by the template 'total and deterministic' (their statements: YtmopbegmdegooaaTotals.lean).
  GIVEN WITH THE SEED: the statements are not yours to turn. If you find one false, say at which input.
  Laid BY PROGRAM, IN A SANDBOX (cutbox-rows.mjs): the forced cells as the released guide's own fill.sh prints them over the translation 879e397cec986036… (all of the seat's roots in one cut). By AI agents, Wed Nov 11 2026. No macro, syntax, notation, axiom, sorry.
-/
import Derived.Test.YtmopbegmdegooaaChecked
import GoSem.Claim
import GoSem.ClaimJoined
import GoSem.ClaimMapViews
import Derived.JoinedTies
import Derived.KernelRfl
namespace Go.Proofs.Ytmopbegmdegooaa
/- THE CELL 'sum', in the pinned program and in every row, IS THE sha256 OF THE DUMP (.gsa) THAT YtmopbegmdegooaaProg.lean LOADS. Nothing in Lean hashes anything: it is a label: what it is worth is what the hold of that sum in a sandbox is worth. -/
noncomputable def Try.pinned : Pinned := { name := "ytmopbegmdegooaa", sum := "879e397cec986036005cac236c5060721aa4e325418bf17ba1f667a501bd525c", checked := Try.checked }
namespace Rows
def none {H : Type} : Left H := { results := [], args := [] }

/-- 'terrierlaw10.SegMoves': WHATEVER THE INPUT: true; the input reads as it did. -/
def segMovesSpec : ChangeSpec := { name := "segMoves", fn := fun _ => fun
  | [d1, d2, d3, d4, d5, d6] => { results := [.lit (.bool true)], args := [d1, d2, d3, d4, d5, d6] }
  | _ => none }
def segMovesRow : OpenClaim := { program := "ytmopbegmdegooaa", sum := "879e397cec986036005cac236c5060721aa4e325418bf17ba1f667a501bd525c", func := "terrier/terrierlaw10.SegMoves", spec := "segMoves", apart := false }
def SegMovesSaid : Prop := segMovesRow.holds Try.pinned (OpenSpec.ofChange segMovesSpec)

/-- ITS FALSE NEIGHBOUR: 'it returns false'. Refute it at one input. -/
def segMovesWrong : ChangeSpec := { name := "segMoves", fn := fun _ => fun
  | [d1, d2, d3, d4, d5, d6] => { results := [.lit (.bool false)], args := [d1, d2, d3, d4, d5, d6] }
  | _ => none }
def SegMovesWrongFalsely : Prop := segMovesRow.holds Try.pinned (OpenSpec.ofChange segMovesWrong)

/-- 'terrierlaw10.SegLines': WHATEVER THE INPUT: true; the input reads as it did. -/
def segLinesSpec : ChangeSpec := { name := "segLines", fn := fun _ => fun
  | [d1, d2, d3] => { results := [.lit (.bool true)], args := [d1, d2, d3] }
  | _ => none }
def segLinesRow : OpenClaim := { program := "ytmopbegmdegooaa", sum := "879e397cec986036005cac236c5060721aa4e325418bf17ba1f667a501bd525c", func := "terrier/terrierlaw10.SegLines", spec := "segLines", apart := false }
def SegLinesSaid : Prop := segLinesRow.holds Try.pinned (OpenSpec.ofChange segLinesSpec)

/-- ITS FALSE NEIGHBOUR: 'it returns false'. Refute it at one input. -/
def segLinesWrong : ChangeSpec := { name := "segLines", fn := fun _ => fun
  | [d1, d2, d3] => { results := [.lit (.bool false)], args := [d1, d2, d3] }
  | _ => none }
def SegLinesWrongFalsely : Prop := segLinesRow.holds Try.pinned (OpenSpec.ofChange segLinesWrong)

/-- 'terrierlaw10.SegGrids': WHATEVER THE INPUT: true; the input reads as it did. -/
def segGridsSpec : ChangeSpec := { name := "segGrids", fn := fun _ => fun
  | [d] => { results := [.lit (.bool true)], args := [d] }
  | _ => none }
def segGridsRow : OpenClaim := { program := "ytmopbegmdegooaa", sum := "879e397cec986036005cac236c5060721aa4e325418bf17ba1f667a501bd525c", func := "terrier/terrierlaw10.SegGrids", spec := "segGrids", apart := false }
def SegGridsSaid : Prop := segGridsRow.holds Try.pinned (OpenSpec.ofChange segGridsSpec)

/-- ITS FALSE NEIGHBOUR: 'it returns false'. Refute it at one input. -/
def segGridsWrong : ChangeSpec := { name := "segGrids", fn := fun _ => fun
  | [d] => { results := [.lit (.bool false)], args := [d] }
  | _ => none }
def SegGridsWrongFalsely : Prop := segGridsRow.holds Try.pinned (OpenSpec.ofChange segGridsWrong)

/-- 'terrierlaw13.RingShifts': WHATEVER THE INPUT: true; the input reads as it did. -/
def ringShiftsSpec : ChangeSpec := { name := "ringShifts", fn := fun _ => fun
  | [d1, d2, d3, d4, d5] => { results := [.lit (.bool true)], args := [d1, d2, d3, d4, d5] }
  | _ => none }
def ringShiftsRow : OpenClaim := { program := "ytmopbegmdegooaa", sum := "879e397cec986036005cac236c5060721aa4e325418bf17ba1f667a501bd525c", func := "terrier/terrierlaw13.RingShifts", spec := "ringShifts", unfollowed := true, recurses := true, apart := false }
def RingShiftsSaid : Prop := ringShiftsRow.holds Try.pinned (OpenSpec.ofChange ringShiftsSpec)

/-- ITS FALSE NEIGHBOUR: 'it returns false'. Refute it at one input. -/
def ringShiftsWrong : ChangeSpec := { name := "ringShifts", fn := fun _ => fun
  | [d1, d2, d3, d4, d5] => { results := [.lit (.bool false)], args := [d1, d2, d3, d4, d5] }
  | _ => none }
def RingShiftsWrongFalsely : Prop := ringShiftsRow.holds Try.pinned (OpenSpec.ofChange ringShiftsWrong)

/-- 'terrierlaw13.RingParts': WHATEVER THE INPUT: true; the input reads as it did. -/
def ringPartsSpec : ChangeSpec := { name := "ringParts", fn := fun _ => fun
  | [d1, d2, d3] => { results := [.lit (.bool true)], args := [d1, d2, d3] }
  | _ => none }
def ringPartsRow : OpenClaim := { program := "ytmopbegmdegooaa", sum := "879e397cec986036005cac236c5060721aa4e325418bf17ba1f667a501bd525c", func := "terrier/terrierlaw13.RingParts", spec := "ringParts", unfollowed := true, recurses := true, apart := false }
def RingPartsSaid : Prop := ringPartsRow.holds Try.pinned (OpenSpec.ofChange ringPartsSpec)

/-- ITS FALSE NEIGHBOUR: 'it returns false'. Refute it at one input. -/
def ringPartsWrong : ChangeSpec := { name := "ringParts", fn := fun _ => fun
  | [d1, d2, d3] => { results := [.lit (.bool false)], args := [d1, d2, d3] }
  | _ => none }
def RingPartsWrongFalsely : Prop := ringPartsRow.holds Try.pinned (OpenSpec.ofChange ringPartsWrong)

/-- 'terrierlaw13.RingGrids': WHATEVER THE INPUT: true; the input reads as it did. -/
def ringGridsSpec : ChangeSpec := { name := "ringGrids", fn := fun _ => fun
  | [d1, d2] => { results := [.lit (.bool true)], args := [d1, d2] }
  | _ => none }
def ringGridsRow : OpenClaim := { program := "ytmopbegmdegooaa", sum := "879e397cec986036005cac236c5060721aa4e325418bf17ba1f667a501bd525c", func := "terrier/terrierlaw13.RingGrids", spec := "ringGrids", unfollowed := true, recurses := true, apart := false }
def RingGridsSaid : Prop := ringGridsRow.holds Try.pinned (OpenSpec.ofChange ringGridsSpec)

/-- ITS FALSE NEIGHBOUR: 'it returns false'. Refute it at one input. -/
def ringGridsWrong : ChangeSpec := { name := "ringGrids", fn := fun _ => fun
  | [d1, d2] => { results := [.lit (.bool false)], args := [d1, d2] }
  | _ => none }
def RingGridsWrongFalsely : Prop := ringGridsRow.holds Try.pinned (OpenSpec.ofChange ringGridsWrong)

/-- 'terrierlaw13.RingBoxes': WHATEVER THE INPUT: true; the input reads as it did. -/
def ringBoxesSpec : ChangeSpec := { name := "ringBoxes", fn := fun _ => fun
  | [d1, d2, d3] => { results := [.lit (.bool true)], args := [d1, d2, d3] }
  | _ => none }
def ringBoxesRow : OpenClaim := { program := "ytmopbegmdegooaa", sum := "879e397cec986036005cac236c5060721aa4e325418bf17ba1f667a501bd525c", func := "terrier/terrierlaw13.RingBoxes", spec := "ringBoxes", unfollowed := true, recurses := true, apart := false }
def RingBoxesSaid : Prop := ringBoxesRow.holds Try.pinned (OpenSpec.ofChange ringBoxesSpec)

/-- ITS FALSE NEIGHBOUR: 'it returns false'. Refute it at one input. -/
def ringBoxesWrong : ChangeSpec := { name := "ringBoxes", fn := fun _ => fun
  | [d1, d2, d3] => { results := [.lit (.bool false)], args := [d1, d2, d3] }
  | _ => none }
def RingBoxesWrongFalsely : Prop := ringBoxesRow.holds Try.pinned (OpenSpec.ofChange ringBoxesWrong)

/-- 'terrierlaw13.RingTurned': WHATEVER THE INPUT: true; the input reads as it did. -/
def ringTurnedSpec : ChangeSpec := { name := "ringTurned", fn := fun _ => fun
  | [d1, d2] => { results := [.lit (.bool true)], args := [d1, d2] }
  | _ => none }
def ringTurnedRow : OpenClaim := { program := "ytmopbegmdegooaa", sum := "879e397cec986036005cac236c5060721aa4e325418bf17ba1f667a501bd525c", func := "terrier/terrierlaw13.RingTurned", spec := "ringTurned", unfollowed := true, recurses := true, apart := false }
def RingTurnedSaid : Prop := ringTurnedRow.holds Try.pinned (OpenSpec.ofChange ringTurnedSpec)

/-- ITS FALSE NEIGHBOUR: 'it returns false'. Refute it at one input. -/
def ringTurnedWrong : ChangeSpec := { name := "ringTurned", fn := fun _ => fun
  | [d1, d2] => { results := [.lit (.bool false)], args := [d1, d2] }
  | _ => none }
def RingTurnedWrongFalsely : Prop := ringTurnedRow.holds Try.pinned (OpenSpec.ofChange ringTurnedWrong)

/-- 'terrierlaw12.LineOk': WHATEVER THE INPUT: true; the input reads as it did. -/
def lineOkSpec : ChangeSpec := { name := "lineOk", fn := fun _ => fun
  | [d] => { results := [.lit (.bool true)], args := [d] }
  | _ => none }
def lineOkRow : OpenClaim := { program := "ytmopbegmdegooaa", sum := "879e397cec986036005cac236c5060721aa4e325418bf17ba1f667a501bd525c", func := "terrier/terrierlaw12.LineOk", spec := "lineOk", inPlace := ["slices.overlaps[terrier/api.P]"], unfollowed := true, recurses := true, apart := false }
def LineOkSaid : Prop := lineOkRow.holds Try.pinned (OpenSpec.ofChange lineOkSpec)

/-- ITS FALSE NEIGHBOUR: 'it returns false'. Refute it at one input. -/
def lineOkWrong : ChangeSpec := { name := "lineOk", fn := fun _ => fun
  | [d] => { results := [.lit (.bool false)], args := [d] }
  | _ => none }
def LineOkWrongFalsely : Prop := lineOkRow.holds Try.pinned (OpenSpec.ofChange lineOkWrong)

/-- 'terrierlaw12.LineStairs': WHATEVER THE INPUT: true; the input reads as it did. -/
def lineStairsSpec : ChangeSpec := { name := "lineStairs", fn := fun _ => fun
  | [d1, d2] => { results := [.lit (.bool true)], args := [d1, d2] }
  | _ => none }
def lineStairsRow : OpenClaim := { program := "ytmopbegmdegooaa", sum := "879e397cec986036005cac236c5060721aa4e325418bf17ba1f667a501bd525c", func := "terrier/terrierlaw12.LineStairs", spec := "lineStairs", inPlace := ["slices.overlaps[terrier/api.P]"], unfollowed := true, recurses := true, apart := false }
def LineStairsSaid : Prop := lineStairsRow.holds Try.pinned (OpenSpec.ofChange lineStairsSpec)

/-- ITS FALSE NEIGHBOUR: 'it returns false'. Refute it at one input. -/
def lineStairsWrong : ChangeSpec := { name := "lineStairs", fn := fun _ => fun
  | [d1, d2] => { results := [.lit (.bool false)], args := [d1, d2] }
  | _ => none }
def LineStairsWrongFalsely : Prop := lineStairsRow.holds Try.pinned (OpenSpec.ofChange lineStairsWrong)

/-- 'terrierlaw12.LineEnds': WHATEVER THE INPUT: true; the input reads as it did. -/
def lineEndsSpec : ChangeSpec := { name := "lineEnds", fn := fun _ => fun
  | [d] => { results := [.lit (.bool true)], args := [d] }
  | _ => none }
def lineEndsRow : OpenClaim := { program := "ytmopbegmdegooaa", sum := "879e397cec986036005cac236c5060721aa4e325418bf17ba1f667a501bd525c", func := "terrier/terrierlaw12.LineEnds", spec := "lineEnds", inPlace := ["slices.overlaps[terrier/api.P]"], unfollowed := true, recurses := true, apart := false }
def LineEndsSaid : Prop := lineEndsRow.holds Try.pinned (OpenSpec.ofChange lineEndsSpec)

/-- ITS FALSE NEIGHBOUR: 'it returns false'. Refute it at one input. -/
def lineEndsWrong : ChangeSpec := { name := "lineEnds", fn := fun _ => fun
  | [d] => { results := [.lit (.bool false)], args := [d] }
  | _ => none }
def LineEndsWrongFalsely : Prop := lineEndsRow.holds Try.pinned (OpenSpec.ofChange lineEndsWrong)

/-- 'terrierlaw12.LineCuts': WHATEVER THE INPUT: true; the input reads as it did. -/
def lineCutsSpec : ChangeSpec := { name := "lineCuts", fn := fun _ => fun
  | [d] => { results := [.lit (.bool true)], args := [d] }
  | _ => none }
def lineCutsRow : OpenClaim := { program := "ytmopbegmdegooaa", sum := "879e397cec986036005cac236c5060721aa4e325418bf17ba1f667a501bd525c", func := "terrier/terrierlaw12.LineCuts", spec := "lineCuts", inPlace := ["slices.overlaps[terrier/api.P]"], unfollowed := true, recurses := true, apart := false }
def LineCutsSaid : Prop := lineCutsRow.holds Try.pinned (OpenSpec.ofChange lineCutsSpec)

/-- ITS FALSE NEIGHBOUR: 'it returns false'. Refute it at one input. -/
def lineCutsWrong : ChangeSpec := { name := "lineCuts", fn := fun _ => fun
  | [d] => { results := [.lit (.bool false)], args := [d] }
  | _ => none }
def LineCutsWrongFalsely : Prop := lineCutsRow.holds Try.pinned (OpenSpec.ofChange lineCutsWrong)

/-- 'terrierlaw12.LineTurns': WHATEVER THE INPUT: true; the input reads as it did. -/
def lineTurnsSpec : ChangeSpec := { name := "lineTurns", fn := fun _ => fun
  | [d1, d2] => { results := [.lit (.bool true)], args := [d1, d2] }
  | _ => none }
def lineTurnsRow : OpenClaim := { program := "ytmopbegmdegooaa", sum := "879e397cec986036005cac236c5060721aa4e325418bf17ba1f667a501bd525c", func := "terrier/terrierlaw12.LineTurns", spec := "lineTurns", inPlace := ["slices.overlaps[terrier/api.P]"], unfollowed := true, recurses := true, apart := false }
def LineTurnsSaid : Prop := lineTurnsRow.holds Try.pinned (OpenSpec.ofChange lineTurnsSpec)

/-- ITS FALSE NEIGHBOUR: 'it returns false'. Refute it at one input. -/
def lineTurnsWrong : ChangeSpec := { name := "lineTurns", fn := fun _ => fun
  | [d1, d2] => { results := [.lit (.bool false)], args := [d1, d2] }
  | _ => none }
def LineTurnsWrongFalsely : Prop := lineTurnsRow.holds Try.pinned (OpenSpec.ofChange lineTurnsWrong)

/-- 'terrierlaw12.LineRows': WHATEVER THE INPUT: true; the input reads as it did. -/
def lineRowsSpec : ChangeSpec := { name := "lineRows", fn := fun _ => fun
  | [d1, d2, d3] => { results := [.lit (.bool true)], args := [d1, d2, d3] }
  | _ => none }
def lineRowsRow : OpenClaim := { program := "ytmopbegmdegooaa", sum := "879e397cec986036005cac236c5060721aa4e325418bf17ba1f667a501bd525c", func := "terrier/terrierlaw12.LineRows", spec := "lineRows", inPlace := ["slices.overlaps[terrier/api.P]"], unfollowed := true, recurses := true, apart := false }
def LineRowsSaid : Prop := lineRowsRow.holds Try.pinned (OpenSpec.ofChange lineRowsSpec)

/-- ITS FALSE NEIGHBOUR: 'it returns false'. Refute it at one input. -/
def lineRowsWrong : ChangeSpec := { name := "lineRows", fn := fun _ => fun
  | [d1, d2, d3] => { results := [.lit (.bool false)], args := [d1, d2, d3] }
  | _ => none }
def LineRowsWrongFalsely : Prop := lineRowsRow.holds Try.pinned (OpenSpec.ofChange lineRowsWrong)

/-- 'terrierlaw12.LineApart': WHATEVER THE INPUT: true; the input reads as it did. -/
def lineApartSpec : ChangeSpec := { name := "lineApart", fn := fun _ => fun
  | [d1, d2] => { results := [.lit (.bool true)], args := [d1, d2] }
  | _ => none }
def lineApartRow : OpenClaim := { program := "ytmopbegmdegooaa", sum := "879e397cec986036005cac236c5060721aa4e325418bf17ba1f667a501bd525c", func := "terrier/terrierlaw12.LineApart", spec := "lineApart", inPlace := ["slices.overlaps[terrier/api.P]"], unfollowed := true, recurses := true, apart := false }
def LineApartSaid : Prop := lineApartRow.holds Try.pinned (OpenSpec.ofChange lineApartSpec)

/-- ITS FALSE NEIGHBOUR: 'it returns false'. Refute it at one input. -/
def lineApartWrong : ChangeSpec := { name := "lineApart", fn := fun _ => fun
  | [d1, d2] => { results := [.lit (.bool false)], args := [d1, d2] }
  | _ => none }
def LineApartWrongFalsely : Prop := lineApartRow.holds Try.pinned (OpenSpec.ofChange lineApartWrong)

/- THE SECOND FORM. 'bulk': how many values and letters a reading holds, each counted each time it is reached (what is shared counts as often as it is met; a slice's spare places count too). A statement '..UptoSaid' is the law's where the arguments, and the package variables that the reading takes, are together of bulk at most 1048576: NARROWER than '..Said'. Prove '..Said' where nothing that the law and all that it calls make is longer than what came in: it says more and counts as full. Else prove '..UptoSaid'. A law counts once. -/
mutual
def uptoBulk {H : Type} : DataW H → Nat
  | .lit (.string bytes) => bytes.length + 1
  | .lit _ => 1
  | .nil => 1
  | .ptr d => uptoBulk d + 1
  | .slice elems spare => uptoBulkAll elems + uptoBulkAll spare + 1
  | .agg parts => uptoBulkAll parts + 1
  | .iface _ d => uptoBulk d + 1
  | .map entries => uptoBulkEntries entries + 1
  | .held _ => 1
def uptoBulkAll {H : Type} : List (DataW H) → Nat
  | [] => 0
  | d :: r => uptoBulk d + uptoBulkAll r
def uptoBulkEntries {H : Type} : List (Lit × DataW H) → Nat
  | [] => 0
  | x :: r => uptoBulkEntry x + uptoBulkEntries r
def uptoBulkEntry {H : Type} : Lit × DataW H → Nat
  | (.string bytes, d) => bytes.length + uptoBulk d + 1
  | (_, d) => uptoBulk d + 1
 end
def uptoSmall : (H : Type) → List (DataW H) → Bool := fun _ ds => decide (uptoBulkAll ds ≤ 1048576)
def OpenSpec.upto (s : _root_.Go.ChangeSpec) : _root_.Go.OpenSpec := { _root_.Go.OpenSpec.ofChange s with cond := some uptoSmall }

/-- 'terrierlaw10.SegMoves', WHERE WHAT IT READS IS OF BULK AT MOST 1048576: true; the input reads as it did. -/
def segMovesUptoRow : OpenClaim := { program := "ytmopbegmdegooaa", sum := "879e397cec986036005cac236c5060721aa4e325418bf17ba1f667a501bd525c", func := "terrier/terrierlaw10.SegMoves", spec := "segMoves", apart := false, narrowed := true }
def SegMovesUptoSaid : Prop := segMovesUptoRow.holds Try.pinned (OpenSpec.upto segMovesSpec)

/-- 'terrierlaw10.SegLines', WHERE WHAT IT READS IS OF BULK AT MOST 1048576: true; the input reads as it did. -/
def segLinesUptoRow : OpenClaim := { program := "ytmopbegmdegooaa", sum := "879e397cec986036005cac236c5060721aa4e325418bf17ba1f667a501bd525c", func := "terrier/terrierlaw10.SegLines", spec := "segLines", apart := false, narrowed := true }
def SegLinesUptoSaid : Prop := segLinesUptoRow.holds Try.pinned (OpenSpec.upto segLinesSpec)

/-- 'terrierlaw10.SegGrids', WHERE WHAT IT READS IS OF BULK AT MOST 1048576: true; the input reads as it did. -/
def segGridsUptoRow : OpenClaim := { program := "ytmopbegmdegooaa", sum := "879e397cec986036005cac236c5060721aa4e325418bf17ba1f667a501bd525c", func := "terrier/terrierlaw10.SegGrids", spec := "segGrids", apart := false, narrowed := true }
def SegGridsUptoSaid : Prop := segGridsUptoRow.holds Try.pinned (OpenSpec.upto segGridsSpec)

/-- 'terrierlaw13.RingShifts', WHERE WHAT IT READS IS OF BULK AT MOST 1048576: true; the input reads as it did. -/
def ringShiftsUptoRow : OpenClaim := { program := "ytmopbegmdegooaa", sum := "879e397cec986036005cac236c5060721aa4e325418bf17ba1f667a501bd525c", func := "terrier/terrierlaw13.RingShifts", spec := "ringShifts", unfollowed := true, recurses := true, apart := false, narrowed := true }
def RingShiftsUptoSaid : Prop := ringShiftsUptoRow.holds Try.pinned (OpenSpec.upto ringShiftsSpec)

/-- 'terrierlaw13.RingParts', WHERE WHAT IT READS IS OF BULK AT MOST 1048576: true; the input reads as it did. -/
def ringPartsUptoRow : OpenClaim := { program := "ytmopbegmdegooaa", sum := "879e397cec986036005cac236c5060721aa4e325418bf17ba1f667a501bd525c", func := "terrier/terrierlaw13.RingParts", spec := "ringParts", unfollowed := true, recurses := true, apart := false, narrowed := true }
def RingPartsUptoSaid : Prop := ringPartsUptoRow.holds Try.pinned (OpenSpec.upto ringPartsSpec)

/-- 'terrierlaw13.RingGrids', WHERE WHAT IT READS IS OF BULK AT MOST 1048576: true; the input reads as it did. -/
def ringGridsUptoRow : OpenClaim := { program := "ytmopbegmdegooaa", sum := "879e397cec986036005cac236c5060721aa4e325418bf17ba1f667a501bd525c", func := "terrier/terrierlaw13.RingGrids", spec := "ringGrids", unfollowed := true, recurses := true, apart := false, narrowed := true }
def RingGridsUptoSaid : Prop := ringGridsUptoRow.holds Try.pinned (OpenSpec.upto ringGridsSpec)

/-- 'terrierlaw13.RingBoxes', WHERE WHAT IT READS IS OF BULK AT MOST 1048576: true; the input reads as it did. -/
def ringBoxesUptoRow : OpenClaim := { program := "ytmopbegmdegooaa", sum := "879e397cec986036005cac236c5060721aa4e325418bf17ba1f667a501bd525c", func := "terrier/terrierlaw13.RingBoxes", spec := "ringBoxes", unfollowed := true, recurses := true, apart := false, narrowed := true }
def RingBoxesUptoSaid : Prop := ringBoxesUptoRow.holds Try.pinned (OpenSpec.upto ringBoxesSpec)

/-- 'terrierlaw13.RingTurned', WHERE WHAT IT READS IS OF BULK AT MOST 1048576: true; the input reads as it did. -/
def ringTurnedUptoRow : OpenClaim := { program := "ytmopbegmdegooaa", sum := "879e397cec986036005cac236c5060721aa4e325418bf17ba1f667a501bd525c", func := "terrier/terrierlaw13.RingTurned", spec := "ringTurned", unfollowed := true, recurses := true, apart := false, narrowed := true }
def RingTurnedUptoSaid : Prop := ringTurnedUptoRow.holds Try.pinned (OpenSpec.upto ringTurnedSpec)

/-- 'terrierlaw12.LineOk', WHERE WHAT IT READS IS OF BULK AT MOST 1048576: true; the input reads as it did. -/
def lineOkUptoRow : OpenClaim := { program := "ytmopbegmdegooaa", sum := "879e397cec986036005cac236c5060721aa4e325418bf17ba1f667a501bd525c", func := "terrier/terrierlaw12.LineOk", spec := "lineOk", inPlace := ["slices.overlaps[terrier/api.P]"], unfollowed := true, recurses := true, apart := false, narrowed := true }
def LineOkUptoSaid : Prop := lineOkUptoRow.holds Try.pinned (OpenSpec.upto lineOkSpec)

/-- 'terrierlaw12.LineStairs', WHERE WHAT IT READS IS OF BULK AT MOST 1048576: true; the input reads as it did. -/
def lineStairsUptoRow : OpenClaim := { program := "ytmopbegmdegooaa", sum := "879e397cec986036005cac236c5060721aa4e325418bf17ba1f667a501bd525c", func := "terrier/terrierlaw12.LineStairs", spec := "lineStairs", inPlace := ["slices.overlaps[terrier/api.P]"], unfollowed := true, recurses := true, apart := false, narrowed := true }
def LineStairsUptoSaid : Prop := lineStairsUptoRow.holds Try.pinned (OpenSpec.upto lineStairsSpec)

/-- 'terrierlaw12.LineEnds', WHERE WHAT IT READS IS OF BULK AT MOST 1048576: true; the input reads as it did. -/
def lineEndsUptoRow : OpenClaim := { program := "ytmopbegmdegooaa", sum := "879e397cec986036005cac236c5060721aa4e325418bf17ba1f667a501bd525c", func := "terrier/terrierlaw12.LineEnds", spec := "lineEnds", inPlace := ["slices.overlaps[terrier/api.P]"], unfollowed := true, recurses := true, apart := false, narrowed := true }
def LineEndsUptoSaid : Prop := lineEndsUptoRow.holds Try.pinned (OpenSpec.upto lineEndsSpec)

/-- 'terrierlaw12.LineCuts', WHERE WHAT IT READS IS OF BULK AT MOST 1048576: true; the input reads as it did. -/
def lineCutsUptoRow : OpenClaim := { program := "ytmopbegmdegooaa", sum := "879e397cec986036005cac236c5060721aa4e325418bf17ba1f667a501bd525c", func := "terrier/terrierlaw12.LineCuts", spec := "lineCuts", inPlace := ["slices.overlaps[terrier/api.P]"], unfollowed := true, recurses := true, apart := false, narrowed := true }
def LineCutsUptoSaid : Prop := lineCutsUptoRow.holds Try.pinned (OpenSpec.upto lineCutsSpec)

/-- 'terrierlaw12.LineTurns', WHERE WHAT IT READS IS OF BULK AT MOST 1048576: true; the input reads as it did. -/
def lineTurnsUptoRow : OpenClaim := { program := "ytmopbegmdegooaa", sum := "879e397cec986036005cac236c5060721aa4e325418bf17ba1f667a501bd525c", func := "terrier/terrierlaw12.LineTurns", spec := "lineTurns", inPlace := ["slices.overlaps[terrier/api.P]"], unfollowed := true, recurses := true, apart := false, narrowed := true }
def LineTurnsUptoSaid : Prop := lineTurnsUptoRow.holds Try.pinned (OpenSpec.upto lineTurnsSpec)

/-- 'terrierlaw12.LineRows', WHERE WHAT IT READS IS OF BULK AT MOST 1048576: true; the input reads as it did. -/
def lineRowsUptoRow : OpenClaim := { program := "ytmopbegmdegooaa", sum := "879e397cec986036005cac236c5060721aa4e325418bf17ba1f667a501bd525c", func := "terrier/terrierlaw12.LineRows", spec := "lineRows", inPlace := ["slices.overlaps[terrier/api.P]"], unfollowed := true, recurses := true, apart := false, narrowed := true }
def LineRowsUptoSaid : Prop := lineRowsUptoRow.holds Try.pinned (OpenSpec.upto lineRowsSpec)

/-- 'terrierlaw12.LineApart', WHERE WHAT IT READS IS OF BULK AT MOST 1048576: true; the input reads as it did. -/
def lineApartUptoRow : OpenClaim := { program := "ytmopbegmdegooaa", sum := "879e397cec986036005cac236c5060721aa4e325418bf17ba1f667a501bd525c", func := "terrier/terrierlaw12.LineApart", spec := "lineApart", inPlace := ["slices.overlaps[terrier/api.P]"], unfollowed := true, recurses := true, apart := false, narrowed := true }
def LineApartUptoSaid : Prop := lineApartUptoRow.holds Try.pinned (OpenSpec.upto lineApartSpec)

end Rows
end Go.Proofs.Ytmopbegmdegooaa
