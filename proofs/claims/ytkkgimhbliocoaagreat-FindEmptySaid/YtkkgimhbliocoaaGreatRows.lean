/-
  No cell of these rows narrows 'for every input' (looked for: loops, veiled, ifaces, maps, wideKeys, modest, calm, conditions, laid).
  DERIVED. THE GIVEN ROWS OF THIS SEAT. 11 by the template 'for every input the law returns true; each argument reads behind the call as it read before'; 0 by the template 'total and deterministic' (their statements: YtkkgimhbliocoaaGreatTotals.lean).
  GIVEN WITH THE SEED: the statements are not yours to turn. If you find one false, say at which input.
  Laid BY PROGRAM, IN A SANDBOX (cutbox-rows.mjs): the forced cells as the released guide's own fill.sh prints them over the translation 1bd7c9e2189cd1ae… (all of the seat's roots in one cut). By AI agents, Wed Nov 11 2026. No macro, syntax, notation, axiom, sorry.
-/
import Derived.Test.YtkkgimhbliocoaaGreatChecked
import GoSem.Claim
import GoSem.ClaimJoined
import GoSem.ClaimMapViews
import Derived.JoinedTies
import Derived.KernelRfl
namespace Go.Proofs.YtkkgimhbliocoaaGreat
/- THE CELL 'sum', in the pinned program and in every row, IS THE sha256 OF THE DUMP (.gsa) THAT YtkkgimhbliocoaaGreatProg.lean LOADS. Nothing in Lean hashes anything: it is a label: what it is worth is what the hold of that sum in a sandbox is worth. -/
noncomputable def Tryz.pinned : Pinned := { name := "ytkkgimhbliocoaagreat", sum := "1bd7c9e2189cd1ae3c11e022e71531411c21382a2543a0fc7ffbeda94db4ceb6", checked := Tryz.checked }
namespace Rows
def none {H : Type} : Left H := { results := [], args := [] }

/-- 'terrierlaw14.PlanChains': WHATEVER THE INPUT: true; the input reads as it did. -/
def planChainsSpec : ChangeSpec := { name := "planChains", fn := fun _ => fun
  | [d1, d2, d3] => { results := [.lit (.bool true)], args := [d1, d2, d3] }
  | _ => none }
def planChainsRow : OpenClaim := { program := "ytkkgimhbliocoaagreat", sum := "1bd7c9e2189cd1ae3c11e022e71531411c21382a2543a0fc7ffbeda94db4ceb6", func := "terrier/terrierlaw14.PlanChains", spec := "planChains", unfollowed := true, recurses := true, apart := false }
def PlanChainsSaid : Prop := planChainsRow.holds Tryz.pinned (OpenSpec.ofChange planChainsSpec)

/-- ITS FALSE NEIGHBOUR: 'it returns false'. Refute it at one input. -/
def planChainsWrong : ChangeSpec := { name := "planChains", fn := fun _ => fun
  | [d1, d2, d3] => { results := [.lit (.bool false)], args := [d1, d2, d3] }
  | _ => none }
def PlanChainsWrongFalsely : Prop := planChainsRow.holds Tryz.pinned (OpenSpec.ofChange planChainsWrong)

/-- 'terrierlaw15.FaceIslands': WHATEVER THE INPUT: true; the input reads as it did. -/
def faceIslandsSpec : ChangeSpec := { name := "faceIslands", fn := fun _ => fun
  | [d1, d2] => { results := [.lit (.bool true)], args := [d1, d2] }
  | _ => none }
def faceIslandsRow : OpenClaim := { program := "ytkkgimhbliocoaagreat", sum := "1bd7c9e2189cd1ae3c11e022e71531411c21382a2543a0fc7ffbeda94db4ceb6", func := "terrier/terrierlaw15.FaceIslands", spec := "faceIslands", unfollowed := true, recurses := true, apart := false }
def FaceIslandsSaid : Prop := faceIslandsRow.holds Tryz.pinned (OpenSpec.ofChange faceIslandsSpec)

/-- ITS FALSE NEIGHBOUR: 'it returns false'. Refute it at one input. -/
def faceIslandsWrong : ChangeSpec := { name := "faceIslands", fn := fun _ => fun
  | [d1, d2] => { results := [.lit (.bool false)], args := [d1, d2] }
  | _ => none }
def FaceIslandsWrongFalsely : Prop := faceIslandsRow.holds Tryz.pinned (OpenSpec.ofChange faceIslandsWrong)

/-- 'terrierlaw15.FaceBridges': WHATEVER THE INPUT: true; the input reads as it did. -/
def faceBridgesSpec : ChangeSpec := { name := "faceBridges", fn := fun _ => fun
  | [d1, d2] => { results := [.lit (.bool true)], args := [d1, d2] }
  | _ => none }
def faceBridgesRow : OpenClaim := { program := "ytkkgimhbliocoaagreat", sum := "1bd7c9e2189cd1ae3c11e022e71531411c21382a2543a0fc7ffbeda94db4ceb6", func := "terrier/terrierlaw15.FaceBridges", spec := "faceBridges", unfollowed := true, recurses := true, apart := false }
def FaceBridgesSaid : Prop := faceBridgesRow.holds Tryz.pinned (OpenSpec.ofChange faceBridgesSpec)

/-- ITS FALSE NEIGHBOUR: 'it returns false'. Refute it at one input. -/
def faceBridgesWrong : ChangeSpec := { name := "faceBridges", fn := fun _ => fun
  | [d1, d2] => { results := [.lit (.bool false)], args := [d1, d2] }
  | _ => none }
def FaceBridgesWrongFalsely : Prop := faceBridgesRow.holds Tryz.pinned (OpenSpec.ofChange faceBridgesWrong)

/-- 'terrierlaw15.FaceNests': WHATEVER THE INPUT: true; the input reads as it did. -/
def faceNestsSpec : ChangeSpec := { name := "faceNests", fn := fun _ => fun
  | [d] => { results := [.lit (.bool true)], args := [d] }
  | _ => none }
def faceNestsRow : OpenClaim := { program := "ytkkgimhbliocoaagreat", sum := "1bd7c9e2189cd1ae3c11e022e71531411c21382a2543a0fc7ffbeda94db4ceb6", func := "terrier/terrierlaw15.FaceNests", spec := "faceNests", unfollowed := true, recurses := true, apart := false }
def FaceNestsSaid : Prop := faceNestsRow.holds Tryz.pinned (OpenSpec.ofChange faceNestsSpec)

/-- ITS FALSE NEIGHBOUR: 'it returns false'. Refute it at one input. -/
def faceNestsWrong : ChangeSpec := { name := "faceNests", fn := fun _ => fun
  | [d] => { results := [.lit (.bool false)], args := [d] }
  | _ => none }
def FaceNestsWrongFalsely : Prop := faceNestsRow.holds Tryz.pinned (OpenSpec.ofChange faceNestsWrong)

/-- 'terrierlaw20.FindNests': WHATEVER THE INPUT: true; the input reads as it did. -/
def findNestsSpec : ChangeSpec := { name := "findNests", fn := fun _ => fun
  | [d1, d2, d3, d4] => { results := [.lit (.bool true)], args := [d1, d2, d3, d4] }
  | _ => none }
def findNestsRow : OpenClaim := { program := "ytkkgimhbliocoaagreat", sum := "1bd7c9e2189cd1ae3c11e022e71531411c21382a2543a0fc7ffbeda94db4ceb6", func := "terrier/terrierlaw20.FindNests", spec := "findNests", unfollowed := true, recurses := true, apart := false }
def FindNestsSaid : Prop := findNestsRow.holds Tryz.pinned (OpenSpec.ofChange findNestsSpec)

/-- ITS FALSE NEIGHBOUR: 'it returns false'. Refute it at one input. -/
def findNestsWrong : ChangeSpec := { name := "findNests", fn := fun _ => fun
  | [d1, d2, d3, d4] => { results := [.lit (.bool false)], args := [d1, d2, d3, d4] }
  | _ => none }
def FindNestsWrongFalsely : Prop := findNestsRow.holds Tryz.pinned (OpenSpec.ofChange findNestsWrong)

/-- 'terrierlaw19.HealChains': WHATEVER THE INPUT: true; the input reads as it did. -/
def healChainsSpec : ChangeSpec := { name := "healChains", fn := fun _ => fun
  | [d1, d2] => { results := [.lit (.bool true)], args := [d1, d2] }
  | _ => none }
def healChainsRow : OpenClaim := { program := "ytkkgimhbliocoaagreat", sum := "1bd7c9e2189cd1ae3c11e022e71531411c21382a2543a0fc7ffbeda94db4ceb6", func := "terrier/terrierlaw19.HealChains", spec := "healChains", inPlace := ["slices.overlaps[terrier/api.Edge]", "slices.overlaps[terrier/api.P]", "slices.overlaps[terrier/api.Node]"], unfollowed := true, recurses := true, apart := false }
def HealChainsSaid : Prop := healChainsRow.holds Tryz.pinned (OpenSpec.ofChange healChainsSpec)

/-- ITS FALSE NEIGHBOUR: 'it returns false'. Refute it at one input. -/
def healChainsWrong : ChangeSpec := { name := "healChains", fn := fun _ => fun
  | [d1, d2] => { results := [.lit (.bool false)], args := [d1, d2] }
  | _ => none }
def HealChainsWrongFalsely : Prop := healChainsRow.holds Tryz.pinned (OpenSpec.ofChange healChainsWrong)

/-- 'terrierlaw20.FindEmpty': WHATEVER THE INPUT: true; the input reads as it did. -/
def findEmptySpec : ChangeSpec := { name := "findEmpty", fn := fun _ => fun
  | [d1, d2, d3, d4] => { results := [.lit (.bool true)], args := [d1, d2, d3, d4] }
  | _ => none }
def findEmptyRow : OpenClaim := { program := "ytkkgimhbliocoaagreat", sum := "1bd7c9e2189cd1ae3c11e022e71531411c21382a2543a0fc7ffbeda94db4ceb6", func := "terrier/terrierlaw20.FindEmpty", spec := "findEmpty", unfollowed := true, recurses := true, apart := false }
def FindEmptySaid : Prop := findEmptyRow.holds Tryz.pinned (OpenSpec.ofChange findEmptySpec)

/-- ITS FALSE NEIGHBOUR: 'it returns false'. Refute it at one input. -/
def findEmptyWrong : ChangeSpec := { name := "findEmpty", fn := fun _ => fun
  | [d1, d2, d3, d4] => { results := [.lit (.bool false)], args := [d1, d2, d3, d4] }
  | _ => none }
def FindEmptyWrongFalsely : Prop := findEmptyRow.holds Tryz.pinned (OpenSpec.ofChange findEmptyWrong)

/-- 'terrierlaw20.FindGrids': WHATEVER THE INPUT: true; the input reads as it did. -/
def findGridsSpec : ChangeSpec := { name := "findGrids", fn := fun _ => fun
  | [d1, d2, d3] => { results := [.lit (.bool true)], args := [d1, d2, d3] }
  | _ => none }
def findGridsRow : OpenClaim := { program := "ytkkgimhbliocoaagreat", sum := "1bd7c9e2189cd1ae3c11e022e71531411c21382a2543a0fc7ffbeda94db4ceb6", func := "terrier/terrierlaw20.FindGrids", spec := "findGrids", unfollowed := true, recurses := true, apart := false }
def FindGridsSaid : Prop := findGridsRow.holds Tryz.pinned (OpenSpec.ofChange findGridsSpec)

/-- ITS FALSE NEIGHBOUR: 'it returns false'. Refute it at one input. -/
def findGridsWrong : ChangeSpec := { name := "findGrids", fn := fun _ => fun
  | [d1, d2, d3] => { results := [.lit (.bool false)], args := [d1, d2, d3] }
  | _ => none }
def FindGridsWrongFalsely : Prop := findGridsRow.holds Tryz.pinned (OpenSpec.ofChange findGridsWrong)

/-- 'terrierlaw17.TopoUnused': WHATEVER THE INPUT: true; the input reads as it did. -/
def topoUnusedSpec : ChangeSpec := { name := "topoUnused", fn := fun _ => fun
  | [d] => { results := [.lit (.bool true)], args := [d] }
  | _ => none }
def topoUnusedRow : OpenClaim := { program := "ytkkgimhbliocoaagreat", sum := "1bd7c9e2189cd1ae3c11e022e71531411c21382a2543a0fc7ffbeda94db4ceb6", func := "terrier/terrierlaw17.TopoUnused", spec := "topoUnused", inPlace := ["slices.overlaps[terrier/api.Node]"], unfollowed := true, recurses := true, apart := false }
def TopoUnusedSaid : Prop := topoUnusedRow.holds Tryz.pinned (OpenSpec.ofChange topoUnusedSpec)

/-- ITS FALSE NEIGHBOUR: 'it returns false'. Refute it at one input. -/
def topoUnusedWrong : ChangeSpec := { name := "topoUnused", fn := fun _ => fun
  | [d] => { results := [.lit (.bool false)], args := [d] }
  | _ => none }
def TopoUnusedWrongFalsely : Prop := topoUnusedRow.holds Tryz.pinned (OpenSpec.ofChange topoUnusedWrong)

/-- 'terrierlaw17.TopoFills': WHATEVER THE INPUT: true; the input reads as it did. -/
def topoFillsSpec : ChangeSpec := { name := "topoFills", fn := fun _ => fun
  | [d1, d2] => { results := [.lit (.bool true)], args := [d1, d2] }
  | _ => none }
def topoFillsRow : OpenClaim := { program := "ytkkgimhbliocoaagreat", sum := "1bd7c9e2189cd1ae3c11e022e71531411c21382a2543a0fc7ffbeda94db4ceb6", func := "terrier/terrierlaw17.TopoFills", spec := "topoFills", inPlace := ["slices.overlaps[terrier/api.Node]"], unfollowed := true, recurses := true, apart := false }
def TopoFillsSaid : Prop := topoFillsRow.holds Tryz.pinned (OpenSpec.ofChange topoFillsSpec)

/-- ITS FALSE NEIGHBOUR: 'it returns false'. Refute it at one input. -/
def topoFillsWrong : ChangeSpec := { name := "topoFills", fn := fun _ => fun
  | [d1, d2] => { results := [.lit (.bool false)], args := [d1, d2] }
  | _ => none }
def TopoFillsWrongFalsely : Prop := topoFillsRow.holds Tryz.pinned (OpenSpec.ofChange topoFillsWrong)

/-- 'terrierlaw17.TopoWithin': WHATEVER THE INPUT: true; the input reads as it did. -/
def topoWithinSpec : ChangeSpec := { name := "topoWithin", fn := fun _ => fun
  | [d1, d2, d3, d4] => { results := [.lit (.bool true)], args := [d1, d2, d3, d4] }
  | _ => none }
def topoWithinRow : OpenClaim := { program := "ytkkgimhbliocoaagreat", sum := "1bd7c9e2189cd1ae3c11e022e71531411c21382a2543a0fc7ffbeda94db4ceb6", func := "terrier/terrierlaw17.TopoWithin", spec := "topoWithin", inPlace := ["slices.overlaps[terrier/api.Node]"], unfollowed := true, recurses := true, apart := false }
def TopoWithinSaid : Prop := topoWithinRow.holds Tryz.pinned (OpenSpec.ofChange topoWithinSpec)

/-- ITS FALSE NEIGHBOUR: 'it returns false'. Refute it at one input. -/
def topoWithinWrong : ChangeSpec := { name := "topoWithin", fn := fun _ => fun
  | [d1, d2, d3, d4] => { results := [.lit (.bool false)], args := [d1, d2, d3, d4] }
  | _ => none }
def TopoWithinWrongFalsely : Prop := topoWithinRow.holds Tryz.pinned (OpenSpec.ofChange topoWithinWrong)

/- THE SECOND FORM. 'bulk': how many values and letters a reading holds, each counted each time it is reached (what is shared counts as often as it is met; a slice's spare places count too). A statement '..UptoSaid' is the law's where the arguments, and the package variables that the reading takes, are together of bulk at most 1048576: NARROWER than '..Said'. Prove '..Said' where nothing that the law and all that it calls make is longer than what came in: it says more and counts as full. Else prove '..UptoSaid'. A law counts once. -/
mutual
def uptoBulk {H : Type} : DataW H → Nat
  | .lit (.string bytes) => bytes.length + 1
  | .lit _ => 1
  | .nil => 1
  | .ptr d => uptoBulk d + 1
  | .slice elems spare => uptoBulkAll elems + uptoBulkAll spare + 1
  | .agg parts => uptoBulkAll parts + 1
  | .iface _ d => uptoBulk d + 1
  | .map entries => uptoBulkEntries entries + 1
  | .held _ => 1
def uptoBulkAll {H : Type} : List (DataW H) → Nat
  | [] => 0
  | d :: r => uptoBulk d + uptoBulkAll r
def uptoBulkEntries {H : Type} : List (Lit × DataW H) → Nat
  | [] => 0
  | x :: r => uptoBulkEntry x + uptoBulkEntries r
def uptoBulkEntry {H : Type} : Lit × DataW H → Nat
  | (.string bytes, d) => bytes.length + uptoBulk d + 1
  | (_, d) => uptoBulk d + 1
 end
def uptoSmall : (H : Type) → List (DataW H) → Bool := fun _ ds => decide (uptoBulkAll ds ≤ 1048576)
def OpenSpec.upto (s : _root_.Go.ChangeSpec) : _root_.Go.OpenSpec := { _root_.Go.OpenSpec.ofChange s with cond := some uptoSmall }

/-- 'terrierlaw14.PlanChains', WHERE WHAT IT READS IS OF BULK AT MOST 1048576: true; the input reads as it did. -/
def planChainsUptoRow : OpenClaim := { program := "ytkkgimhbliocoaagreat", sum := "1bd7c9e2189cd1ae3c11e022e71531411c21382a2543a0fc7ffbeda94db4ceb6", func := "terrier/terrierlaw14.PlanChains", spec := "planChains", unfollowed := true, recurses := true, apart := false, narrowed := true }
def PlanChainsUptoSaid : Prop := planChainsUptoRow.holds Tryz.pinned (OpenSpec.upto planChainsSpec)

/-- 'terrierlaw15.FaceIslands', WHERE WHAT IT READS IS OF BULK AT MOST 1048576: true; the input reads as it did. -/
def faceIslandsUptoRow : OpenClaim := { program := "ytkkgimhbliocoaagreat", sum := "1bd7c9e2189cd1ae3c11e022e71531411c21382a2543a0fc7ffbeda94db4ceb6", func := "terrier/terrierlaw15.FaceIslands", spec := "faceIslands", unfollowed := true, recurses := true, apart := false, narrowed := true }
def FaceIslandsUptoSaid : Prop := faceIslandsUptoRow.holds Tryz.pinned (OpenSpec.upto faceIslandsSpec)

/-- 'terrierlaw15.FaceBridges', WHERE WHAT IT READS IS OF BULK AT MOST 1048576: true; the input reads as it did. -/
def faceBridgesUptoRow : OpenClaim := { program := "ytkkgimhbliocoaagreat", sum := "1bd7c9e2189cd1ae3c11e022e71531411c21382a2543a0fc7ffbeda94db4ceb6", func := "terrier/terrierlaw15.FaceBridges", spec := "faceBridges", unfollowed := true, recurses := true, apart := false, narrowed := true }
def FaceBridgesUptoSaid : Prop := faceBridgesUptoRow.holds Tryz.pinned (OpenSpec.upto faceBridgesSpec)

/-- 'terrierlaw15.FaceNests', WHERE WHAT IT READS IS OF BULK AT MOST 1048576: true; the input reads as it did. -/
def faceNestsUptoRow : OpenClaim := { program := "ytkkgimhbliocoaagreat", sum := "1bd7c9e2189cd1ae3c11e022e71531411c21382a2543a0fc7ffbeda94db4ceb6", func := "terrier/terrierlaw15.FaceNests", spec := "faceNests", unfollowed := true, recurses := true, apart := false, narrowed := true }
def FaceNestsUptoSaid : Prop := faceNestsUptoRow.holds Tryz.pinned (OpenSpec.upto faceNestsSpec)

/-- 'terrierlaw20.FindNests', WHERE WHAT IT READS IS OF BULK AT MOST 1048576: true; the input reads as it did. -/
def findNestsUptoRow : OpenClaim := { program := "ytkkgimhbliocoaagreat", sum := "1bd7c9e2189cd1ae3c11e022e71531411c21382a2543a0fc7ffbeda94db4ceb6", func := "terrier/terrierlaw20.FindNests", spec := "findNests", unfollowed := true, recurses := true, apart := false, narrowed := true }
def FindNestsUptoSaid : Prop := findNestsUptoRow.holds Tryz.pinned (OpenSpec.upto findNestsSpec)

/-- 'terrierlaw19.HealChains', WHERE WHAT IT READS IS OF BULK AT MOST 1048576: true; the input reads as it did. -/
def healChainsUptoRow : OpenClaim := { program := "ytkkgimhbliocoaagreat", sum := "1bd7c9e2189cd1ae3c11e022e71531411c21382a2543a0fc7ffbeda94db4ceb6", func := "terrier/terrierlaw19.HealChains", spec := "healChains", inPlace := ["slices.overlaps[terrier/api.Edge]", "slices.overlaps[terrier/api.P]", "slices.overlaps[terrier/api.Node]"], unfollowed := true, recurses := true, apart := false, narrowed := true }
def HealChainsUptoSaid : Prop := healChainsUptoRow.holds Tryz.pinned (OpenSpec.upto healChainsSpec)

/-- 'terrierlaw20.FindEmpty', WHERE WHAT IT READS IS OF BULK AT MOST 1048576: true; the input reads as it did. -/
def findEmptyUptoRow : OpenClaim := { program := "ytkkgimhbliocoaagreat", sum := "1bd7c9e2189cd1ae3c11e022e71531411c21382a2543a0fc7ffbeda94db4ceb6", func := "terrier/terrierlaw20.FindEmpty", spec := "findEmpty", unfollowed := true, recurses := true, apart := false, narrowed := true }
def FindEmptyUptoSaid : Prop := findEmptyUptoRow.holds Tryz.pinned (OpenSpec.upto findEmptySpec)

/-- 'terrierlaw20.FindGrids', WHERE WHAT IT READS IS OF BULK AT MOST 1048576: true; the input reads as it did. -/
def findGridsUptoRow : OpenClaim := { program := "ytkkgimhbliocoaagreat", sum := "1bd7c9e2189cd1ae3c11e022e71531411c21382a2543a0fc7ffbeda94db4ceb6", func := "terrier/terrierlaw20.FindGrids", spec := "findGrids", unfollowed := true, recurses := true, apart := false, narrowed := true }
def FindGridsUptoSaid : Prop := findGridsUptoRow.holds Tryz.pinned (OpenSpec.upto findGridsSpec)

/-- 'terrierlaw17.TopoUnused', WHERE WHAT IT READS IS OF BULK AT MOST 1048576: true; the input reads as it did. -/
def topoUnusedUptoRow : OpenClaim := { program := "ytkkgimhbliocoaagreat", sum := "1bd7c9e2189cd1ae3c11e022e71531411c21382a2543a0fc7ffbeda94db4ceb6", func := "terrier/terrierlaw17.TopoUnused", spec := "topoUnused", inPlace := ["slices.overlaps[terrier/api.Node]"], unfollowed := true, recurses := true, apart := false, narrowed := true }
def TopoUnusedUptoSaid : Prop := topoUnusedUptoRow.holds Tryz.pinned (OpenSpec.upto topoUnusedSpec)

/-- 'terrierlaw17.TopoFills', WHERE WHAT IT READS IS OF BULK AT MOST 1048576: true; the input reads as it did. -/
def topoFillsUptoRow : OpenClaim := { program := "ytkkgimhbliocoaagreat", sum := "1bd7c9e2189cd1ae3c11e022e71531411c21382a2543a0fc7ffbeda94db4ceb6", func := "terrier/terrierlaw17.TopoFills", spec := "topoFills", inPlace := ["slices.overlaps[terrier/api.Node]"], unfollowed := true, recurses := true, apart := false, narrowed := true }
def TopoFillsUptoSaid : Prop := topoFillsUptoRow.holds Tryz.pinned (OpenSpec.upto topoFillsSpec)

/-- 'terrierlaw17.TopoWithin', WHERE WHAT IT READS IS OF BULK AT MOST 1048576: true; the input reads as it did. -/
def topoWithinUptoRow : OpenClaim := { program := "ytkkgimhbliocoaagreat", sum := "1bd7c9e2189cd1ae3c11e022e71531411c21382a2543a0fc7ffbeda94db4ceb6", func := "terrier/terrierlaw17.TopoWithin", spec := "topoWithin", inPlace := ["slices.overlaps[terrier/api.Node]"], unfollowed := true, recurses := true, apart := false, narrowed := true }
def TopoWithinUptoSaid : Prop := topoWithinUptoRow.holds Tryz.pinned (OpenSpec.upto topoWithinSpec)

end Rows
end Go.Proofs.YtkkgimhbliocoaaGreat
