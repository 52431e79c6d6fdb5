/-
  No cell of these rows narrows 'for every input' (looked for: loops, veiled, ifaces, maps, wideKeys, modest, calm, conditions, laid).
  DERIVED. THE GIVEN ROWS OF THIS SEAT. 19 by the template 'for every input the law returns true; each argument reads behind the call as it read before'; 0 by the template 'total and deterministic' (their statements: YtpeeoddmhceddaaTotals.lean).
  GIVEN WITH THE SEED: the statements are not yours to turn. If you find one false, say at which input.
  Laid BY PROGRAM, IN A SANDBOX (cutbox-rows.mjs): the forced cells as the released guide's own fill.sh prints them over the translation 618b98b9f4b91c99… (all of the seat's roots in one cut). By AI agents, Wed Nov 11 2026. No macro, syntax, notation, axiom, sorry.
-/
import Derived.Test.YtpeeoddmhceddaaChecked
import GoSem.Claim
import GoSem.ClaimJoined
import GoSem.ClaimMapViews
import Derived.JoinedTies
import Derived.KernelRfl
namespace Go.Proofs.Ytpeeoddmhceddaa
/- THE CELL 'sum', in the pinned program and in every row, IS THE sha256 OF THE DUMP (.gsa) THAT YtpeeoddmhceddaaProg.lean LOADS. Nothing in Lean hashes anything: it is a label: what it is worth is what the hold of that sum in a sandbox is worth. -/
noncomputable def Try.pinned : Pinned := { name := "ytpeeoddmhceddaa", sum := "618b98b9f4b91c99a2b49a1ea70fad1e77a1f5e5543af3ebf210f8ad7da34f58", checked := Try.checked }
namespace Rows
def none {H : Type} : Left H := { results := [], args := [] }

/-- 'pantilelaw15.SetsAsk': WHATEVER THE INPUT: true; the input reads as it did. -/
def setsAskSpec : ChangeSpec := { name := "setsAsk", fn := fun _ => fun
  | [d1, d2, d3, d4] => { results := [.lit (.bool true)], args := [d1, d2, d3, d4] }
  | _ => none }
def setsAskRow : OpenClaim := { program := "ytpeeoddmhceddaa", sum := "618b98b9f4b91c99a2b49a1ea70fad1e77a1f5e5543af3ebf210f8ad7da34f58", func := "pantile/pantilelaw15.SetsAsk", spec := "setsAsk", inPlace := ["slices.overlaps[pantile/slots.cell[*pantile/node.Node]]"], unfollowed := true, recurses := true, apart := false }
def SetsAskSaid : Prop := setsAskRow.holds Try.pinned (OpenSpec.ofChange setsAskSpec)

/-- ITS FALSE NEIGHBOUR: 'it returns false'. Refute it at one input. -/
def setsAskWrong : ChangeSpec := { name := "setsAsk", fn := fun _ => fun
  | [d1, d2, d3, d4] => { results := [.lit (.bool false)], args := [d1, d2, d3, d4] }
  | _ => none }
def SetsAskWrongFalsely : Prop := setsAskRow.holds Try.pinned (OpenSpec.ofChange setsAskWrong)

/-- 'pantilelaw12.DiffNil': WHATEVER THE INPUT: true; the input reads as it did. -/
def diffNilSpec : ChangeSpec := { name := "diffNil", fn := fun _ => fun
  | [d] => { results := [.lit (.bool true)], args := [d] }
  | _ => none }
def diffNilRow : OpenClaim := { program := "ytpeeoddmhceddaa", sum := "618b98b9f4b91c99a2b49a1ea70fad1e77a1f5e5543af3ebf210f8ad7da34f58", func := "pantile/pantilelaw12.DiffNil", spec := "diffNil", inPlace := ["slices.overlaps[pantile/slots.cell[*pantile/node.Node]]"], unfollowed := true, recurses := true, apart := false }
def DiffNilSaid : Prop := diffNilRow.holds Try.pinned (OpenSpec.ofChange diffNilSpec)

/-- ITS FALSE NEIGHBOUR: 'it returns false'. Refute it at one input. -/
def diffNilWrong : ChangeSpec := { name := "diffNil", fn := fun _ => fun
  | [d] => { results := [.lit (.bool false)], args := [d] }
  | _ => none }
def DiffNilWrongFalsely : Prop := diffNilRow.holds Try.pinned (OpenSpec.ofChange diffNilWrong)

/-- 'pantilelaw12.DiffChain': WHATEVER THE INPUT: true; the input reads as it did. -/
def diffChainSpec : ChangeSpec := { name := "diffChain", fn := fun _ => fun
  | [d1, d2, d3, d4] => { results := [.lit (.bool true)], args := [d1, d2, d3, d4] }
  | _ => none }
def diffChainRow : OpenClaim := { program := "ytpeeoddmhceddaa", sum := "618b98b9f4b91c99a2b49a1ea70fad1e77a1f5e5543af3ebf210f8ad7da34f58", func := "pantile/pantilelaw12.DiffChain", spec := "diffChain", inPlace := ["slices.overlaps[pantile/slots.cell[*pantile/node.Node]]"], unfollowed := true, recurses := true, apart := false }
def DiffChainSaid : Prop := diffChainRow.holds Try.pinned (OpenSpec.ofChange diffChainSpec)

/-- ITS FALSE NEIGHBOUR: 'it returns false'. Refute it at one input. -/
def diffChainWrong : ChangeSpec := { name := "diffChain", fn := fun _ => fun
  | [d1, d2, d3, d4] => { results := [.lit (.bool false)], args := [d1, d2, d3, d4] }
  | _ => none }
def DiffChainWrongFalsely : Prop := diffChainRow.holds Try.pinned (OpenSpec.ofChange diffChainWrong)

/-- 'pantilelaw12.DiffChanges': WHATEVER THE INPUT: true; the input reads as it did. -/
def diffChangesSpec : ChangeSpec := { name := "diffChanges", fn := fun _ => fun
  | [d1, d2, d3] => { results := [.lit (.bool true)], args := [d1, d2, d3] }
  | _ => none }
def diffChangesRow : OpenClaim := { program := "ytpeeoddmhceddaa", sum := "618b98b9f4b91c99a2b49a1ea70fad1e77a1f5e5543af3ebf210f8ad7da34f58", func := "pantile/pantilelaw12.DiffChanges", spec := "diffChanges", inPlace := ["slices.overlaps[pantile/slots.cell[*pantile/node.Node]]"], unfollowed := true, recurses := true, apart := false }
def DiffChangesSaid : Prop := diffChangesRow.holds Try.pinned (OpenSpec.ofChange diffChangesSpec)

/-- ITS FALSE NEIGHBOUR: 'it returns false'. Refute it at one input. -/
def diffChangesWrong : ChangeSpec := { name := "diffChanges", fn := fun _ => fun
  | [d1, d2, d3] => { results := [.lit (.bool false)], args := [d1, d2, d3] }
  | _ => none }
def DiffChangesWrongFalsely : Prop := diffChangesRow.holds Try.pinned (OpenSpec.ofChange diffChangesWrong)

/-- 'pantilelaw12.DiffApart': WHATEVER THE INPUT: true; the input reads as it did. -/
def diffApartSpec : ChangeSpec := { name := "diffApart", fn := fun _ => fun
  | [d1, d2, d3, d4] => { results := [.lit (.bool true)], args := [d1, d2, d3, d4] }
  | _ => none }
def diffApartRow : OpenClaim := { program := "ytpeeoddmhceddaa", sum := "618b98b9f4b91c99a2b49a1ea70fad1e77a1f5e5543af3ebf210f8ad7da34f58", func := "pantile/pantilelaw12.DiffApart", spec := "diffApart", inPlace := ["slices.overlaps[pantile/slots.cell[*pantile/node.Node]]"], unfollowed := true, recurses := true, apart := false }
def DiffApartSaid : Prop := diffApartRow.holds Try.pinned (OpenSpec.ofChange diffApartSpec)

/-- ITS FALSE NEIGHBOUR: 'it returns false'. Refute it at one input. -/
def diffApartWrong : ChangeSpec := { name := "diffApart", fn := fun _ => fun
  | [d1, d2, d3, d4] => { results := [.lit (.bool false)], args := [d1, d2, d3, d4] }
  | _ => none }
def DiffApartWrongFalsely : Prop := diffApartRow.holds Try.pinned (OpenSpec.ofChange diffApartWrong)

/-- 'pantilelaw09.WindowNil': WHATEVER THE INPUT: true; the input reads as it did. -/
def windowNilSpec : ChangeSpec := { name := "windowNil", fn := fun _ => fun
  | [d1, d2] => { results := [.lit (.bool true)], args := [d1, d2] }
  | _ => none }
def windowNilRow : OpenClaim := { program := "ytpeeoddmhceddaa", sum := "618b98b9f4b91c99a2b49a1ea70fad1e77a1f5e5543af3ebf210f8ad7da34f58", func := "pantile/pantilelaw09.WindowNil", spec := "windowNil", inPlace := ["slices.overlaps[pantile/slots.cell[*pantile/node.Node]]"], unfollowed := true, recurses := true, apart := false }
def WindowNilSaid : Prop := windowNilRow.holds Try.pinned (OpenSpec.ofChange windowNilSpec)

/-- ITS FALSE NEIGHBOUR: 'it returns false'. Refute it at one input. -/
def windowNilWrong : ChangeSpec := { name := "windowNil", fn := fun _ => fun
  | [d1, d2] => { results := [.lit (.bool false)], args := [d1, d2] }
  | _ => none }
def WindowNilWrongFalsely : Prop := windowNilRow.holds Try.pinned (OpenSpec.ofChange windowNilWrong)

/-- 'pantilelaw09.WindowHalves': WHATEVER THE INPUT: true; the input reads as it did. -/
def windowHalvesSpec : ChangeSpec := { name := "windowHalves", fn := fun _ => fun
  | [d1, d2, d3, d4, d5] => { results := [.lit (.bool true)], args := [d1, d2, d3, d4, d5] }
  | _ => none }
def windowHalvesRow : OpenClaim := { program := "ytpeeoddmhceddaa", sum := "618b98b9f4b91c99a2b49a1ea70fad1e77a1f5e5543af3ebf210f8ad7da34f58", func := "pantile/pantilelaw09.WindowHalves", spec := "windowHalves", inPlace := ["slices.overlaps[pantile/slots.cell[*pantile/node.Node]]"], unfollowed := true, recurses := true, apart := false }
def WindowHalvesSaid : Prop := windowHalvesRow.holds Try.pinned (OpenSpec.ofChange windowHalvesSpec)

/-- ITS FALSE NEIGHBOUR: 'it returns false'. Refute it at one input. -/
def windowHalvesWrong : ChangeSpec := { name := "windowHalves", fn := fun _ => fun
  | [d1, d2, d3, d4, d5] => { results := [.lit (.bool false)], args := [d1, d2, d3, d4, d5] }
  | _ => none }
def WindowHalvesWrongFalsely : Prop := windowHalvesRow.holds Try.pinned (OpenSpec.ofChange windowHalvesWrong)

/-- 'pantilelaw11.NearNil': WHATEVER THE INPUT: true; the input reads as it did. -/
def nearNilSpec : ChangeSpec := { name := "nearNil", fn := fun _ => fun
  | [d1, d2] => { results := [.lit (.bool true)], args := [d1, d2] }
  | _ => none }
def nearNilRow : OpenClaim := { program := "ytpeeoddmhceddaa", sum := "618b98b9f4b91c99a2b49a1ea70fad1e77a1f5e5543af3ebf210f8ad7da34f58", func := "pantile/pantilelaw11.NearNil", spec := "nearNil", inPlace := ["slices.overlaps[pantile/slots.cell[*pantile/node.Node]]"], unfollowed := true, recurses := true, apart := false }
def NearNilSaid : Prop := nearNilRow.holds Try.pinned (OpenSpec.ofChange nearNilSpec)

/-- ITS FALSE NEIGHBOUR: 'it returns false'. Refute it at one input. -/
def nearNilWrong : ChangeSpec := { name := "nearNil", fn := fun _ => fun
  | [d1, d2] => { results := [.lit (.bool false)], args := [d1, d2] }
  | _ => none }
def NearNilWrongFalsely : Prop := nearNilRow.holds Try.pinned (OpenSpec.ofChange nearNilWrong)

/-- 'pantilelaw11.NearTo': WHATEVER THE INPUT: true; the input reads as it did. -/
def nearToSpec : ChangeSpec := { name := "nearTo", fn := fun _ => fun
  | [d1, d2, d3, d4] => { results := [.lit (.bool true)], args := [d1, d2, d3, d4] }
  | _ => none }
def nearToRow : OpenClaim := { program := "ytpeeoddmhceddaa", sum := "618b98b9f4b91c99a2b49a1ea70fad1e77a1f5e5543af3ebf210f8ad7da34f58", func := "pantile/pantilelaw11.NearTo", spec := "nearTo", inPlace := ["slices.overlaps[pantile/slots.cell[*pantile/node.Node]]"], unfollowed := true, recurses := true, apart := false }
def NearToSaid : Prop := nearToRow.holds Try.pinned (OpenSpec.ofChange nearToSpec)

/-- ITS FALSE NEIGHBOUR: 'it returns false'. Refute it at one input. -/
def nearToWrong : ChangeSpec := { name := "nearTo", fn := fun _ => fun
  | [d1, d2, d3, d4] => { results := [.lit (.bool false)], args := [d1, d2, d3, d4] }
  | _ => none }
def NearToWrongFalsely : Prop := nearToRow.holds Try.pinned (OpenSpec.ofChange nearToWrong)

/-- 'pantilelaw11.NearWithin': WHATEVER THE INPUT: true; the input reads as it did. -/
def nearWithinSpec : ChangeSpec := { name := "nearWithin", fn := fun _ => fun
  | [d1, d2, d3, d4] => { results := [.lit (.bool true)], args := [d1, d2, d3, d4] }
  | _ => none }
def nearWithinRow : OpenClaim := { program := "ytpeeoddmhceddaa", sum := "618b98b9f4b91c99a2b49a1ea70fad1e77a1f5e5543af3ebf210f8ad7da34f58", func := "pantile/pantilelaw11.NearWithin", spec := "nearWithin", inPlace := ["slices.overlaps[pantile/slots.cell[*pantile/node.Node]]"], unfollowed := true, recurses := true, apart := false }
def NearWithinSaid : Prop := nearWithinRow.holds Try.pinned (OpenSpec.ofChange nearWithinSpec)

/-- ITS FALSE NEIGHBOUR: 'it returns false'. Refute it at one input. -/
def nearWithinWrong : ChangeSpec := { name := "nearWithin", fn := fun _ => fun
  | [d1, d2, d3, d4] => { results := [.lit (.bool false)], args := [d1, d2, d3, d4] }
  | _ => none }
def NearWithinWrongFalsely : Prop := nearWithinRow.holds Try.pinned (OpenSpec.ofChange nearWithinWrong)

/-- 'pantilelaw11.NearGrows': WHATEVER THE INPUT: true; the input reads as it did. -/
def nearGrowsSpec : ChangeSpec := { name := "nearGrows", fn := fun _ => fun
  | [d1, d2, d3, d4] => { results := [.lit (.bool true)], args := [d1, d2, d3, d4] }
  | _ => none }
def nearGrowsRow : OpenClaim := { program := "ytpeeoddmhceddaa", sum := "618b98b9f4b91c99a2b49a1ea70fad1e77a1f5e5543af3ebf210f8ad7da34f58", func := "pantile/pantilelaw11.NearGrows", spec := "nearGrows", inPlace := ["slices.overlaps[pantile/slots.cell[*pantile/node.Node]]"], unfollowed := true, recurses := true, apart := false }
def NearGrowsSaid : Prop := nearGrowsRow.holds Try.pinned (OpenSpec.ofChange nearGrowsSpec)

/-- ITS FALSE NEIGHBOUR: 'it returns false'. Refute it at one input. -/
def nearGrowsWrong : ChangeSpec := { name := "nearGrows", fn := fun _ => fun
  | [d1, d2, d3, d4] => { results := [.lit (.bool false)], args := [d1, d2, d3, d4] }
  | _ => none }
def NearGrowsWrongFalsely : Prop := nearGrowsRow.holds Try.pinned (OpenSpec.ofChange nearGrowsWrong)

/-- 'pantilelaw17.ShareNil': WHATEVER THE INPUT: true; the input reads as it did. -/
def shareNilSpec : ChangeSpec := { name := "shareNil", fn := fun _ => fun
  | [d] => { results := [.lit (.bool true)], args := [d] }
  | _ => none }
def shareNilRow : OpenClaim := { program := "ytpeeoddmhceddaa", sum := "618b98b9f4b91c99a2b49a1ea70fad1e77a1f5e5543af3ebf210f8ad7da34f58", func := "pantile/pantilelaw17.ShareNil", spec := "shareNil", inPlace := ["slices.overlaps[pantile/slots.cell[*pantile/node.Node]]"], unfollowed := true, recurses := true, apart := false }
def ShareNilSaid : Prop := shareNilRow.holds Try.pinned (OpenSpec.ofChange shareNilSpec)

/-- ITS FALSE NEIGHBOUR: 'it returns false'. Refute it at one input. -/
def shareNilWrong : ChangeSpec := { name := "shareNil", fn := fun _ => fun
  | [d] => { results := [.lit (.bool false)], args := [d] }
  | _ => none }
def ShareNilWrongFalsely : Prop := shareNilRow.holds Try.pinned (OpenSpec.ofChange shareNilWrong)

/-- 'pantilelaw17.ShareFew': WHATEVER THE INPUT: true; the input reads as it did. -/
def shareFewSpec : ChangeSpec := { name := "shareFew", fn := fun _ => fun
  | [d1, d2, d3] => { results := [.lit (.bool true)], args := [d1, d2, d3] }
  | _ => none }
def shareFewRow : OpenClaim := { program := "ytpeeoddmhceddaa", sum := "618b98b9f4b91c99a2b49a1ea70fad1e77a1f5e5543af3ebf210f8ad7da34f58", func := "pantile/pantilelaw17.ShareFew", spec := "shareFew", inPlace := ["slices.overlaps[pantile/slots.cell[*pantile/node.Node]]"], unfollowed := true, recurses := true, apart := false }
def ShareFewSaid : Prop := shareFewRow.holds Try.pinned (OpenSpec.ofChange shareFewSpec)

/-- ITS FALSE NEIGHBOUR: 'it returns false'. Refute it at one input. -/
def shareFewWrong : ChangeSpec := { name := "shareFew", fn := fun _ => fun
  | [d1, d2, d3] => { results := [.lit (.bool false)], args := [d1, d2, d3] }
  | _ => none }
def ShareFewWrongFalsely : Prop := shareFewRow.holds Try.pinned (OpenSpec.ofChange shareFewWrong)

/-- 'pantilelaw17.ShareCounts': WHATEVER THE INPUT: true; the input reads as it did. -/
def shareCountsSpec : ChangeSpec := { name := "shareCounts", fn := fun _ => fun
  | [d1, d2, d3] => { results := [.lit (.bool true)], args := [d1, d2, d3] }
  | _ => none }
def shareCountsRow : OpenClaim := { program := "ytpeeoddmhceddaa", sum := "618b98b9f4b91c99a2b49a1ea70fad1e77a1f5e5543af3ebf210f8ad7da34f58", func := "pantile/pantilelaw17.ShareCounts", spec := "shareCounts", inPlace := ["slices.overlaps[pantile/slots.cell[*pantile/node.Node]]"], unfollowed := true, recurses := true, apart := false }
def ShareCountsSaid : Prop := shareCountsRow.holds Try.pinned (OpenSpec.ofChange shareCountsSpec)

/-- ITS FALSE NEIGHBOUR: 'it returns false'. Refute it at one input. -/
def shareCountsWrong : ChangeSpec := { name := "shareCounts", fn := fun _ => fun
  | [d1, d2, d3] => { results := [.lit (.bool false)], args := [d1, d2, d3] }
  | _ => none }
def ShareCountsWrongFalsely : Prop := shareCountsRow.holds Try.pinned (OpenSpec.ofChange shareCountsWrong)

/-- 'pantilelaw23.GraphBases': WHATEVER THE INPUT: true; the input reads as it did. -/
def graphBasesSpec : ChangeSpec := { name := "graphBases", fn := fun _ => fun
  | [d1, d2, d3] => { results := [.lit (.bool true)], args := [d1, d2, d3] }
  | _ => none }
def graphBasesRow : OpenClaim := { program := "ytpeeoddmhceddaa", sum := "618b98b9f4b91c99a2b49a1ea70fad1e77a1f5e5543af3ebf210f8ad7da34f58", func := "pantile/pantilelaw23.GraphBases", spec := "graphBases", unfollowed := true, recurses := true, apart := false }
def GraphBasesSaid : Prop := graphBasesRow.holds Try.pinned (OpenSpec.ofChange graphBasesSpec)

/-- ITS FALSE NEIGHBOUR: 'it returns false'. Refute it at one input. -/
def graphBasesWrong : ChangeSpec := { name := "graphBases", fn := fun _ => fun
  | [d1, d2, d3] => { results := [.lit (.bool false)], args := [d1, d2, d3] }
  | _ => none }
def GraphBasesWrongFalsely : Prop := graphBasesRow.holds Try.pinned (OpenSpec.ofChange graphBasesWrong)

/-- 'pantilelaw23.GraphAll': WHATEVER THE INPUT: true; the input reads as it did. -/
def graphAllSpec : ChangeSpec := { name := "graphAll", fn := fun _ => fun
  | [d1, d2, d3] => { results := [.lit (.bool true)], args := [d1, d2, d3] }
  | _ => none }
def graphAllRow : OpenClaim := { program := "ytpeeoddmhceddaa", sum := "618b98b9f4b91c99a2b49a1ea70fad1e77a1f5e5543af3ebf210f8ad7da34f58", func := "pantile/pantilelaw23.GraphAll", spec := "graphAll", unfollowed := true, recurses := true, apart := false }
def GraphAllSaid : Prop := graphAllRow.holds Try.pinned (OpenSpec.ofChange graphAllSpec)

/-- ITS FALSE NEIGHBOUR: 'it returns false'. Refute it at one input. -/
def graphAllWrong : ChangeSpec := { name := "graphAll", fn := fun _ => fun
  | [d1, d2, d3] => { results := [.lit (.bool false)], args := [d1, d2, d3] }
  | _ => none }
def GraphAllWrongFalsely : Prop := graphAllRow.holds Try.pinned (OpenSpec.ofChange graphAllWrong)

/-- 'pantilelaw23.GraphBehind': WHATEVER THE INPUT: true; the input reads as it did. -/
def graphBehindSpec : ChangeSpec := { name := "graphBehind", fn := fun _ => fun
  | [d1, d2, d3] => { results := [.lit (.bool true)], args := [d1, d2, d3] }
  | _ => none }
def graphBehindRow : OpenClaim := { program := "ytpeeoddmhceddaa", sum := "618b98b9f4b91c99a2b49a1ea70fad1e77a1f5e5543af3ebf210f8ad7da34f58", func := "pantile/pantilelaw23.GraphBehind", spec := "graphBehind", unfollowed := true, recurses := true, apart := false }
def GraphBehindSaid : Prop := graphBehindRow.holds Try.pinned (OpenSpec.ofChange graphBehindSpec)

/-- ITS FALSE NEIGHBOUR: 'it returns false'. Refute it at one input. -/
def graphBehindWrong : ChangeSpec := { name := "graphBehind", fn := fun _ => fun
  | [d1, d2, d3] => { results := [.lit (.bool false)], args := [d1, d2, d3] }
  | _ => none }
def GraphBehindWrongFalsely : Prop := graphBehindRow.holds Try.pinned (OpenSpec.ofChange graphBehindWrong)

/-- 'pantilelaw28.PolyTurns': WHATEVER THE INPUT: true; the input reads as it did. -/
def polyTurnsSpec : ChangeSpec := { name := "polyTurns", fn := fun _ => fun
  | [d1, d2, d3] => { results := [.lit (.bool true)], args := [d1, d2, d3] }
  | _ => none }
def polyTurnsRow : OpenClaim := { program := "ytpeeoddmhceddaa", sum := "618b98b9f4b91c99a2b49a1ea70fad1e77a1f5e5543af3ebf210f8ad7da34f58", func := "pantile/pantilelaw28.PolyTurns", spec := "polyTurns", unfollowed := true, recurses := true, apart := false }
def PolyTurnsSaid : Prop := polyTurnsRow.holds Try.pinned (OpenSpec.ofChange polyTurnsSpec)

/-- ITS FALSE NEIGHBOUR: 'it returns false'. Refute it at one input. -/
def polyTurnsWrong : ChangeSpec := { name := "polyTurns", fn := fun _ => fun
  | [d1, d2, d3] => { results := [.lit (.bool false)], args := [d1, d2, d3] }
  | _ => none }
def PolyTurnsWrongFalsely : Prop := polyTurnsRow.holds Try.pinned (OpenSpec.ofChange polyTurnsWrong)

/-- 'pantilelaw28.PolyTells': WHATEVER THE INPUT: true; the input reads as it did. -/
def polyTellsSpec : ChangeSpec := { name := "polyTells", fn := fun _ => fun
  | [d1, d2] => { results := [.lit (.bool true)], args := [d1, d2] }
  | _ => none }
def polyTellsRow : OpenClaim := { program := "ytpeeoddmhceddaa", sum := "618b98b9f4b91c99a2b49a1ea70fad1e77a1f5e5543af3ebf210f8ad7da34f58", func := "pantile/pantilelaw28.PolyTells", spec := "polyTells", unfollowed := true, recurses := true, apart := false }
def PolyTellsSaid : Prop := polyTellsRow.holds Try.pinned (OpenSpec.ofChange polyTellsSpec)

/-- ITS FALSE NEIGHBOUR: 'it returns false'. Refute it at one input. -/
def polyTellsWrong : ChangeSpec := { name := "polyTells", fn := fun _ => fun
  | [d1, d2] => { results := [.lit (.bool false)], args := [d1, d2] }
  | _ => none }
def PolyTellsWrongFalsely : Prop := polyTellsRow.holds Try.pinned (OpenSpec.ofChange polyTellsWrong)

/- THE SECOND FORM. 'bulk': how many values and letters a reading holds, each counted each time it is reached (what is shared counts as often as it is met; a slice's spare places count too). A statement '..UptoSaid' is the law's where the arguments, and the package variables that the reading takes, are together of bulk at most 1048576: NARROWER than '..Said'. Prove '..Said' where nothing that the law and all that it calls make is longer than what came in: it says more and counts as full. Else prove '..UptoSaid'. A law counts once. -/
mutual
def uptoBulk {H : Type} : DataW H → Nat
  | .lit (.string bytes) => bytes.length + 1
  | .lit _ => 1
  | .nil => 1
  | .ptr d => uptoBulk d + 1
  | .slice elems spare => uptoBulkAll elems + uptoBulkAll spare + 1
  | .agg parts => uptoBulkAll parts + 1
  | .iface _ d => uptoBulk d + 1
  | .map entries => uptoBulkEntries entries + 1
  | .held _ => 1
def uptoBulkAll {H : Type} : List (DataW H) → Nat
  | [] => 0
  | d :: r => uptoBulk d + uptoBulkAll r
def uptoBulkEntries {H : Type} : List (Lit × DataW H) → Nat
  | [] => 0
  | x :: r => uptoBulkEntry x + uptoBulkEntries r
def uptoBulkEntry {H : Type} : Lit × DataW H → Nat
  | (.string bytes, d) => bytes.length + uptoBulk d + 1
  | (_, d) => uptoBulk d + 1
 end
def uptoSmall : (H : Type) → List (DataW H) → Bool := fun _ ds => decide (uptoBulkAll ds ≤ 1048576)
def OpenSpec.upto (s : _root_.Go.ChangeSpec) : _root_.Go.OpenSpec := { _root_.Go.OpenSpec.ofChange s with cond := some uptoSmall }

/-- 'pantilelaw15.SetsAsk', WHERE WHAT IT READS IS OF BULK AT MOST 1048576: true; the input reads as it did. -/
def setsAskUptoRow : OpenClaim := { program := "ytpeeoddmhceddaa", sum := "618b98b9f4b91c99a2b49a1ea70fad1e77a1f5e5543af3ebf210f8ad7da34f58", func := "pantile/pantilelaw15.SetsAsk", spec := "setsAsk", inPlace := ["slices.overlaps[pantile/slots.cell[*pantile/node.Node]]"], unfollowed := true, recurses := true, apart := false, narrowed := true }
def SetsAskUptoSaid : Prop := setsAskUptoRow.holds Try.pinned (OpenSpec.upto setsAskSpec)

/-- 'pantilelaw12.DiffNil', WHERE WHAT IT READS IS OF BULK AT MOST 1048576: true; the input reads as it did. -/
def diffNilUptoRow : OpenClaim := { program := "ytpeeoddmhceddaa", sum := "618b98b9f4b91c99a2b49a1ea70fad1e77a1f5e5543af3ebf210f8ad7da34f58", func := "pantile/pantilelaw12.DiffNil", spec := "diffNil", inPlace := ["slices.overlaps[pantile/slots.cell[*pantile/node.Node]]"], unfollowed := true, recurses := true, apart := false, narrowed := true }
def DiffNilUptoSaid : Prop := diffNilUptoRow.holds Try.pinned (OpenSpec.upto diffNilSpec)

/-- 'pantilelaw12.DiffChain', WHERE WHAT IT READS IS OF BULK AT MOST 1048576: true; the input reads as it did. -/
def diffChainUptoRow : OpenClaim := { program := "ytpeeoddmhceddaa", sum := "618b98b9f4b91c99a2b49a1ea70fad1e77a1f5e5543af3ebf210f8ad7da34f58", func := "pantile/pantilelaw12.DiffChain", spec := "diffChain", inPlace := ["slices.overlaps[pantile/slots.cell[*pantile/node.Node]]"], unfollowed := true, recurses := true, apart := false, narrowed := true }
def DiffChainUptoSaid : Prop := diffChainUptoRow.holds Try.pinned (OpenSpec.upto diffChainSpec)

/-- 'pantilelaw12.DiffChanges', WHERE WHAT IT READS IS OF BULK AT MOST 1048576: true; the input reads as it did. -/
def diffChangesUptoRow : OpenClaim := { program := "ytpeeoddmhceddaa", sum := "618b98b9f4b91c99a2b49a1ea70fad1e77a1f5e5543af3ebf210f8ad7da34f58", func := "pantile/pantilelaw12.DiffChanges", spec := "diffChanges", inPlace := ["slices.overlaps[pantile/slots.cell[*pantile/node.Node]]"], unfollowed := true, recurses := true, apart := false, narrowed := true }
def DiffChangesUptoSaid : Prop := diffChangesUptoRow.holds Try.pinned (OpenSpec.upto diffChangesSpec)

/-- 'pantilelaw12.DiffApart', WHERE WHAT IT READS IS OF BULK AT MOST 1048576: true; the input reads as it did. -/
def diffApartUptoRow : OpenClaim := { program := "ytpeeoddmhceddaa", sum := "618b98b9f4b91c99a2b49a1ea70fad1e77a1f5e5543af3ebf210f8ad7da34f58", func := "pantile/pantilelaw12.DiffApart", spec := "diffApart", inPlace := ["slices.overlaps[pantile/slots.cell[*pantile/node.Node]]"], unfollowed := true, recurses := true, apart := false, narrowed := true }
def DiffApartUptoSaid : Prop := diffApartUptoRow.holds Try.pinned (OpenSpec.upto diffApartSpec)

/-- 'pantilelaw09.WindowNil', WHERE WHAT IT READS IS OF BULK AT MOST 1048576: true; the input reads as it did. -/
def windowNilUptoRow : OpenClaim := { program := "ytpeeoddmhceddaa", sum := "618b98b9f4b91c99a2b49a1ea70fad1e77a1f5e5543af3ebf210f8ad7da34f58", func := "pantile/pantilelaw09.WindowNil", spec := "windowNil", inPlace := ["slices.overlaps[pantile/slots.cell[*pantile/node.Node]]"], unfollowed := true, recurses := true, apart := false, narrowed := true }
def WindowNilUptoSaid : Prop := windowNilUptoRow.holds Try.pinned (OpenSpec.upto windowNilSpec)

/-- 'pantilelaw09.WindowHalves', WHERE WHAT IT READS IS OF BULK AT MOST 1048576: true; the input reads as it did. -/
def windowHalvesUptoRow : OpenClaim := { program := "ytpeeoddmhceddaa", sum := "618b98b9f4b91c99a2b49a1ea70fad1e77a1f5e5543af3ebf210f8ad7da34f58", func := "pantile/pantilelaw09.WindowHalves", spec := "windowHalves", inPlace := ["slices.overlaps[pantile/slots.cell[*pantile/node.Node]]"], unfollowed := true, recurses := true, apart := false, narrowed := true }
def WindowHalvesUptoSaid : Prop := windowHalvesUptoRow.holds Try.pinned (OpenSpec.upto windowHalvesSpec)

/-- 'pantilelaw11.NearNil', WHERE WHAT IT READS IS OF BULK AT MOST 1048576: true; the input reads as it did. -/
def nearNilUptoRow : OpenClaim := { program := "ytpeeoddmhceddaa", sum := "618b98b9f4b91c99a2b49a1ea70fad1e77a1f5e5543af3ebf210f8ad7da34f58", func := "pantile/pantilelaw11.NearNil", spec := "nearNil", inPlace := ["slices.overlaps[pantile/slots.cell[*pantile/node.Node]]"], unfollowed := true, recurses := true, apart := false, narrowed := true }
def NearNilUptoSaid : Prop := nearNilUptoRow.holds Try.pinned (OpenSpec.upto nearNilSpec)

/-- 'pantilelaw11.NearTo', WHERE WHAT IT READS IS OF BULK AT MOST 1048576: true; the input reads as it did. -/
def nearToUptoRow : OpenClaim := { program := "ytpeeoddmhceddaa", sum := "618b98b9f4b91c99a2b49a1ea70fad1e77a1f5e5543af3ebf210f8ad7da34f58", func := "pantile/pantilelaw11.NearTo", spec := "nearTo", inPlace := ["slices.overlaps[pantile/slots.cell[*pantile/node.Node]]"], unfollowed := true, recurses := true, apart := false, narrowed := true }
def NearToUptoSaid : Prop := nearToUptoRow.holds Try.pinned (OpenSpec.upto nearToSpec)

/-- 'pantilelaw11.NearWithin', WHERE WHAT IT READS IS OF BULK AT MOST 1048576: true; the input reads as it did. -/
def nearWithinUptoRow : OpenClaim := { program := "ytpeeoddmhceddaa", sum := "618b98b9f4b91c99a2b49a1ea70fad1e77a1f5e5543af3ebf210f8ad7da34f58", func := "pantile/pantilelaw11.NearWithin", spec := "nearWithin", inPlace := ["slices.overlaps[pantile/slots.cell[*pantile/node.Node]]"], unfollowed := true, recurses := true, apart := false, narrowed := true }
def NearWithinUptoSaid : Prop := nearWithinUptoRow.holds Try.pinned (OpenSpec.upto nearWithinSpec)

/-- 'pantilelaw11.NearGrows', WHERE WHAT IT READS IS OF BULK AT MOST 1048576: true; the input reads as it did. -/
def nearGrowsUptoRow : OpenClaim := { program := "ytpeeoddmhceddaa", sum := "618b98b9f4b91c99a2b49a1ea70fad1e77a1f5e5543af3ebf210f8ad7da34f58", func := "pantile/pantilelaw11.NearGrows", spec := "nearGrows", inPlace := ["slices.overlaps[pantile/slots.cell[*pantile/node.Node]]"], unfollowed := true, recurses := true, apart := false, narrowed := true }
def NearGrowsUptoSaid : Prop := nearGrowsUptoRow.holds Try.pinned (OpenSpec.upto nearGrowsSpec)

/-- 'pantilelaw17.ShareNil', WHERE WHAT IT READS IS OF BULK AT MOST 1048576: true; the input reads as it did. -/
def shareNilUptoRow : OpenClaim := { program := "ytpeeoddmhceddaa", sum := "618b98b9f4b91c99a2b49a1ea70fad1e77a1f5e5543af3ebf210f8ad7da34f58", func := "pantile/pantilelaw17.ShareNil", spec := "shareNil", inPlace := ["slices.overlaps[pantile/slots.cell[*pantile/node.Node]]"], unfollowed := true, recurses := true, apart := false, narrowed := true }
def ShareNilUptoSaid : Prop := shareNilUptoRow.holds Try.pinned (OpenSpec.upto shareNilSpec)

/-- 'pantilelaw17.ShareFew', WHERE WHAT IT READS IS OF BULK AT MOST 1048576: true; the input reads as it did. -/
def shareFewUptoRow : OpenClaim := { program := "ytpeeoddmhceddaa", sum := "618b98b9f4b91c99a2b49a1ea70fad1e77a1f5e5543af3ebf210f8ad7da34f58", func := "pantile/pantilelaw17.ShareFew", spec := "shareFew", inPlace := ["slices.overlaps[pantile/slots.cell[*pantile/node.Node]]"], unfollowed := true, recurses := true, apart := false, narrowed := true }
def ShareFewUptoSaid : Prop := shareFewUptoRow.holds Try.pinned (OpenSpec.upto shareFewSpec)

/-- 'pantilelaw17.ShareCounts', WHERE WHAT IT READS IS OF BULK AT MOST 1048576: true; the input reads as it did. -/
def shareCountsUptoRow : OpenClaim := { program := "ytpeeoddmhceddaa", sum := "618b98b9f4b91c99a2b49a1ea70fad1e77a1f5e5543af3ebf210f8ad7da34f58", func := "pantile/pantilelaw17.ShareCounts", spec := "shareCounts", inPlace := ["slices.overlaps[pantile/slots.cell[*pantile/node.Node]]"], unfollowed := true, recurses := true, apart := false, narrowed := true }
def ShareCountsUptoSaid : Prop := shareCountsUptoRow.holds Try.pinned (OpenSpec.upto shareCountsSpec)

/-- 'pantilelaw23.GraphBases', WHERE WHAT IT READS IS OF BULK AT MOST 1048576: true; the input reads as it did. -/
def graphBasesUptoRow : OpenClaim := { program := "ytpeeoddmhceddaa", sum := "618b98b9f4b91c99a2b49a1ea70fad1e77a1f5e5543af3ebf210f8ad7da34f58", func := "pantile/pantilelaw23.GraphBases", spec := "graphBases", unfollowed := true, recurses := true, apart := false, narrowed := true }
def GraphBasesUptoSaid : Prop := graphBasesUptoRow.holds Try.pinned (OpenSpec.upto graphBasesSpec)

/-- 'pantilelaw23.GraphAll', WHERE WHAT IT READS IS OF BULK AT MOST 1048576: true; the input reads as it did. -/
def graphAllUptoRow : OpenClaim := { program := "ytpeeoddmhceddaa", sum := "618b98b9f4b91c99a2b49a1ea70fad1e77a1f5e5543af3ebf210f8ad7da34f58", func := "pantile/pantilelaw23.GraphAll", spec := "graphAll", unfollowed := true, recurses := true, apart := false, narrowed := true }
def GraphAllUptoSaid : Prop := graphAllUptoRow.holds Try.pinned (OpenSpec.upto graphAllSpec)

/-- 'pantilelaw23.GraphBehind', WHERE WHAT IT READS IS OF BULK AT MOST 1048576: true; the input reads as it did. -/
def graphBehindUptoRow : OpenClaim := { program := "ytpeeoddmhceddaa", sum := "618b98b9f4b91c99a2b49a1ea70fad1e77a1f5e5543af3ebf210f8ad7da34f58", func := "pantile/pantilelaw23.GraphBehind", spec := "graphBehind", unfollowed := true, recurses := true, apart := false, narrowed := true }
def GraphBehindUptoSaid : Prop := graphBehindUptoRow.holds Try.pinned (OpenSpec.upto graphBehindSpec)

/-- 'pantilelaw28.PolyTurns', WHERE WHAT IT READS IS OF BULK AT MOST 1048576: true; the input reads as it did. -/
def polyTurnsUptoRow : OpenClaim := { program := "ytpeeoddmhceddaa", sum := "618b98b9f4b91c99a2b49a1ea70fad1e77a1f5e5543af3ebf210f8ad7da34f58", func := "pantile/pantilelaw28.PolyTurns", spec := "polyTurns", unfollowed := true, recurses := true, apart := false, narrowed := true }
def PolyTurnsUptoSaid : Prop := polyTurnsUptoRow.holds Try.pinned (OpenSpec.upto polyTurnsSpec)

/-- 'pantilelaw28.PolyTells', WHERE WHAT IT READS IS OF BULK AT MOST 1048576: true; the input reads as it did. -/
def polyTellsUptoRow : OpenClaim := { program := "ytpeeoddmhceddaa", sum := "618b98b9f4b91c99a2b49a1ea70fad1e77a1f5e5543af3ebf210f8ad7da34f58", func := "pantile/pantilelaw28.PolyTells", spec := "polyTells", unfollowed := true, recurses := true, apart := false, narrowed := true }
def PolyTellsUptoSaid : Prop := polyTellsUptoRow.holds Try.pinned (OpenSpec.upto polyTellsSpec)

end Rows
end Go.Proofs.Ytpeeoddmhceddaa
