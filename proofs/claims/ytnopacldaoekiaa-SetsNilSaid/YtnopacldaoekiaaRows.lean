/-
  No cell of these rows narrows 'for every input' (looked for: loops, veiled, ifaces, maps, wideKeys, modest, calm, conditions, laid).
  DERIVED. THE GIVEN ROWS OF THIS SEAT. 15 by the template 'for every input the law returns true; each argument reads behind the call as it read before'; 0 by the template 'total and deterministic' (their statements: YtnopacldaoekiaaTotals.lean).
  GIVEN WITH THE SEED: the statements are not yours to turn. If you find one false, say at which input.
  Laid BY PROGRAM, IN A SANDBOX (cutbox-rows.mjs): the forced cells as the released guide's own fill.sh prints them over the translation f53081e89ad1f561… (all of the seat's roots in one cut). By AI agents, Wed Nov 11 2026. No macro, syntax, notation, axiom, sorry.
-/
import Derived.Test.YtnopacldaoekiaaChecked
import GoSem.Claim
import GoSem.ClaimJoined
import GoSem.ClaimMapViews
import Derived.JoinedTies
import Derived.KernelRfl
namespace Go.Proofs.Ytnopacldaoekiaa
/- THE CELL 'sum', in the pinned program and in every row, IS THE sha256 OF THE DUMP (.gsa) THAT YtnopacldaoekiaaProg.lean LOADS. Nothing in Lean hashes anything: it is a label: what it is worth is what the hold of that sum in a sandbox is worth. -/
noncomputable def Try.pinned : Pinned := { name := "ytnopacldaoekiaa", sum := "f53081e89ad1f561672e6e0d66f312c2c53998a39ad215445d658d83e433b845", checked := Try.checked }
namespace Rows
def none {H : Type} : Left H := { results := [], args := [] }

/-- 'pantilelaw08.WalkNil': WHATEVER THE INPUT: true; the input reads as it did. -/
def walkNilSpec : ChangeSpec := { name := "walkNil", fn := fun _ => fun
  | [d] => { results := [.lit (.bool true)], args := [d] }
  | _ => none }
def walkNilRow : OpenClaim := { program := "ytnopacldaoekiaa", sum := "f53081e89ad1f561672e6e0d66f312c2c53998a39ad215445d658d83e433b845", func := "pantile/pantilelaw08.WalkNil", spec := "walkNil", inPlace := ["slices.overlaps[pantile/slots.cell[*pantile/node.Node]]"], unfollowed := true, recurses := true, apart := false }
def WalkNilSaid : Prop := walkNilRow.holds Try.pinned (OpenSpec.ofChange walkNilSpec)

/-- ITS FALSE NEIGHBOUR: 'it returns false'. Refute it at one input. -/
def walkNilWrong : ChangeSpec := { name := "walkNil", fn := fun _ => fun
  | [d] => { results := [.lit (.bool false)], args := [d] }
  | _ => none }
def WalkNilWrongFalsely : Prop := walkNilRow.holds Try.pinned (OpenSpec.ofChange walkNilWrong)

/-- 'pantilelaw08.WalkAll': WHATEVER THE INPUT: true; the input reads as it did. -/
def walkAllSpec : ChangeSpec := { name := "walkAll", fn := fun _ => fun
  | [d1, d2, d3] => { results := [.lit (.bool true)], args := [d1, d2, d3] }
  | _ => none }
def walkAllRow : OpenClaim := { program := "ytnopacldaoekiaa", sum := "f53081e89ad1f561672e6e0d66f312c2c53998a39ad215445d658d83e433b845", func := "pantile/pantilelaw08.WalkAll", spec := "walkAll", inPlace := ["slices.overlaps[pantile/slots.cell[*pantile/node.Node]]"], unfollowed := true, recurses := true, apart := false }
def WalkAllSaid : Prop := walkAllRow.holds Try.pinned (OpenSpec.ofChange walkAllSpec)

/-- ITS FALSE NEIGHBOUR: 'it returns false'. Refute it at one input. -/
def walkAllWrong : ChangeSpec := { name := "walkAll", fn := fun _ => fun
  | [d1, d2, d3] => { results := [.lit (.bool false)], args := [d1, d2, d3] }
  | _ => none }
def WalkAllWrongFalsely : Prop := walkAllRow.holds Try.pinned (OpenSpec.ofChange walkAllWrong)

/-- 'pantilelaw08.WalkRun': WHATEVER THE INPUT: true; the input reads as it did. -/
def walkRunSpec : ChangeSpec := { name := "walkRun", fn := fun _ => fun
  | [d1, d2] => { results := [.lit (.bool true)], args := [d1, d2] }
  | _ => none }
def walkRunRow : OpenClaim := { program := "ytnopacldaoekiaa", sum := "f53081e89ad1f561672e6e0d66f312c2c53998a39ad215445d658d83e433b845", func := "pantile/pantilelaw08.WalkRun", spec := "walkRun", inPlace := ["slices.overlaps[pantile/slots.cell[*pantile/node.Node]]"], unfollowed := true, recurses := true, apart := false }
def WalkRunSaid : Prop := walkRunRow.holds Try.pinned (OpenSpec.ofChange walkRunSpec)

/-- ITS FALSE NEIGHBOUR: 'it returns false'. Refute it at one input. -/
def walkRunWrong : ChangeSpec := { name := "walkRun", fn := fun _ => fun
  | [d1, d2] => { results := [.lit (.bool false)], args := [d1, d2] }
  | _ => none }
def WalkRunWrongFalsely : Prop := walkRunRow.holds Try.pinned (OpenSpec.ofChange walkRunWrong)

/-- 'pantilelaw10.RankNil': WHATEVER THE INPUT: true; the input reads as it did. -/
def rankNilSpec : ChangeSpec := { name := "rankNil", fn := fun _ => fun
  | [d1, d2, d3] => { results := [.lit (.bool true)], args := [d1, d2, d3] }
  | _ => none }
def rankNilRow : OpenClaim := { program := "ytnopacldaoekiaa", sum := "f53081e89ad1f561672e6e0d66f312c2c53998a39ad215445d658d83e433b845", func := "pantile/pantilelaw10.RankNil", spec := "rankNil", inPlace := ["slices.overlaps[pantile/slots.cell[*pantile/node.Node]]"], unfollowed := true, recurses := true, apart := false }
def RankNilSaid : Prop := rankNilRow.holds Try.pinned (OpenSpec.ofChange rankNilSpec)

/-- ITS FALSE NEIGHBOUR: 'it returns false'. Refute it at one input. -/
def rankNilWrong : ChangeSpec := { name := "rankNil", fn := fun _ => fun
  | [d1, d2, d3] => { results := [.lit (.bool false)], args := [d1, d2, d3] }
  | _ => none }
def RankNilWrongFalsely : Prop := rankNilRow.holds Try.pinned (OpenSpec.ofChange rankNilWrong)

/-- 'pantilelaw10.RankOf': WHATEVER THE INPUT: true; the input reads as it did. -/
def rankOfSpec : ChangeSpec := { name := "rankOf", fn := fun _ => fun
  | [d1, d2, d3, d4, d5] => { results := [.lit (.bool true)], args := [d1, d2, d3, d4, d5] }
  | _ => none }
def rankOfRow : OpenClaim := { program := "ytnopacldaoekiaa", sum := "f53081e89ad1f561672e6e0d66f312c2c53998a39ad215445d658d83e433b845", func := "pantile/pantilelaw10.RankOf", spec := "rankOf", inPlace := ["slices.overlaps[pantile/slots.cell[*pantile/node.Node]]"], unfollowed := true, recurses := true, apart := false }
def RankOfSaid : Prop := rankOfRow.holds Try.pinned (OpenSpec.ofChange rankOfSpec)

/-- ITS FALSE NEIGHBOUR: 'it returns false'. Refute it at one input. -/
def rankOfWrong : ChangeSpec := { name := "rankOf", fn := fun _ => fun
  | [d1, d2, d3, d4, d5] => { results := [.lit (.bool false)], args := [d1, d2, d3, d4, d5] }
  | _ => none }
def RankOfWrongFalsely : Prop := rankOfRow.holds Try.pinned (OpenSpec.ofChange rankOfWrong)

/-- 'pantilelaw10.RankRows': WHATEVER THE INPUT: true; the input reads as it did. -/
def rankRowsSpec : ChangeSpec := { name := "rankRows", fn := fun _ => fun
  | [d1, d2, d3] => { results := [.lit (.bool true)], args := [d1, d2, d3] }
  | _ => none }
def rankRowsRow : OpenClaim := { program := "ytnopacldaoekiaa", sum := "f53081e89ad1f561672e6e0d66f312c2c53998a39ad215445d658d83e433b845", func := "pantile/pantilelaw10.RankRows", spec := "rankRows", inPlace := ["slices.overlaps[pantile/slots.cell[*pantile/node.Node]]"], unfollowed := true, recurses := true, apart := false }
def RankRowsSaid : Prop := rankRowsRow.holds Try.pinned (OpenSpec.ofChange rankRowsSpec)

/-- ITS FALSE NEIGHBOUR: 'it returns false'. Refute it at one input. -/
def rankRowsWrong : ChangeSpec := { name := "rankRows", fn := fun _ => fun
  | [d1, d2, d3] => { results := [.lit (.bool false)], args := [d1, d2, d3] }
  | _ => none }
def RankRowsWrongFalsely : Prop := rankRowsRow.holds Try.pinned (OpenSpec.ofChange rankRowsWrong)

/-- 'pantilelaw10.RankJoins': WHATEVER THE INPUT: true; the input reads as it did. -/
def rankJoinsSpec : ChangeSpec := { name := "rankJoins", fn := fun _ => fun
  | [d1, d2, d3, d4] => { results := [.lit (.bool true)], args := [d1, d2, d3, d4] }
  | _ => none }
def rankJoinsRow : OpenClaim := { program := "ytnopacldaoekiaa", sum := "f53081e89ad1f561672e6e0d66f312c2c53998a39ad215445d658d83e433b845", func := "pantile/pantilelaw10.RankJoins", spec := "rankJoins", inPlace := ["slices.overlaps[pantile/slots.cell[*pantile/node.Node]]"], unfollowed := true, recurses := true, apart := false }
def RankJoinsSaid : Prop := rankJoinsRow.holds Try.pinned (OpenSpec.ofChange rankJoinsSpec)

/-- ITS FALSE NEIGHBOUR: 'it returns false'. Refute it at one input. -/
def rankJoinsWrong : ChangeSpec := { name := "rankJoins", fn := fun _ => fun
  | [d1, d2, d3, d4] => { results := [.lit (.bool false)], args := [d1, d2, d3, d4] }
  | _ => none }
def RankJoinsWrongFalsely : Prop := rankJoinsRow.holds Try.pinned (OpenSpec.ofChange rankJoinsWrong)

/-- 'pantilelaw12.DiffNil': WHATEVER THE INPUT: true; the input reads as it did. -/
def diffNilSpec : ChangeSpec := { name := "diffNil", fn := fun _ => fun
  | [d] => { results := [.lit (.bool true)], args := [d] }
  | _ => none }
def diffNilRow : OpenClaim := { program := "ytnopacldaoekiaa", sum := "f53081e89ad1f561672e6e0d66f312c2c53998a39ad215445d658d83e433b845", func := "pantile/pantilelaw12.DiffNil", spec := "diffNil", inPlace := ["slices.overlaps[pantile/slots.cell[*pantile/node.Node]]"], unfollowed := true, recurses := true, apart := false }
def DiffNilSaid : Prop := diffNilRow.holds Try.pinned (OpenSpec.ofChange diffNilSpec)

/-- ITS FALSE NEIGHBOUR: 'it returns false'. Refute it at one input. -/
def diffNilWrong : ChangeSpec := { name := "diffNil", fn := fun _ => fun
  | [d] => { results := [.lit (.bool false)], args := [d] }
  | _ => none }
def DiffNilWrongFalsely : Prop := diffNilRow.holds Try.pinned (OpenSpec.ofChange diffNilWrong)

/-- 'pantilelaw12.DiffChain': WHATEVER THE INPUT: true; the input reads as it did. -/
def diffChainSpec : ChangeSpec := { name := "diffChain", fn := fun _ => fun
  | [d1, d2, d3, d4] => { results := [.lit (.bool true)], args := [d1, d2, d3, d4] }
  | _ => none }
def diffChainRow : OpenClaim := { program := "ytnopacldaoekiaa", sum := "f53081e89ad1f561672e6e0d66f312c2c53998a39ad215445d658d83e433b845", func := "pantile/pantilelaw12.DiffChain", spec := "diffChain", inPlace := ["slices.overlaps[pantile/slots.cell[*pantile/node.Node]]"], unfollowed := true, recurses := true, apart := false }
def DiffChainSaid : Prop := diffChainRow.holds Try.pinned (OpenSpec.ofChange diffChainSpec)

/-- ITS FALSE NEIGHBOUR: 'it returns false'. Refute it at one input. -/
def diffChainWrong : ChangeSpec := { name := "diffChain", fn := fun _ => fun
  | [d1, d2, d3, d4] => { results := [.lit (.bool false)], args := [d1, d2, d3, d4] }
  | _ => none }
def DiffChainWrongFalsely : Prop := diffChainRow.holds Try.pinned (OpenSpec.ofChange diffChainWrong)

/-- 'pantilelaw12.DiffChanges': WHATEVER THE INPUT: true; the input reads as it did. -/
def diffChangesSpec : ChangeSpec := { name := "diffChanges", fn := fun _ => fun
  | [d1, d2, d3] => { results := [.lit (.bool true)], args := [d1, d2, d3] }
  | _ => none }
def diffChangesRow : OpenClaim := { program := "ytnopacldaoekiaa", sum := "f53081e89ad1f561672e6e0d66f312c2c53998a39ad215445d658d83e433b845", func := "pantile/pantilelaw12.DiffChanges", spec := "diffChanges", inPlace := ["slices.overlaps[pantile/slots.cell[*pantile/node.Node]]"], unfollowed := true, recurses := true, apart := false }
def DiffChangesSaid : Prop := diffChangesRow.holds Try.pinned (OpenSpec.ofChange diffChangesSpec)

/-- ITS FALSE NEIGHBOUR: 'it returns false'. Refute it at one input. -/
def diffChangesWrong : ChangeSpec := { name := "diffChanges", fn := fun _ => fun
  | [d1, d2, d3] => { results := [.lit (.bool false)], args := [d1, d2, d3] }
  | _ => none }
def DiffChangesWrongFalsely : Prop := diffChangesRow.holds Try.pinned (OpenSpec.ofChange diffChangesWrong)

/-- 'pantilelaw12.DiffApart': WHATEVER THE INPUT: true; the input reads as it did. -/
def diffApartSpec : ChangeSpec := { name := "diffApart", fn := fun _ => fun
  | [d1, d2, d3, d4] => { results := [.lit (.bool true)], args := [d1, d2, d3, d4] }
  | _ => none }
def diffApartRow : OpenClaim := { program := "ytnopacldaoekiaa", sum := "f53081e89ad1f561672e6e0d66f312c2c53998a39ad215445d658d83e433b845", func := "pantile/pantilelaw12.DiffApart", spec := "diffApart", inPlace := ["slices.overlaps[pantile/slots.cell[*pantile/node.Node]]"], unfollowed := true, recurses := true, apart := false }
def DiffApartSaid : Prop := diffApartRow.holds Try.pinned (OpenSpec.ofChange diffApartSpec)

/-- ITS FALSE NEIGHBOUR: 'it returns false'. Refute it at one input. -/
def diffApartWrong : ChangeSpec := { name := "diffApart", fn := fun _ => fun
  | [d1, d2, d3, d4] => { results := [.lit (.bool false)], args := [d1, d2, d3, d4] }
  | _ => none }
def DiffApartWrongFalsely : Prop := diffApartRow.holds Try.pinned (OpenSpec.ofChange diffApartWrong)

/-- 'pantilelaw15.SetsNil': WHATEVER THE INPUT: true; the input reads as it did. -/
def setsNilSpec : ChangeSpec := { name := "setsNil", fn := fun _ => fun
  | [d] => { results := [.lit (.bool true)], args := [d] }
  | _ => none }
def setsNilRow : OpenClaim := { program := "ytnopacldaoekiaa", sum := "f53081e89ad1f561672e6e0d66f312c2c53998a39ad215445d658d83e433b845", func := "pantile/pantilelaw15.SetsNil", spec := "setsNil", inPlace := ["slices.overlaps[pantile/slots.cell[*pantile/node.Node]]"], unfollowed := true, recurses := true, apart := false }
def SetsNilSaid : Prop := setsNilRow.holds Try.pinned (OpenSpec.ofChange setsNilSpec)

/-- ITS FALSE NEIGHBOUR: 'it returns false'. Refute it at one input. -/
def setsNilWrong : ChangeSpec := { name := "setsNil", fn := fun _ => fun
  | [d] => { results := [.lit (.bool false)], args := [d] }
  | _ => none }
def SetsNilWrongFalsely : Prop := setsNilRow.holds Try.pinned (OpenSpec.ofChange setsNilWrong)

/-- 'pantilelaw15.SetsAsk': WHATEVER THE INPUT: true; the input reads as it did. -/
def setsAskSpec : ChangeSpec := { name := "setsAsk", fn := fun _ => fun
  | [d1, d2, d3, d4] => { results := [.lit (.bool true)], args := [d1, d2, d3, d4] }
  | _ => none }
def setsAskRow : OpenClaim := { program := "ytnopacldaoekiaa", sum := "f53081e89ad1f561672e6e0d66f312c2c53998a39ad215445d658d83e433b845", func := "pantile/pantilelaw15.SetsAsk", spec := "setsAsk", inPlace := ["slices.overlaps[pantile/slots.cell[*pantile/node.Node]]"], unfollowed := true, recurses := true, apart := false }
def SetsAskSaid : Prop := setsAskRow.holds Try.pinned (OpenSpec.ofChange setsAskSpec)

/-- ITS FALSE NEIGHBOUR: 'it returns false'. Refute it at one input. -/
def setsAskWrong : ChangeSpec := { name := "setsAsk", fn := fun _ => fun
  | [d1, d2, d3, d4] => { results := [.lit (.bool false)], args := [d1, d2, d3, d4] }
  | _ => none }
def SetsAskWrongFalsely : Prop := setsAskRow.holds Try.pinned (OpenSpec.ofChange setsAskWrong)

/-- 'pantilelaw22.PastKeeps': WHATEVER THE INPUT: true; the input reads as it did. -/
def pastKeepsSpec : ChangeSpec := { name := "pastKeeps", fn := fun _ => fun
  | [d] => { results := [.lit (.bool true)], args := [d] }
  | _ => none }
def pastKeepsRow : OpenClaim := { program := "ytnopacldaoekiaa", sum := "f53081e89ad1f561672e6e0d66f312c2c53998a39ad215445d658d83e433b845", func := "pantile/pantilelaw22.PastKeeps", spec := "pastKeeps", inPlace := ["slices.overlaps[pantile/slots.cell[*pantile/node.Node]]"], unfollowed := true, recurses := true, apart := false }
def PastKeepsSaid : Prop := pastKeepsRow.holds Try.pinned (OpenSpec.ofChange pastKeepsSpec)

/-- ITS FALSE NEIGHBOUR: 'it returns false'. Refute it at one input. -/
def pastKeepsWrong : ChangeSpec := { name := "pastKeeps", fn := fun _ => fun
  | [d] => { results := [.lit (.bool false)], args := [d] }
  | _ => none }
def PastKeepsWrongFalsely : Prop := pastKeepsRow.holds Try.pinned (OpenSpec.ofChange pastKeepsWrong)

/-- 'pantilelaw22.PastNil': WHATEVER THE INPUT: true; the input reads as it did. -/
def pastNilSpec : ChangeSpec := { name := "pastNil", fn := fun _ => fun
  | [d1, d2] => { results := [.lit (.bool true)], args := [d1, d2] }
  | _ => none }
def pastNilRow : OpenClaim := { program := "ytnopacldaoekiaa", sum := "f53081e89ad1f561672e6e0d66f312c2c53998a39ad215445d658d83e433b845", func := "pantile/pantilelaw22.PastNil", spec := "pastNil", inPlace := ["slices.overlaps[pantile/slots.cell[*pantile/node.Node]]"], unfollowed := true, recurses := true, apart := false }
def PastNilSaid : Prop := pastNilRow.holds Try.pinned (OpenSpec.ofChange pastNilSpec)

/-- ITS FALSE NEIGHBOUR: 'it returns false'. Refute it at one input. -/
def pastNilWrong : ChangeSpec := { name := "pastNil", fn := fun _ => fun
  | [d1, d2] => { results := [.lit (.bool false)], args := [d1, d2] }
  | _ => none }
def PastNilWrongFalsely : Prop := pastNilRow.holds Try.pinned (OpenSpec.ofChange pastNilWrong)

/- THE SECOND FORM. 'bulk': how many values and letters a reading holds, each counted each time it is reached (what is shared counts as often as it is met; a slice's spare places count too). A statement '..UptoSaid' is the law's where the arguments, and the package variables that the reading takes, are together of bulk at most 1048576: NARROWER than '..Said'. Prove '..Said' where nothing that the law and all that it calls make is longer than what came in: it says more and counts as full. Else prove '..UptoSaid'. A law counts once. -/
mutual
def uptoBulk {H : Type} : DataW H → Nat
  | .lit (.string bytes) => bytes.length + 1
  | .lit _ => 1
  | .nil => 1
  | .ptr d => uptoBulk d + 1
  | .slice elems spare => uptoBulkAll elems + uptoBulkAll spare + 1
  | .agg parts => uptoBulkAll parts + 1
  | .iface _ d => uptoBulk d + 1
  | .map entries => uptoBulkEntries entries + 1
  | .held _ => 1
def uptoBulkAll {H : Type} : List (DataW H) → Nat
  | [] => 0
  | d :: r => uptoBulk d + uptoBulkAll r
def uptoBulkEntries {H : Type} : List (Lit × DataW H) → Nat
  | [] => 0
  | x :: r => uptoBulkEntry x + uptoBulkEntries r
def uptoBulkEntry {H : Type} : Lit × DataW H → Nat
  | (.string bytes, d) => bytes.length + uptoBulk d + 1
  | (_, d) => uptoBulk d + 1
 end
def uptoSmall : (H : Type) → List (DataW H) → Bool := fun _ ds => decide (uptoBulkAll ds ≤ 1048576)
def OpenSpec.upto (s : _root_.Go.ChangeSpec) : _root_.Go.OpenSpec := { _root_.Go.OpenSpec.ofChange s with cond := some uptoSmall }

/-- 'pantilelaw08.WalkNil', WHERE WHAT IT READS IS OF BULK AT MOST 1048576: true; the input reads as it did. -/
def walkNilUptoRow : OpenClaim := { program := "ytnopacldaoekiaa", sum := "f53081e89ad1f561672e6e0d66f312c2c53998a39ad215445d658d83e433b845", func := "pantile/pantilelaw08.WalkNil", spec := "walkNil", inPlace := ["slices.overlaps[pantile/slots.cell[*pantile/node.Node]]"], unfollowed := true, recurses := true, apart := false, narrowed := true }
def WalkNilUptoSaid : Prop := walkNilUptoRow.holds Try.pinned (OpenSpec.upto walkNilSpec)

/-- 'pantilelaw08.WalkAll', WHERE WHAT IT READS IS OF BULK AT MOST 1048576: true; the input reads as it did. -/
def walkAllUptoRow : OpenClaim := { program := "ytnopacldaoekiaa", sum := "f53081e89ad1f561672e6e0d66f312c2c53998a39ad215445d658d83e433b845", func := "pantile/pantilelaw08.WalkAll", spec := "walkAll", inPlace := ["slices.overlaps[pantile/slots.cell[*pantile/node.Node]]"], unfollowed := true, recurses := true, apart := false, narrowed := true }
def WalkAllUptoSaid : Prop := walkAllUptoRow.holds Try.pinned (OpenSpec.upto walkAllSpec)

/-- 'pantilelaw08.WalkRun', WHERE WHAT IT READS IS OF BULK AT MOST 1048576: true; the input reads as it did. -/
def walkRunUptoRow : OpenClaim := { program := "ytnopacldaoekiaa", sum := "f53081e89ad1f561672e6e0d66f312c2c53998a39ad215445d658d83e433b845", func := "pantile/pantilelaw08.WalkRun", spec := "walkRun", inPlace := ["slices.overlaps[pantile/slots.cell[*pantile/node.Node]]"], unfollowed := true, recurses := true, apart := false, narrowed := true }
def WalkRunUptoSaid : Prop := walkRunUptoRow.holds Try.pinned (OpenSpec.upto walkRunSpec)

/-- 'pantilelaw10.RankNil', WHERE WHAT IT READS IS OF BULK AT MOST 1048576: true; the input reads as it did. -/
def rankNilUptoRow : OpenClaim := { program := "ytnopacldaoekiaa", sum := "f53081e89ad1f561672e6e0d66f312c2c53998a39ad215445d658d83e433b845", func := "pantile/pantilelaw10.RankNil", spec := "rankNil", inPlace := ["slices.overlaps[pantile/slots.cell[*pantile/node.Node]]"], unfollowed := true, recurses := true, apart := false, narrowed := true }
def RankNilUptoSaid : Prop := rankNilUptoRow.holds Try.pinned (OpenSpec.upto rankNilSpec)

/-- 'pantilelaw10.RankOf', WHERE WHAT IT READS IS OF BULK AT MOST 1048576: true; the input reads as it did. -/
def rankOfUptoRow : OpenClaim := { program := "ytnopacldaoekiaa", sum := "f53081e89ad1f561672e6e0d66f312c2c53998a39ad215445d658d83e433b845", func := "pantile/pantilelaw10.RankOf", spec := "rankOf", inPlace := ["slices.overlaps[pantile/slots.cell[*pantile/node.Node]]"], unfollowed := true, recurses := true, apart := false, narrowed := true }
def RankOfUptoSaid : Prop := rankOfUptoRow.holds Try.pinned (OpenSpec.upto rankOfSpec)

/-- 'pantilelaw10.RankRows', WHERE WHAT IT READS IS OF BULK AT MOST 1048576: true; the input reads as it did. -/
def rankRowsUptoRow : OpenClaim := { program := "ytnopacldaoekiaa", sum := "f53081e89ad1f561672e6e0d66f312c2c53998a39ad215445d658d83e433b845", func := "pantile/pantilelaw10.RankRows", spec := "rankRows", inPlace := ["slices.overlaps[pantile/slots.cell[*pantile/node.Node]]"], unfollowed := true, recurses := true, apart := false, narrowed := true }
def RankRowsUptoSaid : Prop := rankRowsUptoRow.holds Try.pinned (OpenSpec.upto rankRowsSpec)

/-- 'pantilelaw10.RankJoins', WHERE WHAT IT READS IS OF BULK AT MOST 1048576: true; the input reads as it did. -/
def rankJoinsUptoRow : OpenClaim := { program := "ytnopacldaoekiaa", sum := "f53081e89ad1f561672e6e0d66f312c2c53998a39ad215445d658d83e433b845", func := "pantile/pantilelaw10.RankJoins", spec := "rankJoins", inPlace := ["slices.overlaps[pantile/slots.cell[*pantile/node.Node]]"], unfollowed := true, recurses := true, apart := false, narrowed := true }
def RankJoinsUptoSaid : Prop := rankJoinsUptoRow.holds Try.pinned (OpenSpec.upto rankJoinsSpec)

/-- 'pantilelaw12.DiffNil', WHERE WHAT IT READS IS OF BULK AT MOST 1048576: true; the input reads as it did. -/
def diffNilUptoRow : OpenClaim := { program := "ytnopacldaoekiaa", sum := "f53081e89ad1f561672e6e0d66f312c2c53998a39ad215445d658d83e433b845", func := "pantile/pantilelaw12.DiffNil", spec := "diffNil", inPlace := ["slices.overlaps[pantile/slots.cell[*pantile/node.Node]]"], unfollowed := true, recurses := true, apart := false, narrowed := true }
def DiffNilUptoSaid : Prop := diffNilUptoRow.holds Try.pinned (OpenSpec.upto diffNilSpec)

/-- 'pantilelaw12.DiffChain', WHERE WHAT IT READS IS OF BULK AT MOST 1048576: true; the input reads as it did. -/
def diffChainUptoRow : OpenClaim := { program := "ytnopacldaoekiaa", sum := "f53081e89ad1f561672e6e0d66f312c2c53998a39ad215445d658d83e433b845", func := "pantile/pantilelaw12.DiffChain", spec := "diffChain", inPlace := ["slices.overlaps[pantile/slots.cell[*pantile/node.Node]]"], unfollowed := true, recurses := true, apart := false, narrowed := true }
def DiffChainUptoSaid : Prop := diffChainUptoRow.holds Try.pinned (OpenSpec.upto diffChainSpec)

/-- 'pantilelaw12.DiffChanges', WHERE WHAT IT READS IS OF BULK AT MOST 1048576: true; the input reads as it did. -/
def diffChangesUptoRow : OpenClaim := { program := "ytnopacldaoekiaa", sum := "f53081e89ad1f561672e6e0d66f312c2c53998a39ad215445d658d83e433b845", func := "pantile/pantilelaw12.DiffChanges", spec := "diffChanges", inPlace := ["slices.overlaps[pantile/slots.cell[*pantile/node.Node]]"], unfollowed := true, recurses := true, apart := false, narrowed := true }
def DiffChangesUptoSaid : Prop := diffChangesUptoRow.holds Try.pinned (OpenSpec.upto diffChangesSpec)

/-- 'pantilelaw12.DiffApart', WHERE WHAT IT READS IS OF BULK AT MOST 1048576: true; the input reads as it did. -/
def diffApartUptoRow : OpenClaim := { program := "ytnopacldaoekiaa", sum := "f53081e89ad1f561672e6e0d66f312c2c53998a39ad215445d658d83e433b845", func := "pantile/pantilelaw12.DiffApart", spec := "diffApart", inPlace := ["slices.overlaps[pantile/slots.cell[*pantile/node.Node]]"], unfollowed := true, recurses := true, apart := false, narrowed := true }
def DiffApartUptoSaid : Prop := diffApartUptoRow.holds Try.pinned (OpenSpec.upto diffApartSpec)

/-- 'pantilelaw15.SetsNil', WHERE WHAT IT READS IS OF BULK AT MOST 1048576: true; the input reads as it did. -/
def setsNilUptoRow : OpenClaim := { program := "ytnopacldaoekiaa", sum := "f53081e89ad1f561672e6e0d66f312c2c53998a39ad215445d658d83e433b845", func := "pantile/pantilelaw15.SetsNil", spec := "setsNil", inPlace := ["slices.overlaps[pantile/slots.cell[*pantile/node.Node]]"], unfollowed := true, recurses := true, apart := false, narrowed := true }
def SetsNilUptoSaid : Prop := setsNilUptoRow.holds Try.pinned (OpenSpec.upto setsNilSpec)

/-- 'pantilelaw15.SetsAsk', WHERE WHAT IT READS IS OF BULK AT MOST 1048576: true; the input reads as it did. -/
def setsAskUptoRow : OpenClaim := { program := "ytnopacldaoekiaa", sum := "f53081e89ad1f561672e6e0d66f312c2c53998a39ad215445d658d83e433b845", func := "pantile/pantilelaw15.SetsAsk", spec := "setsAsk", inPlace := ["slices.overlaps[pantile/slots.cell[*pantile/node.Node]]"], unfollowed := true, recurses := true, apart := false, narrowed := true }
def SetsAskUptoSaid : Prop := setsAskUptoRow.holds Try.pinned (OpenSpec.upto setsAskSpec)

/-- 'pantilelaw22.PastKeeps', WHERE WHAT IT READS IS OF BULK AT MOST 1048576: true; the input reads as it did. -/
def pastKeepsUptoRow : OpenClaim := { program := "ytnopacldaoekiaa", sum := "f53081e89ad1f561672e6e0d66f312c2c53998a39ad215445d658d83e433b845", func := "pantile/pantilelaw22.PastKeeps", spec := "pastKeeps", inPlace := ["slices.overlaps[pantile/slots.cell[*pantile/node.Node]]"], unfollowed := true, recurses := true, apart := false, narrowed := true }
def PastKeepsUptoSaid : Prop := pastKeepsUptoRow.holds Try.pinned (OpenSpec.upto pastKeepsSpec)

/-- 'pantilelaw22.PastNil', WHERE WHAT IT READS IS OF BULK AT MOST 1048576: true; the input reads as it did. -/
def pastNilUptoRow : OpenClaim := { program := "ytnopacldaoekiaa", sum := "f53081e89ad1f561672e6e0d66f312c2c53998a39ad215445d658d83e433b845", func := "pantile/pantilelaw22.PastNil", spec := "pastNil", inPlace := ["slices.overlaps[pantile/slots.cell[*pantile/node.Node]]"], unfollowed := true, recurses := true, apart := false, narrowed := true }
def PastNilUptoSaid : Prop := pastNilUptoRow.holds Try.pinned (OpenSpec.upto pastNilSpec)

end Rows
end Go.Proofs.Ytnopacldaoekiaa
