/-
  No cell of these rows narrows 'for every input' (looked for: loops, veiled, ifaces, maps, wideKeys, modest, calm, conditions, laid).
  DERIVED. THE GIVEN ROWS OF THIS SEAT. 12 by the template 'for every input the law returns true; each argument reads behind the call as it read before'; 0 by the template 'total and deterministic' (their statements: YtkknfnjojamgjaaTotals.lean).
  GIVEN WITH THE SEED: the statements are not yours to turn. If you find one false, say at which input.
  Laid BY PROGRAM, IN A SANDBOX (cutbox-rows.mjs): the forced cells as the released guide's own fill.sh prints them over the translation e58f051524f20595… (all of the seat's roots in one cut). By AI agents, Wed Nov 11 2026. No macro, syntax, notation, axiom, sorry.
-/
import Derived.Test.YtkknfnjojamgjaaChecked
import GoSem.Claim
import GoSem.ClaimJoined
import GoSem.ClaimMapViews
import Derived.JoinedTies
import Derived.KernelRfl
namespace Go.Proofs.Ytkknfnjojamgjaa
/- THE CELL 'sum', in the pinned program and in every row, IS THE sha256 OF THE DUMP (.gsa) THAT YtkknfnjojamgjaaProg.lean LOADS. Nothing in Lean hashes anything: it is a label: what it is worth is what the hold of that sum in a sandbox is worth. -/
noncomputable def Try.pinned : Pinned := { name := "ytkknfnjojamgjaa", sum := "e58f051524f20595d404cd7e5e4780c69d7bad8d32dc44c64a9cf93af29f215a", checked := Try.checked }
namespace Rows
def none {H : Type} : Left H := { results := [], args := [] }

/-- 'pantilelaw05.SlotsPlay': WHATEVER THE INPUT: true; the input reads as it did. -/
def slotsPlaySpec : ChangeSpec := { name := "slotsPlay", fn := fun _ => fun
  | [d1, d2, d3] => { results := [.lit (.bool true)], args := [d1, d2, d3] }
  | _ => none }
def slotsPlayRow : OpenClaim := { program := "ytkknfnjojamgjaa", sum := "e58f051524f20595d404cd7e5e4780c69d7bad8d32dc44c64a9cf93af29f215a", func := "pantile/pantilelaw05.SlotsPlay", spec := "slotsPlay", inPlace := ["slices.overlaps[pantile/slots.cell[uint64]]"], unfollowed := true, recurses := true, apart := false }
def SlotsPlaySaid : Prop := slotsPlayRow.holds Try.pinned (OpenSpec.ofChange slotsPlaySpec)

/-- ITS FALSE NEIGHBOUR: 'it returns false'. Refute it at one input. -/
def slotsPlayWrong : ChangeSpec := { name := "slotsPlay", fn := fun _ => fun
  | [d1, d2, d3] => { results := [.lit (.bool false)], args := [d1, d2, d3] }
  | _ => none }
def SlotsPlayWrongFalsely : Prop := slotsPlayRow.holds Try.pinned (OpenSpec.ofChange slotsPlayWrong)

/-- 'pantilelaw05.SlotsNil': WHATEVER THE INPUT: true; the input reads as it did. -/
def slotsNilSpec : ChangeSpec := { name := "slotsNil", fn := fun _ => fun
  | [d1, d2] => { results := [.lit (.bool true)], args := [d1, d2] }
  | _ => none }
def slotsNilRow : OpenClaim := { program := "ytkknfnjojamgjaa", sum := "e58f051524f20595d404cd7e5e4780c69d7bad8d32dc44c64a9cf93af29f215a", func := "pantile/pantilelaw05.SlotsNil", spec := "slotsNil", inPlace := ["slices.overlaps[pantile/slots.cell[uint64]]"], unfollowed := true, recurses := true, apart := false }
def SlotsNilSaid : Prop := slotsNilRow.holds Try.pinned (OpenSpec.ofChange slotsNilSpec)

/-- ITS FALSE NEIGHBOUR: 'it returns false'. Refute it at one input. -/
def slotsNilWrong : ChangeSpec := { name := "slotsNil", fn := fun _ => fun
  | [d1, d2] => { results := [.lit (.bool false)], args := [d1, d2] }
  | _ => none }
def SlotsNilWrongFalsely : Prop := slotsNilRow.holds Try.pinned (OpenSpec.ofChange slotsNilWrong)

/-- 'pantilelaw06.NodePair': WHATEVER THE INPUT: true; the input reads as it did. -/
def nodePairSpec : ChangeSpec := { name := "nodePair", fn := fun _ => fun
  | [d1, d2] => { results := [.lit (.bool true)], args := [d1, d2] }
  | _ => none }
def nodePairRow : OpenClaim := { program := "ytkknfnjojamgjaa", sum := "e58f051524f20595d404cd7e5e4780c69d7bad8d32dc44c64a9cf93af29f215a", func := "pantile/pantilelaw06.NodePair", spec := "nodePair", inPlace := ["slices.overlaps[pantile/slots.cell[*pantile/node.Node]]"], unfollowed := true, recurses := true, apart := false }
def NodePairSaid : Prop := nodePairRow.holds Try.pinned (OpenSpec.ofChange nodePairSpec)

/-- ITS FALSE NEIGHBOUR: 'it returns false'. Refute it at one input. -/
def nodePairWrong : ChangeSpec := { name := "nodePair", fn := fun _ => fun
  | [d1, d2] => { results := [.lit (.bool false)], args := [d1, d2] }
  | _ => none }
def NodePairWrongFalsely : Prop := nodePairRow.holds Try.pinned (OpenSpec.ofChange nodePairWrong)

/-- 'pantilelaw06.NodeLeaf': WHATEVER THE INPUT: true; the input reads as it did. -/
def nodeLeafSpec : ChangeSpec := { name := "nodeLeaf", fn := fun _ => fun
  | [d1, d2, d3, d4] => { results := [.lit (.bool true)], args := [d1, d2, d3, d4] }
  | _ => none }
def nodeLeafRow : OpenClaim := { program := "ytkknfnjojamgjaa", sum := "e58f051524f20595d404cd7e5e4780c69d7bad8d32dc44c64a9cf93af29f215a", func := "pantile/pantilelaw06.NodeLeaf", spec := "nodeLeaf", inPlace := ["slices.overlaps[pantile/slots.cell[*pantile/node.Node]]"], unfollowed := true, recurses := true, apart := false }
def NodeLeafSaid : Prop := nodeLeafRow.holds Try.pinned (OpenSpec.ofChange nodeLeafSpec)

/-- ITS FALSE NEIGHBOUR: 'it returns false'. Refute it at one input. -/
def nodeLeafWrong : ChangeSpec := { name := "nodeLeaf", fn := fun _ => fun
  | [d1, d2, d3, d4] => { results := [.lit (.bool false)], args := [d1, d2, d3, d4] }
  | _ => none }
def NodeLeafWrongFalsely : Prop := nodeLeafRow.holds Try.pinned (OpenSpec.ofChange nodeLeafWrong)

/-- 'pantilelaw06.NodeWith': WHATEVER THE INPUT: true; the input reads as it did. -/
def nodeWithSpec : ChangeSpec := { name := "nodeWith", fn := fun _ => fun
  | [d1, d2] => { results := [.lit (.bool true)], args := [d1, d2] }
  | _ => none }
def nodeWithRow : OpenClaim := { program := "ytkknfnjojamgjaa", sum := "e58f051524f20595d404cd7e5e4780c69d7bad8d32dc44c64a9cf93af29f215a", func := "pantile/pantilelaw06.NodeWith", spec := "nodeWith", inPlace := ["slices.overlaps[pantile/slots.cell[*pantile/node.Node]]"], unfollowed := true, recurses := true, apart := false }
def NodeWithSaid : Prop := nodeWithRow.holds Try.pinned (OpenSpec.ofChange nodeWithSpec)

/-- ITS FALSE NEIGHBOUR: 'it returns false'. Refute it at one input. -/
def nodeWithWrong : ChangeSpec := { name := "nodeWith", fn := fun _ => fun
  | [d1, d2] => { results := [.lit (.bool false)], args := [d1, d2] }
  | _ => none }
def NodeWithWrongFalsely : Prop := nodeWithRow.holds Try.pinned (OpenSpec.ofChange nodeWithWrong)

/-- 'pantilelaw06.NodeNil': WHATEVER THE INPUT: true; the input reads as it did. -/
def nodeNilSpec : ChangeSpec := { name := "nodeNil", fn := fun _ => fun
  | [d1, d2] => { results := [.lit (.bool true)], args := [d1, d2] }
  | _ => none }
def nodeNilRow : OpenClaim := { program := "ytkknfnjojamgjaa", sum := "e58f051524f20595d404cd7e5e4780c69d7bad8d32dc44c64a9cf93af29f215a", func := "pantile/pantilelaw06.NodeNil", spec := "nodeNil", inPlace := ["slices.overlaps[pantile/slots.cell[*pantile/node.Node]]"], unfollowed := true, recurses := true, apart := false }
def NodeNilSaid : Prop := nodeNilRow.holds Try.pinned (OpenSpec.ofChange nodeNilSpec)

/-- ITS FALSE NEIGHBOUR: 'it returns false'. Refute it at one input. -/
def nodeNilWrong : ChangeSpec := { name := "nodeNil", fn := fun _ => fun
  | [d1, d2] => { results := [.lit (.bool false)], args := [d1, d2] }
  | _ => none }
def NodeNilWrongFalsely : Prop := nodeNilRow.holds Try.pinned (OpenSpec.ofChange nodeNilWrong)

/-- 'pantilelaw07.TreePlays': WHATEVER THE INPUT: true; the input reads as it did. -/
def treePlaysSpec : ChangeSpec := { name := "treePlays", fn := fun _ => fun
  | [d1, d2] => { results := [.lit (.bool true)], args := [d1, d2] }
  | _ => none }
def treePlaysRow : OpenClaim := { program := "ytkknfnjojamgjaa", sum := "e58f051524f20595d404cd7e5e4780c69d7bad8d32dc44c64a9cf93af29f215a", func := "pantile/pantilelaw07.TreePlays", spec := "treePlays", inPlace := ["slices.overlaps[pantile/slots.cell[*pantile/node.Node]]"], unfollowed := true, recurses := true, apart := false }
def TreePlaysSaid : Prop := treePlaysRow.holds Try.pinned (OpenSpec.ofChange treePlaysSpec)

/-- ITS FALSE NEIGHBOUR: 'it returns false'. Refute it at one input. -/
def treePlaysWrong : ChangeSpec := { name := "treePlays", fn := fun _ => fun
  | [d1, d2] => { results := [.lit (.bool false)], args := [d1, d2] }
  | _ => none }
def TreePlaysWrongFalsely : Prop := treePlaysRow.holds Try.pinned (OpenSpec.ofChange treePlaysWrong)

/-- 'pantilelaw07.TreeKeeps': WHATEVER THE INPUT: true; the input reads as it did. -/
def treeKeepsSpec : ChangeSpec := { name := "treeKeeps", fn := fun _ => fun
  | [d1, d2, d3, d4] => { results := [.lit (.bool true)], args := [d1, d2, d3, d4] }
  | _ => none }
def treeKeepsRow : OpenClaim := { program := "ytkknfnjojamgjaa", sum := "e58f051524f20595d404cd7e5e4780c69d7bad8d32dc44c64a9cf93af29f215a", func := "pantile/pantilelaw07.TreeKeeps", spec := "treeKeeps", inPlace := ["slices.overlaps[pantile/slots.cell[*pantile/node.Node]]"], unfollowed := true, recurses := true, apart := false }
def TreeKeepsSaid : Prop := treeKeepsRow.holds Try.pinned (OpenSpec.ofChange treeKeepsSpec)

/-- ITS FALSE NEIGHBOUR: 'it returns false'. Refute it at one input. -/
def treeKeepsWrong : ChangeSpec := { name := "treeKeeps", fn := fun _ => fun
  | [d1, d2, d3, d4] => { results := [.lit (.bool false)], args := [d1, d2, d3, d4] }
  | _ => none }
def TreeKeepsWrongFalsely : Prop := treeKeepsRow.holds Try.pinned (OpenSpec.ofChange treeKeepsWrong)

/-- 'pantilelaw07.TreeOf': WHATEVER THE INPUT: true; the input reads as it did. -/
def treeOfSpec : ChangeSpec := { name := "treeOf", fn := fun _ => fun
  | [d1, d2, d3, d4] => { results := [.lit (.bool true)], args := [d1, d2, d3, d4] }
  | _ => none }
def treeOfRow : OpenClaim := { program := "ytkknfnjojamgjaa", sum := "e58f051524f20595d404cd7e5e4780c69d7bad8d32dc44c64a9cf93af29f215a", func := "pantile/pantilelaw07.TreeOf", spec := "treeOf", inPlace := ["slices.overlaps[pantile/slots.cell[*pantile/node.Node]]"], unfollowed := true, recurses := true, apart := false }
def TreeOfSaid : Prop := treeOfRow.holds Try.pinned (OpenSpec.ofChange treeOfSpec)

/-- ITS FALSE NEIGHBOUR: 'it returns false'. Refute it at one input. -/
def treeOfWrong : ChangeSpec := { name := "treeOf", fn := fun _ => fun
  | [d1, d2, d3, d4] => { results := [.lit (.bool false)], args := [d1, d2, d3, d4] }
  | _ => none }
def TreeOfWrongFalsely : Prop := treeOfRow.holds Try.pinned (OpenSpec.ofChange treeOfWrong)

/-- 'pantilelaw07.TreeNil': WHATEVER THE INPUT: true; the input reads as it did. -/
def treeNilSpec : ChangeSpec := { name := "treeNil", fn := fun _ => fun
  | [d1, d2] => { results := [.lit (.bool true)], args := [d1, d2] }
  | _ => none }
def treeNilRow : OpenClaim := { program := "ytkknfnjojamgjaa", sum := "e58f051524f20595d404cd7e5e4780c69d7bad8d32dc44c64a9cf93af29f215a", func := "pantile/pantilelaw07.TreeNil", spec := "treeNil", inPlace := ["slices.overlaps[pantile/slots.cell[*pantile/node.Node]]"], unfollowed := true, recurses := true, apart := false }
def TreeNilSaid : Prop := treeNilRow.holds Try.pinned (OpenSpec.ofChange treeNilSpec)

/-- ITS FALSE NEIGHBOUR: 'it returns false'. Refute it at one input. -/
def treeNilWrong : ChangeSpec := { name := "treeNil", fn := fun _ => fun
  | [d1, d2] => { results := [.lit (.bool false)], args := [d1, d2] }
  | _ => none }
def TreeNilWrongFalsely : Prop := treeNilRow.holds Try.pinned (OpenSpec.ofChange treeNilWrong)

/-- 'pantilelaw07.TreeGets': WHATEVER THE INPUT: true; the input reads as it did. -/
def treeGetsSpec : ChangeSpec := { name := "treeGets", fn := fun _ => fun
  | [d1, d2, d3] => { results := [.lit (.bool true)], args := [d1, d2, d3] }
  | _ => none }
def treeGetsRow : OpenClaim := { program := "ytkknfnjojamgjaa", sum := "e58f051524f20595d404cd7e5e4780c69d7bad8d32dc44c64a9cf93af29f215a", func := "pantile/pantilelaw07.TreeGets", spec := "treeGets", inPlace := ["slices.overlaps[pantile/slots.cell[*pantile/node.Node]]"], unfollowed := true, recurses := true, apart := false }
def TreeGetsSaid : Prop := treeGetsRow.holds Try.pinned (OpenSpec.ofChange treeGetsSpec)

/-- ITS FALSE NEIGHBOUR: 'it returns false'. Refute it at one input. -/
def treeGetsWrong : ChangeSpec := { name := "treeGets", fn := fun _ => fun
  | [d1, d2, d3] => { results := [.lit (.bool false)], args := [d1, d2, d3] }
  | _ => none }
def TreeGetsWrongFalsely : Prop := treeGetsRow.holds Try.pinned (OpenSpec.ofChange treeGetsWrong)

/-- 'pantilelaw07.TreeShares': WHATEVER THE INPUT: true; the input reads as it did. -/
def treeSharesSpec : ChangeSpec := { name := "treeShares", fn := fun _ => fun
  | [d1, d2, d3] => { results := [.lit (.bool true)], args := [d1, d2, d3] }
  | _ => none }
def treeSharesRow : OpenClaim := { program := "ytkknfnjojamgjaa", sum := "e58f051524f20595d404cd7e5e4780c69d7bad8d32dc44c64a9cf93af29f215a", func := "pantile/pantilelaw07.TreeShares", spec := "treeShares", inPlace := ["slices.overlaps[pantile/slots.cell[*pantile/node.Node]]"], unfollowed := true, recurses := true, apart := false }
def TreeSharesSaid : Prop := treeSharesRow.holds Try.pinned (OpenSpec.ofChange treeSharesSpec)

/-- ITS FALSE NEIGHBOUR: 'it returns false'. Refute it at one input. -/
def treeSharesWrong : ChangeSpec := { name := "treeShares", fn := fun _ => fun
  | [d1, d2, d3] => { results := [.lit (.bool false)], args := [d1, d2, d3] }
  | _ => none }
def TreeSharesWrongFalsely : Prop := treeSharesRow.holds Try.pinned (OpenSpec.ofChange treeSharesWrong)

/- THE SECOND FORM. 'bulk': how many values and letters a reading holds, each counted each time it is reached (what is shared counts as often as it is met; a slice's spare places count too). A statement '..UptoSaid' is the law's where the arguments, and the package variables that the reading takes, are together of bulk at most 1048576: NARROWER than '..Said'. Prove '..Said' where nothing that the law and all that it calls make is longer than what came in: it says more and counts as full. Else prove '..UptoSaid'. A law counts once. -/
mutual
def uptoBulk {H : Type} : DataW H → Nat
  | .lit (.string bytes) => bytes.length + 1
  | .lit _ => 1
  | .nil => 1
  | .ptr d => uptoBulk d + 1
  | .slice elems spare => uptoBulkAll elems + uptoBulkAll spare + 1
  | .agg parts => uptoBulkAll parts + 1
  | .iface _ d => uptoBulk d + 1
  | .map entries => uptoBulkEntries entries + 1
  | .held _ => 1
def uptoBulkAll {H : Type} : List (DataW H) → Nat
  | [] => 0
  | d :: r => uptoBulk d + uptoBulkAll r
def uptoBulkEntries {H : Type} : List (Lit × DataW H) → Nat
  | [] => 0
  | x :: r => uptoBulkEntry x + uptoBulkEntries r
def uptoBulkEntry {H : Type} : Lit × DataW H → Nat
  | (.string bytes, d) => bytes.length + uptoBulk d + 1
  | (_, d) => uptoBulk d + 1
 end
def uptoSmall : (H : Type) → List (DataW H) → Bool := fun _ ds => decide (uptoBulkAll ds ≤ 1048576)
def OpenSpec.upto (s : _root_.Go.ChangeSpec) : _root_.Go.OpenSpec := { _root_.Go.OpenSpec.ofChange s with cond := some uptoSmall }

/-- 'pantilelaw05.SlotsPlay', WHERE WHAT IT READS IS OF BULK AT MOST 1048576: true; the input reads as it did. -/
def slotsPlayUptoRow : OpenClaim := { program := "ytkknfnjojamgjaa", sum := "e58f051524f20595d404cd7e5e4780c69d7bad8d32dc44c64a9cf93af29f215a", func := "pantile/pantilelaw05.SlotsPlay", spec := "slotsPlay", inPlace := ["slices.overlaps[pantile/slots.cell[uint64]]"], unfollowed := true, recurses := true, apart := false, narrowed := true }
def SlotsPlayUptoSaid : Prop := slotsPlayUptoRow.holds Try.pinned (OpenSpec.upto slotsPlaySpec)

/-- 'pantilelaw05.SlotsNil', WHERE WHAT IT READS IS OF BULK AT MOST 1048576: true; the input reads as it did. -/
def slotsNilUptoRow : OpenClaim := { program := "ytkknfnjojamgjaa", sum := "e58f051524f20595d404cd7e5e4780c69d7bad8d32dc44c64a9cf93af29f215a", func := "pantile/pantilelaw05.SlotsNil", spec := "slotsNil", inPlace := ["slices.overlaps[pantile/slots.cell[uint64]]"], unfollowed := true, recurses := true, apart := false, narrowed := true }
def SlotsNilUptoSaid : Prop := slotsNilUptoRow.holds Try.pinned (OpenSpec.upto slotsNilSpec)

/-- 'pantilelaw06.NodePair', WHERE WHAT IT READS IS OF BULK AT MOST 1048576: true; the input reads as it did. -/
def nodePairUptoRow : OpenClaim := { program := "ytkknfnjojamgjaa", sum := "e58f051524f20595d404cd7e5e4780c69d7bad8d32dc44c64a9cf93af29f215a", func := "pantile/pantilelaw06.NodePair", spec := "nodePair", inPlace := ["slices.overlaps[pantile/slots.cell[*pantile/node.Node]]"], unfollowed := true, recurses := true, apart := false, narrowed := true }
def NodePairUptoSaid : Prop := nodePairUptoRow.holds Try.pinned (OpenSpec.upto nodePairSpec)

/-- 'pantilelaw06.NodeLeaf', WHERE WHAT IT READS IS OF BULK AT MOST 1048576: true; the input reads as it did. -/
def nodeLeafUptoRow : OpenClaim := { program := "ytkknfnjojamgjaa", sum := "e58f051524f20595d404cd7e5e4780c69d7bad8d32dc44c64a9cf93af29f215a", func := "pantile/pantilelaw06.NodeLeaf", spec := "nodeLeaf", inPlace := ["slices.overlaps[pantile/slots.cell[*pantile/node.Node]]"], unfollowed := true, recurses := true, apart := false, narrowed := true }
def NodeLeafUptoSaid : Prop := nodeLeafUptoRow.holds Try.pinned (OpenSpec.upto nodeLeafSpec)

/-- 'pantilelaw06.NodeWith', WHERE WHAT IT READS IS OF BULK AT MOST 1048576: true; the input reads as it did. -/
def nodeWithUptoRow : OpenClaim := { program := "ytkknfnjojamgjaa", sum := "e58f051524f20595d404cd7e5e4780c69d7bad8d32dc44c64a9cf93af29f215a", func := "pantile/pantilelaw06.NodeWith", spec := "nodeWith", inPlace := ["slices.overlaps[pantile/slots.cell[*pantile/node.Node]]"], unfollowed := true, recurses := true, apart := false, narrowed := true }
def NodeWithUptoSaid : Prop := nodeWithUptoRow.holds Try.pinned (OpenSpec.upto nodeWithSpec)

/-- 'pantilelaw06.NodeNil', WHERE WHAT IT READS IS OF BULK AT MOST 1048576: true; the input reads as it did. -/
def nodeNilUptoRow : OpenClaim := { program := "ytkknfnjojamgjaa", sum := "e58f051524f20595d404cd7e5e4780c69d7bad8d32dc44c64a9cf93af29f215a", func := "pantile/pantilelaw06.NodeNil", spec := "nodeNil", inPlace := ["slices.overlaps[pantile/slots.cell[*pantile/node.Node]]"], unfollowed := true, recurses := true, apart := false, narrowed := true }
def NodeNilUptoSaid : Prop := nodeNilUptoRow.holds Try.pinned (OpenSpec.upto nodeNilSpec)

/-- 'pantilelaw07.TreePlays', WHERE WHAT IT READS IS OF BULK AT MOST 1048576: true; the input reads as it did. -/
def treePlaysUptoRow : OpenClaim := { program := "ytkknfnjojamgjaa", sum := "e58f051524f20595d404cd7e5e4780c69d7bad8d32dc44c64a9cf93af29f215a", func := "pantile/pantilelaw07.TreePlays", spec := "treePlays", inPlace := ["slices.overlaps[pantile/slots.cell[*pantile/node.Node]]"], unfollowed := true, recurses := true, apart := false, narrowed := true }
def TreePlaysUptoSaid : Prop := treePlaysUptoRow.holds Try.pinned (OpenSpec.upto treePlaysSpec)

/-- 'pantilelaw07.TreeKeeps', WHERE WHAT IT READS IS OF BULK AT MOST 1048576: true; the input reads as it did. -/
def treeKeepsUptoRow : OpenClaim := { program := "ytkknfnjojamgjaa", sum := "e58f051524f20595d404cd7e5e4780c69d7bad8d32dc44c64a9cf93af29f215a", func := "pantile/pantilelaw07.TreeKeeps", spec := "treeKeeps", inPlace := ["slices.overlaps[pantile/slots.cell[*pantile/node.Node]]"], unfollowed := true, recurses := true, apart := false, narrowed := true }
def TreeKeepsUptoSaid : Prop := treeKeepsUptoRow.holds Try.pinned (OpenSpec.upto treeKeepsSpec)

/-- 'pantilelaw07.TreeOf', WHERE WHAT IT READS IS OF BULK AT MOST 1048576: true; the input reads as it did. -/
def treeOfUptoRow : OpenClaim := { program := "ytkknfnjojamgjaa", sum := "e58f051524f20595d404cd7e5e4780c69d7bad8d32dc44c64a9cf93af29f215a", func := "pantile/pantilelaw07.TreeOf", spec := "treeOf", inPlace := ["slices.overlaps[pantile/slots.cell[*pantile/node.Node]]"], unfollowed := true, recurses := true, apart := false, narrowed := true }
def TreeOfUptoSaid : Prop := treeOfUptoRow.holds Try.pinned (OpenSpec.upto treeOfSpec)

/-- 'pantilelaw07.TreeNil', WHERE WHAT IT READS IS OF BULK AT MOST 1048576: true; the input reads as it did. -/
def treeNilUptoRow : OpenClaim := { program := "ytkknfnjojamgjaa", sum := "e58f051524f20595d404cd7e5e4780c69d7bad8d32dc44c64a9cf93af29f215a", func := "pantile/pantilelaw07.TreeNil", spec := "treeNil", inPlace := ["slices.overlaps[pantile/slots.cell[*pantile/node.Node]]"], unfollowed := true, recurses := true, apart := false, narrowed := true }
def TreeNilUptoSaid : Prop := treeNilUptoRow.holds Try.pinned (OpenSpec.upto treeNilSpec)

/-- 'pantilelaw07.TreeGets', WHERE WHAT IT READS IS OF BULK AT MOST 1048576: true; the input reads as it did. -/
def treeGetsUptoRow : OpenClaim := { program := "ytkknfnjojamgjaa", sum := "e58f051524f20595d404cd7e5e4780c69d7bad8d32dc44c64a9cf93af29f215a", func := "pantile/pantilelaw07.TreeGets", spec := "treeGets", inPlace := ["slices.overlaps[pantile/slots.cell[*pantile/node.Node]]"], unfollowed := true, recurses := true, apart := false, narrowed := true }
def TreeGetsUptoSaid : Prop := treeGetsUptoRow.holds Try.pinned (OpenSpec.upto treeGetsSpec)

/-- 'pantilelaw07.TreeShares', WHERE WHAT IT READS IS OF BULK AT MOST 1048576: true; the input reads as it did. -/
def treeSharesUptoRow : OpenClaim := { program := "ytkknfnjojamgjaa", sum := "e58f051524f20595d404cd7e5e4780c69d7bad8d32dc44c64a9cf93af29f215a", func := "pantile/pantilelaw07.TreeShares", spec := "treeShares", inPlace := ["slices.overlaps[pantile/slots.cell[*pantile/node.Node]]"], unfollowed := true, recurses := true, apart := false, narrowed := true }
def TreeSharesUptoSaid : Prop := treeSharesUptoRow.holds Try.pinned (OpenSpec.upto treeSharesSpec)

end Rows
end Go.Proofs.Ytkknfnjojamgjaa
