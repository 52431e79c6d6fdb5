/-
  No cell of these rows narrows 'for every input' (looked for: loops, veiled, ifaces, maps, wideKeys, modest, calm, conditions, laid).
  DERIVED. THE GIVEN ROWS OF THIS SEAT. 3 by the template 'for every input the law returns true; each argument reads behind the call as it read before'; 0 by the template 'total and deterministic' (their statements: YtfoapkcgdkfggaaTotals.lean).
  GIVEN WITH THE SEED: the statements are not yours to turn. If you find one false, say at which input.
  Laid BY PROGRAM, IN A SANDBOX (cutbox-rows.mjs): the forced cells as the released guide's own fill.sh prints them over the translation a8d270aba00ef154… (all of the seat's roots in one cut). By AI agents, Wed Nov 11 2026. No macro, syntax, notation, axiom, sorry.
-/
import Derived.Test.YtfoapkcgdkfggaaChecked
import GoSem.Claim
import GoSem.ClaimJoined
import GoSem.ClaimMapViews
import Derived.JoinedTies
import Derived.KernelRfl
namespace Go.Proofs.Ytfoapkcgdkfggaa
/- THE CELL 'sum', in the pinned program and in every row, IS THE sha256 OF THE DUMP (.gsa) THAT YtfoapkcgdkfggaaProg.lean LOADS. Nothing in Lean hashes anything: it is a label: what it is worth is what the hold of that sum in a sandbox is worth. -/
noncomputable def Try.pinned : Pinned := { name := "ytfoapkcgdkfggaa", sum := "a8d270aba00ef1543862e917c87ac6dc8ed65d09296526198020847b14340ca1", checked := Try.checked }
namespace Rows
def none {H : Type} : Left H := { results := [], args := [] }

/-- 'pantilelaw17.ShareNil': WHATEVER THE INPUT: true; the input reads as it did. -/
def shareNilSpec : ChangeSpec := { name := "shareNil", fn := fun _ => fun
  | [d] => { results := [.lit (.bool true)], args := [d] }
  | _ => none }
def shareNilRow : OpenClaim := { program := "ytfoapkcgdkfggaa", sum := "a8d270aba00ef1543862e917c87ac6dc8ed65d09296526198020847b14340ca1", func := "pantile/pantilelaw17.ShareNil", spec := "shareNil", inPlace := ["slices.overlaps[pantile/slots.cell[*pantile/node.Node]]"], unfollowed := true, recurses := true, apart := false }
def ShareNilSaid : Prop := shareNilRow.holds Try.pinned (OpenSpec.ofChange shareNilSpec)

/-- ITS FALSE NEIGHBOUR: 'it returns false'. Refute it at one input. -/
def shareNilWrong : ChangeSpec := { name := "shareNil", fn := fun _ => fun
  | [d] => { results := [.lit (.bool false)], args := [d] }
  | _ => none }
def ShareNilWrongFalsely : Prop := shareNilRow.holds Try.pinned (OpenSpec.ofChange shareNilWrong)

/-- 'pantilelaw17.ShareFew': WHATEVER THE INPUT: true; the input reads as it did. -/
def shareFewSpec : ChangeSpec := { name := "shareFew", fn := fun _ => fun
  | [d1, d2, d3] => { results := [.lit (.bool true)], args := [d1, d2, d3] }
  | _ => none }
def shareFewRow : OpenClaim := { program := "ytfoapkcgdkfggaa", sum := "a8d270aba00ef1543862e917c87ac6dc8ed65d09296526198020847b14340ca1", func := "pantile/pantilelaw17.ShareFew", spec := "shareFew", inPlace := ["slices.overlaps[pantile/slots.cell[*pantile/node.Node]]"], unfollowed := true, recurses := true, apart := false }
def ShareFewSaid : Prop := shareFewRow.holds Try.pinned (OpenSpec.ofChange shareFewSpec)

/-- ITS FALSE NEIGHBOUR: 'it returns false'. Refute it at one input. -/
def shareFewWrong : ChangeSpec := { name := "shareFew", fn := fun _ => fun
  | [d1, d2, d3] => { results := [.lit (.bool false)], args := [d1, d2, d3] }
  | _ => none }
def ShareFewWrongFalsely : Prop := shareFewRow.holds Try.pinned (OpenSpec.ofChange shareFewWrong)

/-- 'pantilelaw17.ShareCounts': WHATEVER THE INPUT: true; the input reads as it did. -/
def shareCountsSpec : ChangeSpec := { name := "shareCounts", fn := fun _ => fun
  | [d1, d2, d3] => { results := [.lit (.bool true)], args := [d1, d2, d3] }
  | _ => none }
def shareCountsRow : OpenClaim := { program := "ytfoapkcgdkfggaa", sum := "a8d270aba00ef1543862e917c87ac6dc8ed65d09296526198020847b14340ca1", func := "pantile/pantilelaw17.ShareCounts", spec := "shareCounts", inPlace := ["slices.overlaps[pantile/slots.cell[*pantile/node.Node]]"], unfollowed := true, recurses := true, apart := false }
def ShareCountsSaid : Prop := shareCountsRow.holds Try.pinned (OpenSpec.ofChange shareCountsSpec)

/-- ITS FALSE NEIGHBOUR: 'it returns false'. Refute it at one input. -/
def shareCountsWrong : ChangeSpec := { name := "shareCounts", fn := fun _ => fun
  | [d1, d2, d3] => { results := [.lit (.bool false)], args := [d1, d2, d3] }
  | _ => none }
def ShareCountsWrongFalsely : Prop := shareCountsRow.holds Try.pinned (OpenSpec.ofChange shareCountsWrong)

/- THE SECOND FORM. 'bulk': how many values and letters a reading holds, each counted each time it is reached (what is shared counts as often as it is met; a slice's spare places count too). A statement '..UptoSaid' is the law's where the arguments, and the package variables that the reading takes, are together of bulk at most 1048576: NARROWER than '..Said'. Prove '..Said' where nothing that the law and all that it calls make is longer than what came in: it says more and counts as full. Else prove '..UptoSaid'. A law counts once. -/
mutual
def uptoBulk {H : Type} : DataW H → Nat
  | .lit (.string bytes) => bytes.length + 1
  | .lit _ => 1
  | .nil => 1
  | .ptr d => uptoBulk d + 1
  | .slice elems spare => uptoBulkAll elems + uptoBulkAll spare + 1
  | .agg parts => uptoBulkAll parts + 1
  | .iface _ d => uptoBulk d + 1
  | .map entries => uptoBulkEntries entries + 1
  | .held _ => 1
def uptoBulkAll {H : Type} : List (DataW H) → Nat
  | [] => 0
  | d :: r => uptoBulk d + uptoBulkAll r
def uptoBulkEntries {H : Type} : List (Lit × DataW H) → Nat
  | [] => 0
  | x :: r => uptoBulkEntry x + uptoBulkEntries r
def uptoBulkEntry {H : Type} : Lit × DataW H → Nat
  | (.string bytes, d) => bytes.length + uptoBulk d + 1
  | (_, d) => uptoBulk d + 1
 end
def uptoSmall : (H : Type) → List (DataW H) → Bool := fun _ ds => decide (uptoBulkAll ds ≤ 1048576)
def OpenSpec.upto (s : _root_.Go.ChangeSpec) : _root_.Go.OpenSpec := { _root_.Go.OpenSpec.ofChange s with cond := some uptoSmall }

/-- 'pantilelaw17.ShareNil', WHERE WHAT IT READS IS OF BULK AT MOST 1048576: true; the input reads as it did. -/
def shareNilUptoRow : OpenClaim := { program := "ytfoapkcgdkfggaa", sum := "a8d270aba00ef1543862e917c87ac6dc8ed65d09296526198020847b14340ca1", func := "pantile/pantilelaw17.ShareNil", spec := "shareNil", inPlace := ["slices.overlaps[pantile/slots.cell[*pantile/node.Node]]"], unfollowed := true, recurses := true, apart := false, narrowed := true }
def ShareNilUptoSaid : Prop := shareNilUptoRow.holds Try.pinned (OpenSpec.upto shareNilSpec)

/-- 'pantilelaw17.ShareFew', WHERE WHAT IT READS IS OF BULK AT MOST 1048576: true; the input reads as it did. -/
def shareFewUptoRow : OpenClaim := { program := "ytfoapkcgdkfggaa", sum := "a8d270aba00ef1543862e917c87ac6dc8ed65d09296526198020847b14340ca1", func := "pantile/pantilelaw17.ShareFew", spec := "shareFew", inPlace := ["slices.overlaps[pantile/slots.cell[*pantile/node.Node]]"], unfollowed := true, recurses := true, apart := false, narrowed := true }
def ShareFewUptoSaid : Prop := shareFewUptoRow.holds Try.pinned (OpenSpec.upto shareFewSpec)

/-- 'pantilelaw17.ShareCounts', WHERE WHAT IT READS IS OF BULK AT MOST 1048576: true; the input reads as it did. -/
def shareCountsUptoRow : OpenClaim := { program := "ytfoapkcgdkfggaa", sum := "a8d270aba00ef1543862e917c87ac6dc8ed65d09296526198020847b14340ca1", func := "pantile/pantilelaw17.ShareCounts", spec := "shareCounts", inPlace := ["slices.overlaps[pantile/slots.cell[*pantile/node.Node]]"], unfollowed := true, recurses := true, apart := false, narrowed := true }
def ShareCountsUptoSaid : Prop := shareCountsUptoRow.holds Try.pinned (OpenSpec.upto shareCountsSpec)

end Rows
end Go.Proofs.Ytfoapkcgdkfggaa
