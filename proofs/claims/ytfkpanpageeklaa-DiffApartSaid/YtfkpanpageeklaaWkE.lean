/- walk: UpTo. -/
import Derived.Test.YtfkpanpageeklaaWkS
set_option linter.unusedSimpArgs false
set_option linter.unusedVariables false
namespace Go.Proofs.Ytfkpanpageeklaa
open Go.RowKit
def UpOut (w : World) (k : Nat) (p : List Nat) (es : List Ent) (e : Ending) (w' : World) : Prop :=
  ∃ (A B : List Ent), Cut3 p es A B ∧ EntOut w k A.getLast? e w'
end Go.Proofs.Ytfkpanpageeklaa
