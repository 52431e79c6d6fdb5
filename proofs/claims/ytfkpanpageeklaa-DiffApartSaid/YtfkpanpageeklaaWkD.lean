/- walk: From. -/
import Derived.Test.YtfkpanpageeklaaWkS
set_option linter.unusedSimpArgs false
set_option linter.unusedVariables false
namespace Go.Proofs.Ytfkpanpageeklaa
open Go.RowKit
def FromOut (w : World) (k : Nat) (p : List Nat) (es : List Ent) (e : Ending) (w' : World) : Prop :=
  ∃ (A B : List Ent), Cut2 p es A B ∧ EntOut w k B.head? e w'
end Go.Proofs.Ytfkpanpageeklaa
