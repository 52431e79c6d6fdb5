/- walk: UpTo. -/
import Derived.Test.YtnopacldaoekiaaGreatWkS
set_option linter.unusedSimpArgs false
set_option linter.unusedVariables false
namespace Go.Proofs.YtnopacldaoekiaaGreat
open Go.RowKit
def UpOut (w : World) (k : Nat) (p : List Nat) (es : List Ent) (e : Ending) (w' : World) : Prop :=
  ∃ (A B : List Ent), Cut3 p es A B ∧ EntOut w k A.getLast? e w'
theorem walk_upto_none {w : World} {k : Nat} {top : Option (Nat × NT)} (hk : k ≤ 16) (h : TopOk w k top) : Calls Tryz.prog 56 #[ptrOf top] w (EntOut w k (esOf top).getLast?) := by
  cases top with
  | none => exact walk_last_nil w k
  | some x => exact walk_last (h x rfl) hk
end Go.Proofs.YtnopacldaoekiaaGreat
