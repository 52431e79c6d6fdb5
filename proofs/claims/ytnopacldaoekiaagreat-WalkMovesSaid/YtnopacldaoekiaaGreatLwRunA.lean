/- Where a cursor stands, as a number. -/
import Derived.Test.YtnopacldaoekiaaGreatWkI
set_option linter.unusedSimpArgs false
set_option linter.unusedVariables false
namespace Go.Proofs.YtnopacldaoekiaaGreat
open Go.RowKit
theorem at_here {es : List Ent} (j : Nat) : es[j]? = if ((j : Nat) : Int) < 0 then none else es[((j : Nat) : Int).toNat]? := by
  rw [if_neg (by omega), Int.toNat_natCast]
theorem at_prev {es : List Ent} (j : Nat) : (if j = 0 then none else es[j - 1]?) = if ((j : Nat) : Int) - 1 < 0 then none else es[(((j : Nat) : Int) - 1).toNat]? := by
  by_cases h : j = 0
  · rw [if_pos h, if_pos (by omega)]
  · rw [if_neg h, if_neg (by omega), show (((j : Nat) : Int) - 1).toNat = j - 1 by omega]
end Go.Proofs.YtnopacldaoekiaaGreat
