/- pantilelaw08: what a tree tells of its entries; the places that the reference tells. -/
import Derived.Test.YtfkpanpageeklaaLwB
import Derived.Test.YtfkpanpageeklaaWkD
import Derived.Test.YtfkpanpageeklaaWkE
set_option linter.unusedSimpArgs false
set_option linter.unusedVariables false
namespace Go.Proofs.Ytfkpanpageeklaa
open Go.RowKit
section
variable {w : World} {k t : Nat} {top : Option (Nat × NT)}
theorem tr_root_top (h : TreeBlk w t k (top.map fun y => ⟨y.1, 0, none⟩)) : Calls Try.prog 30 #[.pointer (some ⟨t, 0, none⟩)] w fun e w' => e = .returned (ptrOf top) ∧ w = w' := tr_root h
theorem walk_all_top (h : TopOk w k top) (hk : k ≤ 16) (hl : (esOf top).length ≤ 65536) : Calls Try.prog 29 #[ptrOf top] w (AllOut w k (esOf top)) := by
  cases top with
  | none => exact walk_all_nil w k
  | some x => exact walk_all (h x rfl) hk hl
end
theorem head_at {es A B : List Ent} (h : es = A ++ B) : B.head? = if ((A.length : Nat) : Int) < 0 then none else es[((A.length : Nat) : Int).toNat]? := by
  rw [if_neg (by omega), Int.toNat_natCast, h, List.getElem?_append_right (Nat.le_refl _), Nat.sub_self, List.head?_eq_getElem?]
theorem last_at {es A B : List Ent} (h : es = A ++ B) : A.getLast? = if ((A.length : Nat) : Int) - 1 < 0 then none else es[(((A.length : Nat) : Int) - 1).toNat]? := by
  by_cases h0 : A.length = 0
  · rw [if_pos (by omega), List.length_eq_zero_iff.1 h0]
    rfl
  · rw [if_neg (by omega), show (((A.length : Nat) : Int) - 1).toNat = A.length - 1 by omega, h, List.getElem?_append_left (by omega), List.getLast?_eq_getElem?]
end Go.Proofs.Ytfkpanpageeklaa
