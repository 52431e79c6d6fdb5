/- walk: the first and the last entry below a node. -/
import Derived.Test.YtfkpanpageeklaaPlW
import Derived.Test.YtfkpanpageeklaaKe
set_option linter.unusedSimpArgs false
set_option linter.unusedVariables false
namespace Go.Proofs.Ytfkpanpageeklaa
open Go.RowKit
/-- An answer: an entry, or none. -/
def EntIs (w' : World) (k : Nat) (o : Option Ent) (r : ER) (ok : Bool) : Prop := r.okT w' ∧ ((ok = true ∧ r.n = k ∧ o = some r.e) ∨ (ok = false ∧ r = ⟨none, 0, 0, [], 0⟩ ∧ o = none))
def EntOut (w : World) (k : Nat) (o : Option Ent) (e : Ending) (w' : World) : Prop :=
  ∃ (r : ER) (ok : Bool), e = .returned (.tuple #[.agg #[.slice r.A r.n r.c, .int .u64 (r.v : Int)], .bool ok]) ∧ EntIs w' k o r ok ∧ Below w.heap.size w w'
theorem EntIs.keep {w w' : World} {k : Nat} {o : Option Ent} {r : ER} {ok : Bool} (h : EntIs w k o r ok) (hk : Keep 50 w w') : EntIs w' k o r ok := ⟨h.1.keep hk, h.2⟩
theorem EntIs.below {w w' : World} {k : Nat} {o : Option Ent} {r : ER} {ok : Bool} (h : EntIs w k o r ok) (hb : Below w.heap.size w w') : EntIs w' k o r ok := h.keep (Keep.below hb)
/-- The level that a pointer's node tells. -/
def nlv (w : World) : Value → Nat
  | .pointer (some a) => match w.cell? a with
    | some (.int _ x) => (x + 1).toNat
    | _ => 0
  | _ => 0
theorem nlv_node {w : World} {k g : Nat} {lv : Int} {pre : List Nat} {es : List Ent} (h : NodeOf w k g lv pre es) : nlv w (.pointer (some ⟨g, 0, none⟩)) = (lv + 1).toNat := by
  obtain ⟨A, c, v, kids, hB, -⟩ := h.head
  have := hB.cell 0
  simp [nodeCells] at this
  unfold nlv
  simp only
  rw [this]
theorem two_pow_pred {k : Nat} (hk : k ≤ 16) : 1 ≤ 2 ^ k ∧ 2 ^ k ≤ 65536 := ⟨Nat.one_le_two_pow, Nat.pow_le_pow_right (n := 2) (by omega) hk⟩
theorem wrap_pow1 {k : Nat} (hk : k ≤ 16) : wrap64 (wrap64 ((2 : Int) ^ k) - 1) = ((2 ^ k - 1 : Nat) : Int) := by
  have h1 : ((2 : Int) ^ k) = ((2 ^ k : Nat) : Int) := by simp
  obtain ⟨h2, h3⟩ := two_pow_pred hk
  rw [h1]
  generalize 2 ^ k = x at *
  unfold wrap64
  omega
end Go.Proofs.Ytfkpanpageeklaa
