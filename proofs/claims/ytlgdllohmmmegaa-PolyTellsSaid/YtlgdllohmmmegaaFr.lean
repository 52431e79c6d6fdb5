/- Nodes: the kids one after the other. -/
import Derived.Test.YtlgdllohmmmegaaNdC
import Derived.Test.YtlgdllohmmmegaaLaB
set_option linter.unusedSimpArgs false
set_option linter.unusedVariables false
namespace Go.Proofs.Ytlgdllohmmmegaa
open Go.RowKit
def kAt (ks : List Kid) (j : Nat) : Nat := match ks[j]? with | some q => q.at_ | none => 0
def kPt (ks : List Kid) (j : Nat) : Value := match ks[j]? with | some q => .pointer (some ⟨q.blk, 0, none⟩) | none => .pointer none
theorem kAt_some {ks : List Kid} {j : Nat} {q : Kid} (h : ks[j]? = some q) : kAt ks j = q.at_ := by unfold kAt; rw [h]
theorem kPt_some {ks : List Kid} {j : Nat} {q : Kid} (h : ks[j]? = some q) : kPt ks j = .pointer (some ⟨q.blk, 0, none⟩) := by unfold kPt; rw [h]
theorem kPt_none {ks : List Kid} {j : Nat} (h : ks.length ≤ j) : kPt ks j = .pointer none := by unfold kPt; rw [List.getElem?_eq_none h]
theorem kAt_none {ks : List Kid} {j : Nat} (h : ks.length ≤ j) : kAt ks j = 0 := by unfold kAt; rw [List.getElem?_eq_none h]
theorem kidTh_get (ks : List Kid) (j : Nat) : (kidTh ks)[j]? = (ks[j]?).map fun q => (q.at_, Value.pointer (some ⟨q.blk, 0, none⟩)) := by
  unfold kidTh
  rw [List.getElem?_map]
theorem kids_lt {ks : List Kid} (h : ks.Pairwise fun q r => q.at_ < r.at_) {i j : Nat} {q r : Kid} (hi : ks[i]? = some q) (hj : ks[j]? = some r) (hij : i < j) : q.at_ < r.at_ := by
  obtain ⟨h1, rfl⟩ := List.getElem?_eq_some_iff.1 hi
  obtain ⟨h2, rfl⟩ := List.getElem?_eq_some_iff.1 hj
  exact List.pairwise_iff_getElem.1 h i j h1 h2 hij
section
variable {w : World} {k g m : Nat} {pre : List Nat} {ks : List Kid}
theorem pow_le_16 {k a : Nat} (h : a < 2 ^ k) (hk : k ≤ 16) : a < 65536 := Nat.lt_of_lt_of_le h (pow_len_le (k := k) (n := 16) hk)
end
/-- Where one kid is left without the one at an address, there were two. -/
theorem two_kids {ks : List Kid} {a : Nat} {r : Kid} (hs : ks.Pairwise fun q r => q.at_ < r.at_) (h2 : 2 ≤ ks.length) (hd : delK ks a = [r]) :
    ∃ q, q.at_ = a ∧ r.at_ ≠ a ∧ (ks = [q, r] ∨ ks = [r, q]) := by
  unfold delK at hd
  have hr : r.at_ ≠ a := by
    have : r ∈ ks.filter fun r => decide (r.at_ ≠ a) := by rw [hd]; exact List.mem_singleton_self _
    simpa using (List.mem_filter.1 this).2
  match ks, hs, h2, hd with
  | x :: y :: l, hs, _, hd =>
    rw [List.pairwise_cons, List.pairwise_cons] at hs
    obtain ⟨hx, hy, -⟩ := hs
    by_cases h1 : x.at_ = a
    · have hyx := hx y List.mem_cons_self
      rw [List.filter_cons_of_neg (by simpa using h1), List.filter_cons_of_pos (by simp; omega)] at hd
      injection hd with e1 e2
      have hl : l = [] := by
        cases l with
        | nil => rfl
        | cons z l =>
          have := hx z (by simp)
          rw [List.filter_cons_of_pos (by simp; omega)] at e2
          cases e2
      subst hl e1
      exact ⟨x, h1, hr, .inl rfl⟩
    · rw [List.filter_cons_of_pos (by simpa using h1)] at hd
      injection hd with e1 e2
      have hya : y.at_ = a := by
        by_cases h3 : y.at_ = a
        · exact h3
        · rw [List.filter_cons_of_pos (by simpa using h3)] at e2
          cases e2
      have hl : l = [] := by
        cases l with
        | nil => rfl
        | cons z l =>
          have := hy z List.mem_cons_self
          rw [List.filter_cons_of_neg (by simpa using hya), List.filter_cons_of_pos (by simp; omega)] at e2
          cases e2
      subst hl e1
      exact ⟨y, hya, hr, .inr rfl⟩
end Go.Proofs.Ytlgdllohmmmegaa
