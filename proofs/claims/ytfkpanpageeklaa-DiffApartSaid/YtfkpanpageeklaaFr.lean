/- Nodes: the kids one after the other. -/
import Derived.Test.YtfkpanpageeklaaNdC
import Derived.Test.YtfkpanpageeklaaLaB
set_option linter.unusedSimpArgs false
set_option linter.unusedVariables false
namespace Go.Proofs.Ytfkpanpageeklaa
open Go.RowKit
def kAt (ks : List Kid) (j : Nat) : Nat := match ks[j]? with | some q => q.at_ | none => 0
def kPt (ks : List Kid) (j : Nat) : Value := match ks[j]? with | some q => .pointer (some ⟨q.blk, 0, none⟩) | none => .pointer none
theorem kAt_some {ks : List Kid} {j : Nat} {q : Kid} (h : ks[j]? = some q) : kAt ks j = q.at_ := by unfold kAt; rw [h]
theorem kPt_some {ks : List Kid} {j : Nat} {q : Kid} (h : ks[j]? = some q) : kPt ks j = .pointer (some ⟨q.blk, 0, none⟩) := by unfold kPt; rw [h]
theorem kPt_none {ks : List Kid} {j : Nat} (h : ks.length ≤ j) : kPt ks j = .pointer none := by unfold kPt; rw [List.getElem?_eq_none h]
theorem kAt_none {ks : List Kid} {j : Nat} (h : ks.length ≤ j) : kAt ks j = 0 := by unfold kAt; rw [List.getElem?_eq_none h]
theorem kidTh_get (ks : List Kid) (j : Nat) : (kidTh ks)[j]? = (ks[j]?).map fun q => (q.at_, Value.pointer (some ⟨q.blk, 0, none⟩)) := by
  unfold kidTh
  rw [List.getElem?_map]
theorem kids_lt {ks : List Kid} (h : ks.Pairwise fun q r => q.at_ < r.at_) {i j : Nat} {q r : Kid} (hi : ks[i]? = some q) (hj : ks[j]? = some r) (hij : i < j) : q.at_ < r.at_ := by
  obtain ⟨h1, rfl⟩ := List.getElem?_eq_some_iff.1 hi
  obtain ⟨h2, rfl⟩ := List.getElem?_eq_some_iff.1 hj
  exact List.pairwise_iff_getElem.1 h i j h1 h2 hij
section
variable {w : World} {k g m : Nat} {pre : List Nat} {ks : List Kid}
theorem Fork.sorted (h : Fork w k g m pre ks) : ks.Pairwise fun q r => q.at_ < r.at_ := by
  obtain ⟨A, c, gs, h1, h2, h3, h4, h5, h6, h7, h8, h9, h10, h11⟩ := h
  exact h8
theorem Fork.two (h : Fork w k g m pre ks) : 2 ≤ ks.length := by
  obtain ⟨A, c, gs, h1, h2, h3, h4, h5, h6, h7, h8, h9, h10, h11⟩ := h
  exact h9
theorem Fork.kid (h : Fork w k g m pre ks) : ∀ q ∈ ks, NodeOf w k q.blk q.lv q.pre q.es ∧ q.lv < m ∧ addrOf q.pre m = q.at_ ∧ (∀ b, m < b → addrOf q.pre b = addrOf pre b) ∧ q.at_ < 2 ^ k := by
  obtain ⟨A, c, gs, h1, h2, h3, h4, h5, h6, h7, h8, h9, h10, h11⟩ := h
  intro q hq
  refine ⟨h5 q hq, h6 q hq, (h7 q hq).1, (h7 q hq).2, ?_⟩
  rw [← (h7 q hq).1]
  exact addr_lt_pow (h5 q hq).info.1 m
theorem Fork.lv (h : Fork w k g m pre ks) : m < 64 := by
  obtain ⟨A, c, gs, h1, _⟩ := h
  exact h1
theorem pow_le_16 {k a : Nat} (h : a < 2 ^ k) (hk : k ≤ 16) : a < 65536 := Nat.lt_of_lt_of_le h (pow_len_le (k := k) (n := 16) hk)
theorem nd_from_j (h : Fork w k g m pre ks) (j : Nat) (addr : Int) (hl : ∀ (i : Nat) (q : Kid), ks[i]? = some q → i < j → (q.at_ : Int) < addr) (hr : ∀ q, ks[j]? = some q → addr ≤ (q.at_ : Int)) :
    Calls Try.prog 85 #[.pointer (some ⟨g, 0, none⟩), .int .i64 addr] w fun e w' => e = .returned (.tuple #[.int .i64 ((kAt ks j : Nat) : Int), kPt ks j]) ∧ Below w.heap.size w w' := by
  obtain ⟨A, c, gs, hp, hS, hB⟩ := h.head
  refine (nd_from hB hS addr).mono ?_
  rintro e w' ⟨⟨a, x, rfl, hh⟩, hb⟩
  refine ⟨?_, hb⟩
  have h1 : fromTh (kidTh ks) addr = (kidTh ks)[j]? := by
    refine th_from_at hS.ok ?_ ?_
    · intro i t ht hij
      rw [kidTh_get] at ht
      cases hq : ks[i]? with
      | none => rw [hq] at ht; cases ht
      | some q => rw [hq] at ht; cases ht; exact hl i q hq hij
    · intro t ht
      rw [kidTh_get] at ht
      cases hq : ks[j]? with
      | none => rw [hq] at ht; cases ht
      | some q => rw [hq] at ht; cases ht; exact hr q hq
  rw [h1, kidTh_get] at hh
  unfold kAt kPt
  cases hq : ks[j]? with
  | none =>
    rw [hq] at hh
    rcases hh with hh | ⟨-, rfl, rfl⟩
    · cases hh
    · rfl
  | some q =>
    rw [hq] at hh
    rcases hh with hh | ⟨hh, -, -⟩
    · injection hh with hh
      injection hh with e1 e2
      rw [← e1, ← e2]
    · cases hh
theorem nd_from_0 (h : Fork w k g m pre ks) :
    Calls Try.prog 85 #[.pointer (some ⟨g, 0, none⟩), .int .i64 0] w fun e w' => e = .returned (.tuple #[.int .i64 ((kAt ks 0 : Nat) : Int), kPt ks 0]) ∧ Below w.heap.size w w' :=
  nd_from_j h 0 0 (fun i q _ hi => absurd hi (by omega)) (fun q _ => by omega)
theorem nd_from_next (h : Fork w k g m pre ks) {j : Nat} {q : Kid} (hq : ks[j]? = some q) :
    Calls Try.prog 85 #[.pointer (some ⟨g, 0, none⟩), .int .i64 ((q.at_ : Int) + 1)] w fun e w' => e = .returned (.tuple #[.int .i64 ((kAt ks (j + 1) : Nat) : Int), kPt ks (j + 1)]) ∧ Below w.heap.size w w' := by
  refine nd_from_j h (j + 1) _ (fun i r hr hi => ?_) (fun r hr => ?_)
  · rcases Nat.lt_or_ge i j with h1 | h1
    · have := kids_lt h.sorted hr hq h1
      omega
    · obtain rfl : i = j := by omega
      rw [hq] at hr
      injection hr with hr
      subst hr
      omega
  · have := kids_lt h.sorted hq hr (by omega)
    omega
end
/-- Where one kid is left without the one at an address, there were two. -/
theorem two_kids {ks : List Kid} {a : Nat} {r : Kid} (hs : ks.Pairwise fun q r => q.at_ < r.at_) (h2 : 2 ≤ ks.length) (hd : delK ks a = [r]) :
    ∃ q, q.at_ = a ∧ r.at_ ≠ a ∧ (ks = [q, r] ∨ ks = [r, q]) := by
  unfold delK at hd
  have hr : r.at_ ≠ a := by
    have : r ∈ ks.filter fun r => decide (r.at_ ≠ a) := by rw [hd]; exact List.mem_singleton_self _
    simpa using (List.mem_filter.1 this).2
  match ks, hs, h2, hd with
  | x :: y :: l, hs, _, hd =>
    rw [List.pairwise_cons, List.pairwise_cons] at hs
    obtain ⟨hx, hy, -⟩ := hs
    by_cases h1 : x.at_ = a
    · have hyx := hx y List.mem_cons_self
      rw [List.filter_cons_of_neg (by simpa using h1), List.filter_cons_of_pos (by simp; omega)] at hd
      injection hd with e1 e2
      have hl : l = [] := by
        cases l with
        | nil => rfl
        | cons z l =>
          have := hx z (by simp)
          rw [List.filter_cons_of_pos (by simp; omega)] at e2
          cases e2
      subst hl e1
      exact ⟨x, h1, hr, .inl rfl⟩
    · rw [List.filter_cons_of_pos (by simpa using h1)] at hd
      injection hd with e1 e2
      have hya : y.at_ = a := by
        by_cases h3 : y.at_ = a
        · exact h3
        · rw [List.filter_cons_of_pos (by simpa using h3)] at e2
          cases e2
      have hl : l = [] := by
        cases l with
        | nil => rfl
        | cons z l =>
          have := hy z List.mem_cons_self
          rw [List.filter_cons_of_neg (by simpa using hya), List.filter_cons_of_pos (by simp; omega)] at e2
          cases e2
      subst hl e1
      exact ⟨y, hya, hr, .inr rfl⟩
end Go.Proofs.Ytfkpanpageeklaa
