/- walk: on which side a node stands; kids beside an address. -/
import Derived.Test.YtfkpanpageeklaaWkA
import Derived.Test.YtfkpanpageeklaaWkC
set_option linter.unusedSimpArgs false
set_option linter.unusedVariables false
namespace Go.Proofs.Ytfkpanpageeklaa
open Go.RowKit
theorem nd_kid_at {w : World} {k g m : Nat} {pre : List Nat} {ks : List Kid} (h : Fork w k g m pre ks) (a : Nat) :
    Calls Try.prog 70 #[.pointer (some ⟨g, 0, none⟩), .int .i64 (a : Int)] w fun e w' => e = .returned (ptrOf (kidAt ks a)) ∧ Below w.heap.size w w' := by
  obtain ⟨A', c', gs', hp', hS', hB'⟩ := h.head
  have h9 := nd_kid hB' hS' (a : Int)
  rw [kid_ptr h] at h9
  exact h9
theorem mem_take_of {α : Type} {l : List α} {i j : Nat} {x : α} (h : l[i]? = some x) (hij : i < j) : x ∈ l.take j := by
  refine List.mem_of_getElem? (i := i) ?_
  rw [List.getElem?_take, if_pos hij]
  exact h
theorem mem_drop_of {α : Type} {l : List α} {i j : Nat} {x : α} (h : l[i]? = some x) (hij : j ≤ i) : x ∈ l.drop j := by
  refine List.mem_of_getElem? (i := i - j) ?_
  rw [List.getElem?_drop, show j + (i - j) = i by omega]
  exact h
theorem kPt_cases (ks : List Kid) (j : Nat) : (∃ r, ks[j]? = some r) ∨ ks.length ≤ j := by
  rcases Nat.lt_or_ge j ks.length with h | h
  · exact .inl ⟨_, List.getElem?_eq_getElem h⟩
  · exact .inr h
/-- The kid ahead of a place. -/
def kPtP (ks : List Kid) : Nat → Value
  | 0 => .pointer none
  | j + 1 => kPt ks j
def PrevIs (ks : List Kid) (j : Nat) (r : Kid) : Prop := ∃ i, j = i + 1 ∧ ks[i]? = some r
theorem kPtP_some {ks : List Kid} {j : Nat} {r : Kid} (h : PrevIs ks j r) : kPtP ks j = .pointer (some ⟨r.blk, 0, none⟩) := by
  obtain ⟨i, rfl, hr⟩ := h
  exact kPt_some hr
theorem kPtP_none {ks : List Kid} {j : Nat} (h : j = 0) : kPtP ks j = .pointer none := by subst h; rfl
theorem kPtP_mem {ks : List Kid} {j : Nat} {r : Kid} (h : PrevIs ks j r) : r ∈ ks := by
  obtain ⟨i, rfl, hr⟩ := h
  exact List.mem_of_getElem? hr
theorem kPtP_cases (ks : List Kid) (j : Nat) (h : j ≤ ks.length) : (∃ r, PrevIs ks j r) ∨ j = 0 := by
  cases j with
  | zero => exact .inr rfl
  | succ j => exact .inl ⟨ks[j]'(by omega), j, rfl, List.getElem?_eq_getElem _⟩
theorem head_app {A B : List Ent} (h : A ≠ []) : (A ++ B).head? = A.head? := by
  cases A with
  | nil => exact absurd rfl h
  | cons x l => rfl
theorem getLast_or {A : List Ent} (h : A ≠ []) (o : Option Ent) : A.getLast?.or o = A.getLast? := by
  obtain ⟨e, he⟩ := Option.isSome_iff_exists.1 (List.getLast?_isSome.2 h)
  rw [he]
  rfl
theorem head_drop_some {ks : List Kid} (hne : ∀ q ∈ ks, q.es ≠ []) {j : Nat} {r : Kid} (h : ks[j]? = some r) {B : List Ent} : (kidEs (ks.drop j) ++ B).head? = r.es.head? := by
  obtain ⟨h1, rfl⟩ := List.getElem?_eq_some_iff.1 h
  rw [List.drop_eq_getElem_cons h1, kidEs_cons, List.append_assoc, head_app (hne _ (List.getElem_mem h1))]
theorem head_drop_none {ks : List Kid} {j : Nat} (h : ks.length ≤ j) {B : List Ent} : (kidEs (ks.drop j) ++ B).head? = B.head? := by
  rw [List.drop_eq_nil_of_le h]
  rfl
theorem last_take_some {ks : List Kid} (hne : ∀ q ∈ ks, q.es ≠ []) {j : Nat} {r : Kid} (h : PrevIs ks j r) {A : List Ent} : (A ++ kidEs (ks.take j)).getLast? = r.es.getLast? := by
  obtain ⟨i, rfl, hr⟩ := h
  have h0 := hne r (List.mem_of_getElem? hr)
  rw [kidEs_take hr, ← List.append_assoc, List.getLast?_append, getLast_or h0]
theorem last_take_none {ks : List Kid} {j : Nat} (h : j = 0) {A : List Ent} : (A ++ kidEs (ks.take j)).getLast? = A.getLast? := by
  subst h
  simp [kidEs]
end Go.Proofs.Ytfkpanpageeklaa
