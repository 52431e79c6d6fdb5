/- pantilelaw08: the places of the reference, what an answer is held against, the chapter's example. -/
import Derived.Test.YtfkpanpageeklaaWkA
import Derived.Test.YtfkpanpageeklaaWkB
import Derived.Test.YtfkpanpageeklaaWkC
import Derived.Test.YtfkpanpageeklaaTrD
set_option linter.unusedSimpArgs false
set_option linter.unusedVariables false
namespace Go.Proofs.Ytfkpanpageeklaa
open Go.RowKit
theorem fromI_at {rows : List ER} {p : List Nat} {j : Nat} (hj : j ≤ rows.length) (h1 : ∀ r ∈ rows.take j, cmp r.p p < 0) (h2 : ∀ r, rows[j]? = some r → ¬ cmp r.p p < 0) : fromI (ents rows) p = j := by
  unfold fromI
  have hs : ents rows = ents (rows.take j) ++ ents (rows.drop j) := by unfold ents; rw [← List.map_append, List.take_append_drop]
  rw [hs, List.takeWhile_append_of_pos]
  · have : ((ents (rows.drop j)).takeWhile fun e => decide (cmp e.1 p < 0)) = [] := by
      cases hr : rows[j]? with
      | none => rw [List.drop_eq_nil_of_le (by simpa using hr)]; rfl
      | some r =>
        obtain ⟨h3, h4⟩ := List.getElem?_eq_some_iff.1 hr
        rw [List.drop_eq_getElem_cons h3, h4]
        unfold ents
        rw [List.map_cons, List.takeWhile_cons_of_neg (p := fun e : Ent => decide (cmp e.1 p < 0)) (show ¬ (decide (cmp r.e.1 p < 0)) = true from fun hh => h2 r hr (of_decide_eq_true hh))]
    rw [this]
    unfold ents
    simp
    omega
  · intro e he
    unfold ents at he
    obtain ⟨r, hr, rfl⟩ := List.mem_map.1 he
    exact decide_eq_true (h1 r hr)
/-- The place of the last one that isn't behind a point, and one more. -/
def UpI (rows : List ER) (p : List Nat) (j : Nat) : Prop := j ≤ rows.length ∧ (∀ r ∈ rows.drop j, 0 < cmp r.p p) ∧ ∀ i r, j = i + 1 → rows[i]? = some r → ¬ 0 < cmp r.p p
theorem UpI.cut {k : Nat} {rows : List ER} {p : List Nat} {j : Nat} {A B : List Ent} (h : UpI rows p j) (hc : Cut3 p (ents rows) A B) (hz : ∀ r ∈ rows, Zp k r.p) (hp : Zp k p) : j = A.length ∧ ((j : Int) - 1 < 0 → A = []) ∧ (∀ i, j = i + 1 → (ents rows)[i]? = A.getLast?) := by
  obtain ⟨h1, h2, h3⟩ := h
  have hlen : rows.length = A.length + B.length := by
    have := congrArg List.length hc.eq
    unfold ents at this
    simpa using this
  have key : ∀ (i : Nat) (r : ER), rows[i]? = some r → (ents rows)[i]? = some r.e := fun i r hr => by unfold ents; rw [List.getElem?_map, hr]; rfl
  have hj : j = A.length := by
    rcases Nat.lt_trichotomy j A.length with h | h | h
    · exfalso
      obtain ⟨r, hr⟩ : ∃ r, rows[j]? = some r := ⟨rows[j]'(by omega), List.getElem?_eq_getElem _⟩
      have hm := h2 r (List.mem_of_getElem? (i := 0) (by rw [List.getElem?_drop]; simpa using hr))
      have hA : r.e ∈ A := by
        have := key j r hr
        rw [hc.eq, List.getElem?_append_left h] at this
        exact List.mem_of_getElem? this
      have hzr := hz r (List.mem_of_getElem? hr)
      rcases cmp_cases r.p p with h4 | h4 | h4
      · omega
      · omega
      · exact hc.lo _ hA ((cmp_gt hzr hp).1 h4)
    · exact h
    · exfalso
      obtain ⟨i, rfl⟩ : ∃ i, j = i + 1 := ⟨j - 1, by omega⟩
      obtain ⟨r, hr⟩ : ∃ r, rows[i]? = some r := ⟨rows[i]'(by omega), List.getElem?_eq_getElem _⟩
      have hB : r.e ∈ B := by
        have := key i r hr
        rw [hc.eq, List.getElem?_append_right (by omega)] at this
        exact List.mem_of_getElem? this
      have hzr := hz r (List.mem_of_getElem? hr)
      exact h3 i r rfl hr (by rw [(cmp_gt hzr hp).2 (hc.hi _ hB)]; decide)
  refine ⟨hj, fun h => ?_, fun i hi => ?_⟩
  · exact List.length_eq_zero_iff.1 (by omega)
  · rw [hc.eq, List.getElem?_append_left (by omega), List.getLast?_eq_getElem?, show A.length - 1 = i by omega]
end Go.Proofs.Ytfkpanpageeklaa
