/- sets: who has what; plain laws. -/
import Derived.Test.YtfkpanpageeklaaGreatStJ
import Derived.Test.YtfkpanpageeklaaGreatPlD
set_option linter.unusedSimpArgs false
set_option linter.unusedVariables false
namespace Go.Proofs.YtfkpanpageeklaaGreat
open Go.RowKit
/-- Are all of one list's points the other one's? -/
def subB (ea eb : List Ent) : Bool := ea.all fun x => (getE eb x.1).isSome
theorem getE_isSome {eb : List Ent} {p : List Nat} : (getE eb p).isSome = true ↔ ∃ v, (p, v) ∈ eb := by
  constructor
  · intro h
    obtain ⟨v, hv⟩ := Option.isSome_iff_exists.1 h
    exact ⟨v, getE_mem hv⟩
  · rintro ⟨v, hv⟩
    cases hg : getE eb p with
    | none => exact absurd hv (getE_none.1 hg v)
    | some u => rfl
theorem common_filter {ea eb J : List Ent} (ha : Zsorted ea) (hb : Zsorted eb) (hJ : Zsorted J) (h : ∀ x, x ∈ J ↔ JM 1 false false true ea eb x) : J = ea.filter fun x => (getE eb x.1).isSome := by
  refine sorted_ext hJ (List.Pairwise.filter _ ha) fun x => ?_
  rw [h, List.mem_filter, getE_isSome]
  constructor
  · rintro (⟨_, va, vb, h1, h2, h3⟩ | ⟨h1, _⟩ | ⟨h1, _⟩)
    · have h4 : stval 1 va vb = va := rfl
      rw [h4] at h3
      have h5 : x = (x.1, va) := by rw [← h3]
      rw [h5]
      exact ⟨h1, vb, h2⟩
    · cases h1
    · cases h1
  · rintro ⟨h1, vb, h2⟩
    exact .inl ⟨rfl, x.2, vb, h1, h2, rfl⟩
theorem common_sub {ea eb J : List Ent} (ha : Zsorted ea) (hb : Zsorted eb) (hJ : Zsorted J) (h : ∀ x, x ∈ J ↔ JM 1 false false true ea eb x) : (J.length == ea.length) = subB ea eb := by
  rw [common_filter ha hb hJ h]
  unfold subB
  rw [Bool.eq_iff_iff, beq_iff_eq, List.length_filter_eq_length_iff, List.all_eq_true]
/-- Two joins by rules that treat both alike. -/
theorem JM.comm {r : Nat} {ea eb : List Ent} {l rt : Bool} {x : Ent} (hr : 3 ≤ r) : JM r l rt true ea eb x ↔ JM r rt l true eb ea x := by
  have hc : ∀ a b, stval r a b = stval r b a := by
    intro a b
    unfold stval
    rw [if_neg (show r ≠ 1 by omega), if_neg (show r ≠ 2 by omega), if_neg (show r ≠ 1 by omega), if_neg (show r ≠ 2 by omega), Nat.min_comm, Nat.max_comm, Nat.add_comm]
  unfold JM
  constructor
  · rintro (⟨h, va, vb, h1, h2, h3⟩ | h | h)
    · exact .inl ⟨h, vb, va, h2, h1, by rw [h3, hc]⟩
    · exact .inr (.inr h)
    · exact .inr (.inl h)
  · rintro (⟨h, va, vb, h1, h2, h3⟩ | h | h)
    · exact .inl ⟨h, vb, va, h2, h1, by rw [h3, hc]⟩
    · exact .inr (.inr h)
    · exact .inr (.inl h)
end Go.Proofs.YtfkpanpageeklaaGreat
