/- sets: Touch; joins of joins, plain laws. -/
import Derived.Test.YtfkpanpageeklaaGreatStM
import Derived.Test.YtfkpanpageeklaaGreatStP
import Derived.Test.YtfkpanpageeklaaGreatDfP
set_option linter.unusedSimpArgs false
set_option linter.unusedVariables false
namespace Go.Proofs.YtfkpanpageeklaaGreat
open Go.RowKit
theorem StT.good {w : World} {k : Nat} {r : Int} {l rt bo : Bool} {ea eb : List Ent} {e : Ending} {w' : World} (h : StT w k k r l rt bo ea eb e w') (h1 : 1 ≤ r) (h6 : r ≤ 6) :
    ∃ t es, e = .returned (.tuple #[.pointer (some ⟨t, 0, none⟩), .int .i64 0]) ∧ TreeOf w' k t es ∧ (∀ x, x ∈ es ↔ JM r.toNat l rt bo ea eb x) ∧ Below w.heap.size w w' := by
  have hc : ckCode k k r = 0 := by
    simp [ckCode]
    omega
  obtain ⟨⟨h0, _⟩ | ⟨_, t, es, he, ht, hm⟩, hb⟩ := h
  · exact absurd hc h0
  · exact ⟨t, es, he, ht, hm, hb⟩
theorem JM.len_le {r : Nat} {l rt bo : Bool} {ea eb X : List Ent} (hX : Zsorted X) (h : ∀ x, x ∈ X ↔ JM r l rt bo ea eb x) : X.length ≤ ea.length + eb.length := by
  have hn : (X.map (·.1)).Nodup := by
    unfold List.Nodup
    rw [List.pairwise_map]
    refine List.Pairwise.imp (R := fun (a b : Ent) => Zlt a.1 b.1) (fun {a b} hab => ?_) hX
    intro e
    rw [e] at hab
    exact zlt_irrefl _ hab
  have h1 := len_le_of_sub (M := ea.map (·.1) ++ eb.map (·.1)) hn fun p hp => by
    obtain ⟨x, hx, rfl⟩ := List.mem_map.1 hp
    rw [List.mem_append, List.mem_map, List.mem_map]
    rcases ((h x).1 hx).has with ⟨v, hv⟩ | ⟨v, hv⟩
    · exact .inl ⟨(x.1, v), hv, rfl⟩
    · exact .inr ⟨(x.1, v), hv, rfl⟩
  simpa using h1
theorem uniq_pt {E : List Ent} (h : Zsorted E) {p : List Nat} {u v : Nat} (hu : (p, u) ∈ E) (hv : (p, v) ∈ E) : u = v := uniq_val h hu hv
section
variable {r : Nat} {ea eb L B R P A1 A2 X O T : List Ent}
/-- The one without the other one, and what they have in common, are the one. -/
theorem one_all (ha : Zsorted ea) (hb : Zsorted eb) (hO : Zsorted O) (hL : ∀ x, x ∈ L ↔ JM 1 true false false ea eb x) (hB : ∀ x, x ∈ B ↔ JM 1 false false true ea eb x) (h : ∀ x, x ∈ O ↔ JM 1 true true true L B x) : O = ea := by
  have l1 : ∀ x, x ∈ L ↔ x ∈ ea ∧ ∀ v, (x.1, v) ∉ eb := fun x => by rw [hL]; unfold JM; simp
  have b1 : ∀ x, x ∈ B ↔ x ∈ ea ∧ ∃ v, (x.1, v) ∈ eb := fun x => by
    rw [hB]
    unfold JM
    simp only [Bool.false_eq_true, false_and, or_false, true_and]
    constructor
    · rintro ⟨va, vb, h1, h2, h3⟩
      have h4 : x = (x.1, va) := by
        have : stval 1 va vb = va := rfl
        rw [this] at h3
        rw [← h3]
      exact ⟨by rw [h4]; exact h1, vb, h2⟩
    · rintro ⟨h1, vb, h2⟩
      exact ⟨x.2, vb, h1, h2, rfl⟩
  have hap : Apart L B := fun x hx y hy hxy => by
    obtain ⟨_, v, hv⟩ := (b1 y).1 hy
    exact ((l1 x).1 hx).2 v (by rw [hxy]; exact hv)
  refine sorted_ext hO ha fun x => ?_
  rw [h, JM.apart hap, l1, b1]
  simp only [true_and]
  constructor
  · rintro (h | h) <;> exact h.1
  · intro hx
    by_cases hv : ∃ v, (x.1, v) ∈ eb
    · exact .inr ⟨hx, hv⟩
    · exact .inl ⟨hx, fun v h => hv ⟨v, h⟩⟩
/-- The union is what each has alone, and what they have in common. -/
theorem uni_all (ha : Zsorted ea) (hb : Zsorted eb) (hA : Zsorted A2) (hX : Zsorted X) (hx : ∀ x, x ∈ X ↔ JM r true true true ea eb x) (hL : ∀ x, x ∈ L ↔ JM 1 true false false ea eb x) (hR : ∀ x, x ∈ R ↔ JM 1 true false false eb ea x) (hP : ∀ x, x ∈ P ↔ JM r false false true ea eb x) (h1 : ∀ x, x ∈ A1 ↔ JM r true true true L R x) (h2 : ∀ x, x ∈ A2 ↔ JM r true true true A1 P x) : A2 = X := by
  have l1 : ∀ x, x ∈ L ↔ x ∈ ea ∧ ∀ v, (x.1, v) ∉ eb := fun x => by rw [hL]; unfold JM; simp
  have r1 : ∀ x, x ∈ R ↔ x ∈ eb ∧ ∀ v, (x.1, v) ∉ ea := fun x => by rw [hR]; unfold JM; simp
  have p1 : ∀ x, x ∈ P ↔ ∃ va vb, (x.1, va) ∈ ea ∧ (x.1, vb) ∈ eb ∧ x.2 = stval r va vb := fun x => by rw [hP]; unfold JM; simp
  have hap : Apart L R := fun x hx y hy hxy => ((l1 x).1 hx).2 y.2 (by rw [hxy]; exact ((r1 y).1 hy).1)
  have a1 : ∀ x, x ∈ A1 ↔ x ∈ L ∨ x ∈ R := fun x => by rw [h1, JM.apart hap]; simp
  have hap2 : Apart A1 P := fun x hx y hy hxy => by
    obtain ⟨va, vb, g1, g2, _⟩ := (p1 y).1 hy
    rcases (a1 x).1 hx with h | h
    · exact ((l1 x).1 h).2 vb (by rw [hxy]; exact g2)
    · exact ((r1 x).1 h).2 va (by rw [hxy]; exact g1)
  refine sorted_ext hA hX fun x => ?_
  rw [h2, JM.apart hap2, hx, a1, l1, r1, p1]
  unfold JM
  simp only [true_and]
  constructor
  · rintro ((h | h) | h)
    · exact .inr (.inl h)
    · exact .inr (.inr h)
    · exact .inl h
  · rintro (h | h | h)
    · exact .inr h
    · exact .inl (.inl h)
    · exact .inl (.inr h)
theorem apart_all (hL : ∀ x, x ∈ L ↔ JM 1 true false false ea eb x) (hT : ∀ x, x ∈ T ↔ JM 1 false false true L eb x) : T = [] := by
  rw [List.eq_nil_iff_forall_not_mem]
  intro x hx
  rcases (hT x).1 hx with ⟨_, va, vb, g1, g2, _⟩ | ⟨h, _⟩ | ⟨h, _⟩
  · rcases (hL _).1 g1 with ⟨h, _⟩ | ⟨_, _, h⟩ | ⟨h, _⟩
    · cases h
    · exact h vb g2
    · cases h
  · cases h
  · cases h
theorem comm_all (hr : 3 ≤ r) {l rt : Bool} {X Y : List Ent} (hX : Zsorted X) (hY : Zsorted Y) (h : ∀ x, x ∈ X ↔ JM r l rt true ea eb x) (h' : ∀ x, x ∈ Y ↔ JM r rt l true eb ea x) : X = Y :=
  sorted_ext hX hY fun x => by rw [h, h']; exact JM.comm hr
end
end Go.Proofs.YtfkpanpageeklaaGreat
