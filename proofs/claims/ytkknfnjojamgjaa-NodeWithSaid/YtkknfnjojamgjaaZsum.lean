/- Sums of entries; kids of a node, as lists. -/
import Derived.Test.YtkknfnjojamgjaaZord
set_option linter.unusedSimpArgs false
set_option linter.unusedVariables false
namespace Go.Proofs.Ytkknfnjojamgjaa
def minL : List Nat → Nat
  | [] => 0
  | v :: vs => vs.foldl Nat.min v
def maxL (l : List Nat) : Nat := l.foldl Nat.max 0
structure Sum4 where
  c : Nat
  s : Nat
  mn : Nat
  mx : Nat
def sumsOf (es : List Ent) : Sum4 := ⟨es.length % 2 ^ 64, (es.map (·.2)).sum % 2 ^ 64, minL (es.map (·.2)), maxL (es.map (·.2))⟩
def Sum4.join (a b : Sum4) : Sum4 := ⟨(a.c + b.c) % 2 ^ 64, (a.s + b.s) % 2 ^ 64, Nat.min a.mn b.mn, Nat.max a.mx b.mx⟩
theorem foldl_min_le (l : List Nat) (a : Nat) : l.foldl Nat.min a ≤ a ∧ (∀ x ∈ l, l.foldl Nat.min a ≤ x) ∧ (l.foldl Nat.min a = a ∨ l.foldl Nat.min a ∈ l) := by
  induction l generalizing a with
  | nil => exact ⟨Nat.le_refl _, fun x h => (by cases h), .inl rfl⟩
  | cons v vs ih =>
    obtain ⟨h1, h2, h3⟩ := ih (Nat.min a v)
    have ha : Nat.min a v ≤ a := Nat.min_le_left _ _
    have hv : Nat.min a v ≤ v := Nat.min_le_right _ _
    refine ⟨Nat.le_trans h1 ha, fun x hx => ?_, ?_⟩
    · rcases List.mem_cons.1 hx with rfl | hx
      · exact Nat.le_trans h1 hv
      · exact h2 x hx
    · rcases h3 with h3 | h3
      · rw [List.foldl_cons, h3]
        rcases Nat.le_total a v with h | h
        · exact .inl (Nat.min_eq_left h)
        · exact .inr (by rw [show Nat.min a v = v from Nat.min_eq_right h]; exact List.mem_cons_self)
      · exact .inr (List.mem_cons_of_mem _ h3)
theorem foldl_max_ge (l : List Nat) (a : Nat) : a ≤ l.foldl Nat.max a ∧ (∀ x ∈ l, x ≤ l.foldl Nat.max a) ∧ (l.foldl Nat.max a = a ∨ l.foldl Nat.max a ∈ l) := by
  induction l generalizing a with
  | nil => exact ⟨Nat.le_refl _, fun x h => (by cases h), .inl rfl⟩
  | cons v vs ih =>
    obtain ⟨h1, h2, h3⟩ := ih (Nat.max a v)
    have ha : a ≤ Nat.max a v := Nat.le_max_left _ _
    have hv : v ≤ Nat.max a v := Nat.le_max_right _ _
    refine ⟨Nat.le_trans ha h1, fun x hx => ?_, ?_⟩
    · rcases List.mem_cons.1 hx with rfl | hx
      · exact Nat.le_trans hv h1
      · exact h2 x hx
    · rcases h3 with h3 | h3
      · rw [List.foldl_cons, h3]
        rcases Nat.le_total a v with h | h
        · exact .inr (by rw [show Nat.max a v = v from Nat.max_eq_right h]; exact List.mem_cons_self)
        · exact .inl (Nat.max_eq_left h)
      · exact .inr (List.mem_cons_of_mem _ h3)
theorem minL_append {l m : List Nat} (hl : l ≠ []) (hm : m ≠ []) : minL (l ++ m) = Nat.min (minL l) (minL m) := by
  obtain ⟨v, vs, rfl⟩ := List.exists_cons_of_ne_nil hl
  obtain ⟨u, us, rfl⟩ := List.exists_cons_of_ne_nil hm
  show (vs ++ u :: us).foldl Nat.min v = Nat.min (vs.foldl Nat.min v) (us.foldl Nat.min u)
  rw [List.foldl_append, List.foldl_cons]
  generalize vs.foldl Nat.min v = a
  obtain ⟨g1, g2, g3⟩ := foldl_min_le us (Nat.min a u)
  obtain ⟨h1, h2, h3⟩ := foldl_min_le us u
  have k1 : Nat.min a u ≤ a := Nat.min_le_left _ _
  have k2 : Nat.min a u ≤ u := Nat.min_le_right _ _
  apply Nat.le_antisymm
  · apply Nat.le_min.2
    refine ⟨Nat.le_trans g1 k1, ?_⟩
    rcases h3 with h3 | h3
    · rw [h3]; exact Nat.le_trans g1 k2
    · exact g2 _ h3
  · rcases g3 with g3 | g3
    · rw [g3]
      apply Nat.le_min.2
      exact ⟨Nat.min_le_left _ _, Nat.le_trans (Nat.min_le_right _ _) h1⟩
    · exact Nat.le_trans (Nat.min_le_right _ _) (h2 _ g3)
theorem maxL_append (l m : List Nat) : maxL (l ++ m) = Nat.max (maxL l) (maxL m) := by
  unfold maxL
  rw [List.foldl_append]
  generalize l.foldl Nat.max 0 = a
  obtain ⟨g1, g2, g3⟩ := foldl_max_ge m a
  obtain ⟨h1, h2, h3⟩ := foldl_max_ge m 0
  apply Nat.le_antisymm
  · rcases g3 with g3 | g3
    · rw [g3]; exact Nat.le_max_left _ _
    · exact Nat.le_trans (h2 _ g3) (Nat.le_max_right _ _)
  · apply Nat.max_le.2
    refine ⟨g1, ?_⟩
    rcases h3 with h3 | h3
    · rw [h3]; omega
    · exact g2 _ h3
theorem sumsOf_append {l m : List Ent} (hl : l ≠ []) (hm : m ≠ []) : sumsOf (l ++ m) = (sumsOf l).join (sumsOf m) := by
  unfold sumsOf Sum4.join
  simp only [List.map_append, List.length_append, List.sum_append, maxL_append]
  rw [minL_append (by simpa using hl) (by simpa using hm)]
  congr 1
  · omega
  · omega
theorem sumsOf_one (p : List Nat) (v : Nat) (hv : v < 2 ^ 64) : sumsOf [(p, v)] = ⟨1, v, v, v⟩ := by
  have h1 : v % 2 ^ 64 = v := Nat.mod_eq_of_lt hv
  have h2 : maxL [v] = v := by unfold maxL; simp
  show Sum4.mk (1 % 2 ^ 64) ((v + 0) % 2 ^ 64) v (maxL [v]) = _
  rw [Nat.add_zero, h1, h2]
end Go.Proofs.Ytkknfnjojamgjaa
