/- The order of points, and sorted lists of entries. -/
import Derived.Test.YtkknfnjojamgjaaMath
set_option linter.unusedSimpArgs false
set_option linter.unusedVariables false
namespace Go.Proofs.Ytkknfnjojamgjaa
/-- A point of k coordinates. -/
def Zp (k : Nat) (p : List Nat) : Prop := p.length = k ∧ ∀ x ∈ p, x < 2 ^ 64
/-- p comes ahead of q. -/
def Zlt (p q : List Nat) : Prop := ∃ a, (∀ b, a < b → addrOf p b = addrOf q b) ∧ addrOf p a < addrOf q a
theorem zlt_irrefl (p : List Nat) : ¬ Zlt p p := by
  rintro ⟨a, _, h⟩
  omega
theorem zlt_trans {p q r : List Nat} (h1 : Zlt p q) (h2 : Zlt q r) : Zlt p r := by
  obtain ⟨a, ha, ha'⟩ := h1
  obtain ⟨b, hb, hb'⟩ := h2
  rcases Nat.lt_trichotomy a b with h | rfl | h
  · exact ⟨b, fun c hc => (ha c (by omega)).trans (hb c hc), by rw [ha b h]; exact hb'⟩
  · exact ⟨a, fun c hc => (ha c hc).trans (hb c hc), Nat.lt_trans ha' hb'⟩
  · exact ⟨a, fun c hc => (ha c hc).trans (hb c (by omega)), by rw [← hb a h]; exact ha'⟩
theorem zlt_asymm {p q : List Nat} (h1 : Zlt p q) (h2 : Zlt q p) : False := zlt_irrefl p (zlt_trans h1 h2)
theorem eq_of_bits {c d : Nat} (hc : c < 2 ^ 64) (hd : d < 2 ^ 64) (h : ∀ a, bit c a = bit d a) : c = d := by
  apply Nat.eq_of_testBit_eq
  intro i
  have := h i
  rw [bit_testBit, bit_testBit] at this
  cases h1 : c.testBit i <;> cases h2 : d.testBit i <;> simp [h1, h2] at this ⊢
theorem eq_of_addr {k : Nat} {p q : List Nat} (hp : Zp k p) (hq : Zp k q) (h : ∀ a, addrOf p a = addrOf q a) : p = q := by
  apply List.ext_getElem (by rw [hp.1, hq.1])
  intro i h1 h2
  apply eq_of_bits (hp.2 _ (List.getElem_mem h1)) (hq.2 _ (List.getElem_mem h2))
  intro a
  exact (addrOf_eq_iff a p q (by rw [hp.1, hq.1])).1 (h a) i h1
theorem part_neg {k : Nat} {p q : List Nat} (hp : Zp k p) (hq : Zp k q) (h : part p q < 0) : p = q := by
  obtain ⟨g1, g2, g3, g4⟩ := part_spec p q (by rw [hp.1, hq.1]) hp.2 hq.2
  exact eq_of_addr hp hq fun a => g3 a (by omega)
theorem part_self {k : Nat} {p : List Nat} (hp : Zp k p) : part p p = -1 := by
  obtain ⟨g1, g2, g3, g4⟩ := part_spec p p rfl hp.2 hp.2
  rcases Int.lt_or_le (part p p) 0 with h | h
  · omega
  · exact absurd rfl (g4 h)
/-- part is known by what it says. -/
theorem part_unique {k : Nat} {p q : List Nat} (hp : Zp k p) (hq : Zp k q) {a : Nat} (h1 : ∀ b, a < b → addrOf p b = addrOf q b) (h2 : addrOf p a ≠ addrOf q a) : part p q = a := by
  obtain ⟨g1, g2, g3, g4⟩ := part_spec p q (by rw [hp.1, hq.1]) hp.2 hq.2
  rcases Int.lt_trichotomy (part p q) a with h | h | h
  · exact absurd (g3 a h) h2
  · exact h
  · exact absurd (h1 (part p q).toNat (by omega)) (g4 (by omega))
theorem cmp_lt {k : Nat} {p q : List Nat} (hp : Zp k p) (hq : Zp k q) : cmp p q = -1 ↔ Zlt p q := by
  obtain ⟨g1, g2, g3, g4⟩ := part_spec p q (by rw [hp.1, hq.1]) hp.2 hq.2
  unfold cmp
  constructor
  · intro h
    split at h
    · omega
    · split at h
      · rename_i h1 h2
        exact ⟨(part p q).toNat, fun b hb => g3 b (by omega), h2⟩
      · omega
  · rintro ⟨a, h1, h2⟩
    have := part_unique hp hq h1 (by omega)
    rw [this, if_neg (by omega), Int.toNat_natCast, if_pos h2]
theorem cmp_eq {k : Nat} {p q : List Nat} (hp : Zp k p) (hq : Zp k q) : cmp p q = 0 ↔ p = q := by
  constructor
  · intro h
    unfold cmp at h
    split at h
    · exact part_neg hp hq (by assumption)
    · split at h <;> omega
  · rintro rfl
    unfold cmp
    rw [part_self hp, if_pos (by omega)]
theorem cmp_gt {k : Nat} {p q : List Nat} (hp : Zp k p) (hq : Zp k q) : cmp p q = 1 ↔ Zlt q p := by
  obtain ⟨g1, g2, g3, g4⟩ := part_spec p q (by rw [hp.1, hq.1]) hp.2 hq.2
  unfold cmp
  constructor
  · intro h
    split at h
    · omega
    · split at h
      · omega
      · rename_i h1 h2
        have := g4 (by omega)
        exact ⟨(part p q).toNat, fun b hb => (g3 b (by omega)).symm, by omega⟩
  · rintro ⟨a, h1, h2⟩
    have := part_unique hp hq (a := a) (fun b hb => (h1 b hb).symm) (by omega)
    rw [this, if_neg (by omega), Int.toNat_natCast, if_neg (by omega)]
theorem cmp_cases (p q : List Nat) : cmp p q = -1 ∨ cmp p q = 0 ∨ cmp p q = 1 := by
  unfold cmp
  split
  · exact .inr (.inl rfl)
  · split
    · exact .inl rfl
    · exact .inr (.inr rfl)
theorem zlt_tri {k : Nat} {p q : List Nat} (hp : Zp k p) (hq : Zp k q) : Zlt p q ∨ p = q ∨ Zlt q p := by
  rcases cmp_cases p q with h | h | h
  · exact .inl ((cmp_lt hp hq).1 h)
  · exact .inr (.inl ((cmp_eq hp hq).1 h))
  · exact .inr (.inr ((cmp_gt hp hq).1 h))
/-- Entries: points and values. -/
abbrev Ent := List Nat × Nat
def Zsorted (l : List Ent) : Prop := l.Pairwise fun e f => Zlt e.1 f.1
def Zents (k : Nat) (l : List Ent) : Prop := (∀ e ∈ l, Zp k e.1 ∧ e.2 < 2 ^ 64) ∧ Zsorted l
theorem sorted_ext : ∀ {l l' : List Ent}, Zsorted l → Zsorted l' → (∀ e, e ∈ l ↔ e ∈ l') → l = l'
  | [], [], _, _, _ => rfl
  | [], e :: l', _, _, h => by have := (h e).2 (List.mem_cons_self); cases this
  | e :: l, [], _, _, h => by have := (h e).1 (List.mem_cons_self); cases this
  | e :: l, f :: l', h1, h2, h => by
    have a1 := List.pairwise_cons.1 h1
    have a2 := List.pairwise_cons.1 h2
    have hef : e = f := by
      have m1 := (h e).1 List.mem_cons_self
      have m2 := (h f).2 List.mem_cons_self
      rcases List.mem_cons.1 m1 with m1 | m1
      · exact m1
      · rcases List.mem_cons.1 m2 with m2 | m2
        · exact m2.symm
        · exact absurd (a1.1 f m2) (fun h3 => zlt_asymm h3 (a2.1 e m1))
    subst hef
    congr 1
    apply sorted_ext a1.2 a2.2
    intro g
    constructor
    · intro hg
      rcases List.mem_cons.1 ((h g).1 (List.mem_cons_of_mem _ hg)) with h3 | h3
      · subst h3; exact absurd (a1.1 _ hg) (zlt_irrefl _)
      · exact h3
    · intro hg
      rcases List.mem_cons.1 ((h g).2 (List.mem_cons_of_mem _ hg)) with h3 | h3
      · subst h3; exact absurd (a2.1 _ hg) (zlt_irrefl _)
      · exact h3
end Go.Proofs.Ytkknfnjojamgjaa
