/- Points in z-order; sums; zbits. -/
import Derived.Test.YtlgdllohmmmegaaBaA
import Derived.Test.YtlgdllohmmmegaaProg
import Derived.Shelf.Strconv.Itoa0
import Derived.StillTailTactics
set_option linter.unusedSimpArgs false
set_option linter.unusedVariables false
namespace Go.Proofs.Ytlgdllohmmmegaa
open Go.RowKit
/-- A point of k coordinates. -/
def Zp (k : Nat) (p : List Nat) : Prop := p.length = k ∧ ∀ x ∈ p, x < 2 ^ 64
/-- p comes ahead of q. -/
def Zlt (p q : List Nat) : Prop := ∃ a, (∀ b, a < b → addrOf p b = addrOf q b) ∧ addrOf p a < addrOf q a
theorem zlt_irrefl (p : List Nat) : ¬ Zlt p p := by
  rintro ⟨a, _, h⟩
  omega
theorem zlt_trans {p q r : List Nat} (h1 : Zlt p q) (h2 : Zlt q r) : Zlt p r := by
  obtain ⟨a, ha, ha'⟩ := h1
  obtain ⟨b, hb, hb'⟩ := h2
  rcases Nat.lt_trichotomy a b with h | rfl | h
  · exact ⟨b, fun c hc => (ha c (by omega)).trans (hb c hc), by rw [ha b h]; exact hb'⟩
  · exact ⟨a, fun c hc => (ha c hc).trans (hb c hc), Nat.lt_trans ha' hb'⟩
  · exact ⟨a, fun c hc => (ha c hc).trans (hb c (by omega)), by rw [← hb a h]; exact ha'⟩
theorem zlt_asymm {p q : List Nat} (h1 : Zlt p q) (h2 : Zlt q p) : False := zlt_irrefl p (zlt_trans h1 h2)
theorem eq_of_bits {c d : Nat} (hc : c < 2 ^ 64) (hd : d < 2 ^ 64) (h : ∀ a, bit c a = bit d a) : c = d := by
  apply Nat.eq_of_testBit_eq
  intro i
  have := h i
  rw [bit_testBit, bit_testBit] at this
  cases h1 : c.testBit i <;> cases h2 : d.testBit i <;> simp [h1, h2] at this ⊢
theorem eq_of_addr {k : Nat} {p q : List Nat} (hp : Zp k p) (hq : Zp k q) (h : ∀ a, addrOf p a = addrOf q a) : p = q := by
  apply List.ext_getElem (by rw [hp.1, hq.1])
  intro i h1 h2
  apply eq_of_bits (hp.2 _ (List.getElem_mem h1)) (hq.2 _ (List.getElem_mem h2))
  intro a
  exact (addrOf_eq_iff a p q (by rw [hp.1, hq.1])).1 (h a) i h1
theorem part_neg {k : Nat} {p q : List Nat} (hp : Zp k p) (hq : Zp k q) (h : part p q < 0) : p = q := by
  obtain ⟨g1, g2, g3, g4⟩ := part_spec p q (by rw [hp.1, hq.1]) hp.2 hq.2
  exact eq_of_addr hp hq fun a => g3 a (by omega)
theorem part_self {k : Nat} {p : List Nat} (hp : Zp k p) : part p p = -1 := by
  obtain ⟨g1, g2, g3, g4⟩ := part_spec p p rfl hp.2 hp.2
  rcases Int.lt_or_le (part p p) 0 with h | h
  · omega
  · exact absurd rfl (g4 h)
/-- part is known by what it says. -/
theorem part_unique {k : Nat} {p q : List Nat} (hp : Zp k p) (hq : Zp k q) {a : Nat} (h1 : ∀ b, a < b → addrOf p b = addrOf q b) (h2 : addrOf p a ≠ addrOf q a) : part p q = a := by
  obtain ⟨g1, g2, g3, g4⟩ := part_spec p q (by rw [hp.1, hq.1]) hp.2 hq.2
  rcases Int.lt_trichotomy (part p q) a with h | h | h
  · exact absurd (g3 a h) h2
  · exact h
  · exact absurd (h1 (part p q).toNat (by omega)) (g4 (by omega))
theorem cmp_lt {k : Nat} {p q : List Nat} (hp : Zp k p) (hq : Zp k q) : cmp p q = -1 ↔ Zlt p q := by
  obtain ⟨g1, g2, g3, g4⟩ := part_spec p q (by rw [hp.1, hq.1]) hp.2 hq.2
  unfold cmp
  constructor
  · intro h
    split at h
    · omega
    · split at h
      · rename_i h1 h2
        exact ⟨(part p q).toNat, fun b hb => g3 b (by omega), h2⟩
      · omega
  · rintro ⟨a, h1, h2⟩
    have := part_unique hp hq h1 (by omega)
    rw [this, if_neg (by omega), Int.toNat_natCast, if_pos h2]
theorem cmp_eq {k : Nat} {p q : List Nat} (hp : Zp k p) (hq : Zp k q) : cmp p q = 0 ↔ p = q := by
  constructor
  · intro h
    unfold cmp at h
    split at h
    · exact part_neg hp hq (by assumption)
    · split at h <;> omega
  · rintro rfl
    unfold cmp
    rw [part_self hp, if_pos (by omega)]
theorem cmp_gt {k : Nat} {p q : List Nat} (hp : Zp k p) (hq : Zp k q) : cmp p q = 1 ↔ Zlt q p := by
  obtain ⟨g1, g2, g3, g4⟩ := part_spec p q (by rw [hp.1, hq.1]) hp.2 hq.2
  unfold cmp
  constructor
  · intro h
    split at h
    · omega
    · split at h
      · omega
      · rename_i h1 h2
        have := g4 (by omega)
        exact ⟨(part p q).toNat, fun b hb => (g3 b (by omega)).symm, by omega⟩
  · rintro ⟨a, h1, h2⟩
    have := part_unique hp hq (a := a) (fun b hb => (h1 b hb).symm) (by omega)
    rw [this, if_neg (by omega), Int.toNat_natCast, if_neg (by omega)]
theorem cmp_cases (p q : List Nat) : cmp p q = -1 ∨ cmp p q = 0 ∨ cmp p q = 1 := by
  unfold cmp
  split
  · exact .inr (.inl rfl)
  · split
    · exact .inl rfl
    · exact .inr (.inr rfl)
theorem zlt_tri {k : Nat} {p q : List Nat} (hp : Zp k p) (hq : Zp k q) : Zlt p q ∨ p = q ∨ Zlt q p := by
  rcases cmp_cases p q with h | h | h
  · exact .inl ((cmp_lt hp hq).1 h)
  · exact .inr (.inl ((cmp_eq hp hq).1 h))
  · exact .inr (.inr ((cmp_gt hp hq).1 h))
/-- Entries: points and values. -/
abbrev Ent := List Nat × Nat
def Zsorted (l : List Ent) : Prop := l.Pairwise fun e f => Zlt e.1 f.1
def Zents (k : Nat) (l : List Ent) : Prop := (∀ e ∈ l, Zp k e.1 ∧ e.2 < 2 ^ 64) ∧ Zsorted l
theorem sorted_ext : ∀ {l l' : List Ent}, Zsorted l → Zsorted l' → (∀ e, e ∈ l ↔ e ∈ l') → l = l'
  | [], [], _, _, _ => rfl
  | [], e :: l', _, _, h => by have := (h e).2 (List.mem_cons_self); cases this
  | e :: l, [], _, _, h => by have := (h e).1 (List.mem_cons_self); cases this
  | e :: l, f :: l', h1, h2, h => by
    have a1 := List.pairwise_cons.1 h1
    have a2 := List.pairwise_cons.1 h2
    have hef : e = f := by
      have m1 := (h e).1 List.mem_cons_self
      have m2 := (h f).2 List.mem_cons_self
      rcases List.mem_cons.1 m1 with m1 | m1
      · exact m1
      · rcases List.mem_cons.1 m2 with m2 | m2
        · exact m2.symm
        · exact absurd (a1.1 f m2) (fun h3 => zlt_asymm h3 (a2.1 e m1))
    subst hef
    congr 1
    apply sorted_ext a1.2 a2.2
    intro g
    constructor
    · intro hg
      rcases List.mem_cons.1 ((h g).1 (List.mem_cons_of_mem _ hg)) with h3 | h3
      · subst h3; exact absurd (a1.1 _ hg) (zlt_irrefl _)
      · exact h3
    · intro hg
      rcases List.mem_cons.1 ((h g).2 (List.mem_cons_of_mem _ hg)) with h3 | h3
      · subst h3; exact absurd (a2.1 _ hg) (zlt_irrefl _)
      · exact h3
def minL : List Nat → Nat
  | [] => 0
  | v :: vs => vs.foldl Nat.min v
def maxL (l : List Nat) : Nat := l.foldl Nat.max 0
structure Sum4 where
  c : Nat
  s : Nat
  mn : Nat
  mx : Nat
def sumsOf (es : List Ent) : Sum4 := ⟨es.length % 2 ^ 64, (es.map (·.2)).sum % 2 ^ 64, minL (es.map (·.2)), maxL (es.map (·.2))⟩
def Sum4.join (a b : Sum4) : Sum4 := ⟨(a.c + b.c) % 2 ^ 64, (a.s + b.s) % 2 ^ 64, Nat.min a.mn b.mn, Nat.max a.mx b.mx⟩
theorem foldl_min_le (l : List Nat) (a : Nat) : l.foldl Nat.min a ≤ a ∧ (∀ x ∈ l, l.foldl Nat.min a ≤ x) ∧ (l.foldl Nat.min a = a ∨ l.foldl Nat.min a ∈ l) := by
  induction l generalizing a with
  | nil => exact ⟨Nat.le_refl _, fun x h => (by cases h), .inl rfl⟩
  | cons v vs ih =>
    obtain ⟨h1, h2, h3⟩ := ih (Nat.min a v)
    have ha : Nat.min a v ≤ a := Nat.min_le_left _ _
    have hv : Nat.min a v ≤ v := Nat.min_le_right _ _
    refine ⟨Nat.le_trans h1 ha, fun x hx => ?_, ?_⟩
    · rcases List.mem_cons.1 hx with rfl | hx
      · exact Nat.le_trans h1 hv
      · exact h2 x hx
    · rcases h3 with h3 | h3
      · rw [List.foldl_cons, h3]
        rcases Nat.le_total a v with h | h
        · exact .inl (Nat.min_eq_left h)
        · exact .inr (by rw [show Nat.min a v = v from Nat.min_eq_right h]; exact List.mem_cons_self)
      · exact .inr (List.mem_cons_of_mem _ h3)
theorem foldl_max_ge (l : List Nat) (a : Nat) : a ≤ l.foldl Nat.max a ∧ (∀ x ∈ l, x ≤ l.foldl Nat.max a) ∧ (l.foldl Nat.max a = a ∨ l.foldl Nat.max a ∈ l) := by
  induction l generalizing a with
  | nil => exact ⟨Nat.le_refl _, fun x h => (by cases h), .inl rfl⟩
  | cons v vs ih =>
    obtain ⟨h1, h2, h3⟩ := ih (Nat.max a v)
    have ha : a ≤ Nat.max a v := Nat.le_max_left _ _
    have hv : v ≤ Nat.max a v := Nat.le_max_right _ _
    refine ⟨Nat.le_trans ha h1, fun x hx => ?_, ?_⟩
    · rcases List.mem_cons.1 hx with rfl | hx
      · exact Nat.le_trans hv h1
      · exact h2 x hx
    · rcases h3 with h3 | h3
      · rw [List.foldl_cons, h3]
        rcases Nat.le_total a v with h | h
        · exact .inr (by rw [show Nat.max a v = v from Nat.max_eq_right h]; exact List.mem_cons_self)
        · exact .inl (Nat.max_eq_left h)
      · exact .inr (List.mem_cons_of_mem _ h3)
theorem minL_append {l m : List Nat} (hl : l ≠ []) (hm : m ≠ []) : minL (l ++ m) = Nat.min (minL l) (minL m) := by
  obtain ⟨v, vs, rfl⟩ := List.exists_cons_of_ne_nil hl
  obtain ⟨u, us, rfl⟩ := List.exists_cons_of_ne_nil hm
  show (vs ++ u :: us).foldl Nat.min v = Nat.min (vs.foldl Nat.min v) (us.foldl Nat.min u)
  rw [List.foldl_append, List.foldl_cons]
  generalize vs.foldl Nat.min v = a
  obtain ⟨g1, g2, g3⟩ := foldl_min_le us (Nat.min a u)
  obtain ⟨h1, h2, h3⟩ := foldl_min_le us u
  have k1 : Nat.min a u ≤ a := Nat.min_le_left _ _
  have k2 : Nat.min a u ≤ u := Nat.min_le_right _ _
  apply Nat.le_antisymm
  · apply Nat.le_min.2
    refine ⟨Nat.le_trans g1 k1, ?_⟩
    rcases h3 with h3 | h3
    · rw [h3]; exact Nat.le_trans g1 k2
    · exact g2 _ h3
  · rcases g3 with g3 | g3
    · rw [g3]
      apply Nat.le_min.2
      exact ⟨Nat.min_le_left _ _, Nat.le_trans (Nat.min_le_right _ _) h1⟩
    · exact Nat.le_trans (Nat.min_le_right _ _) (h2 _ g3)
theorem maxL_append (l m : List Nat) : maxL (l ++ m) = Nat.max (maxL l) (maxL m) := by
  unfold maxL
  rw [List.foldl_append]
  generalize l.foldl Nat.max 0 = a
  obtain ⟨g1, g2, g3⟩ := foldl_max_ge m a
  obtain ⟨h1, h2, h3⟩ := foldl_max_ge m 0
  apply Nat.le_antisymm
  · rcases g3 with g3 | g3
    · rw [g3]; exact Nat.le_max_left _ _
    · exact Nat.le_trans (h2 _ g3) (Nat.le_max_right _ _)
  · apply Nat.max_le.2
    refine ⟨g1, ?_⟩
    rcases h3 with h3 | h3
    · rw [h3]; omega
    · exact g2 _ h3
theorem sumsOf_append {l m : List Ent} (hl : l ≠ []) (hm : m ≠ []) : sumsOf (l ++ m) = (sumsOf l).join (sumsOf m) := by
  unfold sumsOf Sum4.join
  simp only [List.map_append, List.length_append, List.sum_append, maxL_append]
  rw [minL_append (by simpa using hl) (by simpa using hm)]
  congr 1
  · omega
  · omega
theorem sumsOf_one (p : List Nat) (v : Nat) (hv : v < 2 ^ 64) : sumsOf [(p, v)] = ⟨1, v, v, v⟩ := by
  have h1 : v % 2 ^ 64 = v := Nat.mod_eq_of_lt hv
  have h2 : maxL [v] = v := by unfold maxL; simp
  show Sum4.mk (1 % 2 ^ 64) ((v + 0) % 2 ^ 64) v (maxL [v]) = _
  rw [Nat.add_zero, h1, h2]
def rightB (n : Nat) : Bool := decide (1 ≤ n ∧ n ≤ 16)
def levelB (n : Int) : Bool := decide (0 ≤ n ∧ n < 64)
theorem i64_or_even (y b : Nat) (hy : y < 65536) (hb : b < 2) : bits .or .i64 ((y : Int) * 2) (b : Int) = ((2 * y + b : Nat) : Int) := by
  rw [← even_or y b hb, show ((y : Int) * 2) = ((2 * y : Nat) : Int) by omega]
  have hx : 2 * y ||| b < 2 ^ 63 := Nat.or_lt_two_pow (by omega) (by omega)
  show IntKind.i64.wrap ((BitVec.ofInt 64 ((2 * y : Nat) : Int) ||| BitVec.ofInt 64 (b : Int)).toNat : Int) = _
  have h1 : ∀ a : Nat, a < 9223372036854775808 → (BitVec.ofInt 64 (a : Int)).toNat = a := fun a ha => by
    rw [BitVec.ofInt_natCast, BitVec.toNat_ofNat]; exact Nat.mod_eq_of_lt (by omega)
  rw [BitVec.toNat_or, h1 _ (by omega), h1 _ (by omega), IntKind.wrap_i64]
  omega
theorem shr_nat (z at_ : Nat) : (z : Int) / 2 ^ at_ = ((z / 2 ^ at_ : Nat) : Int) := by push_cast; rfl
theorem and_bit (z at_ : Nat) (hz : z < 18446744073709551616) : wrap64 (bits .and .u64 ((z : Int) / 2 ^ at_) 1) = (bit z at_ : Nat) := by
  have h1 : z / 2 ^ at_ ≤ z := Nat.div_le_self _ _
  have h2 := bit_lt z at_
  rw [shr_nat, show (1 : Int) = ((1 : Nat) : Int) by rfl, u64_and_nat _ _ (by omega) (by omega), Nat.and_one_is_mod]
  change bit z at_ < 2 at h2
  unfold bit at *
  unfold wrap64
  omega
theorem info_u64 : (Try.prog.info? 43).map (fun i => (i.zero, i.size, i.bytes)) = some (some (.int .u64 0), 1, 8) := by kernel_rfl
theorem u64s_one (p : List Nat) : ∀ u ∈ u64s p, u.oneCell' = true := by
  intro u hu
  simp only [u64s, List.mem_map] at hu
  obtain ⟨x, _, rfl⟩ := hu
  rfl
theorem u64s_len (p : List Nat) : (u64s p).length = p.length := by simp [u64s]
theorem Pt.of_own {w : World} {base n : Nat} {v : Value} {p : List Nat} (h : w.ownsRow base 43 1 v n (u64s p)) (hl : p.length = n) (hb : ∀ x ∈ p, x < 2 ^ 64) : ∃ A c, v = .slice A n c ∧ Pt w A n p := by
  obtain ⟨A, c, rfl, _, h⟩ := Rw.of_own h
  exact ⟨A, c, rfl, hl, h, hb⟩
theorem own_empty (w : World) (e : TypeId) (sz : Nat) : (w.alloc (.cells #[] e)).ownsRow w.heap.size e sz (.slice (some ⟨w.heap.size, 0, none⟩) 0 0) 0 [] :=
  ⟨by simp, .inr ⟨w.heap.size, 0, #[], rfl, Nat.le_refl _, heap_alloc_new w _, Nat.le_refl _, by simp, by simp, by simp⟩⟩
def aboveN (m : Nat) : Nat := 18446744073709551615 * 2 ^ m % 18446744073709551616
def cutc (m c : Nat) : Nat := c / 2 ^ m * 2 ^ m
theorem and_above (m c : Nat) (hc : c < 2 ^ 64) : c &&& aboveN m = cutc m c := by
  apply Nat.eq_of_testBit_eq
  intro i
  unfold aboveN cutc
  rw [Nat.testBit_and, show (18446744073709551616 : Nat) = 2 ^ 64 by rfl, show (18446744073709551615 : Nat) = 2 ^ 64 - 1 by rfl, Nat.testBit_mod_two_pow, Nat.mul_comm (2 ^ 64 - 1), Nat.testBit_two_pow_mul, Nat.testBit_two_pow_sub_one, Nat.mul_comm, Nat.testBit_two_pow_mul, Nat.testBit_div_two_pow]
  by_cases h1 : m ≤ i
  · rw [show i - m + m = i by omega]
    by_cases h2 : i < 64
    · have : i - m < 64 := by omega
      simp [h1, h2, this]
    · have : c.testBit i = false := Nat.testBit_lt_two_pow (Nat.lt_of_lt_of_le hc (pow_len_le (by omega)))
      simp [this]
  · simp [h1]
theorem cutc_lt (m c : Nat) (hc : c < 2 ^ 64) : cutc m c < 2 ^ 64 := Nat.lt_of_le_of_lt (Nat.div_mul_le_self _ _) hc
def cut (m : Nat) (p : List Nat) : List Nat := p.map (cutc m)
theorem u64s_set (p : List Nat) (m k z : Nat) (hz : p[k]? = some z) : (u64s (cut m (p.take k) ++ p.drop k)).set k (.int .u64 (cutc m z : Nat)) = u64s (cut m (p.take (k + 1)) ++ p.drop (k + 1)) := by
  obtain ⟨hk, rfl⟩ := List.getElem?_eq_some_iff.1 hz
  rw [List.take_succ_eq_append_getElem hk, List.drop_eq_getElem_cons hk]
  unfold u64s cut
  simp only [List.map_append, List.map_cons, List.map_nil, List.append_assoc, List.singleton_append]
  rw [List.set_append_right _ _ (by simp; omega)]
  simp [Nat.min_eq_left (Nat.le_of_lt hk)]
theorem u64s_at (p : List Nat) (m k z : Nat) (hz : p[k]? = some z) : (u64s (cut m (p.take k) ++ p.drop k))[k]? = some (.int .u64 (z : Int)) := by
  obtain ⟨hk, rfl⟩ := List.getElem?_eq_some_iff.1 hz
  unfold u64s cut
  rw [List.getElem?_map, List.getElem?_append_right (by simp; omega)]
  simp [Nat.min_eq_left (Nat.le_of_lt hk), hk]
end Go.Proofs.Ytlgdllohmmmegaa
