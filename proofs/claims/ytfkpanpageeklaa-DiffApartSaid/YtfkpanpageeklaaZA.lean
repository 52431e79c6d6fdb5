/- Points in z-order; sums; zbits. -/
import Derived.Test.YtfkpanpageeklaaBaA
import Derived.Test.YtfkpanpageeklaaProg
import Derived.Shelf.Strconv.Itoa0
import Derived.StillTailTactics
set_option linter.unusedSimpArgs false
set_option linter.unusedVariables false
namespace Go.Proofs.Ytfkpanpageeklaa
open Go.RowKit
/-- A point of k coordinates. -/
def Zp (k : Nat) (p : List Nat) : Prop := p.length = k ∧ ∀ x ∈ p, x < 2 ^ 64
/-- p comes ahead of q. -/
def Zlt (p q : List Nat) : Prop := ∃ a, (∀ b, a < b → addrOf p b = addrOf q b) ∧ addrOf p a < addrOf q a
theorem zlt_irrefl (p : List Nat) : ¬ Zlt p p := by
  rintro ⟨a, _, h⟩
  omega
theorem zlt_trans {p q r : List Nat} (h1 : Zlt p q) (h2 : Zlt q r) : Zlt p r := by
  obtain ⟨a, ha, ha'⟩ := h1
  obtain ⟨b, hb, hb'⟩ := h2
  rcases Nat.lt_trichotomy a b with h | rfl | h
  · exact ⟨b, fun c hc => (ha c (by omega)).trans (hb c hc), by rw [ha b h]; exact hb'⟩
  · exact ⟨a, fun c hc => (ha c hc).trans (hb c hc), Nat.lt_trans ha' hb'⟩
  · exact ⟨a, fun c hc => (ha c hc).trans (hb c (by omega)), by rw [← hb a h]; exact ha'⟩
theorem zlt_asymm {p q : List Nat} (h1 : Zlt p q) (h2 : Zlt q p) : False := zlt_irrefl p (zlt_trans h1 h2)
theorem eq_of_bits {c d : Nat} (hc : c < 2 ^ 64) (hd : d < 2 ^ 64) (h : ∀ a, bit c a = bit d a) : c = d := by
  apply Nat.eq_of_testBit_eq
  intro i
  have := h i
  rw [bit_testBit, bit_testBit] at this
  cases h1 : c.testBit i <;> cases h2 : d.testBit i <;> simp [h1, h2] at this ⊢
theorem eq_of_addr {k : Nat} {p q : List Nat} (hp : Zp k p) (hq : Zp k q) (h : ∀ a, addrOf p a = addrOf q a) : p = q := by
  apply List.ext_getElem (by rw [hp.1, hq.1])
  intro i h1 h2
  apply eq_of_bits (hp.2 _ (List.getElem_mem h1)) (hq.2 _ (List.getElem_mem h2))
  intro a
  exact (addrOf_eq_iff a p q (by rw [hp.1, hq.1])).1 (h a) i h1
theorem part_neg {k : Nat} {p q : List Nat} (hp : Zp k p) (hq : Zp k q) (h : part p q < 0) : p = q := by
  obtain ⟨g1, g2, g3, g4⟩ := part_spec p q (by rw [hp.1, hq.1]) hp.2 hq.2
  exact eq_of_addr hp hq fun a => g3 a (by omega)
theorem part_self {k : Nat} {p : List Nat} (hp : Zp k p) : part p p = -1 := by
  obtain ⟨g1, g2, g3, g4⟩ := part_spec p p rfl hp.2 hp.2
  rcases Int.lt_or_le (part p p) 0 with h | h
  · omega
  · exact absurd rfl (g4 h)
/-- part is known by what it says. -/
theorem part_unique {k : Nat} {p q : List Nat} (hp : Zp k p) (hq : Zp k q) {a : Nat} (h1 : ∀ b, a < b → addrOf p b = addrOf q b) (h2 : addrOf p a ≠ addrOf q a) : part p q = a := by
  obtain ⟨g1, g2, g3, g4⟩ := part_spec p q (by rw [hp.1, hq.1]) hp.2 hq.2
  rcases Int.lt_trichotomy (part p q) a with h | h | h
  · exact absurd (g3 a h) h2
  · exact h
  · exact absurd (h1 (part p q).toNat (by omega)) (g4 (by omega))
theorem cmp_lt {k : Nat} {p q : List Nat} (hp : Zp k p) (hq : Zp k q) : cmp p q = -1 ↔ Zlt p q := by
  obtain ⟨g1, g2, g3, g4⟩ := part_spec p q (by rw [hp.1, hq.1]) hp.2 hq.2
  unfold cmp
  constructor
  · intro h
    split at h
    · omega
    · split at h
      · rename_i h1 h2
        exact ⟨(part p q).toNat, fun b hb => g3 b (by omega), h2⟩
      · omega
  · rintro ⟨a, h1, h2⟩
    have := part_unique hp hq h1 (by omega)
    rw [this, if_neg (by omega), Int.toNat_natCast, if_pos h2]
theorem cmp_eq {k : Nat} {p q : List Nat} (hp : Zp k p) (hq : Zp k q) : cmp p q = 0 ↔ p = q := by
  constructor
  · intro h
    unfold cmp at h
    split at h
    · exact part_neg hp hq (by assumption)
    · split at h <;> omega
  · rintro rfl
    unfold cmp
    rw [part_self hp, if_pos (by omega)]
theorem cmp_gt {k : Nat} {p q : List Nat} (hp : Zp k p) (hq : Zp k q) : cmp p q = 1 ↔ Zlt q p := by
  obtain ⟨g1, g2, g3, g4⟩ := part_spec p q (by rw [hp.1, hq.1]) hp.2 hq.2
  unfold cmp
  constructor
  · intro h
    split at h
    · omega
    · split at h
      · omega
      · rename_i h1 h2
        have := g4 (by omega)
        exact ⟨(part p q).toNat, fun b hb => (g3 b (by omega)).symm, by omega⟩
  · rintro ⟨a, h1, h2⟩
    have := part_unique hp hq (a := a) (fun b hb => (h1 b hb).symm) (by omega)
    rw [this, if_neg (by omega), Int.toNat_natCast, if_neg (by omega)]
theorem cmp_cases (p q : List Nat) : cmp p q = -1 ∨ cmp p q = 0 ∨ cmp p q = 1 := by
  unfold cmp
  split
  · exact .inr (.inl rfl)
  · split
    · exact .inl rfl
    · exact .inr (.inr rfl)
theorem zlt_tri {k : Nat} {p q : List Nat} (hp : Zp k p) (hq : Zp k q) : Zlt p q ∨ p = q ∨ Zlt q p := by
  rcases cmp_cases p q with h | h | h
  · exact .inl ((cmp_lt hp hq).1 h)
  · exact .inr (.inl ((cmp_eq hp hq).1 h))
  · exact .inr (.inr ((cmp_gt hp hq).1 h))
/-- Entries: points and values. -/
abbrev Ent := List Nat × Nat
def Zsorted (l : List Ent) : Prop := l.Pairwise fun e f => Zlt e.1 f.1
def Zents (k : Nat) (l : List Ent) : Prop := (∀ e ∈ l, Zp k e.1 ∧ e.2 < 2 ^ 64) ∧ Zsorted l
theorem sorted_ext : ∀ {l l' : List Ent}, Zsorted l → Zsorted l' → (∀ e, e ∈ l ↔ e ∈ l') → l = l'
  | [], [], _, _, _ => rfl
  | [], e :: l', _, _, h => by have := (h e).2 (List.mem_cons_self); cases this
  | e :: l, [], _, _, h => by have := (h e).1 (List.mem_cons_self); cases this
  | e :: l, f :: l', h1, h2, h => by
    have a1 := List.pairwise_cons.1 h1
    have a2 := List.pairwise_cons.1 h2
    have hef : e = f := by
      have m1 := (h e).1 List.mem_cons_self
      have m2 := (h f).2 List.mem_cons_self
      rcases List.mem_cons.1 m1 with m1 | m1
      · exact m1
      · rcases List.mem_cons.1 m2 with m2 | m2
        · exact m2.symm
        · exact absurd (a1.1 f m2) (fun h3 => zlt_asymm h3 (a2.1 e m1))
    subst hef
    congr 1
    apply sorted_ext a1.2 a2.2
    intro g
    constructor
    · intro hg
      rcases List.mem_cons.1 ((h g).1 (List.mem_cons_of_mem _ hg)) with h3 | h3
      · subst h3; exact absurd (a1.1 _ hg) (zlt_irrefl _)
      · exact h3
    · intro hg
      rcases List.mem_cons.1 ((h g).2 (List.mem_cons_of_mem _ hg)) with h3 | h3
      · subst h3; exact absurd (a2.1 _ hg) (zlt_irrefl _)
      · exact h3
def minL : List Nat → Nat
  | [] => 0
  | v :: vs => vs.foldl Nat.min v
def maxL (l : List Nat) : Nat := l.foldl Nat.max 0
structure Sum4 where
  c : Nat
  s : Nat
  mn : Nat
  mx : Nat
def sumsOf (es : List Ent) : Sum4 := ⟨es.length % 2 ^ 64, (es.map (·.2)).sum % 2 ^ 64, minL (es.map (·.2)), maxL (es.map (·.2))⟩
def Sum4.join (a b : Sum4) : Sum4 := ⟨(a.c + b.c) % 2 ^ 64, (a.s + b.s) % 2 ^ 64, Nat.min a.mn b.mn, Nat.max a.mx b.mx⟩
theorem foldl_min_le (l : List Nat) (a : Nat) : l.foldl Nat.min a ≤ a ∧ (∀ x ∈ l, l.foldl Nat.min a ≤ x) ∧ (l.foldl Nat.min a = a ∨ l.foldl Nat.min a ∈ l) := by
  induction l generalizing a with
  | nil => exact ⟨Nat.le_refl _, fun x h => (by cases h), .inl rfl⟩
  | cons v vs ih =>
    obtain ⟨h1, h2, h3⟩ := ih (Nat.min a v)
    have ha : Nat.min a v ≤ a := Nat.min_le_left _ _
    have hv : Nat.min a v ≤ v := Nat.min_le_right _ _
    refine ⟨Nat.le_trans h1 ha, fun x hx => ?_, ?_⟩
    · rcases List.mem_cons.1 hx with rfl | hx
      · exact Nat.le_trans h1 hv
      · exact h2 x hx
    · rcases h3 with h3 | h3
      · rw [List.foldl_cons, h3]
        rcases Nat.le_total a v with h | h
        · exact .inl (Nat.min_eq_left h)
        · exact .inr (by rw [show Nat.min a v = v from Nat.min_eq_right h]; exact List.mem_cons_self)
      · exact .inr (List.mem_cons_of_mem _ h3)
theorem foldl_max_ge (l : List Nat) (a : Nat) : a ≤ l.foldl Nat.max a ∧ (∀ x ∈ l, x ≤ l.foldl Nat.max a) ∧ (l.foldl Nat.max a = a ∨ l.foldl Nat.max a ∈ l) := by
  induction l generalizing a with
  | nil => exact ⟨Nat.le_refl _, fun x h => (by cases h), .inl rfl⟩
  | cons v vs ih =>
    obtain ⟨h1, h2, h3⟩ := ih (Nat.max a v)
    have ha : a ≤ Nat.max a v := Nat.le_max_left _ _
    have hv : v ≤ Nat.max a v := Nat.le_max_right _ _
    refine ⟨Nat.le_trans ha h1, fun x hx => ?_, ?_⟩
    · rcases List.mem_cons.1 hx with rfl | hx
      · exact Nat.le_trans hv h1
      · exact h2 x hx
    · rcases h3 with h3 | h3
      · rw [List.foldl_cons, h3]
        rcases Nat.le_total a v with h | h
        · exact .inr (by rw [show Nat.max a v = v from Nat.max_eq_right h]; exact List.mem_cons_self)
        · exact .inl (Nat.max_eq_left h)
      · exact .inr (List.mem_cons_of_mem _ h3)
theorem minL_append {l m : List Nat} (hl : l ≠ []) (hm : m ≠ []) : minL (l ++ m) = Nat.min (minL l) (minL m) := by
  obtain ⟨v, vs, rfl⟩ := List.exists_cons_of_ne_nil hl
  obtain ⟨u, us, rfl⟩ := List.exists_cons_of_ne_nil hm
  show (vs ++ u :: us).foldl Nat.min v = Nat.min (vs.foldl Nat.min v) (us.foldl Nat.min u)
  rw [List.foldl_append, List.foldl_cons]
  generalize vs.foldl Nat.min v = a
  obtain ⟨g1, g2, g3⟩ := foldl_min_le us (Nat.min a u)
  obtain ⟨h1, h2, h3⟩ := foldl_min_le us u
  have k1 : Nat.min a u ≤ a := Nat.min_le_left _ _
  have k2 : Nat.min a u ≤ u := Nat.min_le_right _ _
  apply Nat.le_antisymm
  · apply Nat.le_min.2
    refine ⟨Nat.le_trans g1 k1, ?_⟩
    rcases h3 with h3 | h3
    · rw [h3]; exact Nat.le_trans g1 k2
    · exact g2 _ h3
  · rcases g3 with g3 | g3
    · rw [g3]
      apply Nat.le_min.2
      exact ⟨Nat.min_le_left _ _, Nat.le_trans (Nat.min_le_right _ _) h1⟩
    · exact Nat.le_trans (Nat.min_le_right _ _) (h2 _ g3)
theorem maxL_append (l m : List Nat) : maxL (l ++ m) = Nat.max (maxL l) (maxL m) := by
  unfold maxL
  rw [List.foldl_append]
  generalize l.foldl Nat.max 0 = a
  obtain ⟨g1, g2, g3⟩ := foldl_max_ge m a
  obtain ⟨h1, h2, h3⟩ := foldl_max_ge m 0
  apply Nat.le_antisymm
  · rcases g3 with g3 | g3
    · rw [g3]; exact Nat.le_max_left _ _
    · exact Nat.le_trans (h2 _ g3) (Nat.le_max_right _ _)
  · apply Nat.max_le.2
    refine ⟨g1, ?_⟩
    rcases h3 with h3 | h3
    · rw [h3]; omega
    · exact g2 _ h3
theorem sumsOf_append {l m : List Ent} (hl : l ≠ []) (hm : m ≠ []) : sumsOf (l ++ m) = (sumsOf l).join (sumsOf m) := by
  unfold sumsOf Sum4.join
  simp only [List.map_append, List.length_append, List.sum_append, maxL_append]
  rw [minL_append (by simpa using hl) (by simpa using hm)]
  congr 1
  · omega
  · omega
theorem sumsOf_one (p : List Nat) (v : Nat) (hv : v < 2 ^ 64) : sumsOf [(p, v)] = ⟨1, v, v, v⟩ := by
  have h1 : v % 2 ^ 64 = v := Nat.mod_eq_of_lt hv
  have h2 : maxL [v] = v := by unfold maxL; simp
  show Sum4.mk (1 % 2 ^ 64) ((v + 0) % 2 ^ 64) v (maxL [v]) = _
  rw [Nat.add_zero, h1, h2]
def rightB (n : Nat) : Bool := decide (1 ≤ n ∧ n ≤ 16)
def levelB (n : Int) : Bool := decide (0 ≤ n ∧ n < 64)
theorem i64_or_even (y b : Nat) (hy : y < 65536) (hb : b < 2) : bits .or .i64 ((y : Int) * 2) (b : Int) = ((2 * y + b : Nat) : Int) := by
  rw [← even_or y b hb, show ((y : Int) * 2) = ((2 * y : Nat) : Int) by omega]
  have hx : 2 * y ||| b < 2 ^ 63 := Nat.or_lt_two_pow (by omega) (by omega)
  show IntKind.i64.wrap ((BitVec.ofInt 64 ((2 * y : Nat) : Int) ||| BitVec.ofInt 64 (b : Int)).toNat : Int) = _
  have h1 : ∀ a : Nat, a < 9223372036854775808 → (BitVec.ofInt 64 (a : Int)).toNat = a := fun a ha => by
    rw [BitVec.ofInt_natCast, BitVec.toNat_ofNat]; exact Nat.mod_eq_of_lt (by omega)
  rw [BitVec.toNat_or, h1 _ (by omega), h1 _ (by omega), IntKind.wrap_i64]
  omega
theorem shr_nat (z at_ : Nat) : (z : Int) / 2 ^ at_ = ((z / 2 ^ at_ : Nat) : Int) := by push_cast; rfl
theorem and_bit (z at_ : Nat) (hz : z < 18446744073709551616) : wrap64 (bits .and .u64 ((z : Int) / 2 ^ at_) 1) = (bit z at_ : Nat) := by
  have h1 : z / 2 ^ at_ ≤ z := Nat.div_le_self _ _
  have h2 := bit_lt z at_
  rw [shr_nat, show (1 : Int) = ((1 : Nat) : Int) by rfl, u64_and_nat _ _ (by omega) (by omega), Nat.and_one_is_mod]
  change bit z at_ < 2 at h2
  unfold bit at *
  unfold wrap64
  omega
set_option maxHeartbeats 400000 in
theorem zb_right (A : Option Addr) (n c : Nat) (w : World) :
    Calls Try.prog 74 #[.slice A n c] w fun e w' => e = .returned (.bool (rightB n)) ∧ w = w' := by
  by_cases h1 : 1 ≤ n
  · by_cases h2 : n ≤ 16
    · go_enter Try.func74, Try.ntmps74
      go_wp2
      go_ret
      exact ⟨retB (boolI (by simp [rightB]; omega)), rfl⟩
    · go_enter Try.func74, Try.ntmps74
      go_wp2
      go_ret
      exact ⟨retB (boolI (by simp [rightB]; omega)), rfl⟩
  · go_enter Try.func74, Try.ntmps74
    go_wp2
    go_ret
    exact ⟨retB (boolI (by simp [rightB]; omega)), rfl⟩
set_option maxHeartbeats 400000 in
theorem zb_level (n : Int) (w : World) :
    Calls Try.prog 87 #[.int .i64 n] w fun e w' => e = .returned (.bool (levelB n)) ∧ w = w' := by
  by_cases h1 : 0 ≤ n
  · go_enter Try.func87, Try.ntmps87
    go_wp2
    go_ret
    exact ⟨retB (boolI (by simp [levelB]; omega)), rfl⟩
  · go_enter Try.func87, Try.ntmps87
    go_wp2
    go_ret
    exact ⟨retB (boolI (by simp [levelB]; omega)), rfl⟩
set_option maxHeartbeats 400000 in
theorem zb_addr (A : Option Addr) (n : Nat) (p : List Nat) (c : Nat) (at_ : Nat) (w : World) (hp : Pt w A n p) (h1 : 1 ≤ n) (h2 : n ≤ 16) (hat : at_ < 64) :
    Calls Try.prog 64 #[.slice A n c, .int .i64 at_] w fun e w' => e = .returned (.tuple #[.int .i64 (addrOf p at_ : Nat), .int .i64 0]) ∧ w = w' := by
  have e1 : rightB n = true := by simp [rightB, h1, h2]
  have e2 : levelB at_ = true := by simp [levelB]; omega
  go_enter Try.func64, Try.ntmps64
  go_wp2_with (first | (go_at_call 74; refine (zb_right _ _ _ _).mono ?_; rintro e w' ⟨rfl, rfl⟩) | (go_at_call 87; refine (zb_level _ _).mono ?_; rintro e w' ⟨rfl, rfl⟩))
  go_loop [6, 19] (fun x i => ∃ (k : Nat), k ≤ n ∧ i = .int .i64 k ∧ x = .int .i64 (addrOf (p.take k) at_ : Nat)) (fun _ i => n - (intOf i).toNat)
  case atStart => exact ⟨0, by omega, rfl, rfl⟩
  case round =>
    obtain ⟨k, hk, rfl, rfl⟩ := hrel
    have hy1 := addrOf_le (p.take k) at_ (by have := hp.len; simp; omega)
    by_cases hlt : k < n
    · obtain ⟨b, o, z, rfl, hb, hz, hzl, hc⟩ := hp.at_ hlt
      have hS := hide (addrOf_take? p at_ k z hz)
      clear hz
      generalize addrOf (p.take k) at_ = y at *
      go_wp2
      go_round
      case rel =>
        refine ⟨k + 1, by omega, by go_num, ?_⟩
        rw [hS.out, and_bit z at_ hzl, i64_or_even y _ (by omega) (bit_lt _ _)]
      case measure => simp [intOf]; omega
    · go_wp2
      go_ret2
      rw [List.take_of_length_le (by have := hp.len; omega)]
      exact ⟨rfl, rfl⟩
theorem info_u64 : (Try.prog.info? 50).map (fun i => (i.zero, i.size, i.bytes)) = some (some (.int .u64 0), 1, 8) := by kernel_rfl
theorem u64s_one (p : List Nat) : ∀ u ∈ u64s p, u.oneCell' = true := by
  intro u hu
  simp only [u64s, List.mem_map] at hu
  obtain ⟨x, _, rfl⟩ := hu
  rfl
theorem u64s_len (p : List Nat) : (u64s p).length = p.length := by simp [u64s]
theorem Pt.of_own {w : World} {base n : Nat} {v : Value} {p : List Nat} (h : w.ownsRow base 50 1 v n (u64s p)) (hl : p.length = n) (hb : ∀ x ∈ p, x < 2 ^ 64) : ∃ A c, v = .slice A n c ∧ Pt w A n p := by
  obtain ⟨A, c, rfl, _, h⟩ := Rw.of_own h
  exact ⟨A, c, rfl, hl, h, hb⟩
theorem own_empty (w : World) (e : TypeId) (sz : Nat) : (w.alloc (.cells #[] e)).ownsRow w.heap.size e sz (.slice (some ⟨w.heap.size, 0, none⟩) 0 0) 0 [] :=
  ⟨by simp, .inr ⟨w.heap.size, 0, #[], rfl, Nat.le_refl _, heap_alloc_new w _, Nat.le_refl _, by simp, by simp, by simp⟩⟩
set_option maxHeartbeats 400000 in
set_option maxRecDepth 100000 in
theorem clone_u64 (A : Option Addr) (n c : Nat) (p : List Nat) (w : World) (hp : Pt w A n p) (hn : n ≤ 1000000) :
    Calls Try.prog 75 #[.slice A n c] w fun e w' => ∃ v, e = .returned v ∧ w'.ownsRow w.heap.size 50 1 v n (u64s p) ∧ Below w.heap.size w w' := by
  rcases A with _ | ad
  · have hn0 : n = 0 := by
      rcases Nat.eq_zero_or_pos n with h | h
      · exact h
      · obtain ⟨b, o, h', _⟩ := hp.2.1.2 h
        cases h'
    subst hn0
    have hp0 : p = [] := List.eq_nil_of_length_eq_zero hp.1
    subst hp0
    have h0 := Lib.run_eql_slice_nil (P := Try.prog) w 51 50 none 0 c 0 0 Try.underlying51
    simp only [Option.isNone] at h0
    go_enter Try.func75, Try.ntmps75
    go_wp2
    go_ret
    exact ⟨_, rfl, own_nil _ _ _ _, Below.refl _ _⟩
  · have h0 := Lib.run_eql_slice_nil (P := Try.prog) w 51 50 (some ad) n c 0 0 Try.underlying51
    simp only [Option.isNone] at h0
    have hw : Below w.heap.size w (w.alloc (.cells #[] 50)) := (Below.refl _ _).alloc (Nat.le_refl _) _
    have hr := hp.2.1.below hw
    go_enter Try.func75, Try.ntmps75
    go_wp2_with (at_builtin
                 refine app_any _ rfl (.tmp 5) (.tmp 6) _ rfl w.heap.size 50 _ 1 8 Try.underlying51 info_u64 rfl (by omega) (.slice (some ⟨w.heap.size, 0, none⟩) 0 0) 0 [] rfl (own_empty w _ 1) (some ad) n c (u64s p) rfl hr (u64s_one p) ?c1 ?c2 ?c3 ?_
                 case c1 => simp only [maxLen]; omega
                 case c2 => omega
                 case c3 => exact hw.size
                 intro v' w' ho hg _)
    go_ret
    exact ⟨_, rfl, by simpa using ho, hw.grown hg hw.size (own_base (own_empty w 50 1))⟩
theorem bits_Len64 (x : Int) (w : World) (h0 : 0 ≤ x) (h1 : x ≤ 18446744073709551615) :
    Calls Try.prog 90 #[.int .u64 x] w fun e w' => e = .returned (.int .i64 (Lib.bitLen x.toNat)) ∧ w = w' :=
  (Any.bits_Len64 (P := Try.prog) (ρ := ⟨fun | 129 => 90 | n => n, fun | 53 => 50 | 3 => 3 | 4 => 4 | 46 => 135 | 5 => 5 | 9 => 9 | n => n, fun | n => n⟩) {
    mixed := by kernel_rfl
    f129 := Try.func90.trans (congrArg some (by kernel_rfl))
    t3 := Try.underlying3
    a3 := Try.isAgg3
    z3 := Try.sizeOf3
    v3 := Try.zeroValue3
    t4 := Try.underlying4
    a4 := Try.isAgg4
    z4 := Try.sizeOf4
    v4 := Try.zeroValue4
    t5 := Try.underlying5
    a5 := Try.isAgg5
    z5 := Try.sizeOf5
    v5 := Try.zeroValue5
    t9 := Try.underlying9
    a9 := Try.isAgg9
    z9 := Try.sizeOf9
    v9 := Try.zeroValue9
    t46 := Try.underlying135
    a46 := Try.isAgg135
    z46 := Try.sizeOf135
    v46 := Try.zeroValue135
    t53 := Try.underlying50
    a53 := Try.isAgg50
    z53 := Try.sizeOf50
    v53 := Try.zeroValue50 } x w h0 h1).mono fun _ _ ⟨h, k⟩ => ⟨h, k.symm⟩
set_option maxHeartbeats 400000 in
set_option maxRecDepth 100000 in
theorem zb_part_bad (A B : Option Addr) (n c m d : Nat) (w : World) (h : rightB n = false ∨ n ≠ m) :
    Calls Try.prog 76 #[.slice A n c, .slice B m d] w fun e w' => e = .returned (.tuple #[.int .i64 0, .int .i64 2]) ∧ w = w' := by
  by_cases h1 : rightB n = true
  · have h2 : ((n : Int) != (m : Int)) = true := by
      rcases h with h | h
      · rw [h1] at h; cases h
      · simp; omega
    go_enter Try.func76, Try.ntmps76
    go_wp2_with (go_at_call 74; refine (zb_right _ _ _ _).mono ?_; rintro e w' ⟨rfl, rfl⟩)
    go_ret2
    exact ⟨rfl, rfl⟩
  · have h1 : rightB n = false := by simpa using h1
    clear h
    go_enter Try.func76, Try.ntmps76
    go_wp2_with (go_at_call 74; refine (zb_right _ _ _ _).mono ?_; rintro e w' ⟨rfl, rfl⟩)
    go_ret2
    exact ⟨rfl, rfl⟩
set_option maxHeartbeats 400000 in
set_option maxRecDepth 100000 in
theorem zb_part (A B : Option Addr) (n c d : Nat) (p q : List Nat) (w : World) (hp : Pt w A n p) (hq : Pt w B n q) (h1 : 1 ≤ n) (h2 : n ≤ 16) :
    Calls Try.prog 76 #[.slice A n c, .slice B n d] w fun e w' => e = .returned (.tuple #[.int .i64 (part p q), .int .i64 0]) ∧ w = w' := by
  have e1 : rightB n = true := by simp [rightB, h1, h2]
  go_enter Try.func76, Try.ntmps76
  go_wp2_with (go_at_call 74; refine (zb_right _ _ _ _).mono ?_; rintro e w' ⟨rfl, rfl⟩)
  go_loop [6, 21] (fun x i => ∃ (k : Nat), k ≤ n ∧ i = .int .i64 k ∧ x = .int .u64 (orx (p.take k) (q.take k) : Nat)) (fun _ i => n - (intOf i).toNat)
  case atStart => exact ⟨0, by omega, rfl, rfl⟩
  case round =>
    obtain ⟨k, hk, rfl, rfl⟩ := hrel
    have hy1 := orx_lt (p.take k) (q.take k) (fun x hx => hp.2.2 x (List.mem_of_mem_take hx)) (fun x hx => hq.2.2 x (List.mem_of_mem_take hx))
    by_cases hlt : k < n
    · obtain ⟨b, o, z, rfl, hb, hz, hzl, hc⟩ := hp.at_ hlt
      obtain ⟨b', o', z', rfl, hb', hz', hzl', hc'⟩ := hq.at_ hlt
      have hS := hide (orx_take? p q k z z' hz hz')
      clear hz hz'
      generalize orx (p.take k) (q.take k) = y at *
      go_wp2
      go_round
      case rel =>
        refine ⟨k + 1, by omega, by go_num, ?_⟩
        rw [hS.out, u64_xor_nat _ _ hzl hzl', u64_or_nat _ _ hy1 (Nat.xor_lt_two_pow (n := 64) hzl hzl')]
      case measure => simp [intOf]; omega
    · have hy2 : orx (p.take k) (q.take k) = orx p q := by
        rw [List.take_of_length_le (by have := hp.len; omega), List.take_of_length_le (by have := hq.len; omega)]
      rw [hy2] at hy1 ⊢
      clear hy2
      generalize hy : orx p q = y at *
      have HY := hide hy
      clear hy
      have h3 := (bitLen_spec y hy1).2.2
      go_wp2_with (go_at_call 90; refine (bits_Len64 _ _ (by omega) (by omega)).mono ?_; rintro e w' ⟨rfl, rfl⟩)
      go_ret2
      refine ⟨?_, rfl⟩
      unfold part
      rw [HY.out]
      rfl
def aboveN (m : Nat) : Nat := 18446744073709551615 * 2 ^ m % 18446744073709551616
def cutc (m c : Nat) : Nat := c / 2 ^ m * 2 ^ m
theorem and_above (m c : Nat) (hc : c < 2 ^ 64) : c &&& aboveN m = cutc m c := by
  apply Nat.eq_of_testBit_eq
  intro i
  unfold aboveN cutc
  rw [Nat.testBit_and, show (18446744073709551616 : Nat) = 2 ^ 64 by rfl, show (18446744073709551615 : Nat) = 2 ^ 64 - 1 by rfl, Nat.testBit_mod_two_pow, Nat.mul_comm (2 ^ 64 - 1), Nat.testBit_two_pow_mul, Nat.testBit_two_pow_sub_one, Nat.mul_comm, Nat.testBit_two_pow_mul, Nat.testBit_div_two_pow]
  by_cases h1 : m ≤ i
  · rw [show i - m + m = i by omega]
    by_cases h2 : i < 64
    · have : i - m < 64 := by omega
      simp [h1, h2, this]
    · have : c.testBit i = false := Nat.testBit_lt_two_pow (Nat.lt_of_lt_of_le hc (pow_len_le (by omega)))
      simp [this]
  · simp [h1]
theorem cutc_lt (m c : Nat) (hc : c < 2 ^ 64) : cutc m c < 2 ^ 64 := Nat.lt_of_le_of_lt (Nat.div_mul_le_self _ _) hc
def cut (m : Nat) (p : List Nat) : List Nat := p.map (cutc m)
set_option maxHeartbeats 400000 in
theorem zb_above (m : Nat) (h2 : m ≤ 64) (w : World) :
    Calls Try.prog 97 #[.int .i64 ((m : Int) - 1)] w fun e w' => e = .returned (.int .u64 (aboveN m : Nat)) ∧ w = w' := by
  by_cases h3 : m = 64
  · subst h3
    go_enter Try.func97, Try.ntmps97
    go_wp2
    go_ret
    exact ⟨rfl, rfl⟩
  · have e1 : (((m : Int) - 1) == 63) = false := by simp; omega
    
    go_enter Try.func97, Try.ntmps97
    go_wp2
    go_ret
    exact ⟨retI (by unfold aboveN; simp [IntKind.wrap, IntKind.signed, IntKind.bits]), rfl⟩
theorem u64s_set (p : List Nat) (m k z : Nat) (hz : p[k]? = some z) : (u64s (cut m (p.take k) ++ p.drop k)).set k (.int .u64 (cutc m z : Nat)) = u64s (cut m (p.take (k + 1)) ++ p.drop (k + 1)) := by
  obtain ⟨hk, rfl⟩ := List.getElem?_eq_some_iff.1 hz
  rw [List.take_succ_eq_append_getElem hk, List.drop_eq_getElem_cons hk]
  unfold u64s cut
  simp only [List.map_append, List.map_cons, List.map_nil, List.append_assoc, List.singleton_append]
  rw [List.set_append_right _ _ (by simp; omega)]
  simp [Nat.min_eq_left (Nat.le_of_lt hk)]
theorem u64s_at (p : List Nat) (m k z : Nat) (hz : p[k]? = some z) : (u64s (cut m (p.take k) ++ p.drop k))[k]? = some (.int .u64 (z : Int)) := by
  obtain ⟨hk, rfl⟩ := List.getElem?_eq_some_iff.1 hz
  unfold u64s cut
  rw [List.getElem?_map, List.getElem?_append_right (by simp; omega)]
  simp [Nat.min_eq_left (Nat.le_of_lt hk), hk]
set_option maxHeartbeats 400000 in
set_option maxRecDepth 100000 in
theorem zb_cut (A : Option Addr) (n c : Nat) (p : List Nat) (m : Nat) (w : World) (hp : Pt w A n p) (h1 : 1 ≤ n) (h2 : n ≤ 16) (hm : m ≤ 64) :
    Calls Try.prog 80 #[.slice A n c, .int .i64 ((m : Int) - 1)] w fun e w' => ∃ v, e = .returned (.tuple #[v, .int .i64 0]) ∧ w'.ownsRow w.heap.size 50 1 v n (u64s (cut m p)) ∧ Below w.heap.size w w' := by
  have e1 : rightB n = true := by simp [rightB, h1, h2]
  have hl := hp.len
  have HL := hide hl
  clear hl
  rcases Nat.lt_or_ge 0 m with hm0 | hm0
  · have e2 : (((m : Int) - 1) != -1) = true := by simp; omega
    have e3 : levelB ((m : Int) - 1) = true := by simp [levelB]; omega
    go_enter Try.func80, Try.ntmps80
    go_wp2_with (first | (go_at_call 74; refine (zb_right _ _ _ _).mono ?_; rintro e w' ⟨rfl, rfl⟩) | (go_at_call 87; refine (zb_level _ _).mono ?_; rintro e w' ⟨rfl, rfl⟩) | (go_at_call 75; refine (clone_u64 _ _ _ p _ hp (by omega)).mono ?_; rintro e w1 ⟨v, rfl, ho, hb⟩; obtain ⟨g, cap, hv, hg1, hg2⟩ := ho.form (by omega); subst hv))
    go_loopw [24] (fun i wr => ∃ (k : Nat), k ≤ n ∧ i = .int .i64 k ∧ wr.ownsRow w.heap.size 50 1 (.slice (some ⟨g, 0, none⟩) n cap) n (u64s (cut m (p.take k) ++ p.drop k)) ∧ Below w.heap.size w wr) (fun i _ => n - (intOf i).toNat)
    case atStart => exact ⟨0, by omega, rfl, by simpa [cut] using ho, hb⟩
    case round =>
      obtain ⟨k, hk, rfl, hoR, hbR⟩ := hrel
      clear ho hb
      by_cases hlt : k < n
      · obtain ⟨z, hz, hzl⟩ := hp.z_ hlt
        have hc := (hoR.cellAt k (by omega)).trans (u64s_at p m k z hz)
        have hf := hoR.frozenAt k
        have hst := hide (hoR.stored k (.int .u64 (cutc m z : Nat)))
        have hab := and_above m z hzl
        have HZ := hide hz
        clear hz hoR
        go_wp2
        go_still_tail 8, (by kernel_rfl)
        still_call (still_of (zb_above m hm _))
        repeat still_step
        refine wpStill_nil ?_
        change wpList _ _ _ _ _ wr.drew
        go_wp2
        go_roundw
        case rel =>
          refine ⟨k + 1, by omega, by go_num, ?_, ?_⟩
          · rw [u64_and_nat z (aboveN m) hzl (Nat.mod_lt _ (by omega)), hab]
            have := hst.out.1
            rw [u64s_set p m k z HZ.out] at this
            exact this.drew
          · exact (hbR.setCell (p := ⟨g, k, none⟩) hg1 _).drew
        case measure => simp [intOf]; omega
      · have hk' : k = n := by omega
        subst hk'
        go_wp2
        go_ret2
        refine ⟨_, rfl, ?_, hbR⟩
        have hl := HL.out
        rw [List.take_of_length_le (by omega), List.drop_of_length_le (by omega), List.append_nil] at hoR
        exact hoR
  · have e2 : (((m : Int) - 1) != -1) = false := by simp; omega
    go_enter Try.func80, Try.ntmps80
    go_wp2_with (first | (go_at_call 74; refine (zb_right _ _ _ _).mono ?_; rintro e w' ⟨rfl, rfl⟩) | (go_at_call 87; refine (zb_level _ _).mono ?_; rintro e w' ⟨rfl, rfl⟩) | (go_at_call 75; refine (clone_u64 _ _ _ p _ hp (by omega)).mono ?_; rintro e w1 ⟨v, rfl, ho, hb⟩; obtain ⟨g, cap, hv, hg1, hg2⟩ := ho.form (by omega); subst hv))
    go_loopw [24] (fun i wr => ∃ (k : Nat), k ≤ n ∧ i = .int .i64 k ∧ wr.ownsRow w.heap.size 50 1 (.slice (some ⟨g, 0, none⟩) n cap) n (u64s (cut m (p.take k) ++ p.drop k)) ∧ Below w.heap.size w wr) (fun i _ => n - (intOf i).toNat)
    case atStart => exact ⟨0, by omega, rfl, by simpa [cut] using ho, hb⟩
    case round =>
      obtain ⟨k, hk, rfl, hoR, hbR⟩ := hrel
      clear ho hb
      by_cases hlt : k < n
      · obtain ⟨z, hz, hzl⟩ := hp.z_ hlt
        have hc := (hoR.cellAt k (by omega)).trans (u64s_at p m k z hz)
        have hf := hoR.frozenAt k
        have hst := hide (hoR.stored k (.int .u64 (cutc m z : Nat)))
        have hab := and_above m z hzl
        have HZ := hide hz
        clear hz hoR
        go_wp2
        go_still_tail 8, (by kernel_rfl)
        still_call (still_of (zb_above m hm _))
        repeat still_step
        refine wpStill_nil ?_
        change wpList _ _ _ _ _ wr.drew
        go_wp2
        go_roundw
        case rel =>
          refine ⟨k + 1, by omega, by go_num, ?_, ?_⟩
          · rw [u64_and_nat z (aboveN m) hzl (Nat.mod_lt _ (by omega)), hab]
            have := hst.out.1
            rw [u64s_set p m k z HZ.out] at this
            exact this.drew
          · exact (hbR.setCell (p := ⟨g, k, none⟩) hg1 _).drew
        case measure => simp [intOf]; omega
      · have hk' : k = n := by omega
        subst hk'
        go_wp2
        go_ret2
        refine ⟨_, rfl, ?_, hbR⟩
        have hl := HL.out
        rw [List.take_of_length_le (by omega), List.drop_of_length_le (by omega), List.append_nil] at hoR
        exact hoR
end Go.Proofs.Ytfkpanpageeklaa
