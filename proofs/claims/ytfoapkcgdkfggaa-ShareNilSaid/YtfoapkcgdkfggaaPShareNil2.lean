/- ShareNil: contracts and plain laws that the statement leans on (ZA NdA EnA NdB NdC ReA LaB Fr Ke Ex Mp TrA). No condition. -/
import Derived.Test.YtfoapkcgdkfggaaPShareNil1
import Derived.Test.YtfoapkcgdkfggaaProg
import Derived.Shelf.Strconv.Itoa0
import Derived.StillTailTactics
import Derived.Deep.RegionHeld3
import Derived.Deep.Cut
import Derived.Deep.Strs
import Derived.Laws.StructEq
import Derived.Deep.CutRange
import Derived.Maps.RangeRun
import Derived.Maps.RangeWalk
import Derived.Maps.OwnOps
set_option linter.unusedSimpArgs false
set_option linter.unusedVariables false
namespace Go.Proofs.Ytfoapkcgdkfggaa
open Go.RowKit
/-- A point of k coordinates. -/
def Zp (k : Nat) (p : List Nat) : Prop := p.length = k ∧ ∀ x ∈ p, x < 2 ^ 64
/-- p comes ahead of q. -/
def Zlt (p q : List Nat) : Prop := ∃ a, (∀ b, a < b → addrOf p b = addrOf q b) ∧ addrOf p a < addrOf q a
theorem zlt_irrefl (p : List Nat) : ¬ Zlt p p := by
  rintro ⟨a, _, h⟩
  omega
theorem zlt_trans {p q r : List Nat} (h1 : Zlt p q) (h2 : Zlt q r) : Zlt p r := by
  obtain ⟨a, ha, ha'⟩ := h1
  obtain ⟨b, hb, hb'⟩ := h2
  rcases Nat.lt_trichotomy a b with h | rfl | h
  · exact ⟨b, fun c hc => (ha c (by omega)).trans (hb c hc), by rw [ha b h]; exact hb'⟩
  · exact ⟨a, fun c hc => (ha c hc).trans (hb c hc), Nat.lt_trans ha' hb'⟩
  · exact ⟨a, fun c hc => (ha c hc).trans (hb c (by omega)), by rw [← hb a h]; exact ha'⟩
theorem zlt_asymm {p q : List Nat} (h1 : Zlt p q) (h2 : Zlt q p) : False := zlt_irrefl p (zlt_trans h1 h2)
theorem eq_of_bits {c d : Nat} (hc : c < 2 ^ 64) (hd : d < 2 ^ 64) (h : ∀ a, bit c a = bit d a) : c = d := by
  apply Nat.eq_of_testBit_eq
  intro i
  have := h i
  rw [bit_testBit, bit_testBit] at this
  cases h1 : c.testBit i <;> cases h2 : d.testBit i <;> simp [h1, h2] at this ⊢
theorem eq_of_addr {k : Nat} {p q : List Nat} (hp : Zp k p) (hq : Zp k q) (h : ∀ a, addrOf p a = addrOf q a) : p = q := by
  apply List.ext_getElem (by rw [hp.1, hq.1])
  intro i h1 h2
  apply eq_of_bits (hp.2 _ (List.getElem_mem h1)) (hq.2 _ (List.getElem_mem h2))
  intro a
  exact (addrOf_eq_iff a p q (by rw [hp.1, hq.1])).1 (h a) i h1
theorem part_neg {k : Nat} {p q : List Nat} (hp : Zp k p) (hq : Zp k q) (h : part p q < 0) : p = q := by
  obtain ⟨g1, g2, g3, g4⟩ := part_spec p q (by rw [hp.1, hq.1]) hp.2 hq.2
  exact eq_of_addr hp hq fun a => g3 a (by omega)
theorem part_self {k : Nat} {p : List Nat} (hp : Zp k p) : part p p = -1 := by
  obtain ⟨g1, g2, g3, g4⟩ := part_spec p p rfl hp.2 hp.2
  rcases Int.lt_or_le (part p p) 0 with h | h
  · omega
  · exact absurd rfl (g4 h)
/-- part is known by what it says. -/
theorem part_unique {k : Nat} {p q : List Nat} (hp : Zp k p) (hq : Zp k q) {a : Nat} (h1 : ∀ b, a < b → addrOf p b = addrOf q b) (h2 : addrOf p a ≠ addrOf q a) : part p q = a := by
  obtain ⟨g1, g2, g3, g4⟩ := part_spec p q (by rw [hp.1, hq.1]) hp.2 hq.2
  rcases Int.lt_trichotomy (part p q) a with h | h | h
  · exact absurd (g3 a h) h2
  · exact h
  · exact absurd (h1 (part p q).toNat (by omega)) (g4 (by omega))
theorem cmp_lt {k : Nat} {p q : List Nat} (hp : Zp k p) (hq : Zp k q) : cmp p q = -1 ↔ Zlt p q := by
  obtain ⟨g1, g2, g3, g4⟩ := part_spec p q (by rw [hp.1, hq.1]) hp.2 hq.2
  unfold cmp
  constructor
  · intro h
    split at h
    · omega
    · split at h
      · rename_i h1 h2
        exact ⟨(part p q).toNat, fun b hb => g3 b (by omega), h2⟩
      · omega
  · rintro ⟨a, h1, h2⟩
    have := part_unique hp hq h1 (by omega)
    rw [this, if_neg (by omega), Int.toNat_natCast, if_pos h2]
/-- Entries: points and values. -/
abbrev Ent := List Nat × Nat
def Zsorted (l : List Ent) : Prop := l.Pairwise fun e f => Zlt e.1 f.1
theorem sorted_ext : ∀ {l l' : List Ent}, Zsorted l → Zsorted l' → (∀ e, e ∈ l ↔ e ∈ l') → l = l'
  | [], [], _, _, _ => rfl
  | [], e :: l', _, _, h => by have := (h e).2 (List.mem_cons_self); cases this
  | e :: l, [], _, _, h => by have := (h e).1 (List.mem_cons_self); cases this
  | e :: l, f :: l', h1, h2, h => by
    have a1 := List.pairwise_cons.1 h1
    have a2 := List.pairwise_cons.1 h2
    have hef : e = f := by
      have m1 := (h e).1 List.mem_cons_self
      have m2 := (h f).2 List.mem_cons_self
      rcases List.mem_cons.1 m1 with m1 | m1
      · exact m1
      · rcases List.mem_cons.1 m2 with m2 | m2
        · exact m2.symm
        · exact absurd (a1.1 f m2) (fun h3 => zlt_asymm h3 (a2.1 e m1))
    subst hef
    congr 1
    apply sorted_ext a1.2 a2.2
    intro g
    constructor
    · intro hg
      rcases List.mem_cons.1 ((h g).1 (List.mem_cons_of_mem _ hg)) with h3 | h3
      · subst h3; exact absurd (a1.1 _ hg) (zlt_irrefl _)
      · exact h3
    · intro hg
      rcases List.mem_cons.1 ((h g).2 (List.mem_cons_of_mem _ hg)) with h3 | h3
      · subst h3; exact absurd (a2.1 _ hg) (zlt_irrefl _)
      · exact h3
def minL : List Nat → Nat
  | [] => 0
  | v :: vs => vs.foldl Nat.min v
def maxL (l : List Nat) : Nat := l.foldl Nat.max 0
structure Sum4 where
  c : Nat
  s : Nat
  mn : Nat
  mx : Nat
def sumsOf (es : List Ent) : Sum4 := ⟨es.length % 2 ^ 64, (es.map (·.2)).sum % 2 ^ 64, minL (es.map (·.2)), maxL (es.map (·.2))⟩
def Sum4.join (a b : Sum4) : Sum4 := ⟨(a.c + b.c) % 2 ^ 64, (a.s + b.s) % 2 ^ 64, Nat.min a.mn b.mn, Nat.max a.mx b.mx⟩
theorem foldl_min_le (l : List Nat) (a : Nat) : l.foldl Nat.min a ≤ a ∧ (∀ x ∈ l, l.foldl Nat.min a ≤ x) ∧ (l.foldl Nat.min a = a ∨ l.foldl Nat.min a ∈ l) := by
  induction l generalizing a with
  | nil => exact ⟨Nat.le_refl _, fun x h => (by cases h), .inl rfl⟩
  | cons v vs ih =>
    obtain ⟨h1, h2, h3⟩ := ih (Nat.min a v)
    have ha : Nat.min a v ≤ a := Nat.min_le_left _ _
    have hv : Nat.min a v ≤ v := Nat.min_le_right _ _
    refine ⟨Nat.le_trans h1 ha, fun x hx => ?_, ?_⟩
    · rcases List.mem_cons.1 hx with rfl | hx
      · exact Nat.le_trans h1 hv
      · exact h2 x hx
    · rcases h3 with h3 | h3
      · rw [List.foldl_cons, h3]
        rcases Nat.le_total a v with h | h
        · exact .inl (Nat.min_eq_left h)
        · exact .inr (by rw [show Nat.min a v = v from Nat.min_eq_right h]; exact List.mem_cons_self)
      · exact .inr (List.mem_cons_of_mem _ h3)
theorem foldl_max_ge (l : List Nat) (a : Nat) : a ≤ l.foldl Nat.max a ∧ (∀ x ∈ l, x ≤ l.foldl Nat.max a) ∧ (l.foldl Nat.max a = a ∨ l.foldl Nat.max a ∈ l) := by
  induction l generalizing a with
  | nil => exact ⟨Nat.le_refl _, fun x h => (by cases h), .inl rfl⟩
  | cons v vs ih =>
    obtain ⟨h1, h2, h3⟩ := ih (Nat.max a v)
    have ha : a ≤ Nat.max a v := Nat.le_max_left _ _
    have hv : v ≤ Nat.max a v := Nat.le_max_right _ _
    refine ⟨Nat.le_trans ha h1, fun x hx => ?_, ?_⟩
    · rcases List.mem_cons.1 hx with rfl | hx
      · exact Nat.le_trans hv h1
      · exact h2 x hx
    · rcases h3 with h3 | h3
      · rw [List.foldl_cons, h3]
        rcases Nat.le_total a v with h | h
        · exact .inr (by rw [show Nat.max a v = v from Nat.max_eq_right h]; exact List.mem_cons_self)
        · exact .inl (Nat.max_eq_left h)
      · exact .inr (List.mem_cons_of_mem _ h3)
theorem minL_append {l m : List Nat} (hl : l ≠ []) (hm : m ≠ []) : minL (l ++ m) = Nat.min (minL l) (minL m) := by
  obtain ⟨v, vs, rfl⟩ := List.exists_cons_of_ne_nil hl
  obtain ⟨u, us, rfl⟩ := List.exists_cons_of_ne_nil hm
  show (vs ++ u :: us).foldl Nat.min v = Nat.min (vs.foldl Nat.min v) (us.foldl Nat.min u)
  rw [List.foldl_append, List.foldl_cons]
  generalize vs.foldl Nat.min v = a
  obtain ⟨g1, g2, g3⟩ := foldl_min_le us (Nat.min a u)
  obtain ⟨h1, h2, h3⟩ := foldl_min_le us u
  have k1 : Nat.min a u ≤ a := Nat.min_le_left _ _
  have k2 : Nat.min a u ≤ u := Nat.min_le_right _ _
  apply Nat.le_antisymm
  · apply Nat.le_min.2
    refine ⟨Nat.le_trans g1 k1, ?_⟩
    rcases h3 with h3 | h3
    · rw [h3]; exact Nat.le_trans g1 k2
    · exact g2 _ h3
  · rcases g3 with g3 | g3
    · rw [g3]
      apply Nat.le_min.2
      exact ⟨Nat.min_le_left _ _, Nat.le_trans (Nat.min_le_right _ _) h1⟩
    · exact Nat.le_trans (Nat.min_le_right _ _) (h2 _ g3)
theorem maxL_append (l m : List Nat) : maxL (l ++ m) = Nat.max (maxL l) (maxL m) := by
  unfold maxL
  rw [List.foldl_append]
  generalize l.foldl Nat.max 0 = a
  obtain ⟨g1, g2, g3⟩ := foldl_max_ge m a
  obtain ⟨h1, h2, h3⟩ := foldl_max_ge m 0
  apply Nat.le_antisymm
  · rcases g3 with g3 | g3
    · rw [g3]; exact Nat.le_max_left _ _
    · exact Nat.le_trans (h2 _ g3) (Nat.le_max_right _ _)
  · apply Nat.max_le.2
    refine ⟨g1, ?_⟩
    rcases h3 with h3 | h3
    · rw [h3]; omega
    · exact g2 _ h3
theorem sumsOf_append {l m : List Ent} (hl : l ≠ []) (hm : m ≠ []) : sumsOf (l ++ m) = (sumsOf l).join (sumsOf m) := by
  unfold sumsOf Sum4.join
  simp only [List.map_append, List.length_append, List.sum_append, maxL_append]
  rw [minL_append (by simpa using hl) (by simpa using hm)]
  congr 1
  · omega
  · omega
theorem sumsOf_one (p : List Nat) (v : Nat) (hv : v < 2 ^ 64) : sumsOf [(p, v)] = ⟨1, v, v, v⟩ := by
  have h1 : v % 2 ^ 64 = v := Nat.mod_eq_of_lt hv
  have h2 : maxL [v] = v := by unfold maxL; simp
  show Sum4.mk (1 % 2 ^ 64) ((v + 0) % 2 ^ 64) v (maxL [v]) = _
  rw [Nat.add_zero, h1, h2]
def rightB (n : Nat) : Bool := decide (1 ≤ n ∧ n ≤ 16)
def levelB (n : Int) : Bool := decide (0 ≤ n ∧ n < 64)
theorem i64_or_even (y b : Nat) (hy : y < 65536) (hb : b < 2) : bits .or .i64 ((y : Int) * 2) (b : Int) = ((2 * y + b : Nat) : Int) := by
  rw [← even_or y b hb, show ((y : Int) * 2) = ((2 * y : Nat) : Int) by omega]
  have hx : 2 * y ||| b < 2 ^ 63 := Nat.or_lt_two_pow (by omega) (by omega)
  show IntKind.i64.wrap ((BitVec.ofInt 64 ((2 * y : Nat) : Int) ||| BitVec.ofInt 64 (b : Int)).toNat : Int) = _
  have h1 : ∀ a : Nat, a < 9223372036854775808 → (BitVec.ofInt 64 (a : Int)).toNat = a := fun a ha => by
    rw [BitVec.ofInt_natCast, BitVec.toNat_ofNat]; exact Nat.mod_eq_of_lt (by omega)
  rw [BitVec.toNat_or, h1 _ (by omega), h1 _ (by omega), IntKind.wrap_i64]
  omega
theorem shr_nat (z at_ : Nat) : (z : Int) / 2 ^ at_ = ((z / 2 ^ at_ : Nat) : Int) := by push_cast; rfl
theorem and_bit (z at_ : Nat) (hz : z < 18446744073709551616) : wrap64 (bits .and .u64 ((z : Int) / 2 ^ at_) 1) = (bit z at_ : Nat) := by
  have h1 : z / 2 ^ at_ ≤ z := Nat.div_le_self _ _
  have h2 := bit_lt z at_
  rw [shr_nat, show (1 : Int) = ((1 : Nat) : Int) by rfl, u64_and_nat _ _ (by omega) (by omega), Nat.and_one_is_mod]
  change bit z at_ < 2 at h2
  unfold bit at *
  unfold wrap64
  omega
set_option maxHeartbeats 400000 in
theorem zb_right (A : Option Addr) (n c : Nat) (w : World) :
    Calls Try.prog 60 #[.slice A n c] w fun e w' => e = .returned (.bool (rightB n)) ∧ w = w' := by
  by_cases h1 : 1 ≤ n
  · by_cases h2 : n ≤ 16
    · go_enter Try.func60, Try.ntmps60
      go_wp2
      go_ret
      exact ⟨retB (boolI (by simp [rightB]; omega)), rfl⟩
    · go_enter Try.func60, Try.ntmps60
      go_wp2
      go_ret
      exact ⟨retB (boolI (by simp [rightB]; omega)), rfl⟩
  · go_enter Try.func60, Try.ntmps60
    go_wp2
    go_ret
    exact ⟨retB (boolI (by simp [rightB]; omega)), rfl⟩
set_option maxHeartbeats 400000 in
theorem zb_level (n : Int) (w : World) :
    Calls Try.prog 69 #[.int .i64 n] w fun e w' => e = .returned (.bool (levelB n)) ∧ w = w' := by
  by_cases h1 : 0 ≤ n
  · go_enter Try.func69, Try.ntmps69
    go_wp2
    go_ret
    exact ⟨retB (boolI (by simp [levelB]; omega)), rfl⟩
  · go_enter Try.func69, Try.ntmps69
    go_wp2
    go_ret
    exact ⟨retB (boolI (by simp [levelB]; omega)), rfl⟩
set_option maxHeartbeats 400000 in
theorem zb_addr (A : Option Addr) (n : Nat) (p : List Nat) (c : Nat) (at_ : Nat) (w : World) (hp : Pt w A n p) (h1 : 1 ≤ n) (h2 : n ≤ 16) (hat : at_ < 64) :
    Calls Try.prog 44 #[.slice A n c, .int .i64 at_] w fun e w' => e = .returned (.tuple #[.int .i64 (addrOf p at_ : Nat), .int .i64 0]) ∧ w = w' := by
  have e1 : rightB n = true := by simp [rightB, h1, h2]
  have e2 : levelB at_ = true := by simp [levelB]; omega
  go_enter Try.func44, Try.ntmps44
  go_wp2_with (first | (go_at_call 60; refine (zb_right _ _ _ _).mono ?_; rintro e w' ⟨rfl, rfl⟩) | (go_at_call 69; refine (zb_level _ _).mono ?_; rintro e w' ⟨rfl, rfl⟩))
  go_loop [6, 19] (fun x i => ∃ (k : Nat), k ≤ n ∧ i = .int .i64 k ∧ x = .int .i64 (addrOf (p.take k) at_ : Nat)) (fun _ i => n - (intOf i).toNat)
  case atStart => exact ⟨0, by omega, rfl, rfl⟩
  case round =>
    obtain ⟨k, hk, rfl, rfl⟩ := hrel
    have hy1 := addrOf_le (p.take k) at_ (by have := hp.len; simp; omega)
    by_cases hlt : k < n
    · obtain ⟨b, o, z, rfl, hb, hz, hzl, hc⟩ := hp.at_ hlt
      have hS := hide (addrOf_take? p at_ k z hz)
      clear hz
      generalize addrOf (p.take k) at_ = y at *
      go_wp2
      go_round
      case rel =>
        refine ⟨k + 1, by omega, by go_num, ?_⟩
        rw [hS.out, and_bit z at_ hzl, i64_or_even y _ (by omega) (bit_lt _ _)]
      case measure => simp [intOf]; omega
    · go_wp2
      go_ret2
      rw [List.take_of_length_le (by have := hp.len; omega)]
      exact ⟨rfl, rfl⟩
theorem info_u64 : (Try.prog.info? 36).map (fun i => (i.zero, i.size, i.bytes)) = some (some (.int .u64 0), 1, 8) := by kernel_rfl
theorem u64s_one (p : List Nat) : ∀ u ∈ u64s p, u.oneCell' = true := by
  intro u hu
  simp only [u64s, List.mem_map] at hu
  obtain ⟨x, _, rfl⟩ := hu
  rfl
theorem Pt.of_own {w : World} {base n : Nat} {v : Value} {p : List Nat} (h : w.ownsRow base 36 1 v n (u64s p)) (hl : p.length = n) (hb : ∀ x ∈ p, x < 2 ^ 64) : ∃ A c, v = .slice A n c ∧ Pt w A n p := by
  obtain ⟨A, c, rfl, _, h⟩ := Rw.of_own h
  exact ⟨A, c, rfl, hl, h, hb⟩
theorem own_empty (w : World) (e : TypeId) (sz : Nat) : (w.alloc (.cells #[] e)).ownsRow w.heap.size e sz (.slice (some ⟨w.heap.size, 0, none⟩) 0 0) 0 [] :=
  ⟨by simp, .inr ⟨w.heap.size, 0, #[], rfl, Nat.le_refl _, heap_alloc_new w _, Nat.le_refl _, by simp, by simp, by simp⟩⟩
set_option maxHeartbeats 400000 in
set_option maxRecDepth 100000 in
theorem clone_u64 (A : Option Addr) (n c : Nat) (p : List Nat) (w : World) (hp : Pt w A n p) (hn : n ≤ 1000000) :
    Calls Try.prog 50 #[.slice A n c] w fun e w' => ∃ v, e = .returned v ∧ w'.ownsRow w.heap.size 36 1 v n (u64s p) ∧ Below w.heap.size w w' := by
  rcases A with _ | ad
  · have hn0 : n = 0 := by
      rcases Nat.eq_zero_or_pos n with h | h
      · exact h
      · obtain ⟨b, o, h', _⟩ := hp.2.1.2 h
        cases h'
    subst hn0
    have hp0 : p = [] := List.eq_nil_of_length_eq_zero hp.1
    subst hp0
    have h0 := Lib.run_eql_slice_nil (P := Try.prog) w 35 36 none 0 c 0 0 Try.underlying35
    simp only [Option.isNone] at h0
    go_enter Try.func50, Try.ntmps50
    go_wp2
    go_ret
    exact ⟨_, rfl, own_nil _ _ _ _, Below.refl _ _⟩
  · have h0 := Lib.run_eql_slice_nil (P := Try.prog) w 35 36 (some ad) n c 0 0 Try.underlying35
    simp only [Option.isNone] at h0
    have hw : Below w.heap.size w (w.alloc (.cells #[] 36)) := (Below.refl _ _).alloc (Nat.le_refl _) _
    have hr := hp.2.1.below hw
    go_enter Try.func50, Try.ntmps50
    go_wp2_with (at_builtin
                 refine app_any _ rfl (.tmp 5) (.tmp 6) _ rfl w.heap.size 36 _ 1 8 Try.underlying35 info_u64 rfl (by omega) (.slice (some ⟨w.heap.size, 0, none⟩) 0 0) 0 [] rfl (own_empty w _ 1) (some ad) n c (u64s p) rfl hr (u64s_one p) ?c1 ?c2 ?c3 ?_
                 case c1 => simp only [maxLen]; omega
                 case c2 => omega
                 case c3 => exact hw.size
                 intro v' w' ho hg _)
    go_ret
    exact ⟨_, rfl, by simpa using ho, hw.grown hg hw.size (own_base (own_empty w 36 1))⟩
theorem bits_Len64 (x : Int) (w : World) (h0 : 0 ≤ x) (h1 : x ≤ 18446744073709551615) :
    Calls Try.prog 80 #[.int .u64 x] w fun e w' => e = .returned (.int .i64 (Lib.bitLen x.toNat)) ∧ w = w' :=
  (Any.bits_Len64 (P := Try.prog) (ρ := ⟨fun | 129 => 80 | n => n, fun | 53 => 36 | 3 => 3 | 4 => 4 | 46 => 124 | 5 => 5 | 9 => 9 | n => n, fun | n => n⟩) {
    mixed := by kernel_rfl
    f129 := Try.func80.trans (congrArg some (by kernel_rfl))
    t3 := Try.underlying3
    a3 := Try.isAgg3
    z3 := Try.sizeOf3
    v3 := Try.zeroValue3
    t4 := Try.underlying4
    a4 := Try.isAgg4
    z4 := Try.sizeOf4
    v4 := Try.zeroValue4
    t5 := Try.underlying5
    a5 := Try.isAgg5
    z5 := Try.sizeOf5
    v5 := Try.zeroValue5
    t9 := Try.underlying9
    a9 := Try.isAgg9
    z9 := Try.sizeOf9
    v9 := Try.zeroValue9
    t46 := Try.underlying124
    a46 := Try.isAgg124
    z46 := Try.sizeOf124
    v46 := Try.zeroValue124
    t53 := Try.underlying36
    a53 := Try.isAgg36
    z53 := Try.sizeOf36
    v53 := Try.zeroValue36 } x w h0 h1).mono fun _ _ ⟨h, k⟩ => ⟨h, k.symm⟩
set_option maxHeartbeats 400000 in
set_option maxRecDepth 100000 in
theorem zb_part (A B : Option Addr) (n c d : Nat) (p q : List Nat) (w : World) (hp : Pt w A n p) (hq : Pt w B n q) (h1 : 1 ≤ n) (h2 : n ≤ 16) :
    Calls Try.prog 61 #[.slice A n c, .slice B n d] w fun e w' => e = .returned (.tuple #[.int .i64 (part p q), .int .i64 0]) ∧ w = w' := by
  have e1 : rightB n = true := by simp [rightB, h1, h2]
  go_enter Try.func61, Try.ntmps61
  go_wp2_with (go_at_call 60; refine (zb_right _ _ _ _).mono ?_; rintro e w' ⟨rfl, rfl⟩)
  go_loop [6, 21] (fun x i => ∃ (k : Nat), k ≤ n ∧ i = .int .i64 k ∧ x = .int .u64 (orx (p.take k) (q.take k) : Nat)) (fun _ i => n - (intOf i).toNat)
  case atStart => exact ⟨0, by omega, rfl, rfl⟩
  case round =>
    obtain ⟨k, hk, rfl, rfl⟩ := hrel
    have hy1 := orx_lt (p.take k) (q.take k) (fun x hx => hp.2.2 x (List.mem_of_mem_take hx)) (fun x hx => hq.2.2 x (List.mem_of_mem_take hx))
    by_cases hlt : k < n
    · obtain ⟨b, o, z, rfl, hb, hz, hzl, hc⟩ := hp.at_ hlt
      obtain ⟨b', o', z', rfl, hb', hz', hzl', hc'⟩ := hq.at_ hlt
      have hS := hide (orx_take? p q k z z' hz hz')
      clear hz hz'
      generalize orx (p.take k) (q.take k) = y at *
      go_wp2
      go_round
      case rel =>
        refine ⟨k + 1, by omega, by go_num, ?_⟩
        rw [hS.out, u64_xor_nat _ _ hzl hzl', u64_or_nat _ _ hy1 (Nat.xor_lt_two_pow (n := 64) hzl hzl')]
      case measure => simp [intOf]; omega
    · have hy2 : orx (p.take k) (q.take k) = orx p q := by
        rw [List.take_of_length_le (by have := hp.len; omega), List.take_of_length_le (by have := hq.len; omega)]
      rw [hy2] at hy1 ⊢
      clear hy2
      generalize hy : orx p q = y at *
      have HY := hide hy
      clear hy
      have h3 := (bitLen_spec y hy1).2.2
      go_wp2_with (go_at_call 80; refine (bits_Len64 _ _ (by omega) (by omega)).mono ?_; rintro e w' ⟨rfl, rfl⟩)
      go_ret2
      refine ⟨?_, rfl⟩
      unfold part
      rw [HY.out]
      rfl
def aboveN (m : Nat) : Nat := 18446744073709551615 * 2 ^ m % 18446744073709551616
def cutc (m c : Nat) : Nat := c / 2 ^ m * 2 ^ m
theorem and_above (m c : Nat) (hc : c < 2 ^ 64) : c &&& aboveN m = cutc m c := by
  apply Nat.eq_of_testBit_eq
  intro i
  unfold aboveN cutc
  rw [Nat.testBit_and, show (18446744073709551616 : Nat) = 2 ^ 64 by rfl, show (18446744073709551615 : Nat) = 2 ^ 64 - 1 by rfl, Nat.testBit_mod_two_pow, Nat.mul_comm (2 ^ 64 - 1), Nat.testBit_two_pow_mul, Nat.testBit_two_pow_sub_one, Nat.mul_comm, Nat.testBit_two_pow_mul, Nat.testBit_div_two_pow]
  by_cases h1 : m ≤ i
  · rw [show i - m + m = i by omega]
    by_cases h2 : i < 64
    · have : i - m < 64 := by omega
      simp [h1, h2, this]
    · have : c.testBit i = false := Nat.testBit_lt_two_pow (Nat.lt_of_lt_of_le hc (pow_len_le (by omega)))
      simp [this]
  · simp [h1]
theorem cutc_lt (m c : Nat) (hc : c < 2 ^ 64) : cutc m c < 2 ^ 64 := Nat.lt_of_le_of_lt (Nat.div_mul_le_self _ _) hc
def cut (m : Nat) (p : List Nat) : List Nat := p.map (cutc m)
set_option maxHeartbeats 400000 in
theorem zb_above (m : Nat) (h2 : m ≤ 64) (w : World) :
    Calls Try.prog 86 #[.int .i64 ((m : Int) - 1)] w fun e w' => e = .returned (.int .u64 (aboveN m : Nat)) ∧ w = w' := by
  by_cases h3 : m = 64
  · subst h3
    go_enter Try.func86, Try.ntmps86
    go_wp2
    go_ret
    exact ⟨rfl, rfl⟩
  · have e1 : (((m : Int) - 1) == 63) = false := by simp; omega
    
    go_enter Try.func86, Try.ntmps86
    go_wp2
    go_ret
    exact ⟨retI (by unfold aboveN; simp [IntKind.wrap, IntKind.signed, IntKind.bits]), rfl⟩
theorem u64s_set (p : List Nat) (m k z : Nat) (hz : p[k]? = some z) : (u64s (cut m (p.take k) ++ p.drop k)).set k (.int .u64 (cutc m z : Nat)) = u64s (cut m (p.take (k + 1)) ++ p.drop (k + 1)) := by
  obtain ⟨hk, rfl⟩ := List.getElem?_eq_some_iff.1 hz
  rw [List.take_succ_eq_append_getElem hk, List.drop_eq_getElem_cons hk]
  unfold u64s cut
  simp only [List.map_append, List.map_cons, List.map_nil, List.append_assoc, List.singleton_append]
  rw [List.set_append_right _ _ (by simp; omega)]
  simp [Nat.min_eq_left (Nat.le_of_lt hk)]
theorem u64s_at (p : List Nat) (m k z : Nat) (hz : p[k]? = some z) : (u64s (cut m (p.take k) ++ p.drop k))[k]? = some (.int .u64 (z : Int)) := by
  obtain ⟨hk, rfl⟩ := List.getElem?_eq_some_iff.1 hz
  unfold u64s cut
  rw [List.getElem?_map, List.getElem?_append_right (by simp; omega)]
  simp [Nat.min_eq_left (Nat.le_of_lt hk), hk]
set_option maxHeartbeats 400000 in
set_option maxRecDepth 100000 in
theorem zb_cut (A : Option Addr) (n c : Nat) (p : List Nat) (m : Nat) (w : World) (hp : Pt w A n p) (h1 : 1 ≤ n) (h2 : n ≤ 16) (hm : m ≤ 64) :
    Calls Try.prog 65 #[.slice A n c, .int .i64 ((m : Int) - 1)] w fun e w' => ∃ v, e = .returned (.tuple #[v, .int .i64 0]) ∧ w'.ownsRow w.heap.size 36 1 v n (u64s (cut m p)) ∧ Below w.heap.size w w' := by
  have e1 : rightB n = true := by simp [rightB, h1, h2]
  have hl := hp.len
  have HL := hide hl
  clear hl
  rcases Nat.lt_or_ge 0 m with hm0 | hm0
  · have e2 : (((m : Int) - 1) != -1) = true := by simp; omega
    have e3 : levelB ((m : Int) - 1) = true := by simp [levelB]; omega
    go_enter Try.func65, Try.ntmps65
    go_wp2_with (first | (go_at_call 60; refine (zb_right _ _ _ _).mono ?_; rintro e w' ⟨rfl, rfl⟩) | (go_at_call 69; refine (zb_level _ _).mono ?_; rintro e w' ⟨rfl, rfl⟩) | (go_at_call 50; refine (clone_u64 _ _ _ p _ hp (by omega)).mono ?_; rintro e w1 ⟨v, rfl, ho, hb⟩; obtain ⟨g, cap, hv, hg1, hg2⟩ := ho.form (by omega); subst hv))
    go_loopw [24] (fun i wr => ∃ (k : Nat), k ≤ n ∧ i = .int .i64 k ∧ wr.ownsRow w.heap.size 36 1 (.slice (some ⟨g, 0, none⟩) n cap) n (u64s (cut m (p.take k) ++ p.drop k)) ∧ Below w.heap.size w wr) (fun i _ => n - (intOf i).toNat)
    case atStart => exact ⟨0, by omega, rfl, by simpa [cut] using ho, hb⟩
    case round =>
      obtain ⟨k, hk, rfl, hoR, hbR⟩ := hrel
      clear ho hb
      by_cases hlt : k < n
      · obtain ⟨z, hz, hzl⟩ := hp.z_ hlt
        have hc := (hoR.cellAt k (by omega)).trans (u64s_at p m k z hz)
        have hf := hoR.frozenAt k
        have hst := hide (hoR.stored k (.int .u64 (cutc m z : Nat)))
        have hab := and_above m z hzl
        have HZ := hide hz
        clear hz hoR
        go_wp2
        go_still_tail 8, (by kernel_rfl)
        still_call (still_of (zb_above m hm _))
        repeat still_step
        refine wpStill_nil ?_
        change wpList _ _ _ _ _ wr.drew
        go_wp2
        go_roundw
        case rel =>
          refine ⟨k + 1, by omega, by go_num, ?_, ?_⟩
          · rw [u64_and_nat z (aboveN m) hzl (Nat.mod_lt _ (by omega)), hab]
            have := hst.out.1
            rw [u64s_set p m k z HZ.out] at this
            exact this.drew
          · exact (hbR.setCell (p := ⟨g, k, none⟩) hg1 _).drew
        case measure => simp [intOf]; omega
      · have hk' : k = n := by omega
        subst hk'
        go_wp2
        go_ret2
        refine ⟨_, rfl, ?_, hbR⟩
        have hl := HL.out
        rw [List.take_of_length_le (by omega), List.drop_of_length_le (by omega), List.append_nil] at hoR
        exact hoR
  · have e2 : (((m : Int) - 1) != -1) = false := by simp; omega
    go_enter Try.func65, Try.ntmps65
    go_wp2_with (first | (go_at_call 60; refine (zb_right _ _ _ _).mono ?_; rintro e w' ⟨rfl, rfl⟩) | (go_at_call 69; refine (zb_level _ _).mono ?_; rintro e w' ⟨rfl, rfl⟩) | (go_at_call 50; refine (clone_u64 _ _ _ p _ hp (by omega)).mono ?_; rintro e w1 ⟨v, rfl, ho, hb⟩; obtain ⟨g, cap, hv, hg1, hg2⟩ := ho.form (by omega); subst hv))
    go_loopw [24] (fun i wr => ∃ (k : Nat), k ≤ n ∧ i = .int .i64 k ∧ wr.ownsRow w.heap.size 36 1 (.slice (some ⟨g, 0, none⟩) n cap) n (u64s (cut m (p.take k) ++ p.drop k)) ∧ Below w.heap.size w wr) (fun i _ => n - (intOf i).toNat)
    case atStart => exact ⟨0, by omega, rfl, by simpa [cut] using ho, hb⟩
    case round =>
      obtain ⟨k, hk, rfl, hoR, hbR⟩ := hrel
      clear ho hb
      by_cases hlt : k < n
      · obtain ⟨z, hz, hzl⟩ := hp.z_ hlt
        have hc := (hoR.cellAt k (by omega)).trans (u64s_at p m k z hz)
        have hf := hoR.frozenAt k
        have hst := hide (hoR.stored k (.int .u64 (cutc m z : Nat)))
        have hab := and_above m z hzl
        have HZ := hide hz
        clear hz hoR
        go_wp2
        go_still_tail 8, (by kernel_rfl)
        still_call (still_of (zb_above m hm _))
        repeat still_step
        refine wpStill_nil ?_
        change wpList _ _ _ _ _ wr.drew
        go_wp2
        go_roundw
        case rel =>
          refine ⟨k + 1, by omega, by go_num, ?_, ?_⟩
          · rw [u64_and_nat z (aboveN m) hzl (Nat.mod_lt _ (by omega)), hab]
            have := hst.out.1
            rw [u64s_set p m k z HZ.out] at this
            exact this.drew
          · exact (hbR.setCell (p := ⟨g, k, none⟩) hg1 _).drew
        case measure => simp [intOf]; omega
      · have hk' : k = n := by omega
        subst hk'
        go_wp2
        go_ret2
        refine ⟨_, rfl, ?_, hbR⟩
        have hl := HL.out
        rw [List.take_of_length_le (by omega), List.drop_of_length_le (by omega), List.append_nil] at hoR
        exact hoR
end Go.Proofs.Ytfoapkcgdkfggaa
set_option linter.unusedSimpArgs false
set_option linter.unusedVariables false
namespace Go.Proofs.Ytfoapkcgdkfggaa
open Go.RowKit
/-- A kid: where it hangs, its block, its level, its prefix, its entries. -/
structure Kid where
  at_ : Nat
  blk : Nat
  lv : Int
  pre : List Nat
  es : List Ent
def kidTh (ks : List Kid) : Th := ks.map fun q => (q.at_, Value.pointer (some ⟨q.blk, 0, none⟩))
def kidEs (ks : List Kid) : List Ent := ks.flatMap (·.es)
/-- The node's block. -/
def nodeCells (lv : Int) (A : Option Addr) (k c : Nat) (v : Nat) (kids : Option Addr) (s : Sum4) : Array Value :=
  #[.int .i64 lv, .slice A k c, .int .u64 (v : Int), .pointer kids, .int .u64 (s.c : Int), .int .u64 (s.s : Int), .int .u64 (s.mn : Int), .int .u64 (s.mx : Int)]
/-- Block g is a node of k coordinates, with level, prefix and entries. -/
inductive NodeOf (w : World) (k : Nat) : Nat → Int → List Nat → List Ent → Prop
  | leaf {g : Nat} {A : Option Addr} {c : Nat} {p : List Nat} {v : Nat} (hv : v < 2 ^ 64) (hp : Pt w A k p) (hc : k ≤ c)
      (hB : Blk w g 103 (nodeCells (-1) A k c v none ⟨1, v, v, v⟩)) : NodeOf w k g (-1) p [(p, v)]
  | fork {g : Nat} {A : Option Addr} {c lv : Nat} {pre : List Nat} {gs : Nat} (ks : List Kid) (hlv : lv < 64) (hp : Pt w A k pre) (hc : k ≤ c)
      (hz : ∀ b, b ≤ lv → addrOf pre b = 0) (hk : ∀ q ∈ ks, NodeOf w k q.blk q.lv q.pre q.es) (hl : ∀ q ∈ ks, q.lv < lv)
      (ha : ∀ q ∈ ks, addrOf q.pre lv = q.at_ ∧ ∀ b, lv < b → addrOf q.pre b = addrOf pre b) (hs : ks.Pairwise fun q r => q.at_ < r.at_) (h2 : 2 ≤ ks.length)
      (hS : SlotsAt_n w gs k (kidTh ks)) (hB : Blk w g 103 (nodeCells lv A k c 0 (some ⟨gs, 0, none⟩) (sumsOf (kidEs ks)))) : NodeOf w k g lv pre (kidEs ks)
theorem NodeOf.stay {w w' : World} {k g : Nat} {lv : Int} {pre : List Nat} {es : List Ent} (h : NodeOf w k g lv pre es) (hb : Below w.heap.size w w') : NodeOf w' k g lv pre es := by
  induction h with
  | leaf hv hp hc hB => exact .leaf hv (hp.below hb) hc (hB.below hb)
  | fork ks hlv hp hc hz hk hl ha hs h2 hS hB ih => exact .fork ks hlv (hp.below hb) hc hz ih hl ha hs h2 (hS.below hb) (hB.below hb)
theorem Pt.zp {w : World} {A : Option Addr} {k : Nat} {p : List Nat} (h : Pt w A k p) : Zp k p := ⟨h.1, h.2.2⟩
/-- What is told of a node's entries. -/
theorem NodeOf.info {w : World} {k g : Nat} {lv : Int} {pre : List Nat} {es : List Ent} (h : NodeOf w k g lv pre es) :
    Zp k pre ∧ es ≠ [] ∧ -1 ≤ lv ∧ lv < 64 ∧ (∀ e ∈ es, Zp k e.1 ∧ e.2 < 2 ^ 64 ∧ ∀ b : Nat, lv < b → addrOf e.1 b = addrOf pre b) ∧ Zsorted es ∧ g < w.heap.size := by
  induction h with
  | leaf hv hp hc hB =>
    refine ⟨hp.zp, by simp, by omega, by omega, fun e he => ?_, List.pairwise_singleton _ _, hB.lt⟩
    rw [List.mem_singleton] at he
    subst he
    exact ⟨hp.zp, hv, fun _ _ => rfl⟩
  | @fork g A c lv pre gs ks hlv hp hc hz hk hl ha hs h2 hS hB ih =>
    refine ⟨hp.zp, ?_, by omega, by omega, fun e he => ?_, ?_, hB.lt⟩
    · obtain ⟨q, qs, rfl⟩ := List.exists_cons_of_length_pos (show 0 < ks.length by omega)
      have := (ih q List.mem_cons_self).2.1
      unfold kidEs
      rw [List.flatMap_cons]
      intro h0
      exact this (List.append_eq_nil_iff.1 h0).1
    · obtain ⟨q, hq, he⟩ := List.mem_flatMap.1 he
      obtain ⟨i1, i2, i3, i4, i5, i6⟩ := ih q hq
      obtain ⟨j1, j2, j3⟩ := i5 e he
      refine ⟨j1, j2, fun b hb => ?_⟩
      rw [j3 b (by have := hl q hq; omega)]
      exact (ha q hq).2 b (by omega)
    · unfold kidEs Zsorted
      rw [List.pairwise_flatMap]
      refine ⟨fun q hq => (ih q hq).2.2.2.2.2.1, ?_⟩
      refine hs.imp_of_mem ?_
      intro q r hq hr hqr e he f hf
      obtain ⟨_, _, _, _, i5, _⟩ := ih q hq
      obtain ⟨_, _, _, _, k5, _⟩ := ih r hr
      refine ⟨lv, fun b hb => ?_, ?_⟩
      · rw [(i5 e he).2.2 b (by have := hl q hq; omega), (k5 f hf).2.2 b (by have := hl r hr; omega), (ha q hq).2 b hb, (ha r hr).2 b hb]
      · rw [(i5 e he).2.2 lv (hl q hq), (k5 f hf).2.2 lv (hl r hr), (ha q hq).1, (ha r hr).1]
        exact hqr
/-- A node's own block. -/
theorem NodeOf.head {w : World} {k g : Nat} {lv : Int} {pre : List Nat} {es : List Ent} (h : NodeOf w k g lv pre es) :
    ∃ A c v kids, Blk w g 103 (nodeCells lv A k c v kids (sumsOf es)) ∧ Pt w A k pre ∧ k ≤ c ∧
      ((kids = none ∧ lv = -1 ∧ es = [(pre, v)]) ∨
       (v = 0 ∧ ∃ (gs : Nat) (m : Nat) (ks : List Kid), kids = some ⟨gs, 0, none⟩ ∧ lv = (m : Int) ∧ m < 64 ∧ es = kidEs ks ∧ SlotsAt_n w gs k (kidTh ks) ∧ 2 ≤ ks.length ∧ (∀ b, b ≤ m → addrOf pre b = 0) ∧ (ks.Pairwise fun q r => q.at_ < r.at_) ∧
        ∀ q ∈ ks, NodeOf w k q.blk q.lv q.pre q.es ∧ q.lv < lv ∧ addrOf q.pre m = q.at_ ∧ ∀ b, m < b → addrOf q.pre b = addrOf pre b)) := by
  cases h with
  | leaf hv hp hc hB =>
    refine ⟨_, _, _, none, ?_, hp, hc, .inl ⟨rfl, rfl, rfl⟩⟩
    rw [sumsOf_one _ _ hv]
    exact hB
  | fork ks hlv hp hc hz hk hl ha hs h2 hS hB =>
    exact ⟨_, _, 0, _, hB, hp, hc, .inr ⟨rfl, _, _, ks, rfl, rfl, hlv, rfl, hS, h2, hz, hs, fun q hq => ⟨hk q hq, hl q hq, ha q hq⟩⟩⟩
set_option maxHeartbeats 1000000 in
set_option maxRecDepth 100000 in
theorem nd_level {w : World} {k g : Nat} {lv : Int} {pre : List Nat} {es : List Ent} (h : NodeOf w k g lv pre es) :
    Calls Try.prog 45 #[.pointer (some ⟨g, 0, none⟩)] w fun e w' => e = .returned (.int .i64 lv) ∧ w = w' := by
  obtain ⟨A, c, v, kids, hB, -⟩ := h.head
  have c1 := hB.cell 0
  simp [nodeCells] at c1
  clear hB h
  go_enter Try.func45, Try.ntmps45
  go_wp2
  go_ret
  exact ⟨rfl, rfl⟩
set_option maxHeartbeats 1000000 in
set_option maxRecDepth 100000 in
theorem nd_slots {w : World} {g : Nat} {lv : Int} {A : Option Addr} {k c v : Nat} {kids : Option Addr} {s : Sum4} (hB : Blk w g 103 (nodeCells lv A k c v kids s)) :
    Calls Try.prog 53 #[.pointer (some ⟨g, 0, none⟩)] w fun e w' => e = .returned (.pointer kids) ∧ w = w' := by
  have c1 := hB.cell 3
  simp [nodeCells] at c1
  clear hB
  go_enter Try.func53, Try.ntmps53
  go_wp2
  go_ret
  exact ⟨rfl, rfl⟩
set_option maxHeartbeats 1000000 in
set_option maxRecDepth 100000 in
theorem nd_at {w : World} {k g : Nat} {lv : Int} {pre : List Nat} {es : List Ent} (h : NodeOf w k g lv pre es) (hk1 : 1 ≤ k) (hk : k ≤ 16) (m : Nat) (hm : m < 64) :
    Calls Try.prog 64 #[.pointer (some ⟨g, 0, none⟩), .int .i64 (m : Nat)] w fun e w' => e = .returned (.int .i64 (addrOf pre m : Nat)) ∧ w = w' := by
  obtain ⟨A, c, v, kids, hB, hp, -⟩ := h.head
  have c1 := hB.cell 1
  simp [nodeCells] at c1
  have HC := hide (zb_addr A k pre c m w hp hk1 hk hm)
  clear hB h hp
  go_enter Try.func64, Try.ntmps64
  go_wp2_with fail
  refine HC.out.mono ?_
  rintro e w1 ⟨rfl, rfl⟩
  go_wp2
  go_ret
  exact ⟨rfl, rfl⟩
set_option maxHeartbeats 1000000 in
set_option maxRecDepth 100000 in
theorem nd_covers {w : World} {k g : Nat} {lv : Int} {pre : List Nat} {es : List Ent} (h : NodeOf w k g lv pre es) (hk1 : 1 ≤ k) (hk : k ≤ 16) {B : Option Addr} {d : Nat} {q : List Nat} (hq : Pt w B k q) :
    Calls Try.prog 48 #[.pointer (some ⟨g, 0, none⟩), .slice B k d] w fun e w' => e = .returned (.bool (decide (part pre q ≤ lv))) ∧ w = w' := by
  obtain ⟨A, c, v, kids, hB, hp, -⟩ := h.head
  have c0 := hB.cell 0
  have c1 := hB.cell 1
  simp [nodeCells] at c0 c1
  have HC := hide (zb_part A B k c d pre q w hp hq hk1 hk)
  clear hB h hp hq
  go_enter Try.func48, Try.ntmps48
  go_wp2_with fail
  refine HC.out.mono ?_
  rintro e w1 ⟨rfl, rfl⟩
  go_wp2
  go_ret
  exact ⟨rfl, rfl⟩
set_option maxHeartbeats 1000000 in
set_option maxRecDepth 100000 in
theorem nd_leaf (A : Option Addr) (n c : Nat) (p : List Nat) (v : Nat) (w : World) (hp : Pt w A n p) (hv : v < 2 ^ 64) (h1 : 1 ≤ n) (h2 : n ≤ 16) :
    Calls Try.prog 39 #[.slice A n c, .int .u64 (v : Int)] w fun e w' => ∃ g, e = .returned (.tuple #[.pointer (some ⟨g, 0, none⟩), .int .i64 0]) ∧ NodeOf w' n g (-1) p [(p, v)] ∧ w.heap.size ≤ g ∧ Below w.heap.size w w' := by
  have HC := zb_right A n c w
  rw [show rightB n = true by unfold rightB; simp; omega] at HC
  have HC' := hide HC
  have HD := hide (clone_u64 A n c p w hp (by omega))
  have HP := hide hp
  clear HC hp
  go_enter Try.func39, Try.ntmps39
  go_wp2_with fail
  refine HC'.out.mono ?_
  rintro e w1 ⟨rfl, rfl⟩
  go_wp2_with fail
  refine HD.out.mono ?_
  rintro e w2 ⟨v2, rfl, ho, hb⟩
  obtain ⟨A2, c2, rfl, hc2, hR⟩ := Rw.of_own ho
  have HR := hide hR
  clear ho hR
  go_wp2
  go_ret2
  have b3 := (Below.refl w2.heap.size w2).alloc (Nat.le_refl _) (.cells (nodeCells (-1) A2 n c2 v none ⟨1, v, v, v⟩) 103)
  refine ⟨_, rfl, .leaf hv ⟨HP.out.1, HR.out.below b3, HP.out.2.2⟩ hc2 (Blk.new w2 _ _), hb.size, below_then hb b3⟩
/-- The row lies in a block of this type. -/
def TyRow (w : World) (e : TypeId) (A : Option Addr) (n : Nat) : Prop := 0 < n → ∃ b o cs fr, A = some ⟨b, o, none⟩ ∧ w.heap[b]? = some (.cells cs e fr)
theorem TyRow.below {w w' : World} {e : TypeId} {A : Option Addr} {n : Nat} (h : TyRow w e A n) (hb : Below w.heap.size w w') : TyRow w' e A n := by
  intro hn
  obtain ⟨b, o, cs, fr, h1, h2⟩ := h hn
  have hlt : b < w.heap.size := by
    rcases Nat.lt_or_ge b w.heap.size with h3 | h3
    · exact h3
    · rw [Array.getElem?_eq_none h3] at h2
      cases h2
  exact ⟨b, o, cs, fr, h1, (hb.block b hlt).trans h2⟩
/-- A row of one cell an element, read at i. -/
theorem Rw.one {w : World} {A : Option Addr} {n i : Nat} {vs : List Value} (h : Rw w 1 A n vs) (hi : i < n) : ∃ b o, A = some ⟨b, o, none⟩ ∧ b < w.heap.size ∧ ∃ u, vs[i]? = some u ∧ w.cell? ⟨b, o + i, none⟩ = some u := by
  obtain ⟨b, o, e, hb, hc⟩ := h.at_ (by omega)
  have hl := h.1
  have : i < vs.length := by omega
  exact ⟨b, o, e, hb, vs[i], by simp [this], hc i _ (by simp [this])⟩
theorem run_slice_to {P : Program} {t e sz : Nat} (ht : P.underlying t = some (.slice e)) (hz : ∀ w, (sizeOf e).run P w = .ok sz w) (A : Option Addr) (n c j : Nat) (hj : j ≤ c) (w : World) :
    (Instr.slice t (.slice A n c) none (some (.int .i64 (j : Int))) none).run P w = .ok (.slice A j c) w := by
  have h0 : (0 : Int) ≤ (j : Int) := by omega
  have h1 : (j : Int) ≤ (c : Int) := by omega
  rcases A with _ | A
  · simp [Instr.slice, run_underlying ht, Instr.sliceBounds, Instr.sliceBound, asIntOf, h0, h1, hz, Addr.add]
    intro h
    omega
  · simp [Instr.slice, run_underlying ht, Instr.sliceBounds, Instr.sliceBound, asIntOf, h0, h1, hz, Addr.add]
    intro h
    omega
theorem Rw.cut {w : World} {sz n i c : Nat} {A : Option Addr} {vs : List Value} (h : Rw w sz A n vs) (hi : i ≤ n) (hc : n ≤ c) : Rw w sz (cutA A c sz i) (n - i) (vs.drop (i * sz)) := by
  refine ⟨by rw [List.length_drop, h.1, Nat.sub_mul], fun hp => ?_⟩
  obtain ⟨b, o, rfl, hb, hcl⟩ := h.2 (by omega)
  refine ⟨b, o + i * sz, ?_, hb, fun j u hu => ?_⟩
  · unfold cutA
    rw [if_neg (by omega)]
    by_cases h0 : i * sz = 0 <;> simp [Addr.add, h0]
  · rw [List.getElem?_drop] at hu
    rw [Nat.add_assoc]
    exact hcl _ _ hu
section
variable {P : Program} (w : World)
/-- .. at a plain region's list. -/
theorem app_b {ops : Array Oper} {rest : List Oper} {o : Oper} {a : Act} {Q : Exit → Act → World → Prop} (hgd : o.guard = none) (s x : Operand) (t : TypeId)
    (ho : o.op = .call { callee := .builtin .append, args := #[s, x], argTypes := #[t, t] })
    (base : Nat) (e : TypeId) (z : Value) (size bytes : Nat) (ht : P.underlying t = some (.slice e)) (hinfo : (P.info? e).map (fun i => (i.zero, i.size, i.bytes)) = some (some z, size, bytes)) (hzs : z.cells.size = size) (hsz : 0 < size)
    (v : Value) (n : Nat) (xs : List Value) (hs : a.eval s = v) (hown : w.ownsRow base e size v n xs)
    (A : Option Addr) (m c : Nat) (news : List Value) (hx : a.eval x = .slice A m c) (w0 : World) (hb : Below base w0 w) (hbase : base ≤ w0.heap.size) (hr : Rw w size A m news) (h1 : ∀ u ∈ news, u.oneCell' = true)
    (h63 : n + m ≤ maxLen) (hbytes : (n + m) * bytes ≤ 140737488355328)
    (h : ∀ v' w', w'.ownsRow base e size v' (n + m) (xs ++ news) → Below base w0 w' → w.grownBy w' v.ownBlock → wpList P ops Q rest (a.put o.dst v') w') : wpList P ops Q (o :: rest) a w := by
  obtain ⟨i, hi, hz, hsize, hby⟩ := info_parts hinfo
  exact wpList_append_any w hgd s x t ho base e i z size bytes ht hi hz hsize hby hzs hsz v n xs hs hown A m c news hx hr h1 h63 hbytes (Nat.le_trans hbase hb.size) fun v' w' g1 g2 _ => h v' w' g1 (below_own hb g2 (Nat.le_trans hbase hb.size) (own_base hown)) g2
end
/-- One new element, laid into a block of its own. -/
theorem Rw.new1 (w : World) (e : TypeId) (cs : Array Value) {sz : Nat} (h : cs.size = sz) : Rw (w.alloc (.cells cs e)) sz (some ⟨w.heap.size, 0, none⟩) 1 cs.toList :=
  Rw.of_blk (t := e) (cs := cs) (Blk.new w e cs) (by simpa using h) (fun j u hu => by simpa using hu)
theorem Blk.set1 {w : World} {g i : Nat} {t : TypeId} {cs : Array Value} (h : Blk w g t cs) (u : Value) : Blk (w.setCell ⟨g, i, none⟩ u) g t (cs.setIfInBounds i u) := by
  unfold Blk at *
  simp only [World.setCell, Array.getElem?_modify, h]
  simp
theorem own_rw {w : World} {base : Nat} {e : TypeId} {size n : Nat} {A : Option Addr} {c : Nat} {xs : List Value} (h : w.ownsRow base e size (.slice A n c) n xs) : n ≤ c ∧ Rw w size A n xs := by
  obtain ⟨A', c', hv, hl, hR⟩ := Rw.of_own h
  injection hv with h1 h2 h3
  subst h1 h3
  exact ⟨hl, hR⟩
theorem own_ty {w : World} {base : Nat} {e : TypeId} {size n : Nat} {A : Option Addr} {c : Nat} {xs : List Value} (h : w.ownsRow base e size (.slice A n c) n xs) : TyRow w e A n := by
  intro hn
  rcases h.2 with ⟨_, h0⟩ | ⟨g, cap, cur, hv, _, hg, _⟩
  · omega
  · injection hv with h1 h2 h3
    exact ⟨g, 0, cur, (0, 0), h1, hg⟩
set_option maxHeartbeats 1000000 in
set_option maxRecDepth 100000 in
theorem nd_kid {w : World} {g : Nat} {lv : Int} {A : Option Addr} {k c v : Nat} {s : Sum4} {gs : Nat} {L : Th} (hB : Blk w g 103 (nodeCells lv A k c v (some ⟨gs, 0, none⟩) s)) (hS : SlotsAt_n w gs k L) (addr : Int) :
    Calls Try.prog 35 #[.pointer (some ⟨g, 0, none⟩), .int .i64 addr] w fun e w' => e = .returned ((getTh L addr).getD (.pointer none)) ∧ Below w.heap.size w w' := by
  have HC := hide (nd_slots hB)
  have HG := hide (get_n gs k L addr w hS)
  generalize (getTh L addr).getD (.pointer none) = x at HG ⊢
  generalize (getTh L addr).isSome = b at HG
  clear hB hS
  go_enter Try.func35, Try.ntmps35
  go_wp2_with fail
  refine HC.out.mono ?_
  rintro e w1 ⟨rfl, rfl⟩
  go_wp2_with fail
  refine HG.out.mono ?_
  rintro e w1 ⟨rfl, hb⟩
  go_wp2
  go_ret
  exact ⟨rfl, hb⟩
set_option maxHeartbeats 1000000 in
set_option maxRecDepth 100000 in
theorem nd_from {w : World} {g : Nat} {lv : Int} {A : Option Addr} {k c v : Nat} {s : Sum4} {gs : Nat} {L : Th} (hB : Blk w g 103 (nodeCells lv A k c v (some ⟨gs, 0, none⟩) s)) (hS : SlotsAt_n w gs k L) (addr : Int) :
    Calls Try.prog 43 #[.pointer (some ⟨g, 0, none⟩), .int .i64 addr] w fun e w' => (∃ (a : Nat) (x : Value), e = .returned (.tuple #[.int .i64 a, x]) ∧ (fromTh L addr = some (a, x) ∨ (fromTh L addr = none ∧ a = 0 ∧ x = .pointer none))) ∧ Below w.heap.size w w' := by
  have HC := hide (nd_slots hB)
  have HG := hide (from_n gs k L addr w hS)
  clear hB hS
  go_enter Try.func43, Try.ntmps43
  go_wp2_with fail
  refine HC.out.mono ?_
  rintro e w1 ⟨rfl, rfl⟩
  go_wp2_with fail
  refine HG.out.mono ?_
  rintro e w1 ⟨⟨a, x, ok, rfl, h1, h2⟩, hb⟩
  have H1 := hide h1
  have H2 := hide h2
  clear h1 h2
  go_wp2
  go_ret2
  refine ⟨⟨a, x, rfl, ?_⟩, hb⟩
  cases ok with
  | true => exact .inl (H1.out rfl)
  | false => exact .inr (H2.out rfl)
set_option maxHeartbeats 1000000 in
set_option maxRecDepth 100000 in
theorem nd_from_leaf {w : World} {g : Nat} {lv : Int} {A : Option Addr} {k c v : Nat} {s : Sum4} (hB : Blk w g 103 (nodeCells lv A k c v none s)) (addr : Int) :
    Calls Try.prog 43 #[.pointer (some ⟨g, 0, none⟩), .int .i64 addr] w fun e w' => e = .returned (.tuple #[.int .i64 0, .pointer none]) ∧ w = w' := by
  have HC := hide (nd_slots hB)
  have HG := hide (from_nil_n addr w)
  clear hB
  go_enter Try.func43, Try.ntmps43
  go_wp2_with fail
  refine HC.out.mono ?_
  rintro e w1 ⟨rfl, rfl⟩
  go_wp2_with fail
  refine HG.out.mono ?_
  rintro e w1 ⟨rfl, rfl⟩
  go_wp2
  go_ret2
  exact ⟨rfl, rfl⟩
set_option maxHeartbeats 1000000 in
set_option maxRecDepth 100000 in
theorem nd_covers_nil (A : Option Addr) (n c : Nat) (w : World) : Calls Try.prog 48 #[.pointer none, .slice A n c] w fun e w' => e = .returned (.bool false) ∧ w = w' := by
  go_enter Try.func48, Try.ntmps48
  go_wp2
  go_ret
  exact ⟨rfl, rfl⟩
theorem cell_far1 {w : World} {b g i l : Nat} {u : Value} (hne : g ≠ b) : (w.setCell ⟨b, i, none⟩ u).cell? ⟨g, l, none⟩ = w.cell? ⟨g, l, none⟩ :=
  World.cell?_of_block (w := w) (Below.heap_setCell w ⟨b, i, none⟩ u g hne)
theorem cell_far2 {w : World} {b g i j l : Nat} {u v : Value} (hne : g ≠ b) : ((w.setCell ⟨b, i, none⟩ u).setCell ⟨b, j, none⟩ v).cell? ⟨g, l, none⟩ = w.cell? ⟨g, l, none⟩ :=
  (cell_far1 hne).trans (cell_far1 hne)
def Sum4.val (s : Sum4) : Value := .agg #[.int .u64 (s.c : Int), .int .u64 (s.s : Int), .int .u64 (s.mn : Int), .int .u64 (s.mx : Int)]
set_option maxHeartbeats 1000000 in
set_option maxRecDepth 100000 in
theorem nd_entry_fork {w : World} {g : Nat} {lv : Int} {A : Option Addr} {k c v gs : Nat} {s : Sum4} (hB : Blk w g 103 (nodeCells lv A k c v (some ⟨gs, 0, none⟩) s)) :
    Calls Try.prog 59 #[.pointer (some ⟨g, 0, none⟩)] w fun e w' => e = .returned (.tuple #[.agg #[.slice none 0 0, .int .u64 0], .bool false]) ∧ Below w.heap.size w w' := by
  have c3 := (hB.alloc (.cells #[.slice none 0 0, .int .u64 0] 84)).cell 3
  simp [nodeCells] at c3
  clear hB
  go_enter Try.func59, Try.ntmps59
  go_wp2
  refine bodyPost_ret (v := .tuple #[.agg #[.slice none 0 0, .int .u64 0], .bool false]) (by simp [results, Try.results59, go_sem]) rfl ⟨rfl, ?_⟩
  exact below_alloc (Below.refl _ _) (Nat.le_refl _) _
set_option maxHeartbeats 1000000 in
set_option maxRecDepth 100000 in
theorem nd_entry_leaf {w : World} {g : Nat} {lv : Int} {A : Option Addr} {k c v : Nat} {s : Sum4} {p : List Nat} (hB : Blk w g 103 (nodeCells lv A k c v none s)) (hp : Pt w A k p) (hk : k ≤ 16) :
    Calls Try.prog 59 #[.pointer (some ⟨g, 0, none⟩)] w fun e w' => ∃ B d, e = .returned (.tuple #[.agg #[.slice B k d, .int .u64 (v : Int)], .bool true]) ∧ w'.ownsRow (w.heap.size + 1) 36 1 (.slice B k d) k (u64s p) ∧ Below w.heap.size w w' := by
  have b1 := (Below.refl w.heap.size w).alloc (Nat.le_refl _) (.cells #[.slice none 0 0, .int .u64 0] 84)
  have hB1 := hB.alloc (.cells #[.slice none 0 0, .int .u64 0] 84)
  have hN1 := Blk.new w 84 #[.slice none 0 0, .int .u64 0]
  have hp1 := hp.below b1
  have hs1 : (w.alloc (.cells #[.slice none 0 0, .int .u64 0] 84)).heap.size = w.heap.size + 1 := by simp
  have c3 := hB1.cell 3
  have c1 := hB1.cell 1
  have c2 := hB1.cell 2
  simp [nodeCells] at c1 c2 c3
  have hgl := hB.lt
  clear hB
  go_enter Try.func59, Try.ntmps59
  go_upto_region 3 with fail
  generalize w.alloc (.cells #[.slice none 0 0, .int .u64 0] 84) = w1 at *
  have hg1 : g < w1.heap.size := by omega
  go_region_held3 (fun w' => w'.cell? ⟨g, 1, none⟩ = some (.slice A k c) ∧ w'.cell? ⟨g, 2, none⟩ = some (.int .u64 (v : Int)))
    (first
      | go_keep
      | exact hk2
      | exact hk3)
    (first
      | (go_at_call 50
         refine (clone_u64 A k c p w1.drew (hp1.below (Below.refl _ w1).drew) (by omega)).mono ?_
         rintro e w2 ⟨v2, rfl, ho2, hb2⟩
         have hc2 : Below w1.heap.size w1 w2 := (Below.refl _ w1).drew.trans hb2
         obtain ⟨B, d, rfl, -, -⟩ := Rw.of_own ho2
         have hk2 : w2.cell? ⟨g, 1, none⟩ = some (.slice A k c) ∧ w2.cell? ⟨g, 2, none⟩ = some (.int .u64 (v : Int)) := ⟨(hc2.cell (p := ⟨g, 1, none⟩) hg1).trans c1, (hc2.cell (p := ⟨g, 2, none⟩) hg1).trans c2⟩
         have hN2 := hN1.below hc2
         have y0 := hN2.cell 0
         have y1 := hN2.cell 1
         have z0 := hN2.frozen 0
         have z1 := hN2.frozen 1
         try simp at y0 y1
         have hne : g ≠ w.heap.size := by omega
         have hk3 : ((w2.setCell ⟨w.heap.size, 0, none⟩ (.slice B k d)).setCell ⟨w.heap.size, 1, none⟩ (.int .u64 (v : Int))).cell? ⟨g, 1, none⟩ = some (.slice A k c) ∧ ((w2.setCell ⟨w.heap.size, 0, none⟩ (.slice B k d)).setCell ⟨w.heap.size, 1, none⟩ (.int .u64 (v : Int))).cell? ⟨g, 2, none⟩ = some (.int .u64 (v : Int)) :=
           ⟨(cell_far2 hne).trans hk2.1, (cell_far2 hne).trans hk2.2⟩))
  have e3 : Blk ((w2.setCell ⟨w.heap.size, 0, none⟩ (.slice B k d)).setCell ⟨w.heap.size, 1, none⟩ (.int .u64 (v : Int))) w.heap.size 84 #[.slice B k d, .int .u64 (v : Int)] := (hN2.set1 _).set1 _
  have b3 : Below w.heap.size w ((w2.setCell ⟨w.heap.size, 0, none⟩ (.slice B k d)).setCell ⟨w.heap.size, 1, none⟩ (.int .u64 (v : Int))) := ((below_then b1 hc2).setCell (Nat.le_refl _) _).setCell (Nat.le_refl _) _
  have o3 : ((w2.setCell ⟨w.heap.size, 0, none⟩ (.slice B k d)).setCell ⟨w.heap.size, 1, none⟩ (.int .u64 (v : Int))).ownsRow (w.heap.size + 1) 36 1 (.slice B k d) k (u64s p) := by
    have hd : w1.drew.heap.size = w.heap.size + 1 := hs1
    rw [hd] at ho2
    exact ownsRow_setCell_below (ownsRow_setCell_below ho2 (a := ⟨w.heap.size, 0, none⟩) (by simp) _) (a := ⟨w.heap.size, 1, none⟩) (by simp) _
  generalize (w2.setCell ⟨w.heap.size, 0, none⟩ (.slice B k d)).setCell ⟨w.heap.size, 1, none⟩ (.int .u64 (v : Int)) = w3 at *
  have g0 := e3.cell 0
  have g1 := e3.cell 1
  try simp at g0 g1
  have HO := hide o3
  clear o3 ho2 y0 y1 z0 z1 hk2 hk3
  go_wp2
  refine bodyPost_ret (v := .tuple #[.agg #[.slice B k d, .int .u64 (v : Int)], .bool true]) (by simp [results, Try.results59, go_sem, g0, g1]) rfl ⟨B, d, rfl, HO.out, b3⟩
end Go.Proofs.Ytfoapkcgdkfggaa
set_option linter.unusedSimpArgs false
set_option linter.unusedVariables false
namespace Go.Proofs.Ytfoapkcgdkfggaa
section
open Go.RowKit
end
section
open Go.RowKit
end
section
open Go.RowKit
/-- An entry in memory: its point's slice, the point, the value. -/
structure ER where
  A : Option Addr
  n : Nat
  c : Nat
  p : List Nat
  v : Nat
def entv (r : ER) : List Value := [.slice r.A r.n r.c, .int .u64 (r.v : Int)]
def ER.e (r : ER) : Ent := (r.p, r.v)
theorem entv_len (r : ER) : (entv r).length = 2 := rfl
def ER.ok (w : World) (r : ER) : Prop := Pt w r.A r.n r.p ∧ r.n ≤ r.c ∧ r.c ≤ maxLen ∧ r.v < 2 ^ 64
/-- A slice of entries. -/
def EntsAt (w : World) (A : Option Addr) (n : Nat) (rows : List ER) : Prop := Rw w 2 A n (rows.flatMap entv) ∧ ∀ r ∈ rows, r.ok w
def ents (rows : List ER) : List Ent := rows.map ER.e
section
variable {w w' : World} {A : Option Addr} {n : Nat} {rows : List ER}
theorem ER.ok.below {r : ER} (h : r.ok w) (hb : Below w.heap.size w w') : r.ok w' := ⟨h.1.below hb, h.2⟩
theorem EntsAt.below (h : EntsAt w A n rows) (hb : Below w.heap.size w w') : EntsAt w' A n rows := ⟨h.1.below hb, fun r hr => (h.2 r hr).below hb⟩
theorem EntsAt.len (h : EntsAt w A n rows) : rows.length = n := by
  have := h.1.1
  rw [flat_length entv_len] at this
  omega
theorem EntsAt.at_ {i : Nat} (h : EntsAt w A n rows) (hi : i < n) :
    ∃ b o r, A = some ⟨b, o, none⟩ ∧ b < w.heap.size ∧ rows[i]? = some r ∧ r.ok w ∧ w.cell? ⟨b, o + i * 2, none⟩ = some (.slice r.A r.n r.c) ∧ w.cell? ⟨b, o + i * 2 + 1, none⟩ = some (.int .u64 (r.v : Int)) := by
  obtain ⟨b, o, r, hA, hb, hr, hc⟩ := h.1.elem entv_len hi (by omega)
  exact ⟨b, o, r, hA, hb, hr, h.2 r (List.mem_of_getElem? hr), hc 0 _ rfl, by rw [Nat.add_assoc]; exact hc 1 _ rfl⟩
end
end
section
open Go.RowKit
section
open Go.RowKit Go.ChangeShapes Go.WideShapes Go.Deep
end
theorem pt_nil (w : World) : Pt w none 0 [] := ⟨rfl, Rw.nil _ _ _, fun x h => by cases h⟩
/-- An act: a point loses or gets a value. -/
structure TA where
  d : Bool
  A : Option Addr
  n : Nat
  c : Nat
  p : List Nat
  v : Nat
def tav (r : TA) : List Value := [.bool r.d, .slice r.A r.n r.c, .int .u64 (r.v : Int)]
theorem tav_len (r : TA) : (tav r).length = 3 := rfl
def TA.ok (w : World) (r : TA) : Prop := Pt w r.A r.n r.p ∧ r.n ≤ r.c ∧ r.c ≤ maxLen ∧ r.v < 2 ^ 64
theorem TA.ok.below {w w' : World} {r : TA} (h : r.ok w) (hb : Below w.heap.size w w') : r.ok w' := ⟨h.1.below hb, h.2⟩
/-- A slice of acts. -/
def ActsAt (w : World) (A : Option Addr) (n : Nat) (rows : List TA) : Prop := Rw w 3 A n (rows.flatMap tav) ∧ ∀ r ∈ rows, r.ok w
section
variable {w w' : World} {A : Option Addr} {n : Nat} {rows : List TA}
theorem ActsAt.below (h : ActsAt w A n rows) (hb : Below w.heap.size w w') : ActsAt w' A n rows := ⟨h.1.below hb, fun r hr => (h.2 r hr).below hb⟩
theorem ActsAt.len (h : ActsAt w A n rows) : rows.length = n := by
  have := h.1.1
  rw [flat_length tav_len] at this
  omega
theorem ActsAt.at_ {i : Nat} (h : ActsAt w A n rows) (hi : i < n) :
    ∃ b o r, A = some ⟨b, o, none⟩ ∧ b < w.heap.size ∧ rows[i]? = some r ∧ r.ok w ∧ w.cell? ⟨b, o + i * 3, none⟩ = some (.bool r.d) ∧ w.cell? ⟨b, o + i * 3 + 1, none⟩ = some (.slice r.A r.n r.c) ∧ w.cell? ⟨b, o + i * 3 + 2, none⟩ = some (.int .u64 (r.v : Int)) := by
  obtain ⟨b, o, r, hA, hb, hr, hc⟩ := h.1.elem tav_len hi (by omega)
  exact ⟨b, o, r, hA, hb, hr, h.2 r (List.mem_of_getElem? hr), hc 0 _ rfl, by rw [Nat.add_assoc]; exact hc 1 _ rfl, by rw [Nat.add_assoc]; exact hc 2 _ rfl⟩
end
end
end Go.Proofs.Ytfoapkcgdkfggaa
set_option linter.unusedSimpArgs false
set_option linter.unusedVariables false
namespace Go.Proofs.Ytfoapkcgdkfggaa
open Go.RowKit
theorem kid_all {w : World} {gs k : Nat} {ks : List Kid} (h : SlotsAt_n w gs k (kidTh ks)) :
    Calls Try.prog 72 #[.pointer (some ⟨gs, 0, none⟩)] w fun e w' => ∃ v, e = .returned v ∧ w'.ownsRow w.heap.size 51 1 v ks.length (ks.map fun q => .pointer (some ⟨q.blk, 0, none⟩)) ∧ Below w.heap.size w w' := by
  have := all_n gs k (kidTh ks) w h
  simpa [kidTh, Function.comp_def] using this
theorem kidEs_take {ks : List Kid} {j : Nat} {q : Kid} (h : ks[j]? = some q) : kidEs (ks.take (j + 1)) = kidEs (ks.take j) ++ q.es := by
  unfold kidEs
  rw [List.take_add_one, h]
  simp
theorem kidEs_ne {ks : List Kid} {j : Nat} {q : Kid} (h : ks[j]? = some q) (hne : q.es ≠ []) : kidEs (ks.take (j + 1)) ≠ [] := by
  rw [kidEs_take h]; simp [hne]
theorem Blk.set4_7 {w : World} {g : Nat} {t : TypeId} {a0 a1 a2 a3 a b c d x0 x1 x2 x3 : Value} (h : Blk w g t #[a0, a1, a2, a3, a, b, c, d]) :
    Blk ((((w.setCell ⟨g, 4, none⟩ x0).setCell ⟨g, 5, none⟩ x1).setCell ⟨g, 6, none⟩ x2).setCell ⟨g, 7, none⟩ x3) g t #[a0, a1, a2, a3, x0, x1, x2, x3] :=
  (((h.set1 x0).set1 x1).set1 x2).set1 x3
theorem Blk.sums {w : World} {g : Nat} {t : TypeId} {lv : Int} {A : Option Addr} {k c v : Nat} {kids : Option Addr} {s : Sum4} (h : Blk w g t (nodeCells lv A k c v kids s)) (s' : Sum4) :
    Blk ((((w.setCell ⟨g, 4, none⟩ (.int .u64 (s'.c : Int))).setCell ⟨g, 5, none⟩ (.int .u64 (s'.s : Int))).setCell ⟨g, 6, none⟩ (.int .u64 (s'.mn : Int))).setCell ⟨g, 7, none⟩ (.int .u64 (s'.mx : Int))) g t (nodeCells lv A k c v kids s') := by
  unfold nodeCells at h ⊢
  exact h.set4_7
theorem below_set4 {B g i0 i1 i2 i3 : Nat} {a w : World} {x0 x1 x2 x3 : Value} (h : Below B a w) (hg : B ≤ g) :
    Below B a ((((w.setCell ⟨g, i0, none⟩ x0).setCell ⟨g, i1, none⟩ x1).setCell ⟨g, i2, none⟩ x2).setCell ⟨g, i3, none⟩ x3) :=
  (((h.setCell hg _).setCell hg _).setCell hg _).setCell hg _
theorem own_far4 {w : World} {base g i0 i1 i2 i3 : Nat} {e : TypeId} {size : Nat} {v : Value} {n : Nat} {xs : List Value} {x0 x1 x2 x3 : Value} (h : w.ownsRow base e size v n xs) (hg : g < base) :
    ((((w.setCell ⟨g, i0, none⟩ x0).setCell ⟨g, i1, none⟩ x1).setCell ⟨g, i2, none⟩ x2).setCell ⟨g, i3, none⟩ x3).ownsRow base e size v n xs :=
  ownsRow_setCell_below (ownsRow_setCell_below (ownsRow_setCell_below (ownsRow_setCell_below h (a := ⟨g, i0, none⟩) hg _) (a := ⟨g, i1, none⟩) hg _) (a := ⟨g, i2, none⟩) hg _) (a := ⟨g, i3, none⟩) hg _
theorem wrap_u64_nat (a b : Nat) : IntKind.u64.wrap ((a : Int) + (b : Int)) = (((a + b) % 2 ^ 64 : Nat) : Int) := by
  rw [IntKind.wrap_u64]; omega
set_option maxHeartbeats 2000000 in
set_option maxRecDepth 100000 in
theorem nd_made {w : World} {lv : Int} {A : Option Addr} {k c gs : Nat} {ks : List Kid} (hS : SlotsAt_n w gs k (kidTh ks)) (hk : ∀ q ∈ ks, NodeOf w k q.blk q.lv q.pre q.es) :
    Calls Try.prog 66 #[.int .i64 lv, .slice A k c, .pointer (some ⟨gs, 0, none⟩)] w fun e w' => e = .returned (.pointer (some ⟨w.heap.size, 0, none⟩)) ∧ Blk w' w.heap.size 103 (nodeCells lv A k c 0 (some ⟨gs, 0, none⟩) (sumsOf (kidEs ks))) ∧ Below w.heap.size w w' := by
  have hl : ks.length ≤ 65536 := by
    have := hS.ok
    have := len_le_of_ok this
    have h2 := pow16 hS.2.1
    simp [kidTh] at this
    omega
  have HK := hide hk
  have b1 := (Below.refl w.heap.size w).alloc (Nat.le_refl _) (.cells (nodeCells lv A k c 0 (some ⟨gs, 0, none⟩) ⟨0, 0, 0, 0⟩) 103)
  have hN1 := Blk.new w 103 (nodeCells lv A k c 0 (some ⟨gs, 0, none⟩) ⟨0, 0, 0, 0⟩)
  have hs1 : (w.alloc (.cells (nodeCells lv A k c 0 (some ⟨gs, 0, none⟩) ⟨0, 0, 0, 0⟩) 103)).heap.size = w.heap.size + 1 := by simp
  have HA := hide (kid_all (hS.below b1))
  clear hS hk
  unfold nodeCells at b1 hN1 hs1 HA
  go_enter Try.func66, Try.ntmps66
  go_wp2_with fail
  have e0 : ((0 : Nat) : Int) = 0 := rfl
  simp only [e0] at b1 hN1 hs1 HA
  refine HA.out.mono ?_
  rintro e w2 ⟨v2, rfl, ho2, hb2⟩
  rw [hs1] at ho2
  have hN2 := hide (hN1.below hb2)
  have hc2 := below_then b1 hb2
  clear hN1 b1 hb2 HA hs1
  obtain ⟨A2, c2, rfl, -, -⟩ := Rw.of_own ho2
  have HO2 := hide ho2
  clear ho2
  have hz2 : w.heap.size < w2.heap.size := hN2.out.lt
  go_wp2
  go_loopw [19] (fun x wr => ∃ (j : Nat), x = .int .i64 j ∧ j ≤ ks.length ∧ Blk wr w.heap.size 103 (nodeCells lv A k c 0 (some ⟨gs, 0, none⟩) (sumsOf (kidEs (ks.take j)))) ∧ wr.ownsRow (w.heap.size + 1) 51 1 (.slice A2 ks.length c2) ks.length (ks.map fun q => .pointer (some ⟨q.blk, 0, none⟩)) ∧ Below w.heap.size w wr) (fun x _ => ks.length - (intOf x).toNat)
  case atStart => exact ⟨0, rfl, Nat.zero_le _, hN2.out, HO2.out, hc2⟩
  case round =>
    obtain ⟨j, rfl, hj, hB, hO, hb⟩ := hrel
    have hBl := hB.lt
    by_cases hjn : j < ks.length
    · obtain ⟨b, o, rfl, hbl, u, hu, k0⟩ := (own_rw hO).2.one hjn
      rw [List.getElem?_map] at hu
      obtain ⟨q, hq, rfl⟩ := Option.map_eq_some_iff.1 hu
      have hn := HK.out q (List.mem_of_getElem? hq)
      have HI := hide hn.info
      obtain ⟨Aq, cq, vq, kq, hBq, -⟩ := hn.head
      have hql : q.blk < w.heap.size := hBq.lt
      have hBq' := hBq.belowB hb hql
      have HO := hide hO
      have HB := hide hB
      have HQ := hide hq
      have HBq := hide hBq'
      have p4 := hBq'.cell 4
      have p5 := hBq'.cell 5
      have p6 := hBq'.cell 6
      have p7 := hBq'.cell 7
      simp [nodeCells] at p4 p5 p6 p7
      clear hO hB hq hu hBq hBq' hn
      generalize hsq : sumsOf q.es = sq at *
      generalize hsp : sumsOf (kidEs (ks.take j)) = sp at *
      have r4 := HB.out.cell 4
      have r5 := HB.out.cell 5
      have r6 := HB.out.cell 6
      have r7 := HB.out.cell 7
      simp [nodeCells] at r4 r5 r6 r7
      have hB3 := HB.out.alloc (.cells #[.int .u64 (sq.c : Int), .int .u64 (sq.s : Int), .int .u64 (sq.mn : Int), .int .u64 (sq.mx : Int)] 101)
      have hS3 := Blk.new wr 101 #[.int .u64 (sq.c : Int), .int .u64 (sq.s : Int), .int .u64 (sq.mn : Int), .int .u64 (sq.mx : Int)]
      have hO3 := own_below HO.out ((Below.refl wr.heap.size wr).alloc (Nat.le_refl _) (.cells #[.int .u64 (sq.c : Int), .int .u64 (sq.s : Int), .int .u64 (sq.mn : Int), .int .u64 (sq.mx : Int)] 101))
      have hb3 := below_alloc hb (Nat.le_refl _) (.cells #[.int .u64 (sq.c : Int), .int .u64 (sq.s : Int), .int .u64 (sq.mn : Int), .int .u64 (sq.mx : Int)] 101)
      have z4 := hB3.frozen 4
      have z5 := hB3.frozen 5
      have z6 := hB3.frozen 6
      have z7 := hB3.frozen 7
      have s0 : (wr.alloc (.cells #[.int .u64 (sq.c : Int), .int .u64 (sq.s : Int), .int .u64 (sq.mn : Int), .int .u64 (sq.mx : Int)] 101)).cell? ⟨wr.heap.size, 0, none⟩ = some (.int .u64 (sq.c : Int)) := hS3.cell 0
      have s1 : (wr.alloc (.cells #[.int .u64 (sq.c : Int), .int .u64 (sq.s : Int), .int .u64 (sq.mn : Int), .int .u64 (sq.mx : Int)] 101)).cell? ⟨wr.heap.size, 1, none⟩ = some (.int .u64 (sq.s : Int)) := hS3.cell 1
      have s2 : (wr.alloc (.cells #[.int .u64 (sq.c : Int), .int .u64 (sq.s : Int), .int .u64 (sq.mn : Int), .int .u64 (sq.mx : Int)] 101)).cell? ⟨wr.heap.size, 2, none⟩ = some (.int .u64 (sq.mn : Int)) := hS3.cell 2
      have s3 : (wr.alloc (.cells #[.int .u64 (sq.c : Int), .int .u64 (sq.s : Int), .int .u64 (sq.mn : Int), .int .u64 (sq.mx : Int)] 101)).cell? ⟨wr.heap.size, 3, none⟩ = some (.int .u64 (sq.mx : Int)) := hS3.cell 3
      have t4 := hB3.cell 4
      have t5 := hB3.cell 5
      have t6 := hB3.cell 6
      have t7 := hB3.cell 7
      simp [nodeCells] at t4 t5 t6 t7
      have HB3 := hide hB3
      have HO3 := hide hO3
      have HQB := hide hb3
      clear hB3 hS3 hO3 hb3
      rcases Nat.eq_zero_or_pos j with hj0 | hj0
      · have e0 : ((j : Int) == 0) = true := by simp; omega
        have HJ0 := hide hj0
        clear hj0
        go_upto_region 7 with fail
        generalize wr.alloc (.cells #[.int .u64 (sq.c : Int), .int .u64 (sq.s : Int), .int .u64 (sq.mn : Int), .int .u64 (sq.mx : Int)] 101) = w3 at *
        go_wp2
        go_roundw
        case rel =>
          refine ⟨j + 1, by go_num, by omega, ?_, own_far4 HO3.out (by omega), below_set4 HQB.out (Nat.le_refl _)⟩
          have : sumsOf (kidEs (ks.take (j + 1))) = sq := by
            rw [kidEs_take HQ.out, HJ0.out]
            simpa [kidEs] using hsq
          rw [this]
          exact HB3.out.sums sq
        case measure => simp [intOf]; omega
      · have e0 : ((j : Int) == 0) = false := by simp; omega
        go_upto_region 8 with fail
        generalize wr.alloc (.cells #[.int .u64 (sq.c : Int), .int .u64 (sq.s : Int), .int .u64 (sq.mn : Int), .int .u64 (sq.mx : Int)] 101) = w3 at *
        go_still_tail 36, (by kernel_rfl)
        change wpList _ _ _ _ _ w3.drew
        have t4' : w3.drew.frozen? ⟨w.heap.size, 4, none⟩ = false := z4
        have t5' : w3.drew.frozen? ⟨w.heap.size, 5, none⟩ = false := z5
        have t6' : w3.drew.frozen? ⟨w.heap.size, 6, none⟩ = false := z6
        have t7' : w3.drew.frozen? ⟨w.heap.size, 7, none⟩ = false := z7
        have HB4 := hide (show Blk w3.drew w.heap.size 103 (nodeCells lv A k c 0 (some ⟨gs, 0, none⟩) sp) from HB3.out.drewN 1)
        have v4 : w3.drew.cell? ⟨w.heap.size, 4, none⟩ = some (.int .u64 (sp.c : Int)) := t4
        have v5 : w3.drew.cell? ⟨w.heap.size, 5, none⟩ = some (.int .u64 (sp.s : Int)) := t5
        have v6 : w3.drew.cell? ⟨w.heap.size, 6, none⟩ = some (.int .u64 (sp.mn : Int)) := t6
        have v7 : w3.drew.cell? ⟨w.heap.size, 7, none⟩ = some (.int .u64 (sp.mx : Int)) := t7
        have HO4 := hide (own_below HO3.out (Below.refl _ w3).drew)
        have hb4 := HQB.out.drew
        generalize w3.drew = w4 at *
        go_wp2
        go_roundw
        case rel =>
          refine ⟨j + 1, by go_num, by omega, ?_, own_far4 HO4.out (by omega), below_set4 hb4 (Nat.le_refl _)⟩
          have hne := HI.out.2.1
          obtain ⟨q', hq'⟩ : ∃ q', ks[j - 1]? = some q' := ⟨_, List.getElem?_eq_getElem (by omega)⟩
          have hne' : kidEs (ks.take j) ≠ [] := by
            have := kidEs_ne hq' ((HK.out q' (List.mem_of_getElem? hq')).info.2.1)
            rwa [show j - 1 + 1 = j by omega] at this
          have hsum : sumsOf (kidEs (ks.take (j + 1))) = sp.join sq := by
            rw [kidEs_take HQ.out, sumsOf_append hne' hne, hsp, hsq]
          rw [hsum]
          have j0 : ((sp.join sq).c : Int) = IntKind.u64.wrap ((sp.c : Int) + (sq.c : Int)) := by
            rw [wrap_u64_nat]; unfold Sum4.join; simp
          have j1 : ((sp.join sq).s : Int) = IntKind.u64.wrap ((sp.s : Int) + (sq.s : Int)) := by
            rw [wrap_u64_nat]; unfold Sum4.join; simp
          have j2 : ((sp.join sq).mn : Int) = min (sp.mn : Int) (sq.mn : Int) := by
            show ((Nat.min sp.mn sq.mn : Nat) : Int) = _
            rw [show Nat.min sp.mn sq.mn = min sp.mn sq.mn from rfl]; omega
          have j3 : ((sp.join sq).mx : Int) = max (sp.mx : Int) (sq.mx : Int) := by
            show ((Nat.max sp.mx sq.mx : Nat) : Int) = _
            rw [show Nat.max sp.mx sq.mx = max sp.mx sq.mx from rfl]; omega
          rw [← j0, ← j1, ← j2, ← j3]
          exact HB4.out.sums (sp.join sq)
        case measure => simp [intOf]; omega
    · have hj' : j = ks.length := by omega
      rw [hj', List.take_of_length_le (Nat.le_refl _)] at hB
      have HB := hide hB
      have HO := hide hO
      clear hB hO hj'
      go_wp2
      go_ret
      exact ⟨rfl, HB.out, hb⟩
/-! ### Cutting -/
theorem bit_cutc (m c b : Nat) : bit (cutc m c) b = if b < m then 0 else bit c b := by
  unfold bit cutc
  split
  · rename_i h
    obtain ⟨d, rfl⟩ : ∃ d, m = b + (d + 1) := ⟨m - b - 1, by omega⟩
    have : c / 2 ^ (b + (d + 1)) * 2 ^ (b + (d + 1)) = (c / 2 ^ (b + (d + 1)) * 2 ^ d * 2) * 2 ^ b := by
      rw [Nat.pow_add, Nat.pow_succ]
      generalize c / (2 ^ b * (2 ^ d * 2)) = X
      generalize 2 ^ b = B
      generalize 2 ^ d = D
      simp only [Nat.mul_comm, Nat.mul_left_comm, Nat.mul_assoc]
    rw [this, Nat.mul_div_cancel _ (Nat.two_pow_pos b), Nat.mul_mod_left]
  · rename_i h
    obtain ⟨d, rfl⟩ : ∃ d, b = m + d := ⟨b - m, by omega⟩
    rw [Nat.pow_add, ← Nat.div_div_eq_div_mul, Nat.mul_div_cancel _ (Nat.two_pow_pos m), Nat.div_div_eq_div_mul]
theorem foldl_zero (b : Nat) : ∀ (p : List Nat), (∀ c ∈ p, bit c b = 0) → p.foldl (fun a c => 2 * a + bit c b) 0 = 0
  | [], _ => rfl
  | c :: p, h => by
    rw [List.foldl_cons, h c List.mem_cons_self]
    exact foldl_zero b p fun c hc => h c (List.mem_cons_of_mem _ hc)
theorem foldl_cut (m b : Nat) (h : m ≤ b) : ∀ (p : List Nat) (a : Nat), (cut m p).foldl (fun a c => 2 * a + bit c b) a = p.foldl (fun a c => 2 * a + bit c b) a
  | [], _ => rfl
  | c :: p, a => by
    show (cut m p).foldl _ (2 * a + bit (cutc m c) b) = p.foldl _ (2 * a + bit c b)
    rw [bit_cutc, if_neg (by omega), foldl_cut m b h p]
theorem addr_cut_lo {m b : Nat} (p : List Nat) (h : b < m) : addrOf (cut m p) b = 0 := by
  unfold addrOf
  apply foldl_zero
  intro c hc
  obtain ⟨d, _, rfl⟩ := List.mem_map.1 hc
  rw [bit_cutc, if_pos h]
theorem addr_cut_hi {m b : Nat} (p : List Nat) (h : m ≤ b) : addrOf (cut m p) b = addrOf p b := foldl_cut m b h p 0
theorem zp_cut {k m : Nat} {p : List Nat} (h : Zp k p) : Zp k (cut m p) := by
  refine ⟨by unfold cut; rw [List.length_map]; exact h.1, fun x hx => ?_⟩
  obtain ⟨d, hd, rfl⟩ := List.mem_map.1 hx
  exact cutc_lt m d (h.2 d hd)
/-! ### Kids in their places -/
def insK (ks : List Kid) (q : Kid) : List Kid := ks.filter (fun r => decide (r.at_ < q.at_)) ++ [q] ++ ks.filter (fun r => decide (q.at_ < r.at_))
def delK (ks : List Kid) (a : Nat) : List Kid := ks.filter fun r => decide (r.at_ ≠ a)
theorem kidTh_ins (ks : List Kid) (q : Kid) : kidTh (insK ks q) = insTh (kidTh ks) q.at_ (.pointer (some ⟨q.blk, 0, none⟩)) := by
  unfold kidTh insK insTh
  simp only [List.map_append, List.map_cons, List.map_nil, List.filter_map, Function.comp_def]
theorem mem_insK {ks : List Kid} {q r : Kid} (h : r ∈ insK ks q) : r = q ∨ r ∈ ks := by
  unfold insK at h
  simp only [List.mem_append, List.mem_filter, List.mem_singleton] at h
  rcases h with (h | h) | h
  · exact .inr h.1
  · exact .inl h
  · exact .inr h.1
theorem mem_insK_iff {ks : List Kid} {q r : Kid} : r ∈ insK ks q ↔ r = q ∨ (r ∈ ks ∧ r.at_ ≠ q.at_) := by
  unfold insK
  simp only [List.mem_append, List.mem_filter, List.mem_singleton, decide_eq_true_eq]
  constructor
  · rintro ((h | h) | h)
    · exact .inr ⟨h.1, by omega⟩
    · exact .inl h
    · exact .inr ⟨h.1, by omega⟩
  · rintro (h | ⟨h, h2⟩)
    · exact .inl (.inr h)
    · rcases Nat.lt_or_ge r.at_ q.at_ with h3 | h3
      · exact .inl (.inl ⟨h, h3⟩)
      · exact .inr ⟨h, by omega⟩
theorem insK_sorted {ks : List Kid} {q : Kid} (h : ks.Pairwise fun a b => a.at_ < b.at_) : (insK ks q).Pairwise fun a b => a.at_ < b.at_ := by
  unfold insK
  rw [List.pairwise_append, List.pairwise_append]
  refine ⟨⟨h.filter _, List.pairwise_singleton _ _, ?_⟩, h.filter _, ?_⟩
  · intro a ha b hb
    rw [List.mem_singleton] at hb
    subst hb
    simpa using (List.mem_filter.1 ha).2
  · intro a ha b hb
    have hb2 : q.at_ < b.at_ := by simpa using (List.mem_filter.1 hb).2
    rcases List.mem_append.1 ha with ha | ha
    · have : a.at_ < q.at_ := by simpa using (List.mem_filter.1 ha).2
      omega
    · rw [List.mem_singleton] at ha
      subst ha
      exact hb2
/-! ### A fork -/
/-- Block g is a node with just these kids. -/
def Fork (w : World) (k g lv : Nat) (pre : List Nat) (ks : List Kid) : Prop :=
  ∃ (A : Option Addr) (c gs : Nat), lv < 64 ∧ Pt w A k pre ∧ k ≤ c ∧ (∀ b, b ≤ lv → addrOf pre b = 0) ∧ (∀ q ∈ ks, NodeOf w k q.blk q.lv q.pre q.es) ∧ (∀ q ∈ ks, q.lv < lv) ∧
    (∀ q ∈ ks, addrOf q.pre lv = q.at_ ∧ ∀ b, lv < b → addrOf q.pre b = addrOf pre b) ∧ (ks.Pairwise fun q r => q.at_ < r.at_) ∧ 2 ≤ ks.length ∧ SlotsAt_n w gs k (kidTh ks) ∧
    Blk w g 103 (nodeCells lv A k c 0 (some ⟨gs, 0, none⟩) (sumsOf (kidEs ks)))
theorem Fork.node {w : World} {k g lv : Nat} {pre : List Nat} {ks : List Kid} (h : Fork w k g lv pre ks) : NodeOf w k g lv pre (kidEs ks) := by
  obtain ⟨A, c, gs, h1, h2, h3, h4, h5, h6, h7, h8, h9, h10, h11⟩ := h
  exact .fork ks h1 h2 h3 h4 h5 h6 h7 h8 h9 h10 h11
theorem Fork.stay {w w' : World} {k g lv : Nat} {pre : List Nat} {ks : List Kid} (h : Fork w k g lv pre ks) (hb : Below w.heap.size w w') : Fork w' k g lv pre ks := by
  obtain ⟨A, c, gs, h1, h2, h3, h4, h5, h6, h7, h8, h9, h10, h11⟩ := h
  exact ⟨A, c, gs, h1, h2.below hb, h3, h4, fun q hq => (h5 q hq).stay hb, h6, h7, h8, h9, h10.below hb, h11.below hb⟩
/-- A node is an entry or a fork. -/
theorem NodeOf.cases' {w : World} {k g : Nat} {lv : Int} {pre : List Nat} {es : List Ent} (h : NodeOf w k g lv pre es) :
    (∃ A c v, lv = -1 ∧ es = [(pre, v)] ∧ v < 2 ^ 64 ∧ Pt w A k pre ∧ k ≤ c ∧ Blk w g 103 (nodeCells (-1) A k c v none ⟨1, v, v, v⟩)) ∨
    (∃ (m : Nat) (ks : List Kid), lv = (m : Int) ∧ es = kidEs ks ∧ Fork w k g m pre ks) := by
  cases h with
  | leaf hv hp hc hB => exact .inl ⟨_, _, _, rfl, rfl, hv, hp, hc, hB⟩
  | fork ks hlv hp hc hz hk hl ha hs h2 hS hB => exact .inr ⟨_, ks, rfl, rfl, _, _, _, hlv, hp, hc, hz, hk, hl, ha, hs, h2, hS, hB⟩
theorem addr_lt_pow {k : Nat} {p : List Nat} (h : Zp k p) (b : Nat) : addrOf p b < 2 ^ k := by
  have := addrOf_lt p b
  rwa [h.1] at this
end Go.Proofs.Ytfoapkcgdkfggaa
set_option linter.unusedSimpArgs false
set_option linter.unusedVariables false
namespace Go.Proofs.Ytfoapkcgdkfggaa
section
open Go.RowKit
end
section
open Go.RowKit
/-- What two kids make. -/
def pairK (g g' : Nat) (lv lv' : Int) (pre pre' : List Nat) (es es' : List Ent) (m : Nat) : List Kid :=
  insK (insK [] ⟨addrOf pre m, g, lv, pre, es⟩) ⟨addrOf pre' m, g', lv', pre', es'⟩
theorem pairK_eq {g g' : Nat} {lv lv' : Int} {pre pre' : List Nat} {es es' : List Ent} {m : Nat} (h : addrOf pre m ≠ addrOf pre' m) :
    pairK g g' lv lv' pre pre' es es' m = if addrOf pre m < addrOf pre' m then [⟨addrOf pre m, g, lv, pre, es⟩, ⟨addrOf pre' m, g', lv', pre', es'⟩] else [⟨addrOf pre' m, g', lv', pre', es'⟩, ⟨addrOf pre m, g, lv, pre, es⟩] := by
  unfold pairK insK
  by_cases h1 : addrOf pre m < addrOf pre' m
  · have h2 : ¬ addrOf pre' m < addrOf pre m := by omega
    simp [h1, h2]
  · have h2 : addrOf pre' m < addrOf pre m := by omega
    simp [h1, h2]
set_option maxHeartbeats 2000000 in
set_option maxRecDepth 100000 in
theorem nd_pair {w : World} {k g g' m : Nat} {lv lv' : Int} {pre pre' : List Nat} {es es' : List Ent} (h : NodeOf w k g lv pre es) (h' : NodeOf w k g' lv' pre' es') (hk1 : 1 ≤ k) (hk : k ≤ 16)
    (hm : part pre pre' = (m : Int)) (h1 : lv < m) (h2 : lv' < m) :
    Calls Try.prog 40 #[.pointer (some ⟨g, 0, none⟩), .pointer (some ⟨g', 0, none⟩)] w fun e w' => ∃ gn, e = .returned (.tuple #[.pointer (some ⟨gn, 0, none⟩), .int .i64 0]) ∧ Fork w' k gn m (cut (m + 1) pre) (pairK g g' lv lv' pre pre' es es' m) ∧ w.heap.size ≤ gn ∧ Below w.heap.size w w' := by
  have H := hide h
  have H' := hide h'
  obtain ⟨A, c, v, kids, hB, hp, -⟩ := h.head
  obtain ⟨A', c', v', kids', hB', hp', -⟩ := h'.head
  have hps := part_spec pre pre' (by rw [hp.1, hp'.1]) hp.2.2 hp'.2.2
  rw [hm] at hps
  obtain ⟨-, hm64, hps3, hps4⟩ := hps
  have hne := hps4 (by omega)
  rw [Int.toNat_natCast] at hne
  have c0 := hB.cell 0
  have d0 := hB'.cell 0
  have c1 := hB.cell 1
  have d1 := hB'.cell 1
  simp [nodeCells] at c0 d0 c1 d1
  have hgl := hB.lt
  have hgl' := hB'.lt
  have e1 : decide ((m : Int) ≤ max lv lv') = false := by simp; omega
  have HPS := hide hps3
  have HNE := hide hne
  have HP := hide hp
  have HP' := hide hp'
  have HL := hide (And.intro h1 h2)
  have hm64' : m < 64 := by omega
  clear hB hB' h h' hps3 hps4 hne h1 h2
  go_enter Try.func40, Try.ntmps40
  go_wp2_with fail
  go_region_held3 (fun w' => w'.cell? ⟨g, 1, none⟩ = some (.slice A k c) ∧ w'.cell? ⟨g', 1, none⟩ = some (.slice A' k c'))
    (first
      | go_keep)
    (first
      | (go_at_call 61
         refine (zb_part A A' k c c' pre pre' w.drew (hp.below (Below.refl _ w).drew) (hp'.below (Below.refl _ w).drew) hk1 hk).mono ?_
         rintro e w2 ⟨rfl, rfl⟩))
  go_wp2
  go_quiet (fail)
  go_upto_region 8 with fail
  have hb0 : Below w.heap.size w (w.drew.drewN nq) := below_drewN (Below.refl _ w).drew nq
  generalize w.drew.drewN nq = w0 at *
  have c1' := c1
  have c1w := (hb0.cell (p := ⟨g, 1, none⟩) hgl).trans c1
  have HN := hide (new_n (k : Int) w0 (by omega) (by omega))
  go_wp2_with fail
  refine HN.out.mono ?_
  rintro e w1 ⟨rfl, hS1, hb1⟩
  rw [Int.toNat_natCast] at hS1
  have hc1 := below_then hb0 hb1
  have hN1 := Blk.new w1 51 #[.pointer (some ⟨g, 0, none⟩), .pointer (some ⟨g', 0, none⟩)]
  have hS2 := hide (hS1.below ((Below.refl w1.heap.size w1).alloc (Nat.le_refl _) (.cells #[.pointer (some ⟨g, 0, none⟩), .pointer (some ⟨g', 0, none⟩)] 51)))
  have hc2 := below_alloc hc1 (Nat.le_refl _) (.cells #[.pointer (some ⟨g, 0, none⟩), .pointer (some ⟨g', 0, none⟩)] 51)
  have HN1 := hide hN1
  clear hS1 hN1 HN
  go_wp2
  go_loopw [8, 59] (fun x8 x59 wr => ∃ (j gk : Nat), x59 = .int .i64 j ∧ j ≤ 2 ∧ x8 = .pointer (some ⟨gk, 0, none⟩) ∧ SlotsAt_n wr gk k (kidTh (if j = 0 then [] else if j = 1 then insK [] ⟨addrOf pre m, g, lv, pre, es⟩ else pairK g g' lv lv' pre pre' es es' m)) ∧ Blk wr w1.heap.size 51 #[.pointer (some ⟨g, 0, none⟩), .pointer (some ⟨g', 0, none⟩)] ∧ Below w.heap.size w wr) (fun _ x _ => 2 - (intOf x).toNat)
  case atStart => exact ⟨0, w0.heap.size, rfl, by omega, rfl, hS2.out, HN1.out, hc2⟩
  case round =>
    obtain ⟨j, gk, rfl, hj, rfl, hS, hN, hb⟩ := hrel
    have k0 := hN.cell 0
    have k1 := hN.cell 1
    simp at k0 k1
    have HN := hide hN
    clear hN
    have HB := hide hb
    match j, hj with
    | 0, _ =>
      rw [if_pos rfl] at hS
      have HS := hide hS
      clear hS
      go_wp2_with fail
      have HPU := hide (put_n gk k (kidTh ([])) (addrOf pre m) (some ⟨g, 0, none⟩) _ HS.out (addr_lt_pow (Pt.zp HP.out) m))
      rw [← kidTh_ins ([]) ⟨addrOf pre m, g, lv, pre, es⟩] at HPU
      refine (nd_at (H.out.stay HB.out) hk1 hk m (by omega)).mono ?_
      rintro e w3 ⟨rfl, rfl⟩
      go_wp2_with fail
      refine HPU.out.mono ?_
      rintro e w4 ⟨gk', rfl, hS4, hgk, hb4⟩
      have hb5 := below_then HB.out hb4
      have hN4 := HN.out.below hb4
      go_wp2
      go_roundw
      case rel => exact ⟨1, gk', by go_num, by omega, rfl, hS4, hN4, hb5⟩
      case measure => simp [intOf]
    | 1, _ =>
      rw [if_neg (by omega), if_pos rfl] at hS
      have HS := hide hS
      clear hS
      go_wp2_with fail
      have HPU := hide (put_n gk k (kidTh (insK [] ⟨addrOf pre m, g, lv, pre, es⟩)) (addrOf pre' m) (some ⟨g', 0, none⟩) _ HS.out (addr_lt_pow (Pt.zp HP'.out) m))
      rw [← kidTh_ins (insK [] ⟨addrOf pre m, g, lv, pre, es⟩) ⟨addrOf pre' m, g', lv', pre', es'⟩] at HPU
      refine (nd_at (H'.out.stay HB.out) hk1 hk m (by omega)).mono ?_
      rintro e w3 ⟨rfl, rfl⟩
      go_wp2_with fail
      refine HPU.out.mono ?_
      rintro e w4 ⟨gk', rfl, hS4, hgk, hb4⟩
      have hb5 := below_then HB.out hb4
      have hN4 := HN.out.below hb4
      go_wp2
      go_roundw
      case rel => exact ⟨2, gk', by go_num, by omega, rfl, hS4, hN4, hb5⟩
      case measure => simp [intOf]
    | 2, _ =>
      rw [if_neg (by omega), if_neg (by omega)] at hS
      have HS := hide hS
      clear hS
      have c1r := (HB.out.cell (p := ⟨g, 1, none⟩) hgl).trans c1'
      have CC := zb_cut A k c pre (m + 1) wr (HP.out.below HB.out) hk1 hk (by omega)
      rw [show (((m + 1 : Nat)) : Int) - 1 = (m : Int) by omega] at CC
      have HCC := hide CC
      clear CC
      go_wp2_with fail
      refine HCC.out.mono ?_
      rintro e w5 ⟨v5, rfl, ho5, hb5⟩
      obtain ⟨A5, d5, rfl, hd5, hR5⟩ := Rw.of_own ho5
      have hS5 := HS.out.below hb5
      have hc5 := below_then HB.out hb5
      clear ho5 HCC
      have HM := hide (nd_made (lv := (m : Int)) (A := A5) (c := d5) hS5 (fun q hq => by
        rcases mem_insK hq with rfl | hq
        · exact H'.out.stay hc5
        · rcases mem_insK hq with rfl | hq
          · exact H.out.stay hc5
          · cases hq))
      have HR5 := hide hR5
      have HS5 := hide hS5
      clear hS5 hR5
      go_wp2_with fail
      refine HM.out.mono ?_
      rintro e w6 ⟨rfl, hB6, hb6⟩
      have hc6 := below_then hc5 hb6
      have HB6 := hide hB6
      clear hB6 HM
      go_wp2
      go_ret2
      have hz := zp_cut (m := m + 1) HP.out.zp
      have hz' := HP'.out.zp
      refine ⟨_, rfl, ⟨A5, d5, gk, hm64', ⟨hz.1, HR5.out.below hb6, hz.2⟩, hd5, fun b hb => addr_cut_lo pre (by omega), fun q hq => ?_, fun q hq => ?_, fun q hq => ?_, ?_, ?_, HS5.out.below hb6, HB6.out⟩, hc5.size, hc6⟩
      · rcases mem_insK hq with rfl | hq
        · exact H'.out.stay hc6
        · rcases mem_insK hq with rfl | hq
          · exact H.out.stay hc6
          · cases hq
      · rcases mem_insK hq with rfl | hq
        · exact HL.out.2
        · rcases mem_insK hq with rfl | hq
          · exact HL.out.1
          · cases hq
      · rcases mem_insK hq with rfl | hq
        · exact ⟨rfl, fun b hb => by rw [addr_cut_hi pre (by omega)]; exact (HPS.out b (by omega)).symm⟩
        · rcases mem_insK hq with rfl | hq
          · exact ⟨rfl, fun b hb => by rw [addr_cut_hi pre (by omega)]⟩
          · cases hq
      · exact insK_sorted (insK_sorted List.Pairwise.nil)
      · rw [pairK_eq HNE.out]
        split <;> simp
end
section
open Go.RowKit
end
section
open Go.RowKit
theorem filt_len {ks : List Kid} (a : Nat) (h : ks.Pairwise fun q r => q.at_ < r.at_) :
    ks.length ≤ (ks.filter fun r => decide (r.at_ < a)).length + (ks.filter fun r => decide (a < r.at_)).length + 1 := by
  induction ks with
  | nil => simp
  | cons r t ih =>
    obtain ⟨h1, h2⟩ := List.pairwise_cons.1 h
    have ih := ih h2
    rcases Nat.lt_trichotomy r.at_ a with hlt | heq | hgt
    · rw [List.filter_cons_of_pos (by simpa using hlt), List.filter_cons_of_neg (by simp; omega)]
      simp only [List.length_cons]
      omega
    · have hall : (t.filter fun r => decide (a < r.at_)) = t := by
        rw [List.filter_eq_self]
        intro x hx
        have := h1 x hx
        simp; omega
      rw [List.filter_cons_of_neg (by simp; omega), List.filter_cons_of_neg (by simp; omega), hall]
      simp only [List.length_cons]
      omega
    · rw [List.filter_cons_of_neg (by simp; omega), List.filter_cons_of_pos (by simpa using hgt)]
      simp only [List.length_cons]
      omega
theorem insK_len {ks : List Kid} (q : Kid) (h : ks.Pairwise fun q r => q.at_ < r.at_) : ks.length ≤ (insK ks q).length := by
  have := filt_len q.at_ h
  unfold insK
  simp only [List.length_append, List.length_cons, List.length_nil]
  omega
set_option maxHeartbeats 4000000 in
set_option maxRecDepth 100000 in
theorem nd_with {w : World} {k g g' m : Nat} {lv' : Int} {pre pre' : List Nat} {ks : List Kid} {es' : List Ent} (h : Fork w k g m pre ks) (h' : NodeOf w k g' lv' pre' es') (hk1 : 1 ≤ k) (hk : k ≤ 16) (hq : part pre pre' ≤ (m : Int)) (hl : lv' < (m : Int)) :
    Calls Try.prog 67 #[.pointer (some ⟨g, 0, none⟩), .pointer (some ⟨g', 0, none⟩)] w fun e w' => ∃ gn, e = .returned (.tuple #[.pointer (some ⟨gn, 0, none⟩), .int .i64 0]) ∧ Fork w' k gn m pre (insK ks ⟨addrOf pre' m, g', lv', pre', es'⟩) ∧ w.heap.size ≤ gn ∧ Below w.heap.size w w' := by
  have HF := hide h
  have HN' := hide h'
  obtain ⟨A, c, gs, hm, hp, hkc, -, -, -, -, -, -, hS, hB⟩ := h
  obtain ⟨A', c', v', kids', hB', hp', -⟩ := h'.head
  have hps := part_spec pre pre' (by rw [hp.1, hp'.1]) hp.2.2 hp'.2.2
  have HPS := hide (fun (b : Nat) (hb : m < b) => hps.2.2.1 b (by omega))
  have c0 := hB.cell 0
  have c1 := hB.cell 1
  have c3 := hB.cell 3
  have d0 := hB'.cell 0
  have d1 := hB'.cell 1
  simp [nodeCells] at c0 c1 c3 d0 d1
  have hgl := hB.lt
  have HP := hide hp
  have HP' := hide hp'
  have HS := hide hS
  have HCC := hide (fun (W : World) (hW : Below w.heap.size w W) => And.intro ((hW.cell (p := ⟨g, 0, none⟩) hgl).trans c0) (And.intro ((hW.cell (p := ⟨g, 1, none⟩) hgl).trans c1) ((hW.cell (p := ⟨g, 3, none⟩) hgl).trans c3)))
  have e1 : decide ((m : Int) ≤ lv') = false := by simp; omega
  have HL := hide hl
  clear hB hB' h' hp hp' hS hl hps
  go_enter Try.func67, Try.ntmps67
  go_wp2_with fail
  go_quiet (fail)
  have hb0 : Below w.heap.size w (w.drewN nq) := below_drewN (Below.refl _ w) nq
  have c0' : (w.drewN nq).cell? ⟨g, 0, none⟩ = some (.int .i64 (m : Int)) := c0
  have d0' : (w.drewN nq).cell? ⟨g', 0, none⟩ = some (.int .i64 lv') := d0
  have d1' : (w.drewN nq).cell? ⟨g', 1, none⟩ = some (.slice A' k c') := d1
  go_upto_region 7 with fail
  generalize w.drewN nq = w0 at *
  clear c0 c1 c3 d0 d1
  go_region_held3 (fun w' => w'.cell? ⟨g, 0, none⟩ = some (.int .i64 (m : Int)) ∧ w'.cell? ⟨g', 0, none⟩ = some (.int .i64 lv') ∧ w'.cell? ⟨g', 1, none⟩ = some (.slice A' k c'))
    (first
      | go_keep)
    (first
      | (go_at_call 48
         have CC := nd_covers ((HF.out.stay hb0).stay (Below.refl _ w0).drew).node hk1 hk ((HP'.out.below hb0).below (Below.refl _ w0).drew) (d := c')
         rw [decide_eq_true hq] at CC
         refine CC.mono ?_
         rintro e w2 ⟨rfl, rfl⟩))
  have hb1 := hb0.drew
  clear c0' d0' d1'
  go_upto_region 9 with fail
  generalize w0.drew = w1 at *
  have q0 := (HCC.out w1 hb1).1
  have q3 := (HCC.out w1 hb1).2.2
  go_region_held3 (fun w' => w'.cell? ⟨g, 0, none⟩ = some (.int .i64 (m : Int)) ∧ w'.cell? ⟨g, 3, none⟩ = some (.pointer (some ⟨gs, 0, none⟩)))
    (first
      | go_keep
      | exact hk3)
    (first
      | (go_at_call 64
         refine (nd_at ((HN'.out.stay hb1).stay (Below.refl _ w1).drew) hk1 hk m hm).mono ?_
         rintro e w2 ⟨rfl, rfl⟩)
      | (go_at_call 63
         have CP := put_n gs k (kidTh ks) (addrOf pre' m) (some ⟨g', 0, none⟩) w1.drew ((HS.out.below hb1).below (Below.refl _ w1).drew) (addr_lt_pow (Pt.zp HP'.out) m)
         rw [← kidTh_ins ks ⟨addrOf pre' m, g', lv', pre', es'⟩] at CP
         refine CP.mono ?_
         rintro e w3 ⟨g3, rfl, hS3, hg3, hb3⟩
         have hc3 := below_then hb1.drew hb3
         have hk3 := And.intro (HCC.out w3 hc3).1 (HCC.out w3 hc3).2.2
         have HS3 := hide hS3
         clear hS3))
  clear q0 q3 hk3
  have q0 := (HCC.out w3 hc3).1
  have q1 := (HCC.out w3 hc3).2.1
  have hks : ∀ q ∈ insK ks ⟨addrOf pre' m, g', lv', pre', es'⟩, ∀ W, Below w.heap.size w W → NodeOf W k q.blk q.lv q.pre q.es := by
    intro q hq W hW
    rcases mem_insK hq with rfl | hq
    · exact HN'.out.stay hW
    · obtain ⟨_, _, _, _, _, _, _, h5, _⟩ := HF.out
      exact (h5 q hq).stay hW
  have HKS := hide hks
  clear hks
  go_upto_region 10 with fail
  go_region_held3 (fun w' => w'.cell? ⟨g, 0, none⟩ = some (.int .i64 (m : Int)) ∧ w'.cell? ⟨g, 1, none⟩ = some (.slice A k c))
    (first
      | go_keep
      | exact hk4)
    (first
      | (go_at_call 66
         refine (nd_made (lv := (m : Int)) (A := A) (c := c) (HS3.out.below (Below.refl _ w3).drew) (fun q hq => HKS.out q hq _ hc3.drew)).mono ?_
         rintro e w4 ⟨rfl, hB4, hb4⟩
         have hc4 := below_then hc3.drew hb4
         have hk4 := And.intro (HCC.out w4 hc4).1 (HCC.out w4 hc4).2.1
         have HB4 := hide hB4
         clear hB4))
  clear hk4 q0 q1
  go_wp2
  go_ret2
  refine ⟨_, rfl, ?_, hc3.size, hc4⟩
  obtain ⟨_, _, _, _, _, _, h4, h5, h6, h7, h8, h9, _, _⟩ := HF.out
  refine ⟨A, c, g3, hm, HP.out.below hc4, hkc, h4, fun q hq => HKS.out q hq _ hc4, fun q hq => ?_, fun q hq => ?_, insK_sorted h8, Nat.le_trans h9 (insK_len _ h8), HS3.out.below ((Below.refl _ w3).drew.trans hb4), HB4.out⟩
  · rcases mem_insK hq with rfl | hq
    · exact HL.out
    · exact h6 q hq
  · rcases mem_insK hq with rfl | hq
    · exact ⟨rfl, fun b hb => (HPS.out b hb).symm⟩
    · exact h7 q hq
end
section
open Go.RowKit
end
end Go.Proofs.Ytfoapkcgdkfggaa
set_option linter.unusedSimpArgs false
set_option linter.unusedVariables false
namespace Go.Proofs.Ytfoapkcgdkfggaa
section
open Go.RowKit
end
section
open Go.RowKit
end
section
open Go.RowKit
end
section
open Go.RowKit
end
section
open Go.RowKit
/-- Sorted rows of k coordinates. -/
def SortR (k : Nat) (rows : List ER) : Prop := (∀ r ∈ rows, Zp k r.p) ∧ rows.Pairwise fun a b => Zlt a.p b.p
theorem SortR.nil (k : Nat) : SortR k [] := ⟨fun r h => by (cases h), List.Pairwise.nil⟩
theorem SortR.ents {k : Nat} {rows : List ER} (h : SortR k rows) : Zsorted (ents rows) := by
  unfold Zsorted Go.Proofs.Ytfoapkcgdkfggaa.ents
  rw [List.pairwise_map]
  exact h.2
end
section
open Go.RowKit
section
variable {α : Type}
end
end
end Go.Proofs.Ytfoapkcgdkfggaa
set_option linter.unusedSimpArgs false
set_option linter.unusedVariables false
namespace Go.Proofs.Ytfoapkcgdkfggaa
section
open Go.RowKit
theorem Fork.head {w : World} {k g lv : Nat} {pre : List Nat} {ks : List Kid} (h : Fork w k g lv pre ks) :
    ∃ A c gs, Pt w A k pre ∧ SlotsAt_n w gs k (kidTh ks) ∧ Blk w g 103 (nodeCells lv A k c 0 (some ⟨gs, 0, none⟩) (sumsOf (kidEs ks))) := by
  obtain ⟨A, c, gs, h1, h2, h3, h4, h5, h6, h7, h8, h9, h10, h11⟩ := h
  exact ⟨A, c, gs, h2, h10, h11⟩
end
section
open Go.RowKit
end
section
open Go.RowKit
theorem own_ne_blk {w : World} {base : Nat} {e t : TypeId} {sz n g : Nat} {v : Value} {xs : List Value} {cs : Array Value} (h : w.ownsRow base e sz v n xs) (hB : Blk w g t cs) (hne : e ≠ t) : v.ownBlock ≠ some g := by
  intro hv
  rcases h.2 with ⟨rfl, _⟩ | ⟨gr, cap, cur, rfl, hg, hh, r⟩
  · simp [Value.ownBlock] at hv
  · have : gr = g := by simpa [Value.ownBlock] using hv
    exact Blk.ne_ (t := e) hh hB hne this
/-- A block stays where a row of another type grows. -/
theorem Blk.grown {w w' : World} {base : Nat} {e t : TypeId} {sz n g : Nat} {v : Value} {xs : List Value} {cs : Array Value} (hB : Blk w g t cs) (h : w.ownsRow base e sz v n xs) (hne : e ≠ t) (hg : w.grownBy w' v.ownBlock) : Blk w' g t cs :=
  (hg.block g hB.lt (Ne.symm (own_ne_blk h hB hne))).trans hB
theorem own_grown {w w' : World} {base base' : Nat} {e e' : TypeId} {sz sz' n n' : Nat} {v v' : Value} {xs xs' : List Value} (h : w.ownsRow base e sz v n xs) (h' : w.ownsRow base' e' sz' v' n' xs') (hne : e' ≠ e) (hg : w.grownBy w' v'.ownBlock) : w'.ownsRow base e sz v n xs := by
  obtain ⟨h1, h2⟩ := h
  refine ⟨h1, ?_⟩
  rcases h2 with h2 | ⟨gr, cap, cur, hv, hgb, hh, r⟩
  · exact .inl h2
  · exact .inr ⟨gr, cap, cur, hv, hgb, Blk.grown (t := e) hh h' hne hg, r⟩
end
section
open Go.RowKit
end
section
open Go.RowKit
end
section
open Go.RowKit
/-- An entry's node, its point a row of its own. -/
def LeafAt (w : World) (k g : Nat) (p : List Nat) (v : Nat) : Prop := ∃ A c, Blk w g 103 (nodeCells (-1) A k c v none ⟨1, v, v, v⟩) ∧ w.ownsRow 0 36 1 (.slice A k c) k (u64s p) ∧ k ≤ c ∧ Zp k p ∧ v < 2 ^ 64
theorem LeafAt.node {w : World} {k g : Nat} {p : List Nat} {v : Nat} (h : LeafAt w k g p v) : NodeOf w k g (-1) p [(p, v)] := by
  obtain ⟨A, c, h1, h2, h3, h4, h5⟩ := h
  exact .leaf h5 ⟨h4.1, (own_rw h2).2, h4.2⟩ h3 h1
theorem LeafAt.stay {w w' : World} {k g : Nat} {p : List Nat} {v : Nat} (h : LeafAt w k g p v) (hb : Below w.heap.size w w') : LeafAt w' k g p v := by
  obtain ⟨A, c, h1, h2, h3, h4, h5⟩ := h
  exact ⟨A, c, h1.below hb, own_below h2 hb, h3, h4, h5⟩
theorem LeafAt.grown {w w' : World} {k g base sz n : Nat} {p : List Nat} {v : Nat} {u : Value} {xs : List Value} (h : LeafAt w k g p v) (ho : w.ownsRow base 51 sz u n xs) (hg : w.grownBy w' u.ownBlock) : LeafAt w' k g p v := by
  obtain ⟨A, c, h1, h2, h3, h4, h5⟩ := h
  exact ⟨A, c, h1.grown ho (by decide) hg, own_grown h2 ho (by decide) hg, h3, h4, h5⟩
theorem info_n : (Try.prog.info? 51).map (fun i => (i.zero, i.size, i.bytes)) = some (some (.pointer none), 1, 8) := by kernel_rfl
def ptrs (gs : List Nat) : List Value := gs.map fun g => Value.pointer (some ⟨g, 0, none⟩)
end
end Go.Proofs.Ytfoapkcgdkfggaa
set_option linter.unusedSimpArgs false
set_option linter.unusedVariables false
namespace Go.Proofs.Ytfoapkcgdkfggaa
open Go.RowKit
def kAt (ks : List Kid) (j : Nat) : Nat := match ks[j]? with | some q => q.at_ | none => 0
def kPt (ks : List Kid) (j : Nat) : Value := match ks[j]? with | some q => .pointer (some ⟨q.blk, 0, none⟩) | none => .pointer none
theorem kAt_some {ks : List Kid} {j : Nat} {q : Kid} (h : ks[j]? = some q) : kAt ks j = q.at_ := by unfold kAt; rw [h]
theorem kPt_some {ks : List Kid} {j : Nat} {q : Kid} (h : ks[j]? = some q) : kPt ks j = .pointer (some ⟨q.blk, 0, none⟩) := by unfold kPt; rw [h]
theorem kPt_none {ks : List Kid} {j : Nat} (h : ks.length ≤ j) : kPt ks j = .pointer none := by unfold kPt; rw [List.getElem?_eq_none h]
theorem kidTh_get (ks : List Kid) (j : Nat) : (kidTh ks)[j]? = (ks[j]?).map fun q => (q.at_, Value.pointer (some ⟨q.blk, 0, none⟩)) := by
  unfold kidTh
  rw [List.getElem?_map]
theorem kids_lt {ks : List Kid} (h : ks.Pairwise fun q r => q.at_ < r.at_) {i j : Nat} {q r : Kid} (hi : ks[i]? = some q) (hj : ks[j]? = some r) (hij : i < j) : q.at_ < r.at_ := by
  obtain ⟨h1, rfl⟩ := List.getElem?_eq_some_iff.1 hi
  obtain ⟨h2, rfl⟩ := List.getElem?_eq_some_iff.1 hj
  exact List.pairwise_iff_getElem.1 h i j h1 h2 hij
section
variable {w : World} {k g m : Nat} {pre : List Nat} {ks : List Kid}
theorem Fork.sorted (h : Fork w k g m pre ks) : ks.Pairwise fun q r => q.at_ < r.at_ := by
  obtain ⟨A, c, gs, h1, h2, h3, h4, h5, h6, h7, h8, h9, h10, h11⟩ := h
  exact h8
theorem Fork.two (h : Fork w k g m pre ks) : 2 ≤ ks.length := by
  obtain ⟨A, c, gs, h1, h2, h3, h4, h5, h6, h7, h8, h9, h10, h11⟩ := h
  exact h9
theorem Fork.kid (h : Fork w k g m pre ks) : ∀ q ∈ ks, NodeOf w k q.blk q.lv q.pre q.es ∧ q.lv < m ∧ addrOf q.pre m = q.at_ ∧ (∀ b, m < b → addrOf q.pre b = addrOf pre b) ∧ q.at_ < 2 ^ k := by
  obtain ⟨A, c, gs, h1, h2, h3, h4, h5, h6, h7, h8, h9, h10, h11⟩ := h
  intro q hq
  refine ⟨h5 q hq, h6 q hq, (h7 q hq).1, (h7 q hq).2, ?_⟩
  rw [← (h7 q hq).1]
  exact addr_lt_pow (h5 q hq).info.1 m
theorem Fork.lv (h : Fork w k g m pre ks) : m < 64 := by
  obtain ⟨A, c, gs, h1, _⟩ := h
  exact h1
theorem pow_le_16 {k a : Nat} (h : a < 2 ^ k) (hk : k ≤ 16) : a < 65536 := Nat.lt_of_lt_of_le h (pow_len_le (k := k) (n := 16) hk)
theorem nd_from_j (h : Fork w k g m pre ks) (j : Nat) (addr : Int) (hl : ∀ (i : Nat) (q : Kid), ks[i]? = some q → i < j → (q.at_ : Int) < addr) (hr : ∀ q, ks[j]? = some q → addr ≤ (q.at_ : Int)) :
    Calls Try.prog 43 #[.pointer (some ⟨g, 0, none⟩), .int .i64 addr] w fun e w' => e = .returned (.tuple #[.int .i64 ((kAt ks j : Nat) : Int), kPt ks j]) ∧ Below w.heap.size w w' := by
  obtain ⟨A, c, gs, hp, hS, hB⟩ := h.head
  refine (nd_from hB hS addr).mono ?_
  rintro e w' ⟨⟨a, x, rfl, hh⟩, hb⟩
  refine ⟨?_, hb⟩
  have h1 : fromTh (kidTh ks) addr = (kidTh ks)[j]? := by
    refine th_from_at hS.ok ?_ ?_
    · intro i t ht hij
      rw [kidTh_get] at ht
      cases hq : ks[i]? with
      | none => rw [hq] at ht; cases ht
      | some q => rw [hq] at ht; cases ht; exact hl i q hq hij
    · intro t ht
      rw [kidTh_get] at ht
      cases hq : ks[j]? with
      | none => rw [hq] at ht; cases ht
      | some q => rw [hq] at ht; cases ht; exact hr q hq
  rw [h1, kidTh_get] at hh
  unfold kAt kPt
  cases hq : ks[j]? with
  | none =>
    rw [hq] at hh
    rcases hh with hh | ⟨-, rfl, rfl⟩
    · cases hh
    · rfl
  | some q =>
    rw [hq] at hh
    rcases hh with hh | ⟨hh, -, -⟩
    · injection hh with hh
      injection hh with e1 e2
      rw [← e1, ← e2]
    · cases hh
theorem nd_from_0 (h : Fork w k g m pre ks) :
    Calls Try.prog 43 #[.pointer (some ⟨g, 0, none⟩), .int .i64 0] w fun e w' => e = .returned (.tuple #[.int .i64 ((kAt ks 0 : Nat) : Int), kPt ks 0]) ∧ Below w.heap.size w w' :=
  nd_from_j h 0 0 (fun i q _ hi => absurd hi (by omega)) (fun q _ => by omega)
theorem nd_from_next (h : Fork w k g m pre ks) {j : Nat} {q : Kid} (hq : ks[j]? = some q) :
    Calls Try.prog 43 #[.pointer (some ⟨g, 0, none⟩), .int .i64 ((q.at_ : Int) + 1)] w fun e w' => e = .returned (.tuple #[.int .i64 ((kAt ks (j + 1) : Nat) : Int), kPt ks (j + 1)]) ∧ Below w.heap.size w w' := by
  refine nd_from_j h (j + 1) _ (fun i r hr hi => ?_) (fun r hr => ?_)
  · rcases Nat.lt_or_ge i j with h1 | h1
    · have := kids_lt h.sorted hr hq h1
      omega
    · obtain rfl : i = j := by omega
      rw [hq] at hr
      injection hr with hr
      subst hr
      omega
  · have := kids_lt h.sorted hq hr (by omega)
    omega
end
end Go.Proofs.Ytfoapkcgdkfggaa
set_option linter.unusedSimpArgs false
set_option linter.unusedVariables false
namespace Go.Proofs.Ytfoapkcgdkfggaa
open Go.RowKit
def Keep (t : TypeId) (w w' : World) : Prop := ∀ (b : Nat) (cs : Array Value) (fr : Nat × Nat), w.heap[b]? = some (Obj.cells cs t fr) → w'.heap[b]? = some (Obj.cells cs t fr)
section
variable {t : TypeId} {w w' w'' : World}
theorem heap_lt {w : World} {b : Nat} {o : Obj} (h : w.heap[b]? = some o) : b < w.heap.size := (Array.getElem?_eq_some_iff.1 h).1
theorem Keep.refl (t : TypeId) (w : World) : Keep t w w := fun _ _ _ h => h
theorem Keep.trans (h : Keep t w w') (h' : Keep t w' w'') : Keep t w w'' := fun b cs fr hb => h' b cs fr (h b cs fr hb)
theorem Keep.below (hb : Below w.heap.size w w') : Keep t w w' := fun b cs fr h => (hb.block b (heap_lt h)).trans h
theorem Keep.set {g i : Nat} {t' : TypeId} {cs : Array Value} (hB : Blk w g t' cs) (hne : t ≠ t') (u : Value) : Keep t w (w.setCell ⟨g, i, none⟩ u) := by
  intro b cs' fr h
  refine (Below.heap_setCell w ⟨g, i, none⟩ u b ?_).trans h
  rintro rfl
  unfold Blk at hB
  rw [hB] at h
  injection h with h
  injection h with _ h
  exact hne h.symm
theorem Keep.grown {base n sz : Nat} {t' : TypeId} {v : Value} {xs : List Value} (ho : w.ownsRow base t' sz v n xs) (hne : t ≠ t') (hg : w.grownBy w' v.ownBlock) : Keep t w w' := by
  intro b cs fr h
  refine (hg.block b (heap_lt h) ?_).trans h
  intro hv
  rcases ho.2 with ⟨rfl, _⟩ | ⟨g, cap, cur, rfl, hg, hh, _⟩
  · simp [Value.ownBlock] at hv
  · have hgb : b = g := by simpa [Value.ownBlock] using hv
    subst hgb
    rw [hh] at h
    injection h with h
    injection h with _ h
    exact hne h.symm
theorem Blk.keep {g : Nat} {cs : Array Value} (h : Blk w g t cs) (hk : Keep t w w') : Blk w' g t cs := hk g cs (0, 0) h
theorem TyRow.keep {A : Option Addr} {n : Nat} (h : TyRow w t A n) (hk : Keep t w w') : TyRow w' t A n := by
  intro hn
  obtain ⟨b, o, cs, fr, h1, h2⟩ := h hn
  exact ⟨b, o, cs, fr, h1, hk b cs fr h2⟩
theorem Rw.keep {sz n : Nat} {A : Option Addr} {vs : List Value} (h : Rw w sz A n vs) (ht : TyRow w t A n) (hk : Keep t w w') : Rw w' sz A n vs := by
  refine ⟨h.1, fun hn => ?_⟩
  obtain ⟨b, o, h1, hl, hc⟩ := h.2 hn
  obtain ⟨b', o', cs, fr, h1', h2⟩ := ht hn
  rw [h1] at h1'
  injection h1' with h1'
  injection h1' with h3 h4
  subst h3 h4
  have h5 := hk b cs fr h2
  refine ⟨b, o, h1, heap_lt h5, fun j u hu => ?_⟩
  rw [World.cell?_of_block (w := w) (a := ⟨b, o + j, none⟩) (h5.trans h2.symm)]
  exact hc j u hu
end
/-- An entry whose point lies in a block of numbers. -/
def ER.okT (w : World) (r : ER) : Prop := r.ok w ∧ TyRow w 36 r.A r.n
section
variable {w w' : World} {r : ER}
theorem ER.okT.keep (h : r.okT w) (hk : Keep 36 w w') : r.okT w' := ⟨⟨⟨h.1.1.1, h.1.1.2.1.keep h.2 hk, h.1.1.2.2⟩, h.1.2⟩, h.2.keep hk⟩
theorem ER.okT.below (h : r.okT w) (hb : Below w.heap.size w w') : r.okT w' := h.keep (Keep.below hb)
theorem ER.okT.of_own {base n : Nat} {A : Option Addr} {c v : Nat} {p : List Nat} (h : w.ownsRow base 36 1 (.slice A n c) n (u64s p)) (hp : Zp n p) (hv : v < 2 ^ 64) : ER.okT w ⟨A, n, c, p, v⟩ := by
  obtain ⟨A', c', e, hc, hR⟩ := Rw.of_own h
  injection e with e1 e2 e3
  subst e1 e3
  refine ⟨⟨⟨hp.1, hR, hp.2⟩, hc, ?_, hv⟩, own_ty h⟩
  rcases h.2 with ⟨h1, -⟩ | ⟨g, cap, cur, h1, _, _, _, hm, _⟩
  · injection h1 with _ _ h3
    show c ≤ maxLen
    rw [h3]
    exact Nat.zero_le _
  · injection h1 with _ _ h3
    show c ≤ maxLen
    rw [h3]
    exact hm
theorem ER.okT.nil (w : World) : ER.okT w ⟨none, 0, 0, [], 0⟩ := ⟨⟨pt_nil w, Nat.le_refl _, Nat.zero_le _, by decide⟩, fun h => absurd h (by decide)⟩
end
/-- A list that grows behind a captured variable. -/
def Col {α : Type} (tv te : TypeId) (sz : Nat) (f : α → List Value) (B : Nat) (w : World) (bo : Nat) (rows : List α) : Prop :=
  B ≤ bo ∧ ∃ v, Blk w bo tv #[v] ∧ w.ownsRow B te sz v rows.length (rows.flatMap f)
theorem Col.below {α : Type} {tv te : TypeId} {sz : Nat} {f : α → List Value} {B : Nat} {w w' : World} {bo : Nat} {rows : List α} (h : Col tv te sz f B w bo rows) (hb : Below w.heap.size w w') : Col tv te sz f B w' bo rows := by
  obtain ⟨h1, v, h2, h3⟩ := h
  exact ⟨h1, v, h2.below hb, own_below h3 hb⟩
/-- What the captured variable holds. -/
theorem Col.cell {α : Type} {tv te : TypeId} {sz : Nat} {f : α → List Value} {B : Nat} {w : World} {bo : Nat} {rows : List α} (h : Col tv te sz f B w bo rows) :
    ∃ A c, w.cell? ⟨bo, 0, none⟩ = some (.slice A rows.length c) ∧ w.frozen? ⟨bo, 0, none⟩ = false ∧ bo < w.heap.size ∧ Blk w bo tv #[.slice A rows.length c] ∧ w.ownsRow B te sz (.slice A rows.length c) rows.length (rows.flatMap f) := by
  obtain ⟨h1, v, h2, h3⟩ := h
  obtain ⟨A, c, rfl, -, -⟩ := Rw.of_own h3
  exact ⟨A, c, h2.cell 0, h2.frozen 0, h2.lt, h2, h3⟩
end Go.Proofs.Ytfoapkcgdkfggaa
set_option linter.unusedSimpArgs false
set_option linter.unusedVariables false
namespace Go.Proofs.Ytfoapkcgdkfggaa
open Go.RowKit
/-- All is as it was but one block. -/
structure Ex (c : Nat) (w w' : World) : Prop where
  os : w'.os = w.os
  tape : w'.tape = w.tape
  output : w'.output = w.output
  size : w.heap.size ≤ w'.heap.size
  block : ∀ k, k < w.heap.size → k ≠ c → w'.heap[k]? = w.heap[k]?
section
variable {c : Nat} {w a a' : World}
theorem Ex.refl (c : Nat) (w : World) : Ex c w w := ⟨rfl, rfl, rfl, Nat.le_refl _, fun _ _ _ => rfl⟩
theorem Ex.below (h : Ex c w a) (hb : Below a.heap.size a a') : Ex c w a' :=
  ⟨hb.os.trans h.os, hb.tape.trans h.tape, hb.output.trans h.output, Nat.le_trans h.size hb.size, fun k hk hne => (hb.block k (Nat.lt_of_lt_of_le hk h.size)).trans (h.block k hk hne)⟩
theorem Ex.alloc (h : Ex c w a) (o : Obj) : Ex c w (a.alloc o) := h.below ((Below.refl _ _).alloc (Nat.le_refl _) o)
theorem Ex.drew (h : Ex c w a) : Ex c w a.drew := h.below (Below.refl _ _).drew
theorem Ex.set (h : Ex c w a) (i : Nat) (u : Value) : Ex c w (a.setCell ⟨c, i, none⟩ u) := by
  have hs := (Below.refl 0 a).setCell (p := ⟨c, i, none⟩) (Nat.zero_le _) u
  exact ⟨hs.os.trans h.os, hs.tape.trans h.tape, hs.output.trans h.output, Nat.le_trans h.size hs.size, fun k hk hne => (Below.heap_setCell a ⟨c, i, none⟩ u k hne).trans (h.block k hk hne)⟩
theorem Ex.trans (h : Ex c w a) (k : Ex c a a') : Ex c w a' :=
  ⟨k.os.trans h.os, k.tape.trans h.tape, k.output.trans h.output, Nat.le_trans h.size k.size, fun j hj hne => (k.block j (Nat.lt_of_lt_of_le hj h.size) hne).trans (h.block j hj hne)⟩
theorem Ex.to_below {B : Nat} (h : Ex c w a) (hc : B ≤ c) (hB : B ≤ w.heap.size) : Below B w a :=
  ⟨h.os, h.tape, h.output, h.size, fun k hk => h.block k (Nat.lt_of_lt_of_le hk hB) (by omega)⟩
theorem Ex.keep {t tc : TypeId} {cs : Array Value} (h : Ex c w a) (hB : Blk w c tc cs) (hne : t ≠ tc) : Keep t w a := by
  intro b cs' fr hb
  refine (h.block b (heap_lt hb) ?_).trans hb
  rintro rfl
  unfold Blk at hB
  rw [hB] at hb
  injection hb with hb
  injection hb with _ hb
  exact hne hb.symm
theorem Ex.blk {t : TypeId} {g : Nat} {cs : Array Value} (h : Ex c w a) (hB : Blk w g t cs) (hne : g ≠ c) : Blk a g t cs := (h.block g hB.lt hne).trans hB
end
end Go.Proofs.Ytfoapkcgdkfggaa
set_option linter.unusedSimpArgs false
set_option linter.unusedVariables false
namespace Go.Proofs.Ytfoapkcgdkfggaa
open Go.RowKit
open Go.ChangeMaps (setBlock)
abbrev ptrN (g : Nat) : Value := .pointer (some ⟨g, 0, none⟩)
theorem ptrN_inj {a b : Nat} (h : ptrN a = ptrN b) : a = b := by
  injection h with h
  injection h with h
  injection h
theorem ty_heap : Try.prog.underlying 61 = some (.map 51 4) := by kernel_rfl
theorem eq_node {w : World} {a b : Nat} {ca cb : Array Value} (ha : Blk w a 103 ca) (hb : Blk w b 103 cb) : (Op.equal 51 (ptrN a) (ptrN b)).run Try.prog w = .ok (decide (a = b)) w := by
  have key : ∀ c : Bool, (binOp .eql 51 (ptrN a) (ptrN b)).run Try.prog w = .ok (.bool c) w → (Op.equal 51 (ptrN a) (ptrN b)).run Try.prog w = .ok c w := by
    intro c h
    simp only [binOp, Sem.run_bind] at h
    rcases hr : (Op.equal 51 (ptrN a) (ptrN b)).run Try.prog w with ⟨v, w'⟩ | _ | _
    all_goals rw [hr] at h
    all_goals simp [Result.andThen] at h
    obtain ⟨h1, h2⟩ := h
    rw [h1, h2]
  by_cases hab : a = b
  · subst hab
    rw [decide_eq_true rfl]
    exact key _ (ptr_same _ _)
  · rw [decide_eq_false hab]
    exact key _ (ptr_other hab ha hb)
/-- The nodes that a map holds, each as true. -/
structure MapEs (w : World) (es : Array MapEntry) (clock : Nat) (S : List Nat) : Prop where
  keys : es.toList.map (·.key) = S.map ptrN
  vals : ∀ e ∈ es.toList, e.val = .bool true
  born : (es.toList.map (·.born)).Nodup
  old : ∀ e ∈ es.toList, e.born < clock
  nodup : S.Nodup
  node : ∀ g ∈ S, ∃ cs, Blk w g 103 cs
def MapAt (w : World) (b : Nat) (S : List Nat) : Prop := ∃ es clock, w.heap[b]? = some (.map es clock) ∧ MapEs w es clock S
/-- A block without cells: a map's, an iterator's. -/
def IsMap (w : World) (b : Nat) : Prop := ∀ cs t fr, w.heap[b]? ≠ some (.cells cs t fr)
theorem IsMap.of_map {w : World} {b : Nat} {es : Array MapEntry} {clock : Nat} (h : w.heap[b]? = some (.map es clock)) : IsMap w b := by
  intro cs t fr h'
  rw [h] at h'
  cases h'
theorem IsMap.of_iter {w : World} {b : Nat} {m : Option Nat} {s c : Nat} {seen : Array Nat} (h : w.heap[b]? = some (.mapIter m s seen c)) : IsMap w b := by
  intro cs t fr h'
  rw [h] at h'
  cases h'
section
variable {w w' : World} {b r : Nat} {S left : List Nat} {es : Array MapEntry} {clock : Nat}
theorem MapAt.isMap (h : MapAt w b S) : IsMap w b := by
  obtain ⟨es, clock, h, -⟩ := h
  exact IsMap.of_map h
theorem MapAt.lt (h : MapAt w b S) : b < w.heap.size := by
  obtain ⟨es, clock, h, -⟩ := h
  exact heap_lt h
theorem MapEs.world (h : MapEs w es clock S) (hw : ∀ g ∈ S, ∀ cs, Blk w g 103 cs → Blk w' g 103 cs) : MapEs w' es clock S :=
  ⟨h.keys, h.vals, h.born, h.old, h.nodup, fun g hg => (h.node g hg).imp fun cs hc => hw g hg cs hc⟩
theorem MapAt.below (h : MapAt w b S) (hb : Below w.heap.size w w') : MapAt w' b S := by
  obtain ⟨es, clock, h1, h2⟩ := h
  exact ⟨es, clock, (hb.block b (heap_lt h1)).trans h1, h2.world fun g _ cs hc => hc.below hb⟩
/-- Another map's block is changed. -/
theorem MapAt.exO {c : Nat} (h : MapAt w b S) (hx : Ex c w w') (hne : b ≠ c) (hc : IsMap w c) : MapAt w' b S := by
  obtain ⟨es, clock, h1, h2⟩ := h
  refine ⟨es, clock, (hx.block b (heap_lt h1) hne).trans h1, h2.world fun g _ cs hB => hx.blk hB ?_⟩
  rintro rfl
  exact hc _ _ _ hB
theorem blk_exM {c g : Nat} {t : TypeId} {cs : Array Value} (h : Blk w g t cs) (hx : Ex c w w') (hc : IsMap w c) : Blk w' g t cs := by
  refine hx.blk h ?_
  rintro rfl
  exact hc _ _ _ h
theorem find_node (hn : ∀ e ∈ es.toList, ∃ y cs, e.key = ptrN y ∧ Blk w y 103 cs) {x : Nat} {cx : Array Value} (hx : Blk w x 103 cx) : ∀ (l : List MapEntry) (i : Nat), (∀ e ∈ l, ∃ y cs, e.key = ptrN y ∧ Blk w y 103 cs) →
    ((Instr.findAsking 51 (ptrN x) l i).run Try.prog w = .ok none w ∧ ∀ e ∈ l, e.key ≠ ptrN x) ∨ ∃ j e, (Instr.findAsking 51 (ptrN x) l i).run Try.prog w = .ok (some (i + j, e.val)) w ∧ l[j]? = some e ∧ e.key = ptrN x
  | [], i, _ => .inl ⟨rfl, fun e h => by cases h⟩
  | e :: l, i, h => by
    obtain ⟨y, cs, he, hB⟩ := h e (List.mem_cons_self ..)
    have heq := eq_node hx hB
    unfold Instr.findAsking
    simp only [Sem.run_bind, he, heq, Result.andThen]
    by_cases hxy : x = y
    · right
      refine ⟨0, e, ?_, rfl, by rw [he, hxy]⟩
      simp [hxy]
    · rcases find_node hn hx l (i + 1) (fun e he => h e (List.mem_cons_of_mem _ he)) with ⟨h1, h2⟩ | ⟨j, e', h1, h2, h3⟩
      · left
        refine ⟨by simpa [hxy] using h1, fun e' he' => ?_⟩
        rcases List.mem_cons.1 he' with rfl | he'
        · rw [he]
          intro h0
          exact hxy (ptrN_inj h0).symm
        · exact h2 e' he'
      · right
        refine ⟨j + 1, e', ?_, by simpa using h2, h3⟩
        simpa [hxy, Nat.add_comm, Nat.add_left_comm] using h1
theorem MapEs.ent (h : MapEs w es clock S) {e : MapEntry} (he : e ∈ es.toList) : ∃ y ∈ S, e.key = ptrN y := by
  have : e.key ∈ S.map ptrN := by
    rw [← h.keys]
    exact List.mem_map.2 ⟨e, he, rfl⟩
  obtain ⟨y, h1, h2⟩ := List.mem_map.1 this
  exact ⟨y, h1, h2.symm⟩
theorem find_key (h : MapEs w es clock S) {x : Nat} {cx : Array Value} (hx : Blk w x 103 cx) :
    ((Instr.findKey 51 (ptrN x) es.toList).run Try.prog w = .ok none w ∧ x ∉ S) ∨ ∃ j e, (Instr.findKey 51 (ptrN x) es.toList).run Try.prog w = .ok (some (j, e.val)) w ∧ es.toList[j]? = some e ∧ e.key = ptrN x ∧ x ∈ S := by
  have hn : ∀ e ∈ es.toList, ∃ y cs, e.key = ptrN y ∧ Blk w y 103 cs := fun e he => by
    obtain ⟨y, h1, h2⟩ := h.ent he
    obtain ⟨cs, hc⟩ := h.node y h1
    exact ⟨y, cs, h2, hc⟩
  have hu : Try.prog.underlying 51 = some (.pointer 103) := Try.underlying51
  have hfk : (Instr.findKey 51 (ptrN x) es.toList).run Try.prog w = (Instr.findAsking 51 (ptrN x) es.toList 0).run Try.prog w := by
    unfold Instr.findKey
    simp only [Sem.run_bind, run_underlying hu, Result.andThen]
    rcases hl : es.toList with _ | ⟨e, l⟩
    · rfl
    · rfl
  rw [hfk]
  rcases find_node hn hx es.toList 0 hn with ⟨h1, h2⟩ | ⟨j, e, h1, h2, h3⟩
  · refine .inl ⟨h1, fun hxS => ?_⟩
    have : ptrN x ∈ es.toList.map (·.key) := by
      rw [h.keys]
      exact List.mem_map.2 ⟨x, hxS, rfl⟩
    obtain ⟨e, he, he2⟩ := List.mem_map.1 this
    exact h2 e he he2
  · refine .inr ⟨j, e, by simpa using h1, h2, h3, ?_⟩
    obtain ⟨y, h4, h5⟩ := h.ent (List.mem_of_getElem? h2)
    rw [h3] at h5
    rwa [ptrN_inj h5]
theorem check_node (w : World) (x : Nat) (e : Bool) : (Instr.checkKey e 10000 51 (ptrN x)).run Try.prog w = .ok () w := by
  have hu : Try.prog.underlying 51 = some (.pointer 103) := Try.underlying51
  unfold Instr.checkKey
  simp only [Sem.run_bind, run_underlying hu, Result.andThen]
  rfl
theorem Ex.setBlock {c : Nat} {w : World} (o : Obj) : Ex c w (Go.ChangeMaps.setBlock w c o) := by
  refine ⟨rfl, rfl, rfl, by simp [Go.ChangeMaps.setBlock], fun k hk hne => ?_⟩
  simp only [Go.ChangeMaps.setBlock]
  rw [Array.getElem?_setIfInBounds_ne (Ne.symm hne)]
theorem blk_setBlock {g c : Nat} {t : TypeId} {cs : Array Value} {o : Obj} (h : Blk w g t cs) (hc : IsMap w c) : Blk (Go.ChangeMaps.setBlock w c o) g t cs := blk_exM h (Ex.setBlock o) hc
theorem heap_setBlock {c : Nat} {o : Obj} (h : c < w.heap.size) : (Go.ChangeMaps.setBlock w c o).heap[c]? = some o := by
  simp only [Go.ChangeMaps.setBlock]
  rw [Array.getElem?_setIfInBounds_self_of_lt h]
/-- One more, or none. -/
def addN (S : List Nat) (x : Nat) : List Nat := if x ∈ S then S else S ++ [x]
theorem mem_addN {S : List Nat} {x y : Nat} : y ∈ addN S x ↔ y ∈ S ∨ y = x := by
  unfold addN
  split
  · rename_i h
    exact ⟨.inl, fun h' => h'.elim id (fun e => e ▸ h)⟩
  · simp
theorem map_update (h : MapAt w b S) {x : Nat} {cx : Array Value} (hx : Blk w x 103 cx) :
    ∃ w', (Instr.mapUpdate 61 (.map (some b)) (ptrN x) (.bool true)).run Try.prog w = .ok () w' ∧ MapAt w' b (addN S x) ∧ Ex b w w' := by
  have hm := h.isMap
  obtain ⟨es, clock, hb, hE⟩ := h
  rcases find_key hE hx with ⟨h1, h2⟩ | ⟨j, e, h1, h2, h3, h4⟩
  · refine ⟨setBlock w b (.map (es.push ⟨ptrN x, .bool true, clock⟩) (clock + 1)), ?_, ?_, Ex.setBlock _⟩
    · simp [Instr.mapUpdate, run_underlying ty_heap, MapKept.run_getObj_map hb, check_node, h1, MapKept.run_setObj_map _ hb, Result.andThen, setBlock]
    · refine ⟨_, _, heap_setBlock (heap_lt hb), ?_⟩
      unfold addN
      rw [if_neg h2]
      refine ⟨by simp [hE.keys], fun e he => ?_, ?_, fun e he => ?_, ?_, fun g hg => ?_⟩
      · simp only [Array.toList_push, List.mem_append, List.mem_singleton] at he
        rcases he with he | rfl
        · exact hE.vals e he
        · rfl
      · simp only [Array.toList_push, List.map_append, List.map_cons, List.map_nil]
        refine List.nodup_append.2 ⟨hE.born, by simp, fun a ha c hc => ?_⟩
        obtain ⟨e, he, rfl⟩ := List.mem_map.1 ha
        simp at hc
        subst hc
        exact Nat.ne_of_lt (hE.old e he)
      · simp only [Array.toList_push, List.mem_append, List.mem_singleton] at he
        rcases he with he | rfl
        · exact Nat.lt_succ_of_lt (hE.old e he)
        · exact Nat.lt_succ_self _
      · refine List.nodup_append.2 ⟨hE.nodup, by simp, fun a ha c hc => ?_⟩
        simp at hc
        subst hc
        rintro rfl
        exact h2 ha
      · rcases List.mem_append.1 hg with hg | hg
        · obtain ⟨cs, hc⟩ := hE.node g hg
          exact ⟨cs, blk_setBlock hc hm⟩
        · rw [List.mem_singleton] at hg
          subst hg
          exact ⟨cx, blk_setBlock hx hm⟩
  · have hv : e.val = .bool true := hE.vals e (List.mem_of_getElem? h2)
    have hj : es[j]? = some e := by simpa using h2
    have hsame : es.modify j (fun e => { e with key := ptrN x, val := .bool true }) = es := by
      apply Array.ext_getElem?
      intro i
      rw [Array.getElem?_modify]
      split
      · rename_i hij
        subst hij
        rw [hj]
        simp [← h3, ← hv]
      · rfl
    refine ⟨setBlock w b (.map es clock), ?_, ?_, Ex.setBlock _⟩
    · have hk : (Instr.keyThatStays (ptrN x) (ptrN x)).run Try.prog w = .ok (ptrN x) w := by
        unfold Instr.keyThatStays
        simp [Instr.sameBits]
      simp [Instr.mapUpdate, run_underlying ty_heap, MapKept.run_getObj_map hb, check_node, h1, hj, h3, hk, MapKept.run_setObj_map _ hb, Result.andThen, setBlock, hsame]
    · refine ⟨_, _, heap_setBlock (heap_lt hb), ?_⟩
      unfold addN
      rw [if_pos h4]
      exact hE.world fun g _ cs hc => blk_setBlock hc hm
theorem map_lookup (h : MapAt w b S) {x : Nat} {cx : Array Value} (hx : Blk w x 103 cx) : (Instr.lookup 61 (.map (some b)) (ptrN x) false).run Try.prog w = .ok (.bool (decide (x ∈ S))) w := by
  obtain ⟨es, clock, hb, hE⟩ := h
  have hz : (zeroValue 4).run Try.prog w = .ok (.bool false) w := by kernel_rfl
  rcases find_key hE hx with ⟨h1, h2⟩ | ⟨j, e, h1, h2, h3, h4⟩
  · rw [decide_eq_false h2]
    simp [Instr.lookup, run_underlying ty_heap, MapKept.run_getObj_map hb, check_node, h1, hz, Result.andThen]
  · rw [decide_eq_true h4]
    have hv : e.val = .bool true := hE.vals e (List.mem_of_getElem? h2)
    simp [Instr.lookup, run_underlying ty_heap, MapKept.run_getObj_map hb, check_node, h1, hv, Result.andThen]
theorem map_len (h : MapAt w b S) (ty : TypeId) : (Builtin.len_ #[61] ty #[.map (some b)]).run Try.prog w = .ok (.int .i64 (S.length : Int)) w := by
  obtain ⟨es, clock, hb, hE⟩ := h
  have hl : es.size = S.length := by
    have := congrArg List.length hE.keys
    simpa using this
  simp [Builtin.len_, run_underlying ty_heap, MapKept.run_getObj_map hb, goInt, Result.andThen, hl]
theorem map_new (w : World) : MapAt (w.alloc (.map #[] 0)) w.heap.size [] := ⟨#[], 0, heap_alloc_new w _, ⟨rfl, fun e h => by simp at h, by simp, fun e h => by simp at h, by simp, fun g h => by cases h⟩⟩
theorem map_box {ops : Array Oper} {rest : List Oper} {o : Oper} {a : Act} {Q : Exit → Act → World → Prop} (hg : o.guard = none) (m x v : Operand) (hop : o.op = Op.mapUpdate 61 m x v) (b : Nat) (S : List Nat)
    (hm : a.eval m = .map (some b)) (hown : MapAt w b S) (g : Nat) (cx : Array Value) (hx : a.eval x = ptrN g) (hv : a.eval v = .bool true) (hB : Blk w g 103 cx)
    (hK : ∀ w', MapAt w' b (addN S g) → Ex b w w' → wpList Try.prog ops Q rest (a.put o.dst undef) w') : wpList Try.prog ops Q (o :: rest) a w := by
  refine wpList_plain hg fun K' hK' => ?_
  obtain ⟨w', hrun, r1, r2⟩ := map_update hown hB
  unfold Oper.wp
  simp [execOp, hop, hm, hx, hv, hrun, Result.andThen]
  exact hK' _ _ (hK w' r1 r2)
def unptr : Value → Nat | .pointer (some a) => a.block | _ => 0
theorem perm_out {e : MapEntry} : ∀ {l : List MapEntry}, e ∈ l → (l.map (·.born)).Nodup → l.Perm (e :: l.filter (fun x => !(x.born == e.born)))
  | [], h, _ => by cases h
  | x :: l, h, hn => by
    simp only [List.map_cons, List.nodup_cons] at hn
    by_cases hx : x.born = e.born
    · have hl : ∀ y ∈ l, ¬ y.born = e.born := fun y hy h0 => hn.1 (List.mem_map.2 ⟨y, hy, h0.trans hx.symm⟩)
      have he : e = x := by
        rcases List.mem_cons.1 h with h | h
        · exact h
        · exact absurd rfl (hl e h)
      subst he
      rw [List.filter_cons_of_neg (by simp), List.filter_eq_self.2 (fun y hy => by simpa using hl y hy)]
    · have he : e ∈ l := by
        rcases List.mem_cons.1 h with h | h
        · exact absurd (by rw [h]) hx
        · exact h
      rw [List.filter_cons_of_pos (by simpa using hx)]
      exact ((perm_out he hn.2).cons x).trans (List.Perm.swap ..)
/-- Going through a map: what is left. -/
def IterAt (w : World) (r b : Nat) (S left : List Nat) : Prop := ∃ es clock seen c0, w.heap[b]? = some (.map es clock) ∧ MapEs w es clock S ∧ w.heap[r]? = some (.mapIter (some b) clock seen c0) ∧ clock ≤ c0 ∧ (leftOf es seen).toList.map (·.key) = left.map ptrN
theorem map_go (h : MapAt w b S) : ∃ ob : Obj, (Instr.range 61 (.map (some b))).run Try.prog w = .ok (.pointer (some ⟨w.heap.size, 0, none⟩)) (w.alloc ob) ∧ IterAt (w.alloc ob) w.heap.size b S S := by
  obtain ⟨es, clock, hb, hE⟩ := h
  have hb0 := (Below.refl w.heap.size w).alloc (Nat.le_refl _) (.mapIter (some b) clock #[] clock)
  refine ⟨_, run_range_map w _ _ _ b es clock ty_heap hb, es, clock, #[], clock, (hb0.block b (heap_lt hb)).trans hb, hE.world fun g _ cs hc => hc.below hb0, heap_alloc_new _ _, Nat.le_refl _, ?_⟩
  rw [← hE.keys]
  congr 1
  simp [leftOf]
theorem IterAt.map (h : IterAt w r b S left) : MapAt w b S := by
  obtain ⟨es, clock, seen, c0, h1, h2, -⟩ := h
  exact ⟨es, clock, h1, h2⟩
theorem IterAt.left_eq (h : IterAt w r b S left) : w.rangeLeft b r = left.length := by
  obtain ⟨es, clock, seen, c0, h1, h2, h3, h4, h5⟩ := h
  unfold World.rangeLeft
  rw [h1, h3]
  have := congrArg List.length h5
  simpa using this
theorem IterAt.iter (h : IterAt w r b S left) : IsMap w r := by
  obtain ⟨es, clock, seen, c0, h1, h2, h3, -⟩ := h
  exact IsMap.of_iter h3
theorem IterAt.ne {r : Nat} {left : List Nat} (h : IterAt w r b S left) : r ≠ b := by
  obtain ⟨es, clock, seen, c0, h1, h2, h3, -⟩ := h
  rintro rfl
  rw [h1] at h3
  cases h3
theorem left_push (es : Array MapEntry) (seen : Array Nat) (n : Nat) : (leftOf es (seen.push n)).toList = (leftOf es seen).toList.filter (fun x => !(x.born == n)) := by
  unfold leftOf
  simp only [Array.toList_filter, List.filter_filter]
  refine List.filter_congr fun x _ => ?_
  rw [contains_push]
  cases seen.contains x.born <;> cases (x.born == n) <;> rfl
theorem IterAt.next {r : Nat} {left : List Nat} (h : IterAt w r b S left) (ty : TypeId) :
    (left = [] ∧ (Instr.next (.pointer (some ⟨r, 0, none⟩)) false ty).run Try.prog w = .ok (.tuple #[.bool false]) w) ∨
    ∃ g left' w', (Instr.next (.pointer (some ⟨r, 0, none⟩)) false ty).run Try.prog w = .ok (.tuple #[.bool true, ptrN g, .bool true]) w' ∧ left.Perm (g :: left') ∧ g ∈ S ∧ IterAt w' r b S left' ∧ (Instr.entry (.pointer (some ⟨r, 0, none⟩))).run Try.prog w' = .ok (.tuple #[ptrN g, .bool true]) w' ∧ Ex r w w' := by
  have hne := h.ne
  obtain ⟨es, clock, seen, c0, h1, h2, h3, h4, h5⟩ := h
  rcases run_next_at (P := Try.prog) w ty r b clock c0 seen es clock h3 h1 h2.old h4 with ⟨h6, h7⟩ | ⟨e, he, w1, hw1, hrun⟩
  · refine .inl ⟨?_, h7⟩
    have : (leftOf es seen).toList = [] := by
      rw [Array.eq_empty_of_size_eq_zero h6]
    rw [this] at h5
    simpa using h5.symm
  · have hme := (mem_left he).1
    obtain ⟨g, hgS, hg⟩ := h2.ent hme
    have hv := h2.vals e hme
    rw [hg, hv] at hrun
    have hx1 : Ex r w w1 := by
      rcases hw1 with rfl | rfl
      · exact Ex.refl _ _
      · exact (Ex.refl _ _).drew
    have hx := hx1.trans (Ex.setBlock (c := r) (w := w1) (.mapIter (some b) clock (seen.push e.born) clock))
    have hr1 : r < w1.heap.size := Nat.lt_of_lt_of_le (heap_lt h3) hx1.size
    have hb' := (hx.block b (heap_lt h1) (Ne.symm hne)).trans h1
    have hr' : (setBlock w1 r (.mapIter (some b) clock (seen.push e.born) clock)).heap[r]? = _ := heap_setBlock hr1
    have hE' : MapEs (setBlock w1 r (.mapIter (some b) clock (seen.push e.born) clock)) es clock S := h2.world fun q hq cs hc => by
      refine hx.blk hc ?_
      rintro rfl
      unfold Blk at hc
      rw [h3] at hc
      cases hc
    have hsub : ∀ x ∈ (leftOf es (seen.push e.born)).toList, ptrN (unptr x.key) = x.key := fun x hx => by
      obtain ⟨y, -, hy⟩ := h2.ent (mem_left hx).1
      rw [hy]
      rfl
    refine .inr ⟨g, (leftOf es (seen.push e.born)).toList.map (fun x => unptr x.key), _, hrun, ?_, hgS, ⟨es, clock, _, _, hb', hE', hr', Nat.le_refl _, ?_⟩, ?_, hx⟩
    · have hp := perm_out he (by
        have : (leftOf es seen).toList.Sublist es.toList := by
          unfold leftOf
          rw [Array.toList_filter]
          exact List.filter_sublist
        exact (this.map _).nodup h2.born)
      rw [← left_push] at hp
      have hq := hp.map (fun x => unptr x.key)
      have hl : (leftOf es seen).toList.map (fun x => unptr x.key) = left := by
        have := congrArg (List.map unptr) h5
        rw [List.map_map, List.map_map] at this
        have h0 : (unptr ∘ ptrN) = id := by
          funext x
          rfl
        rw [h0, List.map_id] at this
        exact this
      rw [hl, List.map_cons, hg] at hq
      exact hq
    · rw [List.map_map]
      exact (List.map_congr_left fun x hx => (hsub x hx).symm)
    · have := run_entry_at (P := Try.prog) _ r b clock seen es clock e hr' hb' hme h2.born
      rw [hg, hv] at this
      exact this
theorem iter_next {ops : Array Oper} {rest : List Oper} {o : Oper} {a : Act} {Q : Exit → Act → World → Prop} {r : Nat} {left : List Nat} (hg : o.guard = none) (it : Operand) (hop : o.op = Op.next it false) (b : Nat) (S : List Nat)
    (hit : a.eval it = .pointer (some ⟨r, 0, none⟩)) (h : IterAt w r b S left)
    (hDone : left = [] → wpList Try.prog ops Q rest (a.put o.dst (.tuple #[.bool false])) w)
    (hMore : ∀ g left' w', left.Perm (g :: left') → g ∈ S → IterAt w' r b S left' → (Instr.entry (.pointer (some ⟨r, 0, none⟩))).run Try.prog w' = .ok (.tuple #[ptrN g, .bool true]) w' → Ex r w w' → wpList Try.prog ops Q rest (a.put o.dst (.tuple #[.bool true, ptrN g, .bool true])) w') :
    wpList Try.prog ops Q (o :: rest) a w := by
  refine wpList_plain hg fun K' hK' => ?_
  unfold Oper.wp
  rcases h.next o.type with ⟨h0, hrun⟩ | ⟨g, left', w', hrun, hp, hgS, hI, hen, hx⟩
  · simp [execOp, hop, hit, hrun, Result.andThen]
    exact hK' _ _ (hDone h0)
  · simp [execOp, hop, hit, hrun, Result.andThen]
    exact hK' _ _ (hMore g left' w' hp hgS hI hen hx)
end
end Go.Proofs.Ytfoapkcgdkfggaa
set_option linter.unusedSimpArgs false
set_option linter.unusedVariables false
namespace Go.Proofs.Ytfoapkcgdkfggaa
open Go.RowKit
/-- A tree of k coordinates with a root. -/
def TreeBlk (w : World) (t k : Nat) (root : Option Addr) : Prop := Blk w t 79 #[.int .i64 (k : Int), .pointer root]
/-- A tree with these entries. -/
def TreeOf (w : World) (k t : Nat) (es : List Ent) : Prop :=
  1 ≤ k ∧ k ≤ 16 ∧ ((TreeBlk w t k none ∧ es = []) ∨ ∃ g lv pre, TreeBlk w t k (some ⟨g, 0, none⟩) ∧ NodeOf w k g lv pre es)
theorem TreeOf.stay {w w' : World} {k t : Nat} {es : List Ent} (h : TreeOf w k t es) (hb : Below w.heap.size w w') : TreeOf w' k t es := by
  obtain ⟨h1, h2, h3⟩ := h
  refine ⟨h1, h2, ?_⟩
  rcases h3 with ⟨h3, h4⟩ | ⟨g, lv, pre, h3, h4⟩
  · exact .inl ⟨Blk.below h3 hb, h4⟩
  · exact .inr ⟨g, lv, pre, Blk.below h3 hb, h4.stay hb⟩
set_option maxHeartbeats 1000000 in
set_option maxRecDepth 100000 in
theorem tr_root {w : World} {t k : Nat} {root : Option Addr} (h : TreeBlk w t k root) : Calls Try.prog 19 #[.pointer (some ⟨t, 0, none⟩)] w fun e w' => e = .returned (.pointer root) ∧ w = w' := by
  have c1 := Blk.cell h 1
  simp at c1
  clear h
  go_enter Try.func19, Try.ntmps19
  go_wp2
  go_ret
  exact ⟨rfl, rfl⟩
set_option maxHeartbeats 1000000 in
set_option maxRecDepth 100000 in
theorem tr_root_nil (w : World) : Calls Try.prog 19 #[.pointer none] w fun e w' => e = .returned (.pointer none) ∧ w = w' := by
  go_enter Try.func19, Try.ntmps19
  go_wp2
  go_ret
  exact ⟨rfl, rfl⟩
set_option maxHeartbeats 1000000 in
set_option maxRecDepth 100000 in
theorem tr_of_bad (k : Int) (root : Option Addr) (w : World) (h : k < 1 ∨ 16 < k) : Calls Try.prog 24 #[.int .i64 k, .pointer root] w fun e w' => e = .returned (.tuple #[.pointer none, .int .i64 3]) ∧ w = w' := by
  by_cases h1 : k < 1
  · have e1 : decide (k < 1) = true := by simp; omega
    clear h h1
    go_enter Try.func24, Try.ntmps24
    go_wp2
    go_ret2
    exact ⟨rfl, rfl⟩
  · have e1 : decide (k < 1) = false := by simp; omega
    have e2 : decide ((16 : Int) < k) = true := by simp; omega
    clear h h1
    go_enter Try.func24, Try.ntmps24
    go_wp2
    go_ret2
    exact ⟨rfl, rfl⟩
set_option maxHeartbeats 1000000 in
set_option maxRecDepth 100000 in
theorem tr_of_nil (k : Nat) (w : World) (h1 : 1 ≤ k) (h2 : k ≤ 16) : Calls Try.prog 24 #[.int .i64 (k : Int), .pointer none] w fun e w' => e = .returned (.tuple #[.pointer (some ⟨w.heap.size, 0, none⟩), .int .i64 0]) ∧ TreeBlk w' w.heap.size k none ∧ Below w.heap.size w w' := by
  have e1 : decide ((k : Int) < 1) = false := by simp; omega
  have e2 : decide ((16 : Int) < (k : Int)) = false := by simp; omega
  go_enter Try.func24, Try.ntmps24
  go_wp2
  go_ret2
  exact ⟨rfl, Blk.new w _ _, (Below.refl _ _).alloc (Nat.le_refl _) _⟩
set_option maxHeartbeats 1000000 in
set_option maxRecDepth 100000 in
theorem tr_new (k : Nat) (w : World) (h1 : 1 ≤ k) (h2 : k ≤ 16) : Calls Try.prog 7 #[.int .i64 (k : Int)] w fun e w' => e = .returned (.tuple #[.pointer (some ⟨w.heap.size, 0, none⟩), .int .i64 0]) ∧ TreeBlk w' w.heap.size k none ∧ Below w.heap.size w w' := by
  have HO := hide (tr_of_nil k w h1 h2)
  go_enter Try.func7, Try.ntmps7
  go_wp2_with fail
  refine HO.out.mono ?_
  rintro e w1 ⟨rfl, hB, hb⟩
  have HB := hide hB
  clear hB
  go_wp2
  go_ret2
  exact ⟨rfl, HB.out, hb⟩
set_option maxHeartbeats 1000000 in
set_option maxRecDepth 100000 in
theorem tr_new_bad (k : Int) (w : World) (h : k < 1 ∨ 16 < k) : Calls Try.prog 7 #[.int .i64 k] w fun e w' => e = .returned (.tuple #[.pointer none, .int .i64 3]) ∧ w = w' := by
  have HO := hide (tr_of_bad k none w h)
  clear h
  go_enter Try.func7, Try.ntmps7
  go_wp2_with fail
  refine HO.out.mono ?_
  rintro e w1 ⟨rfl, rfl⟩
  go_wp2
  go_ret2
  exact ⟨rfl, rfl⟩
set_option maxHeartbeats 1000000 in
set_option maxRecDepth 100000 in
theorem tr_check {w : World} {t k : Nat} {root : Option Addr} (h : TreeBlk w t k root) (A : Option Addr) (c : Nat) : Calls Try.prog 32 #[.pointer (some ⟨t, 0, none⟩), .slice A k c] w fun e w' => e = .returned (.int .i64 0) ∧ w = w' := by
  have c0 := Blk.cell h 0
  simp at c0
  clear h
  go_enter Try.func32, Try.ntmps32
  go_wp2
  go_ret
  exact ⟨rfl, rfl⟩
set_option maxHeartbeats 1000000 in
set_option maxRecDepth 100000 in
theorem tr_down {w : World} {k g m : Nat} {pre : List Nat} {ks : List Kid} (h : Fork w k g m pre ks) (hk1 : 1 ≤ k) (hk : k ≤ 16) {A : Option Addr} {c : Nat} {p : List Nat} (hp : Pt w A k p) :
    Calls Try.prog 49 #[.pointer (some ⟨g, 0, none⟩), .slice A k c] w fun e w' => e = .returned ((getTh (kidTh ks) (addrOf p m : Int)).getD (.pointer none)) ∧ Below w.heap.size w w' := by
  have hm : m < 64 := by obtain ⟨_, _, _, h1, _⟩ := h; exact h1
  obtain ⟨A', c', gs, hp', hS, hB⟩ := h.head
  have HL := hide (nd_level h.node)
  have HA := hide (zb_addr A k p c m w hp hk1 hk hm)
  have HK := hide (nd_kid hB hS (addrOf p m : Int))
  have hv : ∃ x, (getTh (kidTh ks) (addrOf p m : Int)).getD (.pointer none) = .pointer x := by
    cases hg : getTh (kidTh ks) (addrOf p m : Int) with
    | none => exact ⟨none, rfl⟩
    | some v =>
      obtain ⟨i, t, h1, h2⟩ := getTh_idx hg
      have ht := List.mem_of_getElem? h1
      have := getTh_some hS.ok ht
      rw [h2, hg] at this
      injection this with this
      obtain ⟨q, hq, rfl⟩ := List.mem_map.1 ht
      exact ⟨_, by rw [this]; rfl⟩
  obtain ⟨x, hx⟩ := hv
  rw [hx] at HK ⊢
  clear h hp hp' hS hB hx
  go_enter Try.func49, Try.ntmps49
  go_wp2_with fail
  refine HL.out.mono ?_
  rintro e w1 ⟨rfl, rfl⟩
  go_wp2_with fail
  refine HA.out.mono ?_
  rintro e w1 ⟨rfl, rfl⟩
  go_wp2_with fail
  refine HK.out.mono ?_
  rintro e w1 ⟨rfl, hb1⟩
  go_wp2
  go_ret
  exact ⟨rfl, hb1⟩
set_option maxHeartbeats 1000000 in
set_option maxRecDepth 100000 in
theorem tr_found_none (A : Option Addr) (c : Nat) (w : World) : Calls Try.prog 38 #[.slice A 0 c] w fun e w' => e = .returned (.tuple #[.agg #[.slice none 0 0, .int .u64 0], .bool false]) ∧ Below w.heap.size w w' := by
  have b1 := (Below.refl w.heap.size w).alloc (Nat.le_refl _) (.cells #[.slice none 0 0, .int .u64 0] 84)
  have hN := Blk.new w 84 #[.slice none 0 0, .int .u64 0]
  have z0 := hN.frozen 0
  have z1 := hN.frozen 1
  have e2 := (hN.set1 (i := 0) (.slice none 0 0)).set1 (i := 1) (.int .u64 0)
  have b2 := ((b1.setCell (p := ⟨w.heap.size, 0, none⟩) (Nat.le_refl _) (.slice none 0 0)).setCell (p := ⟨w.heap.size, 1, none⟩) (Nat.le_refl _) (.int .u64 0))
  have g0 := e2.cell 0
  have g1 := e2.cell 1
  simp at g0 g1
  have HB2 := hide b2
  have HB1 := hide b1
  clear hN e2 b2
  go_enter Try.func38, Try.ntmps38
  go_wp2
  first
    | refine bodyPost_ret (v := .tuple #[.agg #[.slice none 0 0, .int .u64 0], .bool false]) (by simp [results, Try.results38, go_sem, g0, g1]) rfl ⟨rfl, HB2.out⟩
    | refine bodyPost_ret (v := .tuple #[.agg #[.slice none 0 0, .int .u64 0], .bool false]) (by simp [results, Try.results38, go_sem]) rfl ⟨rfl, HB1.out⟩
/-- A fork on a path. -/
structure PF where
  g : Nat
  lv : Nat
  pre : List Nat
  ks : List Kid
/-- What a node tells: its level, prefix, entries. -/
structure NT where
  lv : Int
  pre : List Nat
  es : List Ent
/-- The node that hangs at the path's head, when another one hangs at its end. -/
def upN : List PF → NT → NT
  | [], n => n
  | f :: fs, n => ⟨f.lv, f.pre, kidEs (insK f.ks ⟨addrOf (upN fs n).pre f.lv, 0, (upN fs n).lv, (upN fs n).pre, (upN fs n).es⟩)⟩
def ChainOk : List PF → NT → Prop
  | [], _ => True
  | f :: fs, n => ChainOk fs n ∧ part f.pre (upN fs n).pre ≤ (f.lv : Int) ∧ (upN fs n).lv < (f.lv : Int)
theorem kidEs_blk (ks : List Kid) (a g g' : Nat) (l : Int) (p : List Nat) (es : List Ent) : kidEs (insK ks ⟨a, g, l, p, es⟩) = kidEs (insK ks ⟨a, g', l, p, es⟩) := by
  unfold kidEs insK
  simp
theorem chain_drop : ∀ (fs : List PF) (n : NT) (i : Nat), ChainOk fs n → ChainOk (fs.drop i) n
  | fs, n, 0, h => by simpa using h
  | [], n, i + 1, h => by simpa using h
  | f :: fs, n, i + 1, h => by simpa using chain_drop fs n i h.1
set_option maxHeartbeats 2000000 in
set_option maxRecDepth 100000 in
theorem tr_up {w : World} {t k g0 : Nat} {root : Option Addr} (fs : List PF) (n0 : NT) (A : Option Addr) (m c : Nat) (hT : TreeBlk w t k root) (hk1 : 1 ≤ k) (hk : k ≤ 16) (hA : Rw w 1 A m (ptrs (fs.map (·.g)))) (hm : fs.length = m) (hm100 : m ≤ 1000)
    (hF : ∀ f ∈ fs, Fork w k f.g f.lv f.pre f.ks) (hn : NodeOf w k g0 n0.lv n0.pre n0.es) (hc : ChainOk fs n0) :
    Calls Try.prog 41 #[.pointer (some ⟨t, 0, none⟩), .slice A m c, .pointer (some ⟨g0, 0, none⟩)] w fun e w' => ∃ t' g', e = .returned (.pointer (some ⟨t', 0, none⟩)) ∧ w.heap.size ≤ t' ∧ TreeBlk w' t' k (some ⟨g', 0, none⟩) ∧ NodeOf w' k g' (upN fs n0).lv (upN fs n0).pre (upN fs n0).es ∧ Below w.heap.size w w' := by
  have HT := hide hT
  have HA := hide hA
  have HF := hide hF
  have HN := hide hn
  have HC := hide hc
  have HM := hide hm
  have ew : IntKind.i64.wrap ((m : Int) - 1) = (m : Int) - 1 := by rw [IntKind.wrap_i64]; omega
  clear hT hA hF hn hc hm
  go_enter Try.func41, Try.ntmps41
  go_wp2
  go_loopw [2, 7] (fun x2 x7 wr => ∃ (i gc : Nat), x7 = .int .i64 ((i : Int) - 1) ∧ i ≤ m ∧ x2 = .pointer (some ⟨gc, 0, none⟩) ∧ NodeOf wr k gc (upN (fs.drop i) n0).lv (upN (fs.drop i) n0).pre (upN (fs.drop i) n0).es ∧ Below w.heap.size w wr) (fun _ x _ => (intOf x + 1).toNat)
  case atStart =>
    refine ⟨m, g0, rfl, Nat.le_refl _, rfl, ?_, Below.refl _ _⟩
    rw [List.drop_of_length_le (by have := HM.out; omega)]
    exact HN.out
  case round =>
    obtain ⟨i, gc, rfl, hi, rfl, hN, hb⟩ := hrel
    have HNN := hide hN
    clear hN
    rcases Nat.eq_zero_or_pos i with rfl | hi0
    · have t0 := Blk.cell (Blk.below HT.out hb) 0
      simp at t0
      go_wp2
      go_ret
      refine ⟨_, gc, rfl, hb.size, Blk.new _ _ _, HNN.out.stay ((Below.refl _ _).alloc (Nat.le_refl _) _), below_alloc hb (Nat.le_refl _) _⟩
    · obtain ⟨j, rfl⟩ : ∃ j, i = j + 1 := ⟨i - 1, by omega⟩
      have hjl : j < fs.length := by have := HM.out; omega
      obtain ⟨b, o, rfl, hbl, u, hu, k0⟩ := (HA.out.below hb).one (i := j) (by omega)
      have hfj : fs[j]? = some fs[j] := List.getElem?_eq_getElem hjl
      have hd : fs.drop j = fs[j] :: fs.drop (j + 1) := List.drop_eq_getElem_cons hjl
      generalize fs[j] = f at *
      unfold ptrs at hu
      rw [List.map_map, List.getElem?_map, hfj] at hu
      simp at hu
      rw [← hu] at k0
      have hch := chain_drop fs n0 j HC.out
      rw [hd] at hch
      have hW := nd_with ((HF.out f (List.mem_of_getElem? hfj)).stay hb) HNN.out hk1 hk hch.2.1 hch.2.2
      have HW := hide hW
      have HD := hide hd
      have e0 : ((j + 1 : Nat) : Int) - 1 = (j : Int) := by omega
      rw [e0]
      have ej : (0 : Int) ≤ (j : Int) := by omega
      have ejm : (j : Int) < (m : Int) := by omega
      have ejn : j < m := by omega
      clear hu hfj hd hch hW e0
      go_wp2_with fail
      refine HW.out.mono ?_
      rintro e w2 ⟨gn, rfl, hFn, hgn, hb2⟩
      have HFn := hide hFn
      clear hFn HW
      go_wp2
      go_roundw
      case rel =>
        refine ⟨j, gn, by go_num, by omega, rfl, ?_, below_then hb hb2⟩
        rw [HD.out]
        have := HFn.out.node
        rw [kidEs_blk _ _ _ 0] at this
        exact this
      case measure => simp [intOf]
set_option maxHeartbeats 2000000 in
set_option maxRecDepth 100000 in
/-- found, over what the last node's Entry tells. -/
theorem tr_found_some (A : Option Addr) (n c g : Nat) (gs : List Nat) (w : World) (hA : Rw w 1 A n (ptrs gs)) (hn1 : 1 ≤ n) (hn : n ≤ 1000) (hg : gs[n - 1]? = some g) (k v : Nat) (ok : Bool)
    (hE : ∀ W, Below w.heap.size w W → Calls Try.prog 59 #[.pointer (some ⟨g, 0, none⟩)] W fun e w' => (∃ B d, e = .returned (.tuple #[.agg #[.slice B k d, .int .u64 (v : Int)], .bool ok])) ∧ Below W.heap.size W w') :
    Calls Try.prog 38 #[.slice A n c] w fun e w' => (∃ B d, e = .returned (.tuple #[.agg #[.slice B k d, .int .u64 (v : Int)], .bool ok])) ∧ Below w.heap.size w w' := by
  have b1 := (Below.refl w.heap.size w).alloc (Nat.le_refl _) (.cells #[.slice none 0 0, .int .u64 0] 84)
  have hN := Blk.new w 84 #[.slice none 0 0, .int .u64 0]
  obtain ⟨i, hi⟩ : ∃ i, i = n - 1 := ⟨_, rfl⟩
  rw [← hi] at hg
  obtain ⟨b, o, rfl, hbl, u, hu, k0⟩ := (hA.below b1).one (i := i) (by omega)
  unfold ptrs at hu
  rw [List.getElem?_map, hg] at hu
  simp at hu
  rw [← hu] at k0
  have HE := hide (hE _ b1)
  have HN := hide hN
  have e2 : (n : Int) - 1 = (i : Int) := by omega
  have hin : i < n := by omega
  have hi0 : (0 : Int) ≤ (i : Int) := by omega
  have hi7 : (i : Int) ≤ 70368744177664 := by omega
  have e5 : IntKind.i64.wrap (i : Int) = (i : Int) := by rw [IntKind.wrap_i64]; omega
  have e6 : wrap64 (i : Int) = (i : Int) := by unfold wrap64; omega
  have hin' : (i : Int) < (n : Int) := by omega
  have ne0 : ((n : Int) == 0) = false := by simp; omega
  clear hA hg hu hE hN hi
  go_enter Try.func38, Try.ntmps38
  go_wp2_with fail
  refine HE.out.mono ?_
  rintro e w2 ⟨⟨B, d, rfl⟩, hb2⟩
  have hN2 := HN.out.below hb2
  have z0 := hN2.frozen 0
  have z1 := hN2.frozen 1
  have y0 := hN2.cell 0
  have y1 := hN2.cell 1
  simp at y0 y1
  have c2 := below_then b1 hb2
  have e3 := (hN2.set1 (i := 0) (.slice B k d)).set1 (i := 1) (.int .u64 (v : Int))
  have b3 := ((c2.setCell (p := ⟨w.heap.size, 0, none⟩) (Nat.le_refl _) (.slice B k d)).setCell (p := ⟨w.heap.size, 1, none⟩) (Nat.le_refl _) (.int .u64 (v : Int)))
  have g0 := e3.cell 0
  have g1 := e3.cell 1
  simp at g0 g1
  have HB3 := hide b3
  clear hN2 e3 b3
  go_wp2
  refine bodyPost_ret (v := .tuple #[.agg #[.slice B k d, .int .u64 (v : Int)], .bool ok]) (by simp [results, Try.results38, go_sem, g0, g1]) rfl ⟨⟨B, d, rfl⟩, HB3.out⟩
theorem part_le_iff {k : Nat} {p q : List Nat} (hp : Zp k p) (hq : Zp k q) (m : Int) (hm : -1 ≤ m) : part p q ≤ m ↔ ∀ b : Nat, m < (b : Int) → addrOf p b = addrOf q b := by
  obtain ⟨h1, h2, h3, h4⟩ := part_spec p q (by rw [hp.1, hq.1]) hp.2 hq.2
  constructor
  · intro h b hb
    exact h3 b (by omega)
  · intro h
    rcases Int.lt_or_le m (part p q) with h5 | h5
    · exact absurd (h (part p q).toNat (by omega)) (h4 (by omega))
    · exact h5
/-- What is told of a fork, with no world in sight. -/
structure FK (k : Nat) (f : PF) : Prop where
  lv : f.lv < 64
  pre : Zp k f.pre
  ksz : ∀ q ∈ f.ks, Zp k q.pre
  at_ : ∀ q ∈ f.ks, addrOf q.pre f.lv = q.at_ ∧ ∀ b, f.lv < b → addrOf q.pre b = addrOf f.pre b
  low : ∀ q ∈ f.ks, q.lv < f.lv
  up : ∀ q ∈ f.ks, -1 ≤ q.lv
  es : ∀ q ∈ f.ks, ∀ e ∈ q.es, Zp k e.1 ∧ addrOf e.1 f.lv = q.at_ ∧ ∀ b, f.lv < b → addrOf e.1 b = addrOf f.pre b
  sort : f.ks.Pairwise fun q r => q.at_ < r.at_
  two : 2 ≤ f.ks.length
theorem Fork.fk {w : World} {k : Nat} {f : PF} (h : Fork w k f.g f.lv f.pre f.ks) : FK k f := by
  obtain ⟨A, c, gs, h1, h2, h3, h4, h5, h6, h7, h8, h9, h10, h11⟩ := h
  refine ⟨h1, h2.zp, fun q hq => (h5 q hq).info.1, h7, h6, fun q hq => (h5 q hq).info.2.2.1, fun q hq e he => ?_, h8, h9⟩
  obtain ⟨i1, i2, i3, i4, i5, i6⟩ := (h5 q hq).info
  obtain ⟨j1, j2, j3⟩ := i5 e he
  have hl := h6 q hq
  refine ⟨j1, ?_, fun b hb => ?_⟩
  · rw [j3 f.lv hl, (h7 q hq).1]
  · rw [j3 b (by omega), (h7 q hq).2 b hb]
def PF.nt (f : PF) : NT := ⟨f.lv, f.pre, kidEs f.ks⟩
def kidAt (ks : List Kid) (a : Nat) : Option (Nat × NT) := (ks.find? fun q => decide (q.at_ = a)).map fun q => (q.blk, ⟨q.lv, q.pre, q.es⟩)
def esOf : Option (Nat × NT) → List Ent
  | none => []
  | some x => x.2.es
theorem kidAt_none {ks : List Kid} {a : Nat} (h : kidAt ks a = none) : ∀ q ∈ ks, q.at_ ≠ a := by
  unfold kidAt at h
  rw [Option.map_eq_none_iff, List.find?_eq_none] at h
  intro q hq hqa
  exact h q hq (by simpa using hqa)
theorem kidAt_some {ks : List Kid} {a : Nat} {x : Nat × NT} (h : kidAt ks a = some x) : ∃ q ∈ ks, q.at_ = a ∧ x = (q.blk, ⟨q.lv, q.pre, q.es⟩) := by
  unfold kidAt at h
  obtain ⟨q, hq, rfl⟩ := Option.map_eq_some_iff.1 h
  exact ⟨q, List.mem_of_find?_eq_some hq, by simpa using List.find?_some hq, rfl⟩
/-- The forks on a point's path, and what hangs where they end. -/
def Way (p : List Nat) : List PF → Option (Nat × NT) → Option (Nat × NT) → Prop
  | [], top, bot => top = bot
  | f :: fs, top, bot => top = some (f.g, f.nt) ∧ part f.pre p ≤ (f.lv : Int) ∧ Way p fs (kidAt f.ks (addrOf p f.lv)) bot
theorem Way.snoc {p : List Nat} : ∀ {fs : List PF} {top bot : Option (Nat × NT)} {f : PF}, Way p fs top bot → bot = some (f.g, f.nt) → part f.pre p ≤ (f.lv : Int) → Way p (fs ++ [f]) top (kidAt f.ks (addrOf p f.lv))
  | [], top, bot, f, h, hb, hc => ⟨by rw [show top = bot from h, hb], hc, rfl⟩
  | f' :: fs, top, bot, f, h, hb, hc => ⟨h.1, h.2.1, Way.snoc h.2.2 hb hc⟩
theorem Way.cut {p : List Nat} : ∀ {fs : List PF} {top bot : Option (Nat × NT)} {f : PF}, Way p (fs ++ [f]) top bot → Way p fs top (some (f.g, f.nt)) ∧ part f.pre p ≤ (f.lv : Int) ∧ bot = kidAt f.ks (addrOf p f.lv)
  | [], top, bot, f, h => ⟨h.1, h.2.1, h.2.2.symm⟩
  | f' :: fs, top, bot, f, h => by
    obtain ⟨h1, h2, h3⟩ := h
    obtain ⟨g1, g2, g3⟩ := Way.cut h3
    exact ⟨⟨h1, h2, g1⟩, g2, g3⟩
theorem Way.len {p : List Nat} {k : Nat} : ∀ {fs : List PF} {x : Nat × NT} {bot : Option (Nat × NT)}, (∀ f ∈ fs, FK k f) → -1 ≤ x.2.lv → Way p fs (some x) bot → (fs.length : Int) ≤ x.2.lv + 1
  | [], x, bot, hF, hx, h => by simp; omega
  | f :: fs, x, bot, hF, hx, h => by
    obtain ⟨h1, h2, h3⟩ := h
    injection h1 with h1
    subst h1
    have hf := hF f List.mem_cons_self
    cases hk : kidAt f.ks (addrOf p f.lv) with
    | none =>
      rw [hk] at h3
      cases fs with
      | nil => simp [PF.nt]; omega
      | cons f2 fs => exact absurd h3.1 (by simp)
    | some y =>
      rw [hk] at h3
      obtain ⟨q, hq, -, rfl⟩ := kidAt_some hk
      have := Way.len (fun f hf => hF f (List.mem_cons_of_mem _ hf)) (hf.up q hq) h3
      have := hf.low q hq
      simp [PF.nt] at *
      omega
/-- A point's entries are where its path ends. -/
theorem FK.mem {k : Nat} {f : PF} (h : FK k f) {e : Ent} {a : Nat} (he : addrOf e.1 f.lv = a) : e ∈ kidEs f.ks ↔ e ∈ esOf (kidAt f.ks a) := by
  unfold kidEs
  rw [List.mem_flatMap]
  cases hk : kidAt f.ks a with
  | none =>
    simp only [esOf]
    constructor
    · rintro ⟨q, hq, heq⟩
      exact absurd ((h.es q hq e heq).2.1.symm.trans he) (kidAt_none hk q hq)
    · intro h; cases h
  | some x =>
    obtain ⟨q, hq, hqa, rfl⟩ := kidAt_some hk
    simp only [esOf]
    constructor
    · rintro ⟨r, hr, her⟩
      have hra := (h.es r hr e her).2.1
      have : r = q := by
        have hs := h.sort
        obtain ⟨i, hi, rfl⟩ := List.getElem_of_mem hr
        obtain ⟨j, hj, rfl⟩ := List.getElem_of_mem hq
        rw [List.pairwise_iff_getElem] at hs
        rcases Nat.lt_trichotomy i j with hij | hij | hij
        · have := hs i j hi hj hij
          omega
        · simp [hij]
        · have := hs j i hj hi hij
          omega
      rw [← this]
      exact her
    · intro h2
      exact ⟨q, hq, h2⟩
theorem Way.mem {k : Nat} {p : List Nat} : ∀ {fs : List PF} {top bot : Option (Nat × NT)}, (∀ f ∈ fs, FK k f) → Way p fs top bot → ∀ v, (p, v) ∈ esOf top ↔ (p, v) ∈ esOf bot
  | [], top, bot, hF, h, v => by rw [show top = bot from h]
  | f :: fs, top, bot, hF, h, v => by
    obtain ⟨rfl, h2, h3⟩ := h
    rw [← Way.mem (fun f hf => hF f (List.mem_cons_of_mem _ hf)) h3 v]
    exact (hF f List.mem_cons_self).mem rfl
/-- What fits below the last fork of a path. -/
def FitsAt (p : List Nat) (f : PF) (n : NT) : Prop := part f.pre n.pre ≤ (f.lv : Int) ∧ n.lv < (f.lv : Int) ∧ addrOf n.pre f.lv = addrOf p f.lv
theorem way_up {k : Nat} {p : List Nat} {n : NT} {N : Ent → Prop} (hN : ∀ e, N e → e.1 = p) : ∀ {fs : List PF} {top bot : Option (Nat × NT)}, (∀ f ∈ fs, FK k f) → Way p fs top bot → (∀ f ∈ fs.getLast?, FitsAt p f n) → (∀ e, e ∈ n.es ↔ N e ∨ (e ∈ esOf bot ∧ e.1 ≠ p)) →
    ChainOk fs n ∧ ∀ e, e ∈ (upN fs n).es ↔ N e ∨ (e ∈ esOf top ∧ e.1 ≠ p)
  | [], top, bot, hF, hW, hL, he => ⟨trivial, by rw [show top = bot from hW]; exact he⟩
  | f :: fs, top, bot, hF, hW, hL, he => by
    obtain ⟨rfl, h2, h3⟩ := hW
    have hf := hF f List.mem_cons_self
    have hL2 : ∀ f' ∈ fs.getLast?, FitsAt p f' n := by
      intro f' hf'
      refine hL f' ?_
      cases fs with
      | nil => simp at hf'
      | cons f2 fs => rwa [List.getLast?_cons_cons]
    obtain ⟨i1, i2⟩ := way_up hN (fun f hf => hF f (List.mem_cons_of_mem _ hf)) h3 hL2 he
    have hfit : FitsAt p f (upN fs n) := by
      cases fs with
      | nil => exact hL f (by simp)
      | cons f2 fs =>
        obtain ⟨h4, h5, h6⟩ := h3
        obtain ⟨q, hq, hqa, hx⟩ := kidAt_some h4
        injection hx with hx1 hx2
        have hlow := hf.low q hq
        obtain ⟨a1, a2⟩ := hf.at_ q hq
        have hz := hf.ksz q hq
        simp only [PF.nt, NT.mk.injEq] at hx2
        obtain ⟨x1, x2, x3⟩ := hx2
        refine ⟨?_, ?_, ?_⟩
        · show part f.pre f2.pre ≤ _
          rw [x2]
          exact (part_le_iff hf.pre hz _ (by omega)).2 fun b hb => (a2 b (by omega)).symm
        · show (f2.lv : Int) < _
          rw [x1]; exact hlow
        · show addrOf f2.pre f.lv = _
          rw [x2, a1, hqa]
    refine ⟨⟨i1, hfit.1, hfit.2.1⟩, fun e => ?_⟩
    have ha := hfit.2.2
    have hi := i2 e
    have hun : (upN (f :: fs) n).es = kidEs (insK f.ks ⟨addrOf (upN fs n).pre f.lv, 0, (upN fs n).lv, (upN fs n).pre, (upN fs n).es⟩) := rfl
    rw [hun]
    generalize upN fs n = m at *
    rw [ha]
    have h4 : e ∈ kidEs (insK f.ks ⟨addrOf p f.lv, 0, m.lv, m.pre, m.es⟩) ↔ e ∈ m.es ∨ ∃ r ∈ f.ks, r.at_ ≠ addrOf p f.lv ∧ e ∈ r.es := by
      unfold kidEs
      simp only [List.mem_flatMap, mem_insK_iff]
      constructor
      · rintro ⟨r, rfl | ⟨hr, hra⟩, her⟩
        · exact .inl her
        · exact .inr ⟨r, hr, hra, her⟩
      · rintro (h | ⟨r, hr, hra, her⟩)
        · exact ⟨_, .inl rfl, h⟩
        · exact ⟨r, .inr ⟨hr, hra⟩, her⟩
    rw [h4, hi]
    show _ ↔ N e ∨ (e ∈ kidEs f.ks ∧ e.1 ≠ p)
    constructor
    · rintro ((h | ⟨h, hp⟩) | ⟨r, hr, hra, her⟩)
      · exact .inl h
      · refine .inr ⟨?_, hp⟩
        cases hk : kidAt f.ks (addrOf p f.lv) with
        | none => rw [hk] at h; cases h
        | some x =>
          rw [hk] at h
          obtain ⟨q, hq, hqa, rfl⟩ := kidAt_some hk
          exact List.mem_flatMap.2 ⟨q, hq, h⟩
      · refine .inr ⟨List.mem_flatMap.2 ⟨r, hr, her⟩, fun h => ?_⟩
        have := (hf.es r hr e her).2.1
        rw [h] at this
        exact hra this.symm
    · rintro (h | ⟨h, hp⟩)
      · exact .inl (.inl h)
      · obtain ⟨r, hr, her⟩ := List.mem_flatMap.1 h
        by_cases hra : r.at_ = addrOf p f.lv
        · refine .inl (.inr ⟨?_, hp⟩)
          have := (hf.es r hr e her).2.1
          exact (hf.mem (this.trans hra)).1 h
        · exact .inr ⟨r, hr, hra, her⟩
theorem Way.last {p : List Nat} {fs : List PF} {top bot : Option (Nat × NT)} {f : PF} (h : Way p fs top bot) (hf : f ∈ fs.getLast?) : part f.pre p ≤ (f.lv : Int) ∧ bot = kidAt f.ks (addrOf p f.lv) := by
  obtain ⟨fs0, rfl⟩ := List.getLast?_eq_some_iff.1 hf
  exact (Way.cut h).2
theorem last_mem {fs : List PF} {f : PF} (hf : f ∈ fs.getLast?) : f ∈ fs := by
  obtain ⟨fs0, rfl⟩ := List.getLast?_eq_some_iff.1 hf
  simp
/-- What hangs at the path's end parts from the point below the last fork. -/
theorem FK.below {k : Nat} {p : List Nat} {f : PF} {x : Nat × NT} (h : FK k f) (hp : Zp k p) (hc : part f.pre p ≤ (f.lv : Int)) (hx : kidAt f.ks (addrOf p f.lv) = some x) : part x.2.pre p < (f.lv : Int) ∧ Zp k x.2.pre ∧ FitsAt p f x.2 ∧ ∀ b, f.lv ≤ b → addrOf x.2.pre b = addrOf p b := by
  obtain ⟨q, hq, hqa, rfl⟩ := kidAt_some hx
  obtain ⟨a1, a2⟩ := h.at_ q hq
  have hz := h.ksz q hq
  have hcc := (part_le_iff h.pre hp _ (by omega)).1 hc
  have hall : ∀ b, f.lv ≤ b → addrOf q.pre b = addrOf p b := by
    intro b hb
    rcases Nat.eq_or_lt_of_le hb with rfl | hb
    · rw [a1, hqa]
    · rw [a2 b hb, hcc b (by omega)]
  refine ⟨?_, hz, ⟨?_, h.low q hq, ?_⟩, hall⟩
  · have := (part_le_iff hz hp ((f.lv : Int) - 1) (by omega)).2 fun b hb => hall b (by omega)
    show part q.pre p < _
    omega
  · exact (part_le_iff h.pre hz _ (by omega)).2 fun b hb => (a2 b (by omega)).symm
  · rw [a1, hqa]
theorem put_leaf {k v : Nat} {p : List Nat} (hp : Zp k p) {fs : List PF} {top bot : Option (Nat × NT)} (hF : ∀ f ∈ fs, FK k f) (hW : Way p fs top bot) (hb : ∀ e ∈ esOf bot, e.1 = p) :
    ChainOk fs ⟨-1, p, [(p, v)]⟩ ∧ ∀ e, e ∈ (upN fs ⟨-1, p, [(p, v)]⟩).es ↔ e = (p, v) ∨ (e ∈ esOf top ∧ e.1 ≠ p) := by
  refine way_up (N := fun e => e = (p, v)) (fun e h => by rw [h]) hF hW (fun f hf => ?_) fun e => ?_
  · exact ⟨(hW.last hf).1, by show (-1 : Int) < _; omega, rfl⟩
  · simp only [List.mem_singleton]
    constructor
    · exact .inl
    · rintro (h | ⟨h, h2⟩)
      · exact h
      · exact absurd (hb e h) h2
theorem put_pair {k v m : Nat} {p : List Nat} {g g' : Nat} {nt : NT} (hp : Zp k p) {fs : List PF} {top : Option (Nat × NT)} (hF : ∀ f ∈ fs, FK k f) (hW : Way p fs top (some (g, nt))) (hm : part nt.pre p = (m : Int)) (hl : nt.lv < m) (hz : Zp k nt.pre)
    (hes : ∀ e ∈ nt.es, Zp k e.1 ∧ ∀ b : Nat, nt.lv < b → addrOf e.1 b = addrOf nt.pre b) :
    ChainOk fs ⟨m, cut (m + 1) nt.pre, kidEs (pairK g g' nt.lv (-1) nt.pre p nt.es [(p, v)] m)⟩ ∧ ∀ e, e ∈ (upN fs ⟨m, cut (m + 1) nt.pre, kidEs (pairK g g' nt.lv (-1) nt.pre p nt.es [(p, v)] m)⟩).es ↔ e = (p, v) ∨ (e ∈ esOf top ∧ e.1 ≠ p) := by
  have hne : addrOf nt.pre m ≠ addrOf p m := by
    have := (part_spec nt.pre p (by rw [hz.1, hp.1]) hz.2 hp.2).2.2.2
    rw [hm] at this
    exact this (by omega)
  refine way_up (N := fun e => e = (p, v)) (fun e h => by rw [h]) hF hW (fun f hf => ?_) fun e => ?_
  · obtain ⟨h1, h2⟩ := hW.last hf
    have hf' := hF f (last_mem hf)
    obtain ⟨g1, g2, g3, g4⟩ := hf'.below hp h1 h2.symm
    simp only at g1 g2 g3 g4
    rw [hm] at g1
    have hm2 : m < f.lv := by omega
    refine ⟨?_, by show (m : Int) < _; omega, ?_⟩
    · refine (part_le_iff hf'.pre (zp_cut hz) _ (by omega)).2 fun b hb => ?_
      rw [addr_cut_hi _ (by omega)]
      exact (part_le_iff hf'.pre hz _ (by omega)).1 g3.1 b hb
    · show addrOf (cut (m + 1) nt.pre) f.lv = _
      rw [addr_cut_hi _ (by omega)]
      exact g4 _ (Nat.le_refl _)
  · have h4 : e ∈ kidEs (pairK g g' nt.lv (-1) nt.pre p nt.es [(p, v)] m) ↔ e ∈ nt.es ∨ e = (p, v) := by
      rw [pairK_eq hne]
      unfold kidEs
      split
      · simp [List.flatMap]
      · simp [List.flatMap]
        exact Or.comm
    show e ∈ kidEs (pairK g g' nt.lv (-1) nt.pre p nt.es [(p, v)] m) ↔ _
    rw [h4]
    simp only [esOf]
    constructor
    · rintro (h | h)
      · refine .inr ⟨h, fun he => ?_⟩
        have := (hes e h).2 m hl
        rw [he] at this
        exact hne this.symm
      · exact .inl h
    · rintro (h | h)
      · exact .inr h
      · exact .inl h.1
end Go.Proofs.Ytfoapkcgdkfggaa
