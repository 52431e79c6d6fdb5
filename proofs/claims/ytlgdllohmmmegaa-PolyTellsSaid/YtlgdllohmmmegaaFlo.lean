/- Plain mathematics: whole numbers below 2^53 as float64s: sums, differences, products, comparisons are exact. No Go program. -/
import Derived.Laws.FloatArith
import Derived.Laws.Cover2
set_option linter.unusedSimpArgs false
set_option linter.unusedVariables false
namespace Go.Proofs.Ytlgdllohmmmegaa
open Ieee

/-- A datum stands for the whole number n; places are at least -E. -/
def DV (E : Nat) (d : Datum) (n : Int) : Prop :=
  ∃ s m e, d = .number s m e ∧ -(E : Int) ≤ e ∧ signed s m (e + E).toNat = n * 2 ^ E

theorem signed_eq (s : Bool) (m u : Nat) : signed s m u = (if s then -1 else 1) * ((m : Int) * 2 ^ u) := by
  unfold signed
  cases s <;> simp [Nat.shiftLeft_eq]
theorem signed_zero (s : Bool) (m u : Nat) : signed s m u = signed s m 0 * 2 ^ u := by
  rw [signed_eq, signed_eq, Int.pow_zero, Int.mul_one, Int.mul_assoc]
theorem signed_more (s : Bool) (m u v : Nat) : signed s m u * 2 ^ v = signed s m (u + v) := by
  rw [signed_zero s m u, signed_zero s m (u + v), Int.pow_add, Int.mul_assoc]
theorem pow2_pos (E : Nat) : (0 : Int) < 2 ^ E := Int.pow_pos (by omega)

theorem dv_sum {E : Nat} {c d : Datum} {a b : Int} (hc : DV E c a) (hd : DV E d b) :
    ∃ f, c.sum d = some f ∧ DV E f (a + b) := by
  obtain ⟨s, m, i, rfl, hi, va⟩ := hc
  obtain ⟨t, n, j, rfl, hj, vb⟩ := hd
  refine ⟨_, rfl, _, _, _, rfl, by omega, ?_⟩
  generalize ht : signed s m (i - min i j).toNat + signed t n (j - min i j).toNat = T
  have key : T * 2 ^ (min i j + E).toNat = (a + b) * 2 ^ E := by
    rw [← ht, Int.add_mul, signed_more, signed_more, Int.add_mul, ← va, ← vb]
    rw [show (i - min i j).toNat + (min i j + E).toNat = (i + E).toNat by omega, show (j - min i j).toNat + (min i j + E).toNat = (j + E).toNat by omega]
  rw [signed_eq, ← key]
  have : (if (if T = 0 then (s && t) else decide (T < 0)) then (-1 : Int) else 1) * (T.natAbs : Int) = T := by
    by_cases h0 : T = 0
    · simp [h0]
    · by_cases h1 : T < 0
      · simp [h0, h1]; omega
      · simp [h0, h1]; omega
  rw [← Int.mul_assoc, this]

theorem dv_opp {E : Nat} {d : Datum} {b : Int} (hd : DV E d b) : DV E d.opposite (-b) := by
  obtain ⟨t, n, j, rfl, hj, vb⟩ := hd
  refine ⟨_, _, _, rfl, hj, ?_⟩
  rw [Int.neg_mul, ← vb, signed_eq, signed_eq]
  cases t <;> simp

theorem dv_mul {E : Nat} {c d : Datum} {a b : Int} (hc : DV E c a) (hd : DV E d b) :
    ∃ f, c.product d = some f ∧ DV (2 * E) f (a * b) := by
  obtain ⟨s, m, i, rfl, hi, va⟩ := hc
  obtain ⟨t, n, j, rfl, hj, vb⟩ := hd
  refine ⟨_, rfl, _, _, _, rfl, by omega, ?_⟩
  have e : a * b * 2 ^ (2 * E) = (a * 2 ^ E) * (b * 2 ^ E) := by
    rw [show 2 * E = E + E by omega, Int.pow_add]
    simp only [Int.mul_assoc, Int.mul_comm, Int.mul_left_comm]
  rw [e, ← va, ← vb, signed_eq, signed_eq, signed_eq, show (i + j + (2 * E : Nat)).toNat = (i + E).toNat + (j + E).toNat by omega, Int.pow_add]
  have : (if (s ^^ t) then (-1 : Int) else 1) = (if s then -1 else 1) * (if t then -1 else 1) := by cases s <;> cases t <;> rfl
  rw [this, Int.natCast_mul]
  simp only [Int.mul_assoc, Int.mul_comm, Int.mul_left_comm]

theorem dv_abs {E : Nat} {s : Bool} {m : Nat} {e n : Int} (h : signed s m (e + E).toNat = n * 2 ^ E) :
    m * 2 ^ (e + E).toNat = n.natAbs * 2 ^ E ∧ (n ≠ 0 → s = decide (n < 0)) := by
  rw [signed_eq] at h
  have hp : ((2 : Int) ^ (e + E).toNat) = ((2 ^ (e + E).toNat : Nat) : Int) := by simp
  have hq : ((2 : Int) ^ E) = ((2 ^ E : Nat) : Int) := by simp
  rw [hp, hq] at h
  generalize 2 ^ (e + E).toNat = A at *
  have hB : 0 < 2 ^ E := Nat.two_pow_pos _
  generalize 2 ^ E = B at *
  have h1 : ((m * A : Nat) : Int) = (n.natAbs : Int) * B ∧ (n ≠ 0 → s = decide (n < 0)) := by
    have mA : (0 : Int) ≤ (m : Int) * A := by rw [← Int.natCast_mul]; omega
    have Bp : (0 : Int) < (B : Int) := by omega
    cases s
    · simp only [Bool.false_eq_true, if_false, Int.one_mul] at h
      have n0 : 0 ≤ n := by
        rw [h] at mA
        by_cases c : 0 ≤ n
        · exact c
        · have : n * (B : Int) < 0 := Int.mul_neg_of_neg_of_pos (by omega) Bp
          omega
      refine ⟨?_, fun _ => by simp; omega⟩
      rw [Int.natCast_mul, h]; congr 1; omega
    · simp only [if_true] at h
      have h' : (m : Int) * A = -n * B := by rw [Int.neg_mul]; omega
      have n0 : n ≤ 0 := by
        rw [h'] at mA
        by_cases c : n ≤ 0
        · exact c
        · have : -n * (B : Int) < 0 := Int.mul_neg_of_neg_of_pos (by omega) Bp
          omega
      refine ⟨?_, fun h0 => by simp; omega⟩
      rw [Int.natCast_mul, h']; congr 1; omega
  refine ⟨?_, h1.2⟩
  have := h1.1
  rw [← Int.natCast_mul] at this
  exact Int.ofNat.inj this

theorem double_least : double.leastPlace = -1074 := by decide
theorem double_binade : double.binade = 4503599627370496 := by decide
theorem double_inf : double.infRung = 2047 * 4503599627370496 := by decide
theorem double_sign : double.signWeight = 9223372036854775808 := by decide

/-- Read back: a zero. -/
theorem read_zero (s : Bool) : double.read (double.word s 0) = .number s 0 (-1074) := by
  cases s <;> decide
/-- Read back: a rung of a normal number. -/
theorem read_rung (s : Bool) (q K : Nat) (hq : q ≤ 52) (h0 : 4503599627370496 ≤ K) (h1 : K < 9007199254740992) :
    double.read (double.word s (min ((1074 - q) * double.binade + K) double.infRung)) = .number s K (-(q : Int)) := by
  have hm : min ((1074 - q) * double.binade + K) double.infRung = (1074 - q) * 4503599627370496 + K := by
    rw [double_binade, double_inf]; omega
  rw [hm]
  unfold Format.read Format.word
  rw [double_sign, double_binade, double_inf, double_least]
  have e1 : ∀ x, x < 9223372036854775808 → ((if s then 9223372036854775808 + x else x) / 9223372036854775808 % 2 == 1) = s ∧ (if s then 9223372036854775808 + x else x) % 9223372036854775808 = x := by
    intro x hx
    cases s
    · constructor
      · simp; omega
      · simp; omega
    · constructor
      · simp; omega
      · simp; omega
  obtain ⟨e2, e3⟩ := e1 ((1074 - q) * 4503599627370496 + K) (by omega)
  simp only [e2, e3]
  rw [if_neg (by omega), if_pos (by omega)]
  congr 1
  · omega
  · omega

theorem dv_write {E : Nat} {d : Datum} {n : Int} (h : DV E d n) (hn : n.natAbs < 9007199254740992) :
    DV 1074 (double.read (double.write d)) n := by
  obtain ⟨s, m, e, rfl, he, hv⟩ := h
  obtain ⟨hm, hs⟩ := dv_abs hv
  show DV 1074 (double.read (double.nearest s m e)) n
  unfold Format.nearest
  by_cases m0 : m = 0
  · rw [if_pos m0, read_zero]
    refine ⟨_, _, _, rfl, by omega, ?_⟩
    rw [m0, Nat.zero_mul] at hm
    have : n.natAbs = 0 := by
      rcases Nat.mul_eq_zero.1 hm.symm with h | h
      · exact h
      · have := Nat.two_pow_pos E; omega
    have n0 : n = 0 := by omega
    rw [n0, signed_eq, Int.zero_mul, Int.natCast_zero, Int.zero_mul, Int.mul_zero]
  · rw [if_neg m0]
    have L0 : 2 ^ m.log2 ≤ m := Nat.log2_self_le m0
    have L1 : m < 2 ^ (m.log2 + 1) := Nat.lt_log2_self
    generalize hL : m.log2 = L at *
    generalize hu : (e + E).toNat = u at *
    have a1 : 2 ^ (L + u) ≤ n.natAbs * 2 ^ E := by
      rw [← hm, Nat.pow_add]; exact Nat.mul_le_mul_right _ L0
    have a2 : n.natAbs * 2 ^ E < 2 ^ (L + 1 + u) := by
      rw [← hm, Nat.pow_add]; exact Nat.mul_lt_mul_of_pos_right L1 (Nat.two_pow_pos _)
    have n1 : 0 < n.natAbs := by
      rcases Nat.eq_zero_or_pos n.natAbs with h | h
      · rw [h, Nat.zero_mul] at a1
        have := Nat.two_pow_pos (L + u); omega
      · exact h
    have b1 : E < L + 1 + u := by
      have : 2 ^ E < 2 ^ (L + 1 + u) := Nat.lt_of_le_of_lt (Nat.le_mul_of_pos_left _ n1) a2
      exact (Nat.pow_lt_pow_iff_right (by omega)).1 this
    have b2 : L + u < 53 + E := by
      have : 2 ^ (L + u) < 2 ^ (53 + E) := by
        refine Nat.lt_of_le_of_lt a1 ?_
        rw [Nat.pow_add]
        exact Nat.mul_lt_mul_of_pos_right (by simpa using hn) (Nat.two_pow_pos _)
      exact (Nat.pow_lt_pow_iff_right (by omega)).1 this
    obtain ⟨q, hq⟩ : ∃ q, q + L + u = 52 + E := ⟨52 + E - L - u, by omega⟩
    have hlast : max (e + (L : Int) - double.fractionBits) double.leastPlace = -(q : Int) := by
      rw [double_least]; show max (e + (L : Int) - (52 : Nat)) (-1074) = _; omega
    rw [hlast]
    have K0 : 4503599627370496 ≤ n.natAbs * 2 ^ q := by
      have : 2 ^ 52 * 2 ^ E ≤ n.natAbs * 2 ^ q * 2 ^ E := by
        rw [← Nat.pow_add, ← hq, show q + L + u = L + u + q by omega, Nat.pow_add, Nat.mul_right_comm]
        exact Nat.mul_le_mul_right _ a1
      exact Nat.le_of_mul_le_mul_right this (Nat.two_pow_pos _)
    have K1 : n.natAbs * 2 ^ q < 9007199254740992 := by
      have : n.natAbs * 2 ^ q * 2 ^ E < 2 ^ 53 * 2 ^ E := by
        rw [← Nat.pow_add, show 53 + E = L + 1 + u + q by omega, Nat.pow_add, Nat.mul_right_comm]
        exact Nat.mul_lt_mul_of_pos_right a2 (Nat.two_pow_pos _)
      exact Nat.lt_of_mul_lt_mul_right this
    have kept : Toward.even.cut s (m <<< (e - -(q : Int)).toNat) (-(q : Int) - e).toNat = n.natAbs * 2 ^ q := by
      by_cases c : -(q : Int) ≤ e
      · rw [show (-(q : Int) - e).toNat = 0 by omega]
        have : m <<< (e - -(q : Int)).toNat = n.natAbs * 2 ^ q := by
          rw [Nat.shiftLeft_eq]
          refine Nat.eq_of_mul_eq_mul_right (Nat.two_pow_pos E) ?_
          rw [Nat.mul_assoc, ← Nat.pow_add, show (e - -(q : Int)).toNat + E = u + q by omega, Nat.pow_add, ← Nat.mul_assoc, hm, Nat.mul_right_comm]
        rw [this]
        unfold Toward.cut
        simp [Nat.mod_one]
      · rw [show (e - -(q : Int)).toNat = 0 by omega, Nat.shiftLeft_zero]
        obtain ⟨dr, hdr⟩ : ∃ dr, dr = (-(q : Int) - e).toNat := ⟨_, rfl⟩
        rw [← hdr]
        have hmm : m = n.natAbs * 2 ^ q * 2 ^ dr := by
          refine Nat.eq_of_mul_eq_mul_right (Nat.two_pow_pos u) ?_
          rw [hm, Nat.mul_assoc, Nat.mul_assoc, ← Nat.pow_add, ← Nat.pow_add, show q + (dr + u) = E by omega]
        unfold Toward.cut
        have hg : 1 <<< min dr (m.log2 + 2) = 2 ^ dr := by
          rw [hL, Nat.shiftLeft_eq, Nat.one_mul]; congr 1; omega
        simp only [hg]
        have dp : 0 < 2 ^ dr := Nat.two_pow_pos _
        have hlow : m / 2 ^ dr = n.natAbs * 2 ^ q := by rw [hmm]; exact Nat.mul_div_cancel _ dp
        have hrest : m % 2 ^ dr = 0 := by rw [hmm]; exact Nat.mul_mod_left _ _
        rw [hlow, hrest]
        have : ¬ (2 ^ dr < 2 * 0) := by omega
        have : (2 ^ dr == 2 * 0) = false := by simp
        simp [this]
    dsimp only
    rw [kept, show (-(q : Int) - double.leastPlace).toNat = 1074 - q by rw [double_least]; omega, read_rung s q _ (by omega) K0 K1]
    refine ⟨_, _, _, rfl, by omega, ?_⟩
    rw [show (-(q : Int) + (1074 : Nat)).toNat = 1074 - q by omega, signed_eq, Int.natCast_mul]
    have hsn := hs (by omega)
    have hp : ((2 ^ q : Nat) : Int) = 2 ^ q := by simp
    rw [hp, Int.mul_assoc, ← Int.pow_add, show q + (1074 - q) = 1074 by omega, ← Int.mul_assoc]
    congr 1
    rw [hsn]
    by_cases c : n < 0
    · simp [c]; omega
    · simp [c]; omega

/-- The float with bits x is the whole number n. -/
def FI (x : Nat) (n : Int) : Prop := DV 1074 (FloatKind.f64.format.read x) n

theorem fi_int (n : Int) (hn : n.natAbs < 9007199254740992) : FI (floatOfInt .f64 n) n := by
  refine dv_write (E := 0) ⟨_, _, _, rfl, by omega, ?_⟩ hn
  rw [signed_eq]
  by_cases c : n < 0
  · simp [c]; omega
  · simp [c]; omega

theorem fi_add {x y : Nat} {a b : Int} (hx : FI x a) (hy : FI y b) (hn : (a + b).natAbs < 9007199254740992) :
    ∃ r, floatBits .add .f64 x y = some r ∧ FI r (a + b) := by
  obtain ⟨f, h1, h2⟩ := dv_sum hx hy
  refine ⟨double.write f, ?_, dv_write h2 hn⟩
  show Option.map _ (Datum.sum _ _) = _
  rw [h1]; rfl
theorem fi_sub {x y : Nat} {a b : Int} (hx : FI x a) (hy : FI y b) (hn : (a - b).natAbs < 9007199254740992) :
    ∃ r, floatBits .sub .f64 x y = some r ∧ FI r (a - b) := by
  obtain ⟨f, h1, h2⟩ := dv_sum hx (dv_opp hy)
  refine ⟨double.write f, ?_, dv_write h2 hn⟩
  show Option.map _ (Datum.sum _ _) = _
  rw [h1]; rfl
theorem fi_mul {x y : Nat} {a b : Int} (hx : FI x a) (hy : FI y b) (hn : (a * b).natAbs < 9007199254740992) :
    ∃ r, floatBits .mul .f64 x y = some r ∧ FI r (a * b) := by
  obtain ⟨f, h1, h2⟩ := dv_mul hx hy
  refine ⟨double.write f, ?_, dv_write h2 hn⟩
  show Option.map _ (Datum.product _ _) = _
  rw [h1]; rfl

theorem fi_order {x y : Nat} {a b : Int} (hx : FI x a) (hy : FI y b) : FloatKind.f64.format.order x y = some (compare a b) := by
  unfold Format.order
  unfold FI at hx hy
  obtain ⟨s, m, i, e1, hi, va⟩ := hx
  obtain ⟨t, n, j, e2, hj, vb⟩ := hy
  rw [e1, e2]
  show some (compare _ _) = _
  congr 1
  have ka : signed s m (i - min i j).toNat * 2 ^ (min i j + (1074 : Nat)).toNat = a * 2 ^ 1074 := by
    rw [signed_more, ← va, show (i - min i j).toNat + (min i j + (1074 : Nat)).toNat = (i + (1074 : Nat)).toNat by omega]
  have kb : signed t n (j - min i j).toNat * 2 ^ (min i j + (1074 : Nat)).toNat = b * 2 ^ 1074 := by
    rw [signed_more, ← vb, show (j - min i j).toNat + (min i j + (1074 : Nat)).toNat = (j + (1074 : Nat)).toNat by omega]
  have pA := pow2_pos (min i j + (1074 : Nat)).toNat
  have pB := pow2_pos 1074
  generalize signed s m (i - min i j).toNat = S at *
  generalize signed t n (j - min i j).toNat = T at *
  generalize (2 : Int) ^ (min i j + (1074 : Nat)).toNat = A at *
  generalize (2 : Int) ^ 1074 = B at *
  have lt_iff : S < T ↔ a < b := by
    rw [← Int.mul_lt_mul_right pA, ka, kb, Int.mul_lt_mul_right pB]
  have gt_iff : T < S ↔ b < a := by
    rw [← Int.mul_lt_mul_right pA, ka, kb, Int.mul_lt_mul_right pB]
  by_cases c1 : a < b
  · rw [Int.compare_eq_lt.2 c1, Int.compare_eq_lt.2 (lt_iff.2 c1)]
  · by_cases c2 : b < a
    · rw [Int.compare_eq_gt.2 c2, Int.compare_eq_gt.2 (gt_iff.2 c2)]
    · have : a = b := by omega
      have : S = T := by
        have n1 : ¬ S < T := fun h => c1 (lt_iff.1 h)
        have n2 : ¬ T < S := fun h => c2 (gt_iff.1 h)
        omega
      subst_vars
      simp

theorem fi_toInt {x : Nat} {n : Int} (hx : FI x n) (hn : n.natAbs < 9007199254740992) : floatToIntVal .f64 x .i64 = some n := by
  unfold floatToIntVal
  unfold FI at hx
  have : (FloatKind.f64.decode x).toInt .zero = some n := by
    obtain ⟨s, m, e, e1, he, hv⟩ := hx
    generalize (1074 : Nat) = P at *
    unfold FloatKind.decode
    rw [e1]
    show some (signed s _ 0) = _
    congr 1
    obtain ⟨hm, hs⟩ := dv_abs hv
    have hcut : Toward.zero.cut s (m <<< e.toNat) (-e).toNat = n.natAbs := by
      by_cases c : 0 ≤ e
      · rw [show (-e).toNat = 0 by omega]
        have : m <<< e.toNat = n.natAbs := by
          rw [Nat.shiftLeft_eq]
          refine Nat.eq_of_mul_eq_mul_right (Nat.two_pow_pos P) ?_
          rw [Nat.mul_assoc, ← Nat.pow_add, ← hm, show e.toNat + P = (e + (P : Nat)).toNat by omega]
        rw [this]; unfold Toward.cut; simp
      · rw [show e.toNat = 0 by omega, Nat.shiftLeft_zero]
        obtain ⟨dr, hdr⟩ : ∃ dr, dr = (-e).toNat := ⟨_, rfl⟩
        rw [← hdr]
        have hmm : m = n.natAbs * 2 ^ dr := by
          refine Nat.eq_of_mul_eq_mul_right (Nat.two_pow_pos (e + (P : Nat)).toNat) ?_
          rw [hm, Nat.mul_assoc, ← Nat.pow_add, show dr + (e + (P : Nat)).toNat = P by omega]
        by_cases m0 : m = 0
        · have : n.natAbs = 0 := by
            rw [m0] at hmm
            rcases Nat.mul_eq_zero.1 hmm.symm with h | h
            · exact h
            · have := Nat.two_pow_pos dr; omega
          rw [this, m0]
          unfold Toward.cut; simp
        · have n1 : 0 < n.natAbs := by
            rcases Nat.eq_zero_or_pos n.natAbs with h | h
            · rw [h, Nat.zero_mul] at hmm; exact absurd hmm m0
            · exact h
          have : 2 ^ dr < 2 ^ (m.log2 + 1) := by
            refine Nat.lt_of_le_of_lt ?_ (Nat.lt_log2_self (n := m))
            rw [hmm]; exact Nat.le_mul_of_pos_left _ n1
          have := (Nat.pow_lt_pow_iff_right (by omega)).1 this
          unfold Toward.cut
          have hg : 1 <<< min dr (m.log2 + 2) = 2 ^ dr := by
            rw [Nat.shiftLeft_eq, Nat.one_mul]; congr 1; omega
          simp only [hg]
          have hlow : m / 2 ^ dr = n.natAbs := by
            conv => lhs; rw [hmm]
            exact Nat.mul_div_cancel _ (Nat.two_pow_pos _)
          rw [hlow]; simp
    show signed s (Toward.zero.cut s (m <<< e.toNat) (-e).toNat) 0 = n
    rw [hcut, signed_eq]
    by_cases n0 : n = 0
    · simp [n0]
    · rw [hs n0]
      by_cases c : n < 0
      · simp [c]; omega
      · simp [c]; omega
  rw [this]
  have h1 : IntKind.i64.min = -9223372036854775808 := by decide
  have h2 : IntKind.i64.max = 9223372036854775807 := by decide
  simp only
  rw [if_pos (by rw [h1, h2]; omega)]
end Go.Proofs.Ytlgdllohmmmegaa
