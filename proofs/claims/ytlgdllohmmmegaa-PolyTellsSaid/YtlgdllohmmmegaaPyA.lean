/- poly: numbers as floats, points as complex numbers: cross, between, on. -/
import Derived.Test.YtlgdllohmmmegaaBaA
import Derived.Test.YtlgdllohmmmegaaFlo
set_option linter.unusedSimpArgs false
set_option linter.unusedVariables false
namespace Go.Proofs.Ytlgdllohmmmegaa
open Go.RowKit
/-- Twice the area of a triangle that begins at nought. -/
def crs (a b : Int × Int) : Int := a.1 * b.2 - a.2 * b.1
theorem mul_small {a b : Int} (ha : a.natAbs ≤ 1048576) (hb : b.natAbs ≤ 1048576) : (a * b).natAbs ≤ 1099511627776 := by
  rw [Int.natAbs_mul]
  exact Nat.mul_le_mul ha hb
theorem crs_small {a b : Int × Int} (h1 : a.1.natAbs ≤ 1048576) (h2 : a.2.natAbs ≤ 1048576) (h3 : b.1.natAbs ≤ 1048576) (h4 : b.2.natAbs ≤ 1048576) : (crs a b).natAbs ≤ 2199023255552 := by
  have e1 := mul_small h1 h4
  have e2 := mul_small h2 h3
  unfold crs
  omega
set_option maxHeartbeats 2000000 in
set_option maxRecDepth 100000 in
theorem py_cross {ax ay bx by_ : Nat} {a b : Int × Int} (h1 : FI ax a.1) (h2 : FI ay a.2) (h3 : FI bx b.1) (h4 : FI by_ b.2) (s1 : a.1.natAbs ≤ 1048576) (s2 : a.2.natAbs ≤ 1048576) (s3 : b.1.natAbs ≤ 1048576) (s4 : b.2.natAbs ≤ 1048576) :
    ∃ r, FI r (crs a b) ∧ ∀ w, Calls Try.prog 19 #[.complex .f64 ax ay, .complex .f64 bx by_] w fun e w' => e = .returned (.float .f64 r) ∧ w = w' := by
  have e1 := mul_small s1 s4
  have e2 := mul_small s2 s3
  obtain ⟨m1, g1, f1⟩ := fi_mul h1 h4 (by omega)
  obtain ⟨m2, g2, f2⟩ := fi_mul h2 h3 (by omega)
  obtain ⟨d, g3, f3⟩ := fi_sub f1 f2 (by omega)
  refine ⟨d, f3, fun w => ?_⟩
  have r1 := fun W => run_float_arith (w := W) (P := Try.prog) .mul 50 .f64 ax by_ m1 g1
  have r2 := fun W => run_float_arith (w := W) (P := Try.prog) .mul 50 .f64 ay bx m2 g2
  have r3 := fun W => run_float_arith (w := W) (P := Try.prog) .sub 50 .f64 m1 m2 d g3
  clear h1 h2 h3 h4 s1 s2 s3 s4 e1 e2 g1 g2 g3 f1 f2 f3
  go_enter Try.func19, Try.ntmps19
  go_wp2
  go_ret
  exact ⟨rfl, rfl⟩
theorem fi_zero : FI 0 0 := by
  have h : FloatKind.f64.format.read 0 = .number false 0 (-1074) := by decide
  refine ⟨false, 0, -1074, h, by omega, ?_⟩
  rw [signed_eq, Int.zero_mul, Int.natCast_zero, Int.zero_mul, Int.mul_zero]
section
variable {x y : Nat} {a b : Int}
theorem fi_leq (hx : FI x a) (hy : FI y b) : (FloatKind.f64.format.order x y == some .lt || FloatKind.f64.format.order x y == some .eq) = decide (a ≤ b) := by
  rw [fi_order hx hy]
  by_cases c1 : a < b
  · rw [Int.compare_eq_lt.2 c1]; simp; omega
  · by_cases c2 : b < a
    · rw [Int.compare_eq_gt.2 c2]; simp; omega
    · have : a = b := by omega
      subst this
      simp
theorem fi_eql (hx : FI x a) (hy : FI y b) : (FloatKind.f64.format.order x y == some .eq) = decide (a = b) := by
  rw [fi_order hx hy]
  by_cases c1 : a < b
  · rw [Int.compare_eq_lt.2 c1]; simp; omega
  · by_cases c2 : b < a
    · rw [Int.compare_eq_gt.2 c2]; simp; omega
    · have : a = b := by omega
      subst this
      simp
theorem fi_lss (hx : FI x a) (hy : FI y b) : (FloatKind.f64.format.order x y == some .lt) = decide (a < b) := by
  rw [fi_order hx hy]
  by_cases c1 : a < b
  · rw [Int.compare_eq_lt.2 c1]; simp; omega
  · by_cases c2 : b < a
    · rw [Int.compare_eq_gt.2 c2]; simp; omega
    · have : a = b := by omega
      subst this
      simp
theorem fi_gtr (hx : FI x a) (hy : FI y b) : (FloatKind.f64.format.order x y == some .gt) = decide (b < a) := by
  rw [fi_order hx hy]
  by_cases c1 : a < b
  · rw [Int.compare_eq_lt.2 c1]; simp; omega
  · by_cases c2 : b < a
    · rw [Int.compare_eq_gt.2 c2]; simp; omega
    · have : a = b := by omega
      subst this
      simp
theorem fi_min (hx : FI x a) (hy : FI y b) : ∃ r, FI r (min a b) ∧ ∀ (P : Program) (ts : Array TypeId) (t : TypeId) (W : World), (Builtin.min_ ts t #[.float .f64 x, .float .f64 y]).run P W = .ok (.float .f64 r) W := by
  have ho := fi_order hx hy
  by_cases c1 : a < b
  · rw [Int.compare_eq_lt.2 c1] at ho
    exact ⟨x, by rw [show min a b = a by omega]; exact hx, fun P ts t W => by simp [Builtin.min_, Builtin.min2, ho]⟩
  · by_cases c2 : b < a
    · rw [Int.compare_eq_gt.2 c2] at ho
      exact ⟨y, by rw [show min a b = b by omega]; exact hy, fun P ts t W => by simp [Builtin.min_, Builtin.min2, ho]⟩
    · have e : a = b := by omega
      subst e
      rw [show compare a a = .eq by simp] at ho
      refine ⟨if (FloatKind.f64.decode x).neg then x else y, ?_, fun P ts t W => by simp [Builtin.min_, Builtin.min2, ho]⟩
      rw [show min a a = a by omega]
      split
      · exact hx
      · exact hy
theorem fi_max (hx : FI x a) (hy : FI y b) : ∃ r, FI r (max a b) ∧ ∀ (P : Program) (ts : Array TypeId) (t : TypeId) (W : World), (Builtin.max_ ts t #[.float .f64 x, .float .f64 y]).run P W = .ok (.float .f64 r) W := by
  have ho := fi_order hx hy
  by_cases c1 : a < b
  · rw [Int.compare_eq_lt.2 c1] at ho
    exact ⟨y, by rw [show max a b = b by omega]; exact hy, fun P ts t W => by simp [Builtin.max_, Builtin.max2, ho]⟩
  · by_cases c2 : b < a
    · rw [Int.compare_eq_gt.2 c2] at ho
      exact ⟨x, by rw [show max a b = a by omega]; exact hx, fun P ts t W => by simp [Builtin.max_, Builtin.max2, ho]⟩
    · have e : a = b := by omega
      subst e
      rw [show compare a a = .eq by simp] at ho
      obtain ⟨r, hr⟩ : ∃ r, (r = x ∨ r = y) ∧ ∀ (P : Program) (ts : Array TypeId) (t : TypeId) (W : World), (Builtin.max_ ts t #[.float .f64 x, .float .f64 y]).run P W = .ok (.float .f64 r) W := by
        by_cases hn : (FloatKind.f64.decode x).neg = true
        · exact ⟨y, .inr rfl, fun P ts t W => by simp [Builtin.max_, Builtin.max2, ho, hn]⟩
        · exact ⟨x, .inl rfl, fun P ts t W => by simp [Builtin.max_, Builtin.max2, ho, hn]⟩
      refine ⟨r, ?_, hr.2⟩
      rw [show max a a = a by omega]
      rcases hr.1 with rfl | rfl
      · exact hx
      · exact hy
end
set_option maxHeartbeats 2000000 in
set_option maxRecDepth 100000 in
theorem py_between {x y z : Nat} {a b c : Int} (h1 : FI x a) (h2 : FI y b) (h3 : FI z c) (w : World) :
    Calls Try.prog 26 #[.float .f64 x, .float .f64 y, .float .f64 z] w fun e w' => e = .returned (.bool (decide (min a b ≤ c ∧ c ≤ max a b))) ∧ w = w' := by
  obtain ⟨m, hm, gm⟩ := fi_min h1 h2
  obtain ⟨n, hn, gn⟩ := fi_max h1 h2
  have e1 := fi_leq hm h3
  have e2 := fi_leq h3 hn
  have g1 := fun W => gm Try.prog #[50, 50] 50 W
  have g2 := fun W => gn Try.prog #[50, 50] 50 W
  clear h1 h2 h3 hm hn gm gn
  by_cases c1 : min a b ≤ c
  · rw [decide_eq_true c1] at e1
    rw [show decide (min a b ≤ c ∧ c ≤ max a b) = decide (c ≤ max a b) by simp only [c1, true_and], ← e2]
    clear c1 e2
    go_enter Try.func26, Try.ntmps26
    go_wp2
    go_ret
    exact ⟨rfl, rfl⟩
  · rw [decide_eq_false c1] at e1
    rw [show decide (min a b ≤ c ∧ c ≤ max a b) = false by simp only [c1, false_and, decide_false]]
    clear c1 e2
    go_enter Try.func26, Try.ntmps26
    go_wp2
    go_ret
    exact ⟨rfl, rfl⟩
theorem fi_csub {ax ay bx by_ : Nat} {a b : Int × Int} (h1 : FI ax a.1) (h2 : FI ay a.2) (h3 : FI bx b.1) (h4 : FI by_ b.2) (s1 : (a.1 - b.1).natAbs ≤ 1048576) (s2 : (a.2 - b.2).natAbs ≤ 1048576) :
    ∃ re im, FI re (a.1 - b.1) ∧ FI im (a.2 - b.2) ∧ ∀ (P : Program) (t : TypeId) (W : World), (binOp .sub t (.complex .f64 ax ay) (.complex .f64 bx by_)).run P W = .ok (.complex .f64 re im) W := by
  obtain ⟨re, g1, f1⟩ := fi_sub h1 h3 (by omega)
  obtain ⟨im, g2, f2⟩ := fi_sub h2 h4 (by omega)
  refine ⟨re, im, f1, f2, fun P t W => run_complex_sum (w := W) (P := P) .sub (.inr rfl) t .f64 ax ay bx by_ re im ?_⟩
  unfold cSumBits
  rw [g1, g2]
  rfl
/-- Is a point on a side? -/
def onB (a b p : Int × Int) : Bool := decide (crs (b.1 - a.1, b.2 - a.2) (p.1 - a.1, p.2 - a.2) = 0) && (decide (min a.1 b.1 ≤ p.1 ∧ p.1 ≤ max a.1 b.1) && decide (min a.2 b.2 ≤ p.2 ∧ p.2 ≤ max a.2 b.2))
/-- A complex number that stands for a small point. -/
def CZ (v : Value) (a : Int × Int) : Prop := ∃ x y, v = .complex .f64 x y ∧ FI x a.1 ∧ FI y a.2 ∧ 0 ≤ a.1 ∧ a.1 < 1048576 ∧ 0 ≤ a.2 ∧ a.2 < 1048576
/-- What lies to the left of a side. -/
def lef (a b p : Int × Int) : Int := crs (b.1 - a.1, b.2 - a.2) (p.1 - a.1, p.2 - a.2)
/-- A side and a point: both differences, and the cross of them. -/
theorem py_left {u v z : Value} {a b p : Int × Int} (hu : CZ u a) (hv : CZ v b) (hz : CZ z p) :
    ∃ d1 d2 r, FI r (lef a b p) ∧ (∀ (P : Program) (t : TypeId) (W : World), (binOp .sub t v u).run P W = .ok d1 W) ∧ (∀ (P : Program) (t : TypeId) (W : World), (binOp .sub t z u).run P W = .ok d2 W) ∧
      ∀ w, Calls Try.prog 19 #[d1, d2] w fun e w' => e = .returned (.float .f64 r) ∧ w = w' := by
  obtain ⟨x, y, rfl, f1, f2, b1, b2, b3, b4⟩ := hu
  obtain ⟨x', y', rfl, g1, g2, c1, c2, c3, c4⟩ := hv
  obtain ⟨x'', y'', rfl, h1, h2, d1, d2, d3, d4⟩ := hz
  obtain ⟨re, im, k1, k2, k3⟩ := fi_csub g1 g2 f1 f2 (by omega) (by omega)
  obtain ⟨re', im', l1, l2, l3⟩ := fi_csub h1 h2 f1 f2 (by omega) (by omega)
  obtain ⟨r, m1, m2⟩ := py_cross (a := (b.1 - a.1, b.2 - a.2)) (b := (p.1 - a.1, p.2 - a.2)) k1 k2 l1 l2 (by show (b.1 - a.1).natAbs ≤ _; omega) (by show (b.2 - a.2).natAbs ≤ _; omega) (by show (p.1 - a.1).natAbs ≤ _; omega) (by show (p.2 - a.2).natAbs ≤ _; omega)
  exact ⟨_, _, r, m1, k3, l3, m2⟩
set_option maxHeartbeats 2000000 in
set_option maxRecDepth 100000 in
theorem py_on {u v z : Value} {a b p : Int × Int} (hu : CZ u a) (hv : CZ v b) (hz : CZ z p) (w : World) :
    Calls Try.prog 25 #[u, v, z] w fun e w' => e = .returned (.bool (onB a b p)) ∧ w = w' := by
  obtain ⟨d1, d2, r, f1, k1, k2, hc⟩ := py_left hu hv hz
  have r1 := fun W => k1 Try.prog 52 W
  have r2 := fun W => k2 Try.prog 52 W
  have HC := hide hc
  have e1 := fi_eql f1 fi_zero
  obtain ⟨x, y, rfl, g1, g2, -⟩ := hu
  obtain ⟨x', y', rfl, g1', g2', -⟩ := hv
  obtain ⟨x'', y'', rfl, g1'', g2'', -⟩ := hz
  have HB1 := hide (fun w => py_between g1 g1' g1'' w)
  have HB2 := hide (fun w => py_between g2 g2' g2'' w)
  have HO := hide (show onB a b p = (decide (lef a b p = 0) && (decide (min a.1 b.1 ≤ p.1 ∧ p.1 ≤ max a.1 b.1) && decide (min a.2 b.2 ≤ p.2 ∧ p.2 ≤ max a.2 b.2))) from rfl)
  generalize decide (min a.1 b.1 ≤ p.1 ∧ p.1 ≤ max a.1 b.1) = t1 at *
  generalize decide (min a.2 b.2 ≤ p.2 ∧ p.2 ≤ max a.2 b.2) = t2 at *
  generalize decide (lef a b p = 0) = t0 at *
  clear f1 k1 k2 hc g1 g1' g1'' g2 g2' g2''
  rw [HO.out]
  cases t0 with
  | false =>
    go_enter Try.func25, Try.ntmps25
    go_wp2_with fail
    refine (HC.out _).mono ?_
    rintro e w1 ⟨rfl, rfl⟩
    go_wp2
    go_ret
    exact ⟨rfl, rfl⟩
  | true =>
    cases t1 with
    | false =>
      go_enter Try.func25, Try.ntmps25
      go_wp2_with fail
      refine (HC.out _).mono ?_
      rintro e w1 ⟨rfl, rfl⟩
      go_wp2_with fail
      refine (HB1.out _).mono ?_
      rintro e w1 ⟨rfl, rfl⟩
      go_wp2
      go_ret
      exact ⟨rfl, rfl⟩
    | true =>
      go_enter Try.func25, Try.ntmps25
      go_wp2_with fail
      refine (HC.out _).mono ?_
      rintro e w1 ⟨rfl, rfl⟩
      go_wp2_with fail
      refine (HB1.out _).mono ?_
      rintro e w1 ⟨rfl, rfl⟩
      go_wp2_with fail
      refine (HB2.out _).mono ?_
      rintro e w1 ⟨rfl, rfl⟩
      go_wp2
      go_ret
      exact ⟨rfl, rfl⟩
end Go.Proofs.Ytlgdllohmmmegaa
