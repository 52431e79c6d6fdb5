/- Plain mathematics of points: bits, addresses, the z-order key. No Go. -/
import Derived.Lib.BitFns
import Derived.Laws.MathBits
set_option linter.unusedSimpArgs false
set_option linter.unusedVariables false
namespace Go.Proofs.Ytkknfnjojamgjaa

def bit (c at_ : Nat) : Nat := c / 2 ^ at_ % 2
def addrOf (p : List Nat) (at_ : Nat) : Nat := p.foldl (fun a c => 2 * a + bit c at_) 0
theorem bit_lt (c at_ : Nat) : bit c at_ < 2 := Nat.mod_lt _ (by omega)
theorem addrOf_snoc (p : List Nat) (c at_ : Nat) : addrOf (p ++ [c]) at_ = 2 * addrOf p at_ + bit c at_ := by simp [addrOf]
theorem addrOf_take (p : List Nat) (at_ k : Nat) (h : k < p.length) : addrOf (p.take (k + 1)) at_ = 2 * addrOf (p.take k) at_ + bit p[k] at_ := by
  rw [List.take_succ_eq_append_getElem h, addrOf_snoc]
theorem foldl_addr_lt (at_ : Nat) (p : List Nat) (a n : Nat) (h : a < 2 ^ n) : p.foldl (fun a c => 2 * a + bit c at_) a < 2 ^ (n + p.length) := by
  induction p generalizing a n with
  | nil => simpa using h
  | cons c p ih =>
    have := bit_lt c at_
    have h2 : 2 * a + bit c at_ < 2 ^ (n + 1) := by rw [Nat.pow_succ]; omega
    have := ih _ _ h2
    simp only [List.length_cons, List.foldl_cons]
    rwa [show n + (p.length + 1) = n + 1 + p.length by omega]
theorem addrOf_lt (p : List Nat) (at_ : Nat) : addrOf p at_ < 2 ^ p.length := by
  have := foldl_addr_lt at_ p 0 0 (by simp)
  simpa [addrOf] using this
theorem pow_len_le {k n : Nat} (h : k ≤ n) : 2 ^ k ≤ 2 ^ n := Nat.pow_le_pow_right (by omega) h
theorem addrOf_le (p : List Nat) (at_ : Nat) (h : p.length ≤ 16) : addrOf p at_ < 65536 := Nat.lt_of_lt_of_le (addrOf_lt p at_) (pow_len_le h)
/-- Equal addresses: equal bits. -/
theorem foldl_addr_inj (at_ : Nat) (p q : List Nat) (hl : p.length = q.length) (a b : Nat) :
    p.foldl (fun a c => 2 * a + bit c at_) a = q.foldl (fun a c => 2 * a + bit c at_) b ↔ a = b ∧ ∀ i (hi : i < p.length), bit p[i] at_ = bit (q[i]'(by omega)) at_ := by
  induction p generalizing q a b with
  | nil =>
    cases q with
    | nil => simp
    | cons _ _ => simp at hl
  | cons c p ih =>
    cases q with
    | nil => simp at hl
    | cons d q =>
      simp only [List.foldl_cons]
      rw [ih q (by simpa using hl)]
      have h1 := bit_lt c at_
      have h2 := bit_lt d at_
      constructor
      · rintro ⟨h, hr⟩
        refine ⟨by omega, fun i hi => ?_⟩
        cases i with
        | zero => simp; omega
        | succ i => simpa using hr i (by simpa using hi)
      · rintro ⟨h, hr⟩
        have h0 := hr 0 (by simp)
        simp at h0
        exact ⟨by omega, fun i hi => hr (i + 1) (by simpa using hi)⟩
theorem addrOf_eq_iff (at_ : Nat) (p q : List Nat) (hl : p.length = q.length) : addrOf p at_ = addrOf q at_ ↔ ∀ i (hi : i < p.length), bit p[i] at_ = bit (q[i]'(by omega)) at_ := by
  unfold addrOf
  rw [foldl_addr_inj at_ p q hl]
  simp

theorem addrOf_take? (p : List Nat) (at_ k z : Nat) (h : p[k]? = some z) : addrOf (p.take (k + 1)) at_ = 2 * addrOf (p.take k) at_ + bit z at_ := by
  obtain ⟨hk, rfl⟩ := List.getElem?_eq_some_iff.1 h
  exact addrOf_take p at_ k hk
theorem even_or (y b : Nat) (h : b < 2) : (2 * y) ||| b = 2 * y + b := by
  have h2 : b = 0 ∨ b = 1 := by omega
  have := Nat.two_pow_add_eq_or_of_lt (i := 1) (b := b) (by omega) y
  simpa using this.symm

/-! ### xor, or: where two points part -/
def orx : List Nat → List Nat → Nat
  | c :: p, d :: q => (c ^^^ d) ||| orx p q
  | _, _ => 0
theorem bit_testBit (c at_ : Nat) : bit c at_ = (c.testBit at_).toNat := by
  unfold bit
  rw [Nat.testBit_eq_decide_div_mod_eq]
  have : c / 2 ^ at_ % 2 < 2 := Nat.mod_lt _ (by omega)
  by_cases h : c / 2 ^ at_ % 2 = 1 <;> simp [h]
  omega
theorem orx_testBit (p q : List Nat) (hl : p.length = q.length) (at_ : Nat) : (orx p q).testBit at_ = false ↔ ∀ i (hi : i < p.length), bit p[i] at_ = bit (q[i]'(by omega)) at_ := by
  induction p generalizing q with
  | nil => cases q with
    | nil => simp [orx]
    | cons _ _ => simp at hl
  | cons c p ih =>
    cases q with
    | nil => simp at hl
    | cons d q =>
      simp only [orx, Nat.testBit_or, Nat.testBit_xor, Bool.or_eq_false_iff]
      rw [ih q (by simpa using hl)]
      have hb : ((c.testBit at_ ^^ d.testBit at_) = false) ↔ bit c at_ = bit d at_ := by
        rw [bit_testBit, bit_testBit]
        cases c.testBit at_ <;> cases d.testBit at_ <;> simp
      rw [hb]
      constructor
      · rintro ⟨h0, hr⟩ i hi
        cases i with
        | zero => simpa using h0
        | succ i => simpa using hr i (by simpa using hi)
      · intro h
        exact ⟨h 0 (by simp), fun i hi => h (i + 1) (by simpa using hi)⟩
theorem orx_addr (p q : List Nat) (hl : p.length = q.length) (at_ : Nat) : (orx p q).testBit at_ = false ↔ addrOf p at_ = addrOf q at_ := by
  rw [orx_testBit p q hl, addrOf_eq_iff at_ p q hl]
theorem orx_lt (p q : List Nat) (hp : ∀ x ∈ p, x < 2 ^ 64) (hq : ∀ x ∈ q, x < 2 ^ 64) : orx p q < 2 ^ 64 := by
  induction p generalizing q with
  | nil => simp [orx]
  | cons c p ih =>
    cases q with
    | nil => simp [orx]
    | cons d q =>
      simp only [orx]
      exact Nat.or_lt_two_pow (Nat.xor_lt_two_pow (hp c (by simp)) (hq d (by simp))) (ih q (fun x hx => hp x (by simp [hx])) (fun x hx => hq x (by simp [hx])))
theorem bitLenAux_spec : ∀ f x : Nat, x < 2 ^ f → x < 2 ^ Go.Lib.bitLenAux f x ∧ (x ≠ 0 → 2 ^ (Go.Lib.bitLenAux f x - 1) ≤ x) ∧ Go.Lib.bitLenAux f x ≤ f
  | 0, x, h => by simp at h; subst h; simp [Go.Lib.bitLenAux]
  | f + 1, x, h => by
    unfold Go.Lib.bitLenAux
    by_cases h0 : x = 0
    · subst h0; simp
    · rw [if_neg h0]
      obtain ⟨h1, h2, h3⟩ := bitLenAux_spec f (x / 2) (by rw [Nat.pow_succ] at h; omega)
      refine ⟨by rw [Nat.add_comm, Nat.pow_succ]; omega, fun _ => ?_, by omega⟩
      rw [Nat.add_sub_cancel_left]
      by_cases h4 : x / 2 = 0
      · have hb : Go.Lib.bitLenAux f (x / 2) = 0 := by rw [h4]; cases f <;> simp [Go.Lib.bitLenAux]
        rw [hb]
        simp
        omega
      · have := h2 h4
        generalize Go.Lib.bitLenAux f (x / 2) = b at *
        cases b with
        | zero => simp at h1; omega
        | succ b => simp at this; rw [Nat.pow_succ]; omega
theorem bitLen_spec (x : Nat) (h : x < 2 ^ 64) : x < 2 ^ Go.Lib.bitLen x ∧ (x ≠ 0 → 2 ^ (Go.Lib.bitLen x - 1) ≤ x) ∧ Go.Lib.bitLen x ≤ 64 := bitLenAux_spec 64 x h
theorem orx_snoc (p q : List Nat) (hl : p.length = q.length) (c d : Nat) : orx (p ++ [c]) (q ++ [d]) = orx p q ||| (c ^^^ d) := by
  induction p generalizing q with
  | nil => cases q with
    | nil => simp [orx]
    | cons _ _ => simp at hl
  | cons a p ih => cases q with
    | nil => simp at hl
    | cons b q =>
      simp only [List.cons_append, orx]
      rw [ih q (by simpa using hl), Nat.or_assoc]
theorem orx_take? (p q : List Nat) (k z z' : Nat) (h : p[k]? = some z) (h' : q[k]? = some z') : orx (p.take (k + 1)) (q.take (k + 1)) = orx (p.take k) (q.take k) ||| (z ^^^ z') := by
  obtain ⟨hk, rfl⟩ := List.getElem?_eq_some_iff.1 h
  obtain ⟨hk', rfl⟩ := List.getElem?_eq_some_iff.1 h'
  rw [List.take_succ_eq_append_getElem hk, List.take_succ_eq_append_getElem hk', orx_snoc _ _ (by simp; omega)]
/-- Where two points part: -1, they are one. -/
def part (p q : List Nat) : Int := (Go.Lib.bitLen (orx p q) : Int) - 1
theorem testBit_top (n : Nat) (hn : n < 2 ^ 64) (h : n ≠ 0) : n.testBit (Go.Lib.bitLen n - 1) = true := by
  obtain ⟨h1, h2, _⟩ := bitLen_spec n hn
  have h3 := h2 h
  generalize Go.Lib.bitLen n = b at *
  have hb : b ≠ 0 := by
    rintro rfl
    simp at h1
    exact h h1
  rw [Nat.testBit_eq_decide_div_mod_eq]
  have hlt : n / 2 ^ (b - 1) < 2 := by
    rw [Nat.div_lt_iff_lt_mul (Nat.two_pow_pos _)]
    have : 2 * 2 ^ (b - 1) = 2 ^ b := by
      rw [← Nat.pow_succ']
      congr 1
      omega
    omega
  have hge : 1 ≤ n / 2 ^ (b - 1) := (Nat.one_le_div_iff (Nat.two_pow_pos _)).2 h3
  have : n / 2 ^ (b - 1) = 1 := by omega
  simp [this]
theorem testBit_above (n at_ : Nat) (hn : n < 2 ^ 64) (h : Go.Lib.bitLen n ≤ at_) : n.testBit at_ = false :=
  Nat.testBit_lt_two_pow (Nat.lt_of_lt_of_le (bitLen_spec n hn).1 (pow_len_le h))
theorem part_spec (p q : List Nat) (hl : p.length = q.length) (hp : ∀ x ∈ p, x < 2 ^ 64) (hq : ∀ x ∈ q, x < 2 ^ 64) :
    -1 ≤ part p q ∧ part p q < 64 ∧ (∀ at_ : Nat, part p q < at_ → addrOf p at_ = addrOf q at_) ∧ (0 ≤ part p q → addrOf p (part p q).toNat ≠ addrOf q (part p q).toNat) := by
  have hlt := orx_lt p q hp hq
  have hs := bitLen_spec (orx p q) hlt
  have ht := testBit_top (orx p q) hlt
  have ha := testBit_above (orx p q)
  have hz : orx p q = 0 → Go.Lib.bitLen (orx p q) = 0 := fun h => by rw [h]; decide +kernel
  unfold part
  generalize hb : Go.Lib.bitLen (orx p q) = b at *
  refine ⟨by omega, by omega, fun at_ h => ?_, fun h => ?_⟩
  · exact (orx_addr p q hl at_).1 (ha at_ hlt (by omega))
  · intro e
    rw [← orx_addr p q hl] at e
    have h0 : orx p q ≠ 0 := fun h0 => by
      have := hz h0
      omega
    have := ht h0
    rw [show ((b : Int) - 1).toNat = b - 1 by omega] at e
    rw [e] at this
    cases this
/-- Which one comes first. -/
def cmp (p q : List Nat) : Int := if part p q < 0 then 0 else if addrOf p (part p q).toNat < addrOf q (part p q).toNat then -1 else 1
theorem foldl_addr_lt_of (at_ : Nat) (p q : List Nat) (hl : p.length = q.length) (a b : Nat) (h : a < b) :
    p.foldl (fun a c => 2 * a + bit c at_) a < q.foldl (fun a c => 2 * a + bit c at_) b := by
  induction p generalizing q a b with
  | nil => cases q with
    | nil => exact h
    | cons _ _ => simp at hl
  | cons c p ih => cases q with
    | nil => simp at hl
    | cons d q =>
      simp only [List.foldl_cons]
      have := bit_lt c at_
      exact ih q (by simpa using hl) _ _ (by omega)
theorem addrOf_split (p : List Nat) (k z at_ : Nat) (h : p[k]? = some z) : addrOf p at_ = (p.drop (k + 1)).foldl (fun a c => 2 * a + bit c at_) (2 * addrOf (p.take k) at_ + bit z at_) := by
  obtain ⟨hk, rfl⟩ := List.getElem?_eq_some_iff.1 h
  conv => lhs; rw [← List.take_append_drop (k + 1) p]
  unfold addrOf
  rw [List.foldl_append, List.take_succ_eq_append_getElem hk, List.foldl_append]
  rfl
theorem shr_eq_of_bits (z z' a : Nat) (h : ∀ i, a < i → bit z i = bit z' i) : z / 2 ^ (a + 1) = z' / 2 ^ (a + 1) := by
  apply Nat.eq_of_testBit_eq
  intro i
  rw [Nat.testBit_div_two_pow, Nat.testBit_div_two_pow]
  have := h (i + (a + 1)) (by omega)
  rw [bit_testBit, bit_testBit] at this
  cases h1 : z.testBit (i + (a + 1)) <;> cases h2 : z'.testBit (i + (a + 1)) <;> simp [h1, h2] at this ⊢
theorem lt_iff_bit (z z' a : Nat) (h : z / 2 ^ (a + 1) = z' / 2 ^ (a + 1)) (hb : bit z a ≠ bit z' a) : z < z' ↔ bit z a < bit z' a := by
  have e1 : ∀ x : Nat, x / 2 ^ a = 2 * (x / 2 ^ (a + 1)) + bit x a := fun x => by
    rw [Nat.pow_succ, ← Nat.div_div_eq_div_mul]
    unfold bit
    omega
  have h1 := e1 z
  have h2 := e1 z'
  have hz := Nat.div_add_mod z (2 ^ a)
  have hz' := Nat.div_add_mod z' (2 ^ a)
  have m1 := Nat.mod_lt z (Nat.two_pow_pos a)
  have m2 := Nat.mod_lt z' (Nat.two_pow_pos a)
  rw [h] at h1
  generalize z' / 2 ^ (a + 1) = t at *
  generalize 2 ^ a = m at *
  have b1 := bit_lt z a
  have b2 := bit_lt z' a
  constructor
  · intro hlt
    rcases Nat.lt_or_ge (bit z a) (bit z' a) with h3 | h3
    · exact h3
    · have h4 : bit z a = 1 := by omega
      have h5 : bit z' a = 0 := by omega
      rw [h1, h4] at hz
      rw [h2, h5] at hz'
      rw [Nat.mul_add] at hz hz'
      omega
  · intro hlt
    have h4 : bit z a = 0 := by omega
    have h5 : bit z' a = 1 := by omega
    rw [h1, h4] at hz
    rw [h2, h5] at hz'
    rw [Nat.mul_add] at hz hz'
    omega
theorem cmp_step (p q : List Nat) (hl : p.length = q.length) (a : Nat) (ha : part p q = a) (k z z' : Nat) (hp : ∀ x ∈ p, x < 2 ^ 64) (hq : ∀ x ∈ q, x < 2 ^ 64)
    (hz : p[k]? = some z) (hz' : q[k]? = some z') : z / 2 ^ (a + 1) = z' / 2 ^ (a + 1) ∧
    (addrOf (p.take k) a = addrOf (q.take k) a → bit z a ≠ bit z' a → cmp p q = if z < z' then -1 else 1) ∧
    (addrOf (p.take k) a = addrOf (q.take k) a → bit z a = bit z' a → addrOf (p.take (k + 1)) a = addrOf (q.take (k + 1)) a) := by
  obtain ⟨g1, g2, g3, g4⟩ := part_spec p q hl hp hq
  have hd : z / 2 ^ (a + 1) = z' / 2 ^ (a + 1) := by
    apply shr_eq_of_bits
    intro i hi
    have := (addrOf_eq_iff i p q hl).1 (g3 i (by omega))
    obtain ⟨hk, rfl⟩ := List.getElem?_eq_some_iff.1 hz
    obtain ⟨hk', rfl⟩ := List.getElem?_eq_some_iff.1 hz'
    exact this k hk
  refine ⟨hd, fun he hb => ?_, fun he hb => ?_⟩
  · unfold cmp
    rw [ha, if_neg (by omega), Int.toNat_natCast, addrOf_split p k z a hz, addrOf_split q k z' a hz', he]
    have hll : (p.drop (k + 1)).length = (q.drop (k + 1)).length := by simp [hl]
    have h3 := lt_iff_bit z z' a hd hb
    by_cases h4 : bit z a < bit z' a
    · rw [if_pos (foldl_addr_lt_of a _ _ hll _ _ (by omega)), if_pos (h3.2 h4)]
    · have := foldl_addr_lt_of a _ _ hll.symm (2 * addrOf (q.take k) a + bit z' a) (2 * addrOf (q.take k) a + bit z a) (by omega)
      rw [if_neg (by omega), if_neg (fun h => h4 (h3.1 h))]
  · rw [addrOf_take? p a k z hz, addrOf_take? q a k z' hz', he, hb]
end Go.Proofs.Ytkknfnjojamgjaa
