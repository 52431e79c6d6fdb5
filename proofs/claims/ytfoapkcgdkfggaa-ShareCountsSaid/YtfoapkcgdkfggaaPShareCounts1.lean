/- ShareCounts: contracts and plain laws that the statement leans on (BaA). No condition. -/
import Derived.Lib.BitFns
import Derived.Laws.MathBits
import Derived.WalkKit
import Derived.WalkSpells
import Derived.WalkLawsBesides
import Derived.Deep.QuietTactic
import Derived.BigQuiet
import Derived.Outline
import Derived.ScopeJumps
import Derived.Deep.Draws
import Derived.Laws.Rows
import Derived.Laws.OwnMore
import Derived.Deep.DeepFit
import Derived.Test.YtfoapkcgdkfggaaProg
import Derived.LaidEqlPtr
import Derived.OpenShut
import Derived.Deep.Slices
import Derived.Deep.Strs
import Derived.Maps.AppendAt
import Derived.Deep.AppendLies
import Derived.RegionTactic
import Derived.OwnWalk
import Derived.Laws.MakeOwn
import Derived.Laws.Entries
import Derived.Laws.CopyOwn
import Derived.Laws.CopyRow
import Derived.Lib.Overlaps
set_option linter.unusedSimpArgs false
set_option linter.unusedVariables false
namespace Go.Proofs.Ytfoapkcgdkfggaa
section
def bit (c at_ : Nat) : Nat := c / 2 ^ at_ % 2
def addrOf (p : List Nat) (at_ : Nat) : Nat := p.foldl (fun a c => 2 * a + bit c at_) 0
theorem bit_lt (c at_ : Nat) : bit c at_ < 2 := Nat.mod_lt _ (by omega)
theorem addrOf_snoc (p : List Nat) (c at_ : Nat) : addrOf (p ++ [c]) at_ = 2 * addrOf p at_ + bit c at_ := by simp [addrOf]
theorem addrOf_take (p : List Nat) (at_ k : Nat) (h : k < p.length) : addrOf (p.take (k + 1)) at_ = 2 * addrOf (p.take k) at_ + bit p[k] at_ := by
  rw [List.take_succ_eq_append_getElem h, addrOf_snoc]
theorem foldl_addr_lt (at_ : Nat) (p : List Nat) (a n : Nat) (h : a < 2 ^ n) : p.foldl (fun a c => 2 * a + bit c at_) a < 2 ^ (n + p.length) := by
  induction p generalizing a n with
  | nil => simpa using h
  | cons c p ih =>
    have := bit_lt c at_
    have h2 : 2 * a + bit c at_ < 2 ^ (n + 1) := by rw [Nat.pow_succ]; omega
    have := ih _ _ h2
    simp only [List.length_cons, List.foldl_cons]
    rwa [show n + (p.length + 1) = n + 1 + p.length by omega]
theorem addrOf_lt (p : List Nat) (at_ : Nat) : addrOf p at_ < 2 ^ p.length := by
  have := foldl_addr_lt at_ p 0 0 (by simp)
  simpa [addrOf] using this
theorem pow_len_le {k n : Nat} (h : k ≤ n) : 2 ^ k ≤ 2 ^ n := Nat.pow_le_pow_right (by omega) h
theorem addrOf_le (p : List Nat) (at_ : Nat) (h : p.length ≤ 16) : addrOf p at_ < 65536 := Nat.lt_of_lt_of_le (addrOf_lt p at_) (pow_len_le h)
/-- Equal addresses: equal bits. -/
theorem foldl_addr_inj (at_ : Nat) (p q : List Nat) (hl : p.length = q.length) (a b : Nat) :
    p.foldl (fun a c => 2 * a + bit c at_) a = q.foldl (fun a c => 2 * a + bit c at_) b ↔ a = b ∧ ∀ i (hi : i < p.length), bit p[i] at_ = bit (q[i]'(by omega)) at_ := by
  induction p generalizing q a b with
  | nil =>
    cases q with
    | nil => simp
    | cons _ _ => simp at hl
  | cons c p ih =>
    cases q with
    | nil => simp at hl
    | cons d q =>
      simp only [List.foldl_cons]
      rw [ih q (by simpa using hl)]
      have h1 := bit_lt c at_
      have h2 := bit_lt d at_
      constructor
      · rintro ⟨h, hr⟩
        refine ⟨by omega, fun i hi => ?_⟩
        cases i with
        | zero => simp; omega
        | succ i => simpa using hr i (by simpa using hi)
      · rintro ⟨h, hr⟩
        have h0 := hr 0 (by simp)
        simp at h0
        exact ⟨by omega, fun i hi => hr (i + 1) (by simpa using hi)⟩
theorem addrOf_eq_iff (at_ : Nat) (p q : List Nat) (hl : p.length = q.length) : addrOf p at_ = addrOf q at_ ↔ ∀ i (hi : i < p.length), bit p[i] at_ = bit (q[i]'(by omega)) at_ := by
  unfold addrOf
  rw [foldl_addr_inj at_ p q hl]
  simp
theorem addrOf_take? (p : List Nat) (at_ k z : Nat) (h : p[k]? = some z) : addrOf (p.take (k + 1)) at_ = 2 * addrOf (p.take k) at_ + bit z at_ := by
  obtain ⟨hk, rfl⟩ := List.getElem?_eq_some_iff.1 h
  exact addrOf_take p at_ k hk
theorem even_or (y b : Nat) (h : b < 2) : (2 * y) ||| b = 2 * y + b := by
  have h2 : b = 0 ∨ b = 1 := by omega
  have := Nat.two_pow_add_eq_or_of_lt (i := 1) (b := b) (by omega) y
  simpa using this.symm
/-! ### xor, or: where two points part -/
def orx : List Nat → List Nat → Nat
  | c :: p, d :: q => (c ^^^ d) ||| orx p q
  | _, _ => 0
theorem bit_testBit (c at_ : Nat) : bit c at_ = (c.testBit at_).toNat := by
  unfold bit
  rw [Nat.testBit_eq_decide_div_mod_eq]
  have : c / 2 ^ at_ % 2 < 2 := Nat.mod_lt _ (by omega)
  by_cases h : c / 2 ^ at_ % 2 = 1 <;> simp [h]
  omega
theorem orx_testBit (p q : List Nat) (hl : p.length = q.length) (at_ : Nat) : (orx p q).testBit at_ = false ↔ ∀ i (hi : i < p.length), bit p[i] at_ = bit (q[i]'(by omega)) at_ := by
  induction p generalizing q with
  | nil => cases q with
    | nil => simp [orx]
    | cons _ _ => simp at hl
  | cons c p ih =>
    cases q with
    | nil => simp at hl
    | cons d q =>
      simp only [orx, Nat.testBit_or, Nat.testBit_xor, Bool.or_eq_false_iff]
      rw [ih q (by simpa using hl)]
      have hb : ((c.testBit at_ ^^ d.testBit at_) = false) ↔ bit c at_ = bit d at_ := by
        rw [bit_testBit, bit_testBit]
        cases c.testBit at_ <;> cases d.testBit at_ <;> simp
      rw [hb]
      constructor
      · rintro ⟨h0, hr⟩ i hi
        cases i with
        | zero => simpa using h0
        | succ i => simpa using hr i (by simpa using hi)
      · intro h
        exact ⟨h 0 (by simp), fun i hi => h (i + 1) (by simpa using hi)⟩
theorem orx_addr (p q : List Nat) (hl : p.length = q.length) (at_ : Nat) : (orx p q).testBit at_ = false ↔ addrOf p at_ = addrOf q at_ := by
  rw [orx_testBit p q hl, addrOf_eq_iff at_ p q hl]
theorem orx_lt (p q : List Nat) (hp : ∀ x ∈ p, x < 2 ^ 64) (hq : ∀ x ∈ q, x < 2 ^ 64) : orx p q < 2 ^ 64 := by
  induction p generalizing q with
  | nil => simp [orx]
  | cons c p ih =>
    cases q with
    | nil => simp [orx]
    | cons d q =>
      simp only [orx]
      exact Nat.or_lt_two_pow (Nat.xor_lt_two_pow (hp c (by simp)) (hq d (by simp))) (ih q (fun x hx => hp x (by simp [hx])) (fun x hx => hq x (by simp [hx])))
theorem bitLenAux_spec : ∀ f x : Nat, x < 2 ^ f → x < 2 ^ Go.Lib.bitLenAux f x ∧ (x ≠ 0 → 2 ^ (Go.Lib.bitLenAux f x - 1) ≤ x) ∧ Go.Lib.bitLenAux f x ≤ f
  | 0, x, h => by simp at h; subst h; simp [Go.Lib.bitLenAux]
  | f + 1, x, h => by
    unfold Go.Lib.bitLenAux
    by_cases h0 : x = 0
    · subst h0; simp
    · rw [if_neg h0]
      obtain ⟨h1, h2, h3⟩ := bitLenAux_spec f (x / 2) (by rw [Nat.pow_succ] at h; omega)
      refine ⟨by rw [Nat.add_comm, Nat.pow_succ]; omega, fun _ => ?_, by omega⟩
      rw [Nat.add_sub_cancel_left]
      by_cases h4 : x / 2 = 0
      · have hb : Go.Lib.bitLenAux f (x / 2) = 0 := by rw [h4]; cases f <;> simp [Go.Lib.bitLenAux]
        rw [hb]
        simp
        omega
      · have := h2 h4
        generalize Go.Lib.bitLenAux f (x / 2) = b at *
        cases b with
        | zero => simp at h1; omega
        | succ b => simp at this; rw [Nat.pow_succ]; omega
theorem bitLen_spec (x : Nat) (h : x < 2 ^ 64) : x < 2 ^ Go.Lib.bitLen x ∧ (x ≠ 0 → 2 ^ (Go.Lib.bitLen x - 1) ≤ x) ∧ Go.Lib.bitLen x ≤ 64 := bitLenAux_spec 64 x h
theorem orx_snoc (p q : List Nat) (hl : p.length = q.length) (c d : Nat) : orx (p ++ [c]) (q ++ [d]) = orx p q ||| (c ^^^ d) := by
  induction p generalizing q with
  | nil => cases q with
    | nil => simp [orx]
    | cons _ _ => simp at hl
  | cons a p ih => cases q with
    | nil => simp at hl
    | cons b q =>
      simp only [List.cons_append, orx]
      rw [ih q (by simpa using hl), Nat.or_assoc]
theorem orx_take? (p q : List Nat) (k z z' : Nat) (h : p[k]? = some z) (h' : q[k]? = some z') : orx (p.take (k + 1)) (q.take (k + 1)) = orx (p.take k) (q.take k) ||| (z ^^^ z') := by
  obtain ⟨hk, rfl⟩ := List.getElem?_eq_some_iff.1 h
  obtain ⟨hk', rfl⟩ := List.getElem?_eq_some_iff.1 h'
  rw [List.take_succ_eq_append_getElem hk, List.take_succ_eq_append_getElem hk', orx_snoc _ _ (by simp; omega)]
/-- Where two points part: -1, they are one. -/
def part (p q : List Nat) : Int := (Go.Lib.bitLen (orx p q) : Int) - 1
theorem testBit_top (n : Nat) (hn : n < 2 ^ 64) (h : n ≠ 0) : n.testBit (Go.Lib.bitLen n - 1) = true := by
  obtain ⟨h1, h2, _⟩ := bitLen_spec n hn
  have h3 := h2 h
  generalize Go.Lib.bitLen n = b at *
  have hb : b ≠ 0 := by
    rintro rfl
    simp at h1
    exact h h1
  rw [Nat.testBit_eq_decide_div_mod_eq]
  have hlt : n / 2 ^ (b - 1) < 2 := by
    rw [Nat.div_lt_iff_lt_mul (Nat.two_pow_pos _)]
    have : 2 * 2 ^ (b - 1) = 2 ^ b := by
      rw [← Nat.pow_succ']
      congr 1
      omega
    omega
  have hge : 1 ≤ n / 2 ^ (b - 1) := (Nat.one_le_div_iff (Nat.two_pow_pos _)).2 h3
  have : n / 2 ^ (b - 1) = 1 := by omega
  simp [this]
theorem testBit_above (n at_ : Nat) (hn : n < 2 ^ 64) (h : Go.Lib.bitLen n ≤ at_) : n.testBit at_ = false :=
  Nat.testBit_lt_two_pow (Nat.lt_of_lt_of_le (bitLen_spec n hn).1 (pow_len_le h))
theorem part_spec (p q : List Nat) (hl : p.length = q.length) (hp : ∀ x ∈ p, x < 2 ^ 64) (hq : ∀ x ∈ q, x < 2 ^ 64) :
    -1 ≤ part p q ∧ part p q < 64 ∧ (∀ at_ : Nat, part p q < at_ → addrOf p at_ = addrOf q at_) ∧ (0 ≤ part p q → addrOf p (part p q).toNat ≠ addrOf q (part p q).toNat) := by
  have hlt := orx_lt p q hp hq
  have hs := bitLen_spec (orx p q) hlt
  have ht := testBit_top (orx p q) hlt
  have ha := testBit_above (orx p q)
  have hz : orx p q = 0 → Go.Lib.bitLen (orx p q) = 0 := fun h => by rw [h]; decide +kernel
  unfold part
  generalize hb : Go.Lib.bitLen (orx p q) = b at *
  refine ⟨by omega, by omega, fun at_ h => ?_, fun h => ?_⟩
  · exact (orx_addr p q hl at_).1 (ha at_ hlt (by omega))
  · intro e
    rw [← orx_addr p q hl] at e
    have h0 : orx p q ≠ 0 := fun h0 => by
      have := hz h0
      omega
    have := ht h0
    rw [show ((b : Int) - 1).toNat = b - 1 by omega] at e
    rw [e] at this
    cases this
/-- Which one comes first. -/
def cmp (p q : List Nat) : Int := if part p q < 0 then 0 else if addrOf p (part p q).toNat < addrOf q (part p q).toNat then -1 else 1
end
section
open Go.RowKit
theorem hide {p : Prop} (h : p) : Hid p := h
theorem boolI {a b : Bool} (h : a = true ↔ b = true) : a = b := Bool.eq_iff_iff.2 h
theorem retB {a b : Bool} (h : a = b) : Ending.returned (.bool a) = .returned (.bool b) := by rw [h]
theorem retI {k : IntKind} {a b : Int} (h : a = b) : Ending.returned (.int k a) = .returned (.int k b) := by rw [h]
theorem vI {k : IntKind} {a b : Int} (h : a = b) : Value.int k a = .int k b := by rw [h]
theorem still_of {P : Program} {f : FuncId} {args : Array Value} {w : World} {v : Value} (h : Calls P f args w fun e w' => e = .returned v ∧ w = w') : Calls P f args w fun e w' => e = .returned v ∧ w' = w :=
  h.mono fun _ _ ⟨a, b⟩ => ⟨a, b.symm⟩
/-! ### Below -/
theorem below_drewN {B : Nat} {a w : World} (h : Below B a w) (n : Nat) : Below B a (w.drewN n) := ⟨h.os, h.tape, h.output, h.size, h.block⟩
theorem below_alloc {B : Nat} {a w : World} (h : Below B a w) (hB : B ≤ a.heap.size) (o : Obj) : Below B a (w.alloc o) := h.alloc (Nat.le_trans hB h.size) o
theorem below_then {a w w' : World} (h : Below a.heap.size a w) (k : Below w.heap.size w w') : Below a.heap.size a w' := h.trans (k.mono h.size)
/-! ### A block that is known whole -/
def Blk (w : World) (g : Nat) (t : TypeId) (cs : Array Value) : Prop := w.heap[g]? = some (.cells cs t (0, 0))
section
variable {w w' : World} {g : Nat} {t : TypeId} {cs : Array Value}
theorem Blk.lt (h : Blk w g t cs) : g < w.heap.size := by
  rcases Nat.lt_or_ge g w.heap.size with hlt | hge
  · exact hlt
  · unfold Blk at h; rw [Array.getElem?_eq_none hge] at h; cases h
theorem Blk.cell (h : Blk w g t cs) (i : Nat) : w.cell? ⟨g, i, none⟩ = cs[i]? := cell_of_row w g i cs t (0, 0) h
theorem Blk.frozen (h : Blk w g t cs) (i : Nat) : w.frozen? ⟨g, i, none⟩ = false := by
  unfold Blk at h
  simp [World.frozen?, h]
theorem Blk.new (w : World) (t : TypeId) (cs : Array Value) : Blk (w.alloc (.cells cs t)) w.heap.size t cs := heap_alloc_new w _
theorem Blk.drewN (h : Blk w g t cs) (n : Nat) : Blk (w.drewN n) g t cs := h
theorem Blk.below (h : Blk w g t cs) (hb : Below w.heap.size w w') : Blk w' g t cs := (hb.block g h.lt).trans h
theorem Blk.belowB {B : Nat} (h : Blk w g t cs) (hb : Below B w w') (hg : g < B) : Blk w' g t cs := (hb.block g hg).trans h
theorem Blk.set_ (h : Blk w g t cs) (b i : Nat) (u : Value) (hne : g ≠ b) : Blk (w.setCell ⟨b, i, none⟩ u) g t cs := (Below.heap_setCell w ⟨b, i, none⟩ u g hne).trans h
theorem Blk.alloc (h : Blk w g t cs) (o : Obj) : Blk (w.alloc o) g t cs := (Below.heap_alloc w o g h.lt).trans h
theorem Blk.alloc_cell {w : World} {b i : Nat} {v : Value} {o : Obj} (h : w.cell? ⟨b, i, none⟩ = some v) : (w.alloc o).cell? ⟨b, i, none⟩ = some v := by
  have hb : b < w.heap.size := by
    rcases Nat.lt_or_ge b w.heap.size with h1 | h1
    · exact h1
    · simp [World.cell?, Array.getElem?_eq_none h1] at h
  exact (World.cell?_alloc_lt w o ⟨b, i, none⟩ hb).trans h
theorem Blk.eq_ {t' : TypeId} {cs' : Array Value} (h : Blk w g t cs) (h' : Blk w g t' cs') : t = t' ∧ cs = cs' := by
  unfold Blk at h h'
  rw [h] at h'
  injection h' with h'
  injection h' with h1 h2
  exact ⟨h2, h1⟩
theorem Blk.ne_ {g' : Nat} {t' : TypeId} {cs' : Array Value} (h : Blk w g t cs) (h' : Blk w g' t' cs') (hne : t ≠ t') : g ≠ g' := by
  rintro rfl
  exact hne (h.eq_ h').1
end
/-! ### A slice that is read: elements of sz cells -/
def Rw (w : World) (sz : Nat) (A : Option Addr) (n : Nat) (vs : List Value) : Prop :=
  vs.length = n * sz ∧ (0 < n → ∃ b o, A = some ⟨b, o, none⟩ ∧ b < w.heap.size ∧ ∀ j u, vs[j]? = some u → w.cell? ⟨b, o + j, none⟩ = some u)
section
variable {w w' : World} {sz n : Nat} {A : Option Addr} {vs : List Value}
theorem Rw.nil (w : World) (sz : Nat) (A : Option Addr) : Rw w sz A 0 [] := ⟨by simp, fun h => absurd h (by omega)⟩
theorem Rw.below (h : Rw w sz A n vs) (hb : Below w.heap.size w w') : Rw w' sz A n vs :=
  ⟨h.1, fun hn => by
    obtain ⟨b, o, rfl, hlt, hc⟩ := h.2 hn
    exact ⟨b, o, rfl, Nat.lt_of_lt_of_le hlt hb.size, fun j u hu => (hb.cell (p := ⟨b, o + j, none⟩) hlt).trans (hc j u hu)⟩⟩
theorem Rw.at_ (h : Rw w sz A n vs) (hn : 0 < n) : ∃ b o, A = some ⟨b, o, none⟩ ∧ b < w.heap.size ∧ ∀ j u, vs[j]? = some u → w.cell? ⟨b, o + j, none⟩ = some u := h.2 hn
theorem Rw.of_own {base : Nat} {e : TypeId} {v : Value} (h : w.ownsRow base e sz v n vs) : ∃ A c, v = .slice A n c ∧ n ≤ c ∧ Rw w sz A n vs := by
  obtain ⟨h1, h2⟩ := h
  rcases h2 with ⟨rfl, rfl⟩ | ⟨g, cap, cur, rfl, _, hh, hnc, _, hcs, ht⟩
  · exact ⟨none, 0, rfl, Nat.le_refl _, h1, fun hn => absurd hn (by omega)⟩
  · refine ⟨_, _, rfl, hnc, h1, fun _ => ⟨g, 0, rfl, Blk.lt (t := e) hh, fun j u hu => ?_⟩⟩
    rw [Nat.zero_add, Blk.cell (t := e) hh]
    rw [← ht, List.getElem?_take] at hu
    split at hu
    · simpa using hu
    · cases hu
theorem Rw.of_blk {g : Nat} {t : TypeId} {cs : Array Value} {k : Nat} (h : Blk w g t cs) (hl : vs.length = n * sz) (hc : ∀ j u, vs[j]? = some u → cs[k + j]? = some u) : Rw w sz (some ⟨g, k, none⟩) n vs :=
  ⟨hl, fun _ => ⟨g, k, rfl, h.lt, fun j u hu => (h.cell _).trans (hc j u hu)⟩⟩
end
/-! ### Points: slices of uint64 -/
def u64s (p : List Nat) : List Value := p.map fun (x : Nat) => Value.int .u64 (x : Int)
def Pt (w : World) (A : Option Addr) (n : Nat) (p : List Nat) : Prop := p.length = n ∧ Rw w 1 A n (u64s p) ∧ ∀ x ∈ p, x < 2 ^ 64
section
variable {w w' : World} {A : Option Addr} {n : Nat} {p : List Nat}
theorem Pt.len (h : Pt w A n p) : p.length = n := h.1
theorem Pt.below (h : Pt w A n p) (hb : Below w.heap.size w w') : Pt w' A n p := ⟨h.1, h.2.1.below hb, h.2.2⟩
theorem Pt.z_ {k : Nat} (h : Pt w A n p) (hk : k < n) : ∃ z, p[k]? = some z ∧ z < 18446744073709551616 := by
  have hk' : k < p.length := by have := h.1; omega
  exact ⟨p[k], List.getElem?_eq_getElem hk', h.2.2 _ (List.getElem_mem hk')⟩
theorem Pt.at_ {k : Nat} (h : Pt w A n p) (hk : k < n) : ∃ b o z, A = some ⟨b, o, none⟩ ∧ b < w.heap.size ∧ p[k]? = some z ∧ z < 18446744073709551616 ∧ w.cell? ⟨b, o + k, none⟩ = some (.int .u64 (z : Int)) := by
  obtain ⟨hl, hr, hb⟩ := h
  obtain ⟨b, o, rfl, hlt, hc⟩ := hr.2 (by omega)
  have hk' : k < p.length := by omega
  exact ⟨b, o, p[k], rfl, hlt, List.getElem?_eq_getElem hk', hb _ (List.getElem_mem hk'), hc k _ (by simp [u64s, hk'])⟩
end
/-! ### A label that is jumped back to -/
def NoExit : Exit → Act → World → Prop := fun _ _ _ => False
theorem jump_mono {P : Program} {c : Code} {l : Nat} {J J' : Act → World → Prop} {Q : Exit → Act → World → Prop} {a : Act} {w : World} (h : c.wp P (Exit.jump l J Q) a w) (hJ : ∀ a w, J a w → J' a w) : c.wp P (Exit.jump l J' Q) a w := by
  refine Code.wp_mono (fun e a w h => ?_) h
  cases e with
  | goto k =>
    exact ⟨h.1, hJ _ _ h.2⟩
  | _ => exact h
theorem wp_scope_goto {P : Program} {Q : Exit → Act → World → Prop} {a : Act} {w : World} {c pre rest : Code} (l : Nat) (J : Act → World → Prop) (μ : Act → World → Nat) (hc : c = pre.seq ((Code.label l).seq rest)) (hf : findLabel pre l = none)
    (first : pre.wp P (Exit.then J NoExit) a w)
    (pass : ∀ a w, J a w → rest.wp P (Exit.jump l (fun a' w' => J a' w' ∧ μ a' w' < μ a w) Q) a w) : (Code.scope c).wp P Q a w := by
  subst hc
  refine wp_scope_jumps l J μ (rest := Code.skip.seq rest) (by simp [findLabel, hf]) ?_ (fun a w h => Go.wp_seq (Go.wp_skip (pass a w h)))
  refine Go.wp_seq (Code.wp_mono (fun e a w h => ?_) first)
  cases e with
  | normal => exact Go.wp_seq (Go.wp_label (jump_mono (pass a w h) fun _ _ h => h.1))
  | _ => exact False.elim h
end
section
open Go.RowKit
theorem node_info : ∃ j, Try.prog.info? 103 = some j ∧ j.size ≠ 0 := by
  have h : (Try.prog.info? 103).map (fun j => j.size) = some 8 := by kernel_rfl
  obtain ⟨j, hj, h8⟩ := Option.map_eq_some_iff.1 h
  exact ⟨j, hj, by omega⟩
theorem ptr_same (a : Addr) (w : World) : (binOp .eql 51 (.pointer (some a)) (.pointer (some a))).run Try.prog w = .ok (.bool true) w := by
  obtain ⟨j, hj, _⟩ := node_info
  exact run_eql_ptr_same w a Try.underlying51 hj
theorem ptr_other {w : World} {a b : Nat} {ca cb : Array Value} {ta tb : TypeId} (hne : a ≠ b) (ha : Blk w a ta ca) (hb : Blk w b tb cb) : (binOp .eql 51 (.pointer (some ⟨a, 0, none⟩)) (.pointer (some ⟨b, 0, none⟩))).run Try.prog w = .ok (.bool false) w := by
  obtain ⟨j, hj, h0⟩ := node_info
  exact run_eql_ptr_other w Try.underlying51 hj h0 (fun h => hne (by injection h)) ha hb
end
section
open Go.RowKit Go.ChangeShapes Go.WideShapes Go.Deep
theorem flat_get {α : Type} {f : α → List Value} {sz : Nat} (hf : ∀ a, (f a).length = sz) : ∀ (rows : List α) (i r : Nat), r < sz → (rows.flatMap f)[i * sz + r]? = (rows[i]?).bind fun a => (f a)[r]?
  | [], i, r, _ => by simp
  | a :: rows, 0, r, hr => by
    rw [List.flatMap_cons, List.getElem?_append_left (by rw [hf]; omega)]
    simp
  | a :: rows, i + 1, r, hr => by
    rw [List.flatMap_cons, List.getElem?_append_right (by rw [hf, Nat.add_mul]; omega), hf, List.getElem?_cons_succ, ← flat_get hf rows i r hr]
    congr 1
    rw [Nat.add_mul]
    omega
theorem flat_length {α : Type} {f : α → List Value} {sz : Nat} (hf : ∀ a, (f a).length = sz) : ∀ (rows : List α), (rows.flatMap f).length = rows.length * sz
  | [] => by simp
  | a :: rows => by rw [List.flatMap_cons, List.length_append, hf, flat_length hf rows, List.length_cons, Nat.add_mul]; omega
/-- A row's element, read. -/
theorem Rw.elem {α : Type} {f : α → List Value} {sz n i : Nat} {w : World} {A : Option Addr} {rows : List α} (hf : ∀ a, (f a).length = sz) (h : Rw w sz A n (rows.flatMap f)) (hi : i < n) (hsz : 0 < sz) :
    ∃ b o a, A = some ⟨b, o, none⟩ ∧ b < w.heap.size ∧ rows[i]? = some a ∧ ∀ (r : Nat) u, (f a)[r]? = some u → w.cell? ⟨b, o + (i * sz + r), none⟩ = some u := by
  obtain ⟨b, o, rfl, hb, hc⟩ := h.2 (by omega)
  have hl : rows.length = n := by
    have h1 := h.1
    rw [flat_length hf] at h1
    exact Nat.eq_of_mul_eq_mul_right hsz h1
  have ha : rows[i]? = some (rows[i]'(by omega)) := List.getElem?_eq_getElem _
  refine ⟨b, o, _, rfl, hb, ha, fun r u hu => hc _ u ?_⟩
  have hr : r < sz := by
    have := (List.getElem?_eq_some_iff.1 hu).1
    rw [hf] at this
    exact this
  rw [flat_get hf rows i r hr, ha]
  exact hu
/-- A row made of its elements. -/
theorem Rw.of_elems {α : Type} {f : α → List Value} {sz n : Nat} {w : World} {A : Option Addr} {rows : List α} (hf : ∀ a, (f a).length = sz) (hl : rows.length = n)
    (h : 0 < n → ∃ b o, A = some ⟨b, o, none⟩ ∧ b < w.heap.size ∧ ∀ (i : Nat) a, rows[i]? = some a → ∀ (r : Nat) u, (f a)[r]? = some u → w.cell? ⟨b, o + (i * sz + r), none⟩ = some u) : Rw w sz A n (rows.flatMap f) := by
  refine ⟨by rw [flat_length hf, hl], fun hn => ?_⟩
  obtain ⟨b, o, e, hb, hc⟩ := h hn
  refine ⟨b, o, e, hb, fun j u hu => ?_⟩
  have hsz : 0 < sz := by
    rcases Nat.eq_zero_or_pos sz with h0 | h0
    · have := (List.getElem?_eq_some_iff.1 hu).1
      rw [flat_length hf, h0] at this
      omega
    · exact h0
  have hj : j = (j / sz) * sz + j % sz := by rw [Nat.mul_comm]; exact (Nat.div_add_mod j sz).symm
  rw [hj] at hu ⊢
  rw [flat_get hf rows _ _ (Nat.mod_lt _ hsz)] at hu
  obtain ⟨a, ha, hu⟩ := Option.bind_eq_some_iff.1 hu
  exact hc _ a ha _ u hu
theorem choose_rows {α : Type} {p : Nat → α → Prop} : ∀ {n : Nat}, (∀ i, i < n → ∃ a, p i a) → ∃ rows : List α, rows.length = n ∧ ∀ (i : Nat) a, rows[i]? = some a → p i a
  | 0, _ => ⟨[], rfl, fun i a h => by simp at h⟩
  | n + 1, h => by
    obtain ⟨rows, hl, hr⟩ := choose_rows (n := n) fun i hi => h i (by omega)
    obtain ⟨a, ha⟩ := h n (by omega)
    refine ⟨rows ++ [a], by simp [hl], fun i b hb => ?_⟩
    rcases Nat.lt_or_ge i n with h1 | h1
    · rw [List.getElem?_append_left (by omega)] at hb
      exact hr i b hb
    · have hi := (List.getElem?_eq_some_iff.1 hb).1
      simp at hi
      obtain rfl : i = n := by omega
      rw [List.getElem?_append_right (by omega), hl] at hb
      simp at hb
      rw [← hb]
      exact ha
theorem cell_of_cells {w : World} {base : Nat} {a : Addr} {n : Nat} {cs : List Value} (h : w.cells? base a n = some cs) : cs.length = n ∧ ∀ j u, cs[j]? = some u → w.cell? (a.add j) = some u := by
  obtain ⟨_, h1, h2⟩ := World.cells?_some h
  refine ⟨h1, fun j u hu => ?_⟩
  have hj := (List.getElem?_eq_some_iff.1 hu).1
  rw [h2 j (by omega), hu]
variable {H : Type} {enc : TypeId × Value → H} {P : Program} {w : World} {spare : Nat → Bool} {held : Bool}
/-- A slice that came in: its elements, each opened by 'ho'. -/
theorem open_elems {α : Type} (f : α → List Value) (ok : α → Prop) {sz : Nat} (hf : ∀ a, (f a).length = sz) (hsz : 0 < sz) {t e : TypeId} {fuel : Nat} {A : Option Addr} {len cap : Nat} {x : DataW H × List MemPlace}
    (ht : P.underlying t = some (.slice e)) (hc : P.cellsOf e = sz) (ho : ∀ (n : Nat) (cs : List Value) (d : DataW H × List MemPlace), DataW.trod enc P w 0 spare held n e cs = some d → ∃ a, cs = f a ∧ ok a)
    (h : DataW.trod enc P w 0 spare held fuel t [.slice A len cap] = some x) :
    ∃ rows : List α, rows.length = len ∧ (∀ a ∈ rows, ok a) ∧ Rw w sz A len (rows.flatMap f) ∧ len ≤ cap ∧ cap ≤ maxLen := by
  rcases open_slice ht h with ⟨h0, _⟩ | ⟨a, l, c, m, n, D, Pl, h0, hb, hl, hm, hmm, _, hx⟩
  · injection h0 with h0 _
    injection h0 with h1 h2 h3
    subst h1 h2 h3
    exact ⟨[], rfl, (fun a ha => by cases ha), Rw.nil _ _ _, Nat.le_refl _, Nat.zero_le _⟩
  · injection h0 with h0 _
    injection h0 with h1 h2 h3
    subst h1 h2 h3
    have hlm : len ≤ m := by rw [hmm]; split <;> omega
    obtain ⟨rows, hr, hp⟩ := choose_rows (n := len) (p := fun i (q : α) => ok q ∧ ∀ (r : Nat) u, (f q)[r]? = some u → w.cell? ((a.add (i * sz)).add r) = some u) fun i hi => by
      obtain ⟨cs, g1, g2⟩ := hx i (by omega)
      rw [hc] at g1
      obtain ⟨q, rfl, hq⟩ := ho _ _ _ g2
      exact ⟨q, hq, (cell_of_cells g1).2⟩
    refine ⟨rows, hr, fun q hq => ?_, Rw.of_elems hf hr fun hn => ?_, hl, hm⟩
    · obtain ⟨i, hi⟩ := List.getElem?_of_mem hq
      exact (hp i q hi).1
    · have key : ∀ (i : Nat) q, rows[i]? = some q → ∀ (r : Nat) u, (f q)[r]? = some u → w.cell? (a.add (i * sz + r)) = some u := by
        intro i q hq r u hu
        have := (hp i q hq).2 r u hu
        rw [add_add] at this
        exact this
      have h00 : rows[0]? = some (rows[0]'(by omega)) := List.getElem?_eq_getElem _
      have h01 : (f (rows[0]'(by omega)))[0]? = some ((f (rows[0]'(by omega)))[0]'(by rw [hf]; omega)) := List.getElem?_eq_getElem _
      have h2 := key 0 _ h00 0 _ h01
      have hspot : a.spot = none := by
        simp [Addr.add] at h2
        unfold World.cell? at h2
        split at h2
        · split at h2
          · cases h2
          · rename_i hs
            simpa using hs
        · cases h2
      obtain ⟨b, o, s⟩ := a
      simp at hspot
      subst hspot
      refine ⟨b, o, rfl, ?_, fun i q hq r u hu => ?_⟩
      · exact World.block_lt_of_cell? w ⟨b, o, none⟩ (by simpa [Addr.add] using h2)
      · have := key i q hq r u hu
        unfold Addr.add at this
        by_cases h3 : i * sz + r = 0
        · rw [if_pos h3] at this
          rw [h3]
          exact this
        · rw [if_neg h3] at this
          exact this
end
section
open Go.RowKit
section
variable {P : Program} (w : World)
theorem run_append_of_nil (base : Nat) (t ty e : TypeId) (i : TypeInfo) (size : Nat) (ht : P.underlying t = some (.slice e)) (hi : P.info? e = some i)
    (v : Value) (n : Nat) (xs : List Value) (hown : w.ownsRow base e size v n xs) (c : Nat) : (Builtin.append_ #[t, t] ty #[v, .slice none 0 c]).run P w = .ok v w := by
  rcases hown.2 with ⟨rfl, rfl⟩ | ⟨g, cap, cur, rfl, _, _, hnc, _⟩
  · simp [Builtin.append_, run_underlying ht, sizeOf, typeInfo, hi, Builtin.lenOf, Builtin.firstCells]
  · simp [Builtin.append_, run_underlying ht, sizeOf, typeInfo, hi, Builtin.lenOf, Builtin.firstCells, hnc, storeCells]
theorem run_append_any (base : Nat) (t ty e : TypeId) (i : TypeInfo) (z : Value) (size bytes : Nat) (ht : P.underlying t = some (.slice e)) (hi : P.info? e = some i) (hz : i.zero = some z)
    (hsize : i.size = size) (hby : i.bytes = bytes) (hzs : z.cells.size = size) (hsz : 0 < size)
    (v : Value) (n : Nat) (xs : List Value) (hown : w.ownsRow base e size v n xs)
    (A : Option Addr) (m c : Nat) (news : List Value) (hr : Rw w size A m news) (h1 : ∀ u ∈ news, u.oneCell' = true)
    (h63 : n + m ≤ maxLen) (hbytes : (n + m) * bytes ≤ 140737488355328) (hbase : base ≤ w.heap.size) :
    ∃ v' w', (Builtin.append_ #[t, t] ty #[v, .slice A m c]).run P w = .ok v' w' ∧ w'.ownsRow base e size v' (n + m) (xs ++ news) ∧ w.grownBy w' v.ownBlock ∧
      (v'.ownBlock = v.ownBlock ∨ v'.ownBlock = some w.heap.size) := by
  rcases A with _ | ad
  · have hm : m = 0 := by
      rcases Nat.eq_zero_or_pos m with h0 | h0
      · exact h0
      · obtain ⟨b, o, h, _⟩ := hr.2 h0
        cases h
    subst hm
    have hn : news = [] := List.eq_nil_of_length_eq_zero (by simpa using hr.1)
    subst hn
    exact ⟨v, w, run_append_of_nil w base t ty e i size ht hi v n xs hown c, by simpa using hown, World.grownBy.refl w _, .inl rfl⟩
  · have hcells : ∀ j u, news[j]? = some u → w.cell? (ad.add j) = some u := by
      intro j u hu
      rcases Nat.eq_zero_or_pos m with h0 | h0
      · subst h0
        have hn : news = [] := List.eq_nil_of_length_eq_zero (by simpa using hr.1)
        subst hn
        simp at hu
      · obtain ⟨b, o, h, _, hc⟩ := hr.2 h0
        injection h with h
        subst h
        have := hc j u hu
        unfold Addr.add
        by_cases hj : j = 0
        · subst hj; simpa using this
        · simpa [hj] using this
    obtain ⟨v', w', hrun, h2, h3, _, h5⟩ := run_append_own_at (P := P) w base t ty e i z size bytes ht hi hz hsize hby hzs hsz v n xs hown ad m c news hr.1 hcells h1 h63 hbytes hbase
    exact ⟨v', w', hrun, h2, h3, h5⟩
theorem wp_append_any {o : Oper} {a : Act} {K : Act → World → Prop} {Q : Exit → Act → World → Prop} (s x : Operand) (t : TypeId)
    (ho : o.op = .call { callee := .builtin .append, args := #[s, x], argTypes := #[t, t] })
    (base : Nat) (e : TypeId) (i : TypeInfo) (z : Value) (size bytes : Nat) (ht : P.underlying t = some (.slice e)) (hi : P.info? e = some i) (hz : i.zero = some z)
    (hsize : i.size = size) (hby : i.bytes = bytes) (hzs : z.cells.size = size) (hsz : 0 < size)
    (v : Value) (n : Nat) (xs : List Value) (hs : a.eval s = v) (hown : w.ownsRow base e size v n xs)
    (A : Option Addr) (m c : Nat) (news : List Value) (hx : a.eval x = .slice A m c) (hr : Rw w size A m news) (h1 : ∀ u ∈ news, u.oneCell' = true)
    (h63 : n + m ≤ maxLen) (hbytes : (n + m) * bytes ≤ 140737488355328) (hbase : base ≤ w.heap.size)
    (h : ∀ v' w', w'.ownsRow base e size v' (n + m) (xs ++ news) → w.grownBy w' v.ownBlock → (v'.ownBlock = v.ownBlock ∨ v'.ownBlock = some w.heap.size) → K (a.put o.dst v') w') : o.wp P a w K Q := by
  obtain ⟨v', w', hrun, h2, h3, h4⟩ := run_append_any (P := P) w base t o.type e i z size bytes ht hi hz hsize hby hzs hsz v n xs hown A m c news hr h1 h63 hbytes hbase
  unfold Oper.wp execOp
  simp only [ho, resolve, invoke, builtin, Sem.run_bind, Sem.run_pure, Result.andThen_ok, List.map_toArray, List.map_cons, List.map_nil, hs, hx, hrun]
  exact h v' w' h2 h3 h4
theorem wpList_append_any {ops : Array Oper} {rest : List Oper} {o : Oper} {a : Act} {Q : Exit → Act → World → Prop} (hgd : o.guard = none) (s x : Operand) (t : TypeId)
    (ho : o.op = .call { callee := .builtin .append, args := #[s, x], argTypes := #[t, t] })
    (base : Nat) (e : TypeId) (i : TypeInfo) (z : Value) (size bytes : Nat) (ht : P.underlying t = some (.slice e)) (hi : P.info? e = some i) (hz : i.zero = some z)
    (hsize : i.size = size) (hby : i.bytes = bytes) (hzs : z.cells.size = size) (hsz : 0 < size)
    (v : Value) (n : Nat) (xs : List Value) (hs : a.eval s = v) (hown : w.ownsRow base e size v n xs)
    (A : Option Addr) (m c : Nat) (news : List Value) (hx : a.eval x = .slice A m c) (hr : Rw w size A m news) (h1 : ∀ u ∈ news, u.oneCell' = true)
    (h63 : n + m ≤ maxLen) (hbytes : (n + m) * bytes ≤ 140737488355328) (hbase : base ≤ w.heap.size)
    (h : ∀ v' w', w'.ownsRow base e size v' (n + m) (xs ++ news) → w.grownBy w' v.ownBlock → (v'.ownBlock = v.ownBlock ∨ v'.ownBlock = some w.heap.size) → wpList P ops Q rest (a.put o.dst v') w') : wpList P ops Q (o :: rest) a w :=
  wpList_plain hgd fun _ hK => wp_append_any w s x t ho base e i z size bytes ht hi hz hsize hby hzs hsz v n xs hs hown A m c news hx hr h1 h63 hbytes hbase fun v' w' h2 h3 h4 => hK _ _ (h v' w' h2 h3 h4)
theorem app_any {ops : Array Oper} {rest : List Oper} {o : Oper} {a : Act} {Q : Exit → Act → World → Prop} (hgd : o.guard = none) (s x : Operand) (t : TypeId)
    (ho : o.op = .call { callee := .builtin .append, args := #[s, x], argTypes := #[t, t] })
    (base : Nat) (e : TypeId) (z : Value) (size bytes : Nat) (ht : P.underlying t = some (.slice e)) (hinfo : (P.info? e).map (fun i => (i.zero, i.size, i.bytes)) = some (some z, size, bytes)) (hzs : z.cells.size = size) (hsz : 0 < size)
    (v : Value) (n : Nat) (xs : List Value) (hs : a.eval s = v) (hown : w.ownsRow base e size v n xs)
    (A : Option Addr) (m c : Nat) (news : List Value) (hx : a.eval x = .slice A m c) (hr : Rw w size A m news) (h1 : ∀ u ∈ news, u.oneCell' = true)
    (h63 : n + m ≤ maxLen) (hbytes : (n + m) * bytes ≤ 140737488355328) (hbase : base ≤ w.heap.size)
    (h : ∀ v' w', w'.ownsRow base e size v' (n + m) (xs ++ news) → w.grownBy w' v.ownBlock → (v'.ownBlock = v.ownBlock ∨ v'.ownBlock = some w.heap.size) → wpList P ops Q rest (a.put o.dst v') w') : wpList P ops Q (o :: rest) a w := by
  obtain ⟨i, hi, hz, hsize, hby⟩ := info_parts hinfo
  exact wpList_append_any w hgd s x t ho base e i z size bytes ht hi hz hsize hby hzs hsz v n xs hs hown A m c news hx hr h1 h63 hbytes hbase h
theorem step_append_any {ops : Array Oper} {o : Oper} {a : Act} {K : Act → World → Prop} {Q : Exit → Act → World → Prop} {E : Prop} (hgd : o.guard = none) (s x : Operand) (t : TypeId)
    (ho : o.op = .call { callee := .builtin .append, args := #[s, x], argTypes := #[t, t] })
    (base : Nat) (e : TypeId) (i : TypeInfo) (z : Value) (size bytes : Nat) (ht : P.underlying t = some (.slice e)) (hi : P.info? e = some i) (hz : i.zero = some z)
    (hsize : i.size = size) (hby : i.bytes = bytes) (hzs : z.cells.size = size) (hsz : 0 < size)
    (v : Value) (n : Nat) (xs : List Value) (hs : a.eval s = v) (hown : w.ownsRow base e size v n xs)
    (A : Option Addr) (m c : Nat) (news : List Value) (hx : a.eval x = .slice A m c) (hr : Rw w size A m news) (h1 : ∀ u ∈ news, u.oneCell' = true)
    (h63 : n + m ≤ maxLen) (hbytes : (n + m) * bytes ≤ 140737488355328) (hbase : base ≤ w.heap.size)
    (h : ∀ v' w', w'.ownsRow base e size v' (n + m) (xs ++ news) → w.grownBy w' v.ownBlock → (v'.ownBlock = v.ownBlock ∨ v'.ownBlock = some w.heap.size) → K (a.put o.dst v') w') :
    if Region.wanted o (yielded ops a.tmps) = true then Oper.wp P o a w K Q else E := by
  have hw : Region.wanted o (yielded ops a.tmps) = true := by simp [Region.wanted, hgd]
  rw [if_pos hw]
  exact wp_append_any w s x t ho base e i z size bytes ht hi hz hsize hby hzs hsz v n xs hs hown A m c news hx hr h1 h63 hbytes hbase h
end
theorem own_nil (w : World) (base : Nat) (e : TypeId) (sz : Nat) : w.ownsRow base e sz (.slice none 0 0) 0 [] := ⟨by simp, .inl ⟨rfl, rfl⟩⟩
/-- What a call has appended to is its own: below the base all stands. -/
theorem below_own {B : Nat} {a w w' : World} {v : Value} (h : Below B a w) (hg : w.grownBy w' v.ownBlock) (hB : B ≤ w.heap.size) (hv : ∀ k, v.ownBlock = some k → B ≤ k) : Below B a w' := h.grown hg hB hv
theorem own_base {w : World} {base : Nat} {e : TypeId} {sz n : Nat} {v : Value} {xs : List Value} (h : w.ownsRow base e sz v n xs) : ∀ k, v.ownBlock = some k → base ≤ k := by
  intro k hk
  rcases h.2 with ⟨rfl, _⟩ | ⟨g, cap, cur, rfl, hg, _⟩
  · simp [Value.ownBlock] at hk
  · have : g = k := by simpa [Value.ownBlock] using hk
    omega
theorem run_make_rowN {P : Program} (t e : TypeId) (i : TypeInfo) (z : Value) (ht : P.underlying t = some (.slice e)) (hi : P.info? e = some i) (hz : i.zero = some z)
    (kl kc : IntKind) (n c : Nat) (hnc : n ≤ c) (hbytes : i.bytes * c ≤ 281474976710656) (h63 : c ≤ 9223372036854775807) (w : World) :
    (Instr.makeSlice t (.int kl (n : Int)) (.int kc (c : Int))).run P w = .ok (.slice (some ⟨w.heap.size, 0, none⟩) n c) (w.alloc (.cells (madeCells z.cells (c * i.size)) e)) := by
  have hb : (i.bytes : Int) * (c : Int) ≤ 281474976710656 := by
    have h : ((i.bytes * c : Nat) : Int) ≤ 281474976710656 := by omega
    rwa [Int.natCast_mul] at h
  have hr := run_make (P := P) w t e i z ht hi hz kl kc n c (by omega) (by omega) hb (by omega)
  simp only [Int.toNat_natCast] at hr
  exact hr
theorem run_make_info {P : Program} (t e : TypeId) (z : Value) (size bytes : Nat) (ht : P.underlying t = some (.slice e)) (hinfo : (P.info? e).map (fun i => (i.zero, i.size, i.bytes)) = some (some z, size, bytes))
    (n : Nat) (hbytes : bytes * n ≤ 281474976710656) (h63 : n ≤ 9223372036854775807) (w : World) :
    (Instr.makeSlice t (.int .i64 (n : Int)) (.int .i64 (n : Int))).run P w = .ok (.slice (some ⟨w.heap.size, 0, none⟩) n n) (w.alloc (.cells (madeCells z.cells (n * size)) e)) := by
  obtain ⟨i, hi, hz, rfl, rfl⟩ := info_parts hinfo
  exact run_make_rowN t e i z ht hi hz _ _ n n (Nat.le_refl _) hbytes h63 w
theorem own_lt {w : World} {base n cap g : Nat} {e : TypeId} {sz : Nat} {xs : List Value} (h : w.ownsRow base e sz (.slice (some ⟨g, 0, none⟩) n cap) n xs) (hn : 0 < n) : g < w.heap.size := by
  obtain ⟨g', cap', hv, _, hlt⟩ := h.form hn
  injection hv with hv _ _
  injection hv with hv
  injection hv with hv
  omega
theorem own_below {w w' : World} {base n : Nat} {e : TypeId} {sz : Nat} {v : Value} {xs : List Value} (h : w.ownsRow base e sz v n xs) (hb : Below w.heap.size w w') : w'.ownsRow base e sz v n xs := by
  obtain ⟨h1, h2⟩ := h
  refine ⟨h1, ?_⟩
  rcases h2 with h2 | ⟨g, cap, cur, hv, hg, hh, r⟩
  · exact .inl h2
  · exact .inr ⟨g, cap, cur, hv, hg, Blk.below (t := e) hh hb, r⟩
theorem own_block_lt {w : World} {base n : Nat} {e : TypeId} {sz : Nat} {v : Value} {xs : List Value} (h : w.ownsRow base e sz v n xs) : ∀ k, v.ownBlock = some k → k < w.heap.size := by
  intro k hk
  rcases h.2 with ⟨rfl, _⟩ | ⟨g, cap, cur, rfl, hg, hh, _⟩
  · simp [Value.ownBlock] at hk
  · have : g = k := by simpa [Value.ownBlock] using hk
    subst this
    exact Blk.lt (t := e) hh
end
section
open Go.RowKit
structure Cl where
  a : Nat
  x : Value
  h : Bool
def Cl.vals (c : Cl) : List Value := [.int .i64 (c.a : Int), c.x, .bool c.h]
def clv (cs : List Cl) : List Value := cs.flatMap Cl.vals
theorem clv_nil : clv [] = [] := rfl
theorem clv_cons (c : Cl) (cs : List Cl) : clv (c :: cs) = c.vals ++ clv cs := rfl
theorem clv_append (a b : List Cl) : clv (a ++ b) = clv a ++ clv b := by simp [clv]
theorem clv_length (cs : List Cl) : (clv cs).length = cs.length * 3 := by
  induction cs with
  | nil => rfl
  | cons c cs ih => rw [clv_cons, List.length_append, ih, List.length_cons]; simp [Cl.vals]; omega
theorem clv_get (cs : List Cl) (i : Nat) (c : Cl) (h : cs[i]? = some c) (j : Nat) (hj : j < 3) : (clv cs)[i * 3 + j]? = c.vals[j]? := by
  induction cs generalizing i with
  | nil => simp at h
  | cons d cs ih =>
    rw [clv_cons]
    cases i with
    | zero =>
      simp at h
      subst h
      rw [List.getElem?_append_left (by simp [Cl.vals]; omega)]
      simp
    | succ i =>
      rw [List.getElem?_append_right (by simp [Cl.vals]; omega)]
      rw [show (i + 1) * 3 + j - d.vals.length = i * 3 + j by simp [Cl.vals]; omega]
      exact ih i (by simpa using h)
theorem Rw.cl {w : World} {A : Option Addr} {n i : Nat} {cs : List Cl} (h : Rw w 3 A n (clv cs)) (hi : i < n) :
    ∃ b o c, A = some ⟨b, o, none⟩ ∧ b < w.heap.size ∧ cs[i]? = some c ∧ w.cell? ⟨b, o + i * 3, none⟩ = some (.int .i64 (c.a : Int)) ∧ w.cell? ⟨b, o + i * 3 + 1, none⟩ = some c.x ∧ w.cell? ⟨b, o + i * 3 + 2, none⟩ = some (.bool c.h) := by
  have hl := h.1
  rw [clv_length] at hl
  obtain ⟨b, o, hA, hb, hc⟩ := h.2 (by omega)
  have hi' : i < cs.length := by omega
  have hg := List.getElem?_eq_getElem hi'
  refine ⟨b, o, cs[i], hA, hb, hg, ?_, ?_, ?_⟩
  · exact hc (i * 3) _ (by simpa [Cl.vals] using clv_get cs i _ hg 0 (by omega))
  · rw [Nat.add_assoc]; exact hc (i * 3 + 1) _ (by simpa [Cl.vals] using clv_get cs i _ hg 1 (by omega))
  · rw [Nat.add_assoc]; exact hc (i * 3 + 2) _ (by simpa [Cl.vals] using clv_get cs i _ hg 2 (by omega))
/-- Rising addresses. -/
def Rising (cs : List Cl) : Prop := ∀ (i j : Nat) (c d : Cl), cs[i]? = some c → cs[j]? = some d → i < j → c.a < d.a
/-- Where an address stands, or would: and is it there? -/
def Found (cs : List Cl) (addr : Int) (at_ : Nat) (ok : Bool) : Prop :=
  at_ ≤ cs.length ∧ (∀ (i : Nat) (c : Cl), cs[i]? = some c → i < at_ → (c.a : Int) < addr) ∧ (∀ (i : Nat) (c : Cl), cs[i]? = some c → at_ ≤ i → addr ≤ (c.a : Int)) ∧ ok = (match cs[at_]? with | some c => decide ((c.a : Int) = addr) && c.h | none => false)
theorem found_end {cs : List Cl} {addr : Int} {lo : Nat} (h : lo ≤ cs.length) (hl : ∀ (i : Nat) (c : Cl), cs[i]? = some c → i < lo → (c.a : Int) < addr) (hh : ∀ (i : Nat) (c : Cl), cs[i]? = some c → lo ≤ i → addr < (c.a : Int)) : Found cs addr lo false := by
  refine ⟨h, hl, fun i c hi hle => Int.le_of_lt (hh i c hi hle), ?_⟩
  cases hc : cs[lo]? with
  | none => rfl
  | some c =>
    have := hh lo c hc (Nat.le_refl _)
    have hne : ¬ (c.a : Int) = addr := by omega
    simp [hne]
theorem found_eq {cs : List Cl} {addr : Int} {m : Nat} {d : Cl} (hS : Rising cs) (hd : cs[m]? = some d) (e : (d.a : Int) = addr) : Found cs addr m d.h := by
  refine ⟨Nat.le_of_lt (List.getElem?_eq_some_iff.1 hd).1, fun i c hi hlt => ?_, fun i c hi hle => ?_, ?_⟩
  · have := hS i m c d hi hd hlt; omega
  · rcases Nat.lt_or_ge m i with h | h
    · have := hS m i d c hd hi h; omega
    · have : i = m := by omega
      subst this
      rw [hd] at hi
      injection hi with hi
      subst hi
      omega
  · rw [hd]; simp [e]
theorem below_step {cs : List Cl} {addr : Int} {m : Nat} {d : Cl} (hS : Rising cs) (hd : cs[m]? = some d) (e : (d.a : Int) < addr) : ∀ (i : Nat) (c : Cl), cs[i]? = some c → i < m + 1 → (c.a : Int) < addr := by
  intro i c hi hlt
  rcases Nat.lt_or_ge i m with h | h
  · have := hS i m c d hi hd h; omega
  · have : i = m := by omega
    subst this
    rw [hd] at hi
    injection hi with hi
    subst hi
    exact e
theorem above_step {cs : List Cl} {addr : Int} {m : Nat} {d : Cl} (hS : Rising cs) (hd : cs[m]? = some d) (e : addr < (d.a : Int)) : ∀ (i : Nat) (c : Cl), cs[i]? = some c → m ≤ i → addr < (c.a : Int) := by
  intro i c hi hle
  rcases Nat.lt_or_ge m i with h | h
  · have := hS m i d c hd hi h; omega
  · have : i = m := by omega
    subst this
    rw [hd] at hi
    injection hi with hi
    subst hi
    exact e
def live (cs : List Cl) : List Cl := cs.filter (·.h)
theorem live_take (cs : List Cl) (k : Nat) (c : Cl) (h : cs[k]? = some c) : live (cs.take (k + 1)) = live (cs.take k) ++ (if c.h then [c] else []) := by
  obtain ⟨hk, rfl⟩ := List.getElem?_eq_some_iff.1 h
  rw [List.take_succ_eq_append_getElem hk]
  unfold live
  rw [List.filter_append]
  cases hh : cs[k].h <;> simp [hh]
theorem live_len (cs : List Cl) (k : Nat) : (live (cs.take k)).length ≤ cs.length := Nat.le_trans (List.length_filter_le _ _) (by simp; omega)
theorem vals_one (c : Cl) (h : c.x.oneCell' = true) : ∀ u ∈ c.vals, u.oneCell' = true := by
  intro u hu
  simp only [Cl.vals, List.mem_cons, List.not_mem_nil, or_false] at hu
  rcases hu with rfl | rfl | rfl
  · rfl
  · exact h
  · rfl
/-! ### Things: addresses, rising, and what is there -/
abbrev Th := List (Nat × Value)
def mkC (L : Th) : List Cl := L.map fun t => ⟨t.1, t.2, true⟩
def denseB (k n : Nat) : Bool := decide (k ≤ 6 ∧ 2 ^ k < 2 * n)
def cellAt (z : Value) (L : Th) (i : Nat) : Cl := match L.find? (fun t => t.1 == i) with | some t => ⟨i, t.2, true⟩ | none => ⟨i, z, false⟩
def cellsOf (z : Value) (k : Nat) (L : Th) : List Cl := if denseB k L.length then (List.range (2 ^ k)).map (cellAt z L) else mkC L
/-- Addresses rising, below 2^k. -/
def OkTh (k : Nat) (L : Th) : Prop := L.Pairwise (fun s t => s.1 < t.1) ∧ ∀ t ∈ L, t.1 < 2 ^ k
theorem mkC_length (L : Th) : (mkC L).length = L.length := by simp [mkC]
theorem mkC_get (L : Th) (i : Nat) : (mkC L)[i]? = (L[i]?).map fun t => ⟨t.1, t.2, true⟩ := by simp [mkC]
theorem mkC_rising {k : Nat} {L : Th} (h : OkTh k L) : Rising (mkC L) := by
  intro i j c d hi hj hlt
  rw [mkC_get] at hi hj
  obtain ⟨s, hs, rfl⟩ := Option.map_eq_some_iff.1 hi
  obtain ⟨t, ht, rfl⟩ := Option.map_eq_some_iff.1 hj
  obtain ⟨hi', rfl⟩ := List.getElem?_eq_some_iff.1 hs
  obtain ⟨hj', rfl⟩ := List.getElem?_eq_some_iff.1 ht
  exact List.pairwise_iff_getElem.1 h.1 i j hi' hj' hlt
theorem cellAt_a (z : Value) (L : Th) (i : Nat) : (cellAt z L i).a = i := by unfold cellAt; split <;> rfl
theorem cellsOf_rising {z : Value} {k : Nat} {L : Th} (h : OkTh k L) : Rising (cellsOf z k L) := by
  unfold cellsOf
  split
  · intro i j c d hi hj hlt
    rw [List.getElem?_map] at hi hj
    obtain ⟨s, hs, rfl⟩ := Option.map_eq_some_iff.1 hi
    obtain ⟨t, ht, rfl⟩ := Option.map_eq_some_iff.1 hj
    obtain ⟨hi', rfl⟩ := List.getElem?_eq_some_iff.1 hs
    obtain ⟨hj', rfl⟩ := List.getElem?_eq_some_iff.1 ht
    simp [cellAt_a]
    exact hlt
  · exact mkC_rising h
theorem live_mkC (L : Th) : live (mkC L) = mkC L := by
  unfold live mkC
  rw [List.filter_map]
  congr 1
  exact List.filter_eq_self.2 (fun _ _ => rfl)
theorem len_le_aux (m : Nat) : ∀ (L : Th) (a : Nat), a ≤ m → (∀ t ∈ L, a ≤ t.1) → L.Pairwise (fun s t => s.1 < t.1) → (∀ t ∈ L, t.1 < m) → a + L.length ≤ m
  | [], a, h, _, _, _ => by simpa using h
  | s :: L, a, _, ha, hp, hm => by
    have h1 := ha s (by simp)
    have h2 := hm s (by simp)
    have hs := (List.pairwise_cons.1 hp).1
    have := len_le_aux m L (s.1 + 1) (by omega) (fun t ht => by have := hs t ht; omega) (List.pairwise_cons.1 hp).2 (fun t ht => hm t (by simp [ht]))
    simp
    omega
theorem len_le_of_ok {k : Nat} {L : Th} (h : OkTh k L) : L.length ≤ 2 ^ k := by
  have := len_le_aux (2 ^ k) L 0 (Nat.zero_le _) (fun _ _ => Nat.zero_le _) h.1 h.2
  omega
theorem pow16 {k : Nat} (h : k ≤ 16) : 2 ^ k ≤ 65536 := pow_len_le h
theorem find_none_of {k : Nat} {L : Th} {i : Nat} (h : ∀ t ∈ L, t.1 ≠ i) : L.find? (fun t => t.1 == i) = none := by
  rw [List.find?_eq_none]
  intro t ht
  simp [h t ht]
/-- The cells that have a thing are the things. -/
theorem live_range (z : Value) : ∀ (m : Nat) (L : Th), L.Pairwise (fun s t => s.1 < t.1) → live ((List.range m).map (cellAt z L)) = mkC (L.filter (fun t => decide (t.1 < m)))
  | 0, L, _ => by simp [live, mkC]
  | m + 1, L, h => by
    rw [List.range_succ, List.map_append, List.map_singleton]
    have ih := live_range z m L h
    unfold live at ih ⊢
    rw [List.filter_append, ih]
    unfold mkC
    have key : L.filter (fun t => decide (t.1 < m + 1)) = L.filter (fun t => decide (t.1 < m)) ++ L.filter (fun t => t.1 == m) := by
      clear ih
      induction L with
      | nil => rfl
      | cons s L ihL =>
        have hL := (List.pairwise_cons.1 h).2
        have hs := (List.pairwise_cons.1 h).1
        rcases Nat.lt_trichotomy s.1 m with h1 | h1 | h1
        · have e1 : decide (s.1 < m + 1) = true := by simp; omega
          have e2 : decide (s.1 < m) = true := by simp; omega
          have e3 : (s.1 == m) = false := by simp; omega
          simp [List.filter_cons, e1, e2, e3, ihL hL]
        · have e1 : decide (s.1 < m + 1) = true := by simp; omega
          have e2 : decide (s.1 < m) = false := by simp; omega
          have e3 : (s.1 == m) = true := by simp; omega
          have n1 : L.filter (fun t => decide (t.1 < m + 1)) = [] := List.filter_eq_nil_iff.2 (fun t ht => by have := hs t ht; simp; omega)
          have n2 : L.filter (fun t => decide (t.1 < m)) = [] := List.filter_eq_nil_iff.2 (fun t ht => by have := hs t ht; simp; omega)
          have n3 : L.filter (fun t => t.1 == m) = [] := List.filter_eq_nil_iff.2 (fun t ht => by have := hs t ht; simp; omega)
          rw [List.filter_cons, List.filter_cons, List.filter_cons, n1, n2, n3]
          simp [e1, e2, e3]
        · have n1 : (s :: L).filter (fun t => decide (t.1 < m + 1)) = [] := List.filter_eq_nil_iff.2 (fun t ht => by
            rcases List.mem_cons.1 ht with rfl | ht
            · simp; omega
            · have := hs t ht; simp; omega)
          have n2 : (s :: L).filter (fun t => decide (t.1 < m)) = [] := List.filter_eq_nil_iff.2 (fun t ht => by
            rcases List.mem_cons.1 ht with rfl | ht
            · simp; omega
            · have := hs t ht; simp; omega)
          have n3 : (s :: L).filter (fun t => t.1 == m) = [] := List.filter_eq_nil_iff.2 (fun t ht => by
            rcases List.mem_cons.1 ht with rfl | ht
            · simp; omega
            · have := hs t ht; simp; omega)
          rw [n1, n2, n3]; rfl
    rw [key, List.map_append]
    congr 1
    cases hf : L.find? (fun t => t.1 == m) with
    | none =>
      have hn : L.filter (fun t => t.1 == m) = [] := List.filter_eq_nil_iff.2 (fun t ht => List.find?_eq_none.1 hf t ht)
      simp [cellAt, hf, hn]
    | some t =>
      have ht := List.find?_some hf
      have hm := List.mem_of_find?_eq_some hf
      simp at ht
      have hn : L.filter (fun t => t.1 == m) = [t] := by
        clear ih key
        induction L with
        | nil => simp at hf
        | cons s L ihL =>
          have hL := (List.pairwise_cons.1 h).2
          have hs := (List.pairwise_cons.1 h).1
          by_cases e : (s.1 == m) = true
          · rw [List.find?_cons, e] at hf
            injection hf with hf
            subst hf
            rw [List.filter_cons, if_pos e]
            have : L.filter (fun t => t.1 == m) = [] := List.filter_eq_nil_iff.2 (fun u hu => by have := hs u hu; simp; omega)
            rw [this]
          · rw [List.find?_cons, show (s.1 == m) = false by simpa using e] at hf
            rw [List.filter_cons, if_neg e]
            exact ihL hL hf (List.mem_of_find?_eq_some hf)
      simp [cellAt, hf, hn, ht]
theorem live_cellsOf (z : Value) {k : Nat} {L : Th} (h : OkTh k L) : live (cellsOf z k L) = mkC L := by
  unfold cellsOf
  split
  · rw [live_range z _ L h.1]
    congr 1
    exact List.filter_eq_self.2 (fun t ht => by simpa using h.2 t ht)
  · exact live_mkC L
/-! ### Dense slots as they are made -/
theorem clv_set (cs : List Cl) (i : Nat) (c : Cl) (hi : i < cs.length) : (((clv cs).set (i * 3) (.int .i64 (c.a : Int))).set (i * 3 + 1) c.x).set (i * 3 + 2) (.bool c.h) = clv (cs.set i c) := by
  induction cs generalizing i with
  | nil => simp at hi
  | cons d cs ih =>
    cases i with
    | zero => simp [clv_cons, Cl.vals]
    | succ i =>
      have := ih i (by simpa using hi)
      rw [clv_cons, List.set_cons_succ, clv_cons, ← this]
      have h3 : d.vals.length = 3 := rfl
      rw [show (i + 1) * 3 = 3 + i * 3 by omega]
      rw [List.set_append_right _ _ (by omega), List.set_append_right _ _ (by omega), List.set_append_right _ _ (by omega)]
      rw [h3, show 3 + i * 3 - 3 = i * 3 by omega, show 3 + i * 3 + 1 - 3 = i * 3 + 1 by omega, show 3 + i * 3 + 2 - 3 = i * 3 + 2 by omega]
/-- The row whose first j addresses are laid. -/
def laidTo (z : Value) (m j : Nat) : List Cl := (List.range m).map fun i => if i < j then ⟨i, z, false⟩ else ⟨0, z, false⟩
theorem laidTo_zero (z : Value) (m : Nat) : laidTo z m 0 = List.replicate m ⟨0, z, false⟩ := by
  apply List.ext_getElem?
  intro i
  simp only [laidTo, List.getElem?_map, List.getElem?_replicate]
  by_cases h : i < m <;> simp [h]
theorem laidTo_succ (z : Value) (m j : Nat) (h : j < m) : (laidTo z m j).set j ⟨j, z, false⟩ = laidTo z m (j + 1) := by
  apply List.ext_getElem?
  intro i
  simp only [laidTo, List.getElem?_set, List.getElem?_map, List.length_map, List.length_range]
  by_cases hi : i < m
  · by_cases e : j = i
    · subst e; simp [h]
    · have : (i < j) = (i < j + 1) := by apply propext; omega
      simp [e, hi, this]
  · by_cases e : j = i
    · omega
    · simp [e, hi]
theorem laidTo_all (z : Value) (m : Nat) : laidTo z m m = (List.range m).map (cellAt z []) := by
  unfold laidTo
  apply List.map_congr_left
  intro i hi
  simp [cellAt, List.mem_range.1 hi]
/-- One thing more is laid. -/
theorem dense_step (z : Value) (m : Nat) (L : Th) (k : Nat) (t : Nat × Value) (hp : L.Pairwise (fun s t => s.1 < t.1)) (ht : L[k]? = some t) (hm : t.1 < m) :
    ((List.range m).map (cellAt z (L.take k))).set t.1 ⟨t.1, t.2, true⟩ = (List.range m).map (cellAt z (L.take (k + 1))) := by
  have ht2 : L.take (k + 1) = L.take k ++ [t] := by
    obtain ⟨hk, rfl⟩ := List.getElem?_eq_some_iff.1 ht
    exact List.take_succ_eq_append_getElem hk
  have hlt : ∀ u ∈ L.take k, u.1 ≠ t.1 := by
    intro u hu
    obtain ⟨hk, rfl⟩ := List.getElem?_eq_some_iff.1 ht
    obtain ⟨j, hj, rfl⟩ := List.getElem_of_mem hu
    rw [List.getElem_take]
    rw [List.length_take] at hj
    have := List.pairwise_iff_getElem.1 hp j k (by omega) hk (by omega)
    omega
  have hn := find_none_of (k := 0) hlt
  rw [ht2]
  generalize L.take k = T at *
  apply List.ext_getElem?
  intro i
  simp only [List.getElem?_set, List.getElem?_map, List.length_map, List.length_range]
  by_cases hi : i < m
  · by_cases e : t.1 = i
    · subst e
      simp [hm, cellAt, List.find?_append, hn]
    · have e' : (t.1 == i) = false := by simpa using e
      simp [e, hi, cellAt, List.find?_append, List.find?_cons, e']
  · by_cases e : t.1 = i
    · omega
    · simp [e, hi]
theorem clv_rep_get (z : Value) (m j : Nat) (h : j < m * 3) : (clv (List.replicate m ⟨0, z, false⟩))[j]? = #[Value.int .i64 0, z, .bool false][j % 3]? := by
  have hd : j = j / 3 * 3 + j % 3 := by omega
  have hm : j % 3 < 3 := Nat.mod_lt _ (by omega)
  have hi : (List.replicate m (⟨0, z, false⟩ : Cl))[j / 3]? = some ⟨0, z, false⟩ := by rw [List.getElem?_replicate]; simp; omega
  have := clv_get _ _ _ hi (j % 3) hm
  rw [← hd] at this
  rw [this]
  simp [Cl.vals]
theorem made_clv (z : Value) (m : Nat) : (madeCells #[.int .i64 0, z, .bool false] (m * 3)).toList = clv (laidTo z m 0) := by
  rw [laidTo_zero]
  apply List.ext_getElem?
  intro j
  by_cases h : j < m * 3
  · rw [clv_rep_get z m j h]
    have hm : j % 3 < 3 := Nat.mod_lt _ (by omega)
    simp [madeCells, h, hm]
  · rw [List.getElem?_eq_none (by simp [size_madeCells]; omega), List.getElem?_eq_none (by rw [clv_length]; simp; omega)]
theorem made_own (w : World) (e : TypeId) (z : Value) (m : Nat) (hm : m ≤ 65536) : (w.alloc (.cells (madeCells #[.int .i64 0, z, .bool false] (m * 3)) e)).ownsRow w.heap.size e 3 (.slice (some ⟨w.heap.size, 0, none⟩) m m) m (clv (laidTo z m 0)) := by
  refine ⟨by rw [clv_length]; simp [laidTo], .inr ⟨w.heap.size, m, _, rfl, Nat.le_refl _, heap_alloc_new w _, Nat.le_refl _, by simp only [maxLen]; omega, by simp [size_madeCells], ?_⟩⟩
  rw [made_clv]
  apply List.take_of_length_le
  rw [clv_length]
  simp [laidTo]
theorem clv_set_a (cs : List Cl) (i a : Nat) (c : Cl) (h : cs[i]? = some c) : (clv cs).set (i * 3) (.int .i64 (a : Int)) = clv (cs.set i ⟨a, c.x, c.h⟩) := by
  induction cs generalizing i with
  | nil => simp at h
  | cons d cs ih =>
    cases i with
    | zero =>
      simp at h
      subst h
      simp [clv_cons, Cl.vals]
    | succ i =>
      have := ih i (by simpa using h)
      rw [clv_cons, List.set_cons_succ, clv_cons, ← this]
      have h3 : d.vals.length = 3 := rfl
      rw [show (i + 1) * 3 = 3 + i * 3 by omega, List.set_append_right _ _ (by omega), h3, show 3 + i * 3 - 3 = i * 3 by omega]
theorem laid_store (z : Value) (m j : Nat) (h : j < m) : (clv (laidTo z m j)).set (j * 3) (.int .i64 (j : Int)) = clv (laidTo z m (j + 1)) := by
  rw [clv_set_a (laidTo z m j) j j ⟨0, z, false⟩ (by simp [laidTo, h]), laidTo_succ z m j h]
theorem own_store3 {w : World} {base n cap g i : Nat} {e : TypeId} {cs : List Cl} (h : w.ownsRow base e 3 (.slice (some ⟨g, 0, none⟩) n cap) n (clv cs)) (c : Cl) (hi : i < n) :
    (((w.setCell ⟨g, i * 3, none⟩ (.int .i64 (c.a : Int))).setCell ⟨g, i * 3 + 1, none⟩ c.x).setCell ⟨g, i * 3 + 2, none⟩ (.bool c.h)).ownsRow base e 3 (.slice (some ⟨g, 0, none⟩) n cap) n (clv (cs.set i c)) := by
  have hl := h.1
  rw [clv_length] at hl
  rw [← clv_set cs i c (by omega)]
  exact (((h.stored (i * 3) _).1.stored (i * 3 + 1) _).1.stored (i * 3 + 2) _).1
theorem own_cells {w : World} {base n cap g i : Nat} {e : TypeId} {cs : List Cl} (h : w.ownsRow base e 3 (.slice (some ⟨g, 0, none⟩) n cap) n (clv cs)) (hi : i < n) :
    ∃ c, cs[i]? = some c ∧ w.cell? ⟨g, i * 3, none⟩ = some (.int .i64 (c.a : Int)) ∧ w.cell? ⟨g, i * 3 + 1, none⟩ = some c.x ∧ w.cell? ⟨g, i * 3 + 2, none⟩ = some (.bool c.h) ∧
      w.frozen? ⟨g, i * 3, none⟩ = false ∧ w.frozen? ⟨g, i * 3 + 1, none⟩ = false ∧ w.frozen? ⟨g, i * 3 + 2, none⟩ = false := by
  have hl := h.1
  rw [clv_length] at hl
  have hi' : i < cs.length := by omega
  have hg := List.getElem?_eq_getElem hi'
  refine ⟨cs[i], hg, ?_, ?_, ?_, h.frozenAt _, h.frozenAt _, h.frozenAt _⟩
  · exact (h.cellAt (i * 3) (by omega)).trans (by simpa [Cl.vals] using clv_get cs i _ hg 0 (by omega))
  · exact (h.cellAt (i * 3 + 1) (by omega)).trans (by simpa [Cl.vals] using clv_get cs i _ hg 1 (by omega))
  · exact (h.cellAt (i * 3 + 2) (by omega)).trans (by simpa [Cl.vals] using clv_get cs i _ hg 2 (by omega))
/-! ### What is asked of things -/
def getTh (L : Th) (addr : Int) : Option Value := (L.find? (fun t => decide ((t.1 : Int) = addr))).map (·.2)
def fromTh (L : Th) (addr : Int) : Option (Nat × Value) := (L.filter (fun t => decide (addr ≤ (t.1 : Int)))).head?
theorem th_of_live {cs : List Cl} {L : Th} (h : live cs = mkC L) : L = (live cs).map fun c => (c.a, c.x) := by
  rw [h]
  unfold mkC
  rw [List.map_map]
  exact (List.map_id'' (fun t => rfl) L).symm
theorem mem_th {cs : List Cl} {L : Th} (h : live cs = mkC L) {i : Nat} {c : Cl} (hc : cs[i]? = some c) (hh : c.h = true) : (c.a, c.x) ∈ L := by
  rw [th_of_live h]
  exact List.mem_map.2 ⟨c, List.mem_filter.2 ⟨List.mem_of_getElem? hc, hh⟩, rfl⟩
theorem of_mem_th {cs : List Cl} {L : Th} (h : live cs = mkC L) {t : Nat × Value} (ht : t ∈ L) : ∃ (i : Nat) (c : Cl), cs[i]? = some c ∧ c.h = true ∧ c.a = t.1 ∧ c.x = t.2 := by
  rw [th_of_live h] at ht
  obtain ⟨c, hc, rfl⟩ := List.mem_map.1 ht
  obtain ⟨h1, h2⟩ := List.mem_filter.1 hc
  obtain ⟨i, hi, rfl⟩ := List.getElem_of_mem h1
  exact ⟨i, cs[i], List.getElem?_eq_getElem hi, h2, rfl, rfl⟩
theorem th_unique {k : Nat} {L : Th} (h : OkTh k L) {s t : Nat × Value} (hs : s ∈ L) (ht : t ∈ L) (e : s.1 = t.1) : s = t := by
  obtain ⟨i, hi, rfl⟩ := List.getElem_of_mem hs
  obtain ⟨j, hj, rfl⟩ := List.getElem_of_mem ht
  rcases Nat.lt_trichotomy i j with hlt | rfl | hlt
  · have := List.pairwise_iff_getElem.1 h.1 i j hi hj hlt; omega
  · rfl
  · have := List.pairwise_iff_getElem.1 h.1 j i hj hi hlt; omega
theorem getTh_some {k : Nat} {L : Th} (h : OkTh k L) {t : Nat × Value} (ht : t ∈ L) : getTh L (t.1 : Int) = some t.2 := by
  unfold getTh
  cases hf : L.find? (fun s => decide ((s.1 : Int) = (t.1 : Int))) with
  | none =>
    have := List.find?_eq_none.1 hf t ht
    simp at this
  | some s =>
    have h1 := List.find?_some hf
    have h2 := List.mem_of_find?_eq_some hf
    simp at h1
    rw [th_unique h h2 ht (by omega)]
    rfl
theorem getTh_none {L : Th} {addr : Int} (h : ∀ t ∈ L, (t.1 : Int) ≠ addr) : getTh L addr = none := by
  unfold getTh
  rw [Option.map_eq_none_iff, List.find?_eq_none]
  intro t ht
  simp [h t ht]
theorem found_some {k : Nat} {cs : List Cl} {L : Th} {addr : Int} {at_ : Nat} (hF : Found cs addr at_ true) (hO : OkTh k L) (h : live cs = mkC L) : ∃ c, cs[at_]? = some c ∧ c.h = true ∧ (c.a : Int) = addr ∧ getTh L addr = some c.x := by
  have h4 := hF.2.2.2
  split at h4
  · rename_i c hc
    simp at h4
    refine ⟨c, hc, h4.2, h4.1, ?_⟩
    rw [← h4.1]
    exact getTh_some hO (mem_th h hc h4.2)
  · cases h4
theorem found_none {cs : List Cl} {L : Th} {addr : Int} {at_ : Nat} (hF : Found cs addr at_ false) (hS : Rising cs) (h : live cs = mkC L) : getTh L addr = none := by
  apply getTh_none
  intro t ht e
  obtain ⟨i, c, hc, hh, ha, _⟩ := of_mem_th h ht
  obtain ⟨_, h2, h3, h4⟩ := hF
  rcases Nat.lt_trichotomy i at_ with hlt | rfl | hlt
  · have := h2 i c hc hlt; omega
  · rw [hc] at h4
    simp [hh] at h4
    omega
  · have hlen : at_ < cs.length := by have := (List.getElem?_eq_some_iff.1 hc).1; omega
    have hd := List.getElem?_eq_getElem hlen
    have h5 := hS at_ i _ c hd hc hlt
    have h6 := h3 at_ _ hd (Nat.le_refl _)
    omega
theorem live_split (cs : List Cl) (j : Nat) (c : Cl) (h : cs[j]? = some c) (hh : c.h = true) : live cs = live (cs.take j) ++ c :: live (cs.drop (j + 1)) := by
  obtain ⟨hj, rfl⟩ := List.getElem?_eq_some_iff.1 h
  conv => lhs; rw [← List.take_append_drop j cs, List.drop_eq_getElem_cons hj]
  unfold live
  rw [List.filter_append, List.filter_cons, if_pos hh]
theorem from_at {cs : List Cl} {L : Th} {addr : Int} {j : Nat} {c : Cl} (h : live cs = mkC L) (hc : cs[j]? = some c) (hh : c.h = true) (hl : ∀ (i : Nat) (d : Cl), cs[i]? = some d → i < j → d.h = true → (d.a : Int) < addr) (hge : addr ≤ (c.a : Int)) : fromTh L addr = some (c.a, c.x) := by
  unfold fromTh
  rw [th_of_live h, live_split cs j c hc hh, List.map_append, List.filter_append]
  have : (List.map (fun c : Cl => (c.a, c.x)) (live (cs.take j))).filter (fun t => decide (addr ≤ (t.1 : Int))) = [] := by
    rw [List.filter_eq_nil_iff]
    intro t ht
    obtain ⟨d, hd, rfl⟩ := List.mem_map.1 ht
    obtain ⟨h1, h2⟩ := List.mem_filter.1 hd
    obtain ⟨i, hi, rfl⟩ := List.getElem_of_mem h1
    rw [List.length_take] at hi
    have := hl i cs[i] (List.getElem?_eq_getElem (by omega)) (by omega) (by simpa using h2)
    simp
    omega
  rw [this]
  simp [hge]
theorem from_none {cs : List Cl} {L : Th} {addr : Int} (h : live cs = mkC L) (hl : ∀ (i : Nat) (d : Cl), cs[i]? = some d → d.h = true → (d.a : Int) < addr) : fromTh L addr = none := by
  unfold fromTh
  rw [List.head?_eq_none_iff, List.filter_eq_nil_iff]
  intro t ht
  obtain ⟨i, c, hc, hh, ha, _⟩ := of_mem_th h ht
  have := hl i c hc hh
  simp
  omega
/-- The code of an address: 0, or Arg. -/
def chk (k : Nat) (addr : Int) : Int := if 0 ≤ addr ∧ addr < ((2 ^ k : Nat) : Int) then 0 else 3
theorem found_above {cs : List Cl} {addr : Int} {at_ : Nat} (hF : Found cs addr at_ false) (hS : Rising cs) : ∀ (i : Nat) (d : Cl), cs[i]? = some d → at_ ≤ i → d.h = true → addr < (d.a : Int) := by
  intro i c hc hle hh
  obtain ⟨_, h2, h3, h4⟩ := hF
  have h5 := h3 i c hc hle
  rcases Nat.lt_or_ge at_ i with hlt | hge
  · have hlen : at_ < cs.length := by have := (List.getElem?_eq_some_iff.1 hc).1; omega
    have hd := List.getElem?_eq_getElem hlen
    have h6 := hS at_ i _ c hd hc hlt
    have h7 := h3 at_ _ hd (Nat.le_refl _)
    omega
  · have : i = at_ := by omega
    subst this
    rw [hc] at h4
    simp [hh] at h4
    omega
theorem found_above1 {k : Nat} {cs : List Cl} {L : Th} {addr : Int} {at_ : Nat} (hF : Found cs addr at_ true) (hO : OkTh k L) (h : live cs = mkC L) (hS : Rising cs) :
    at_ < cs.length ∧ (∀ (i : Nat) (d : Cl), cs[i]? = some d → at_ + 1 ≤ i → d.h = true → addr < (d.a : Int)) ∧ (∀ (i : Nat) (d : Cl), cs[i]? = some d → i < at_ + 1 → (d.a : Int) ≤ addr) := by
  obtain ⟨c, hc, hh, ha, _⟩ := found_some hF hO h
  refine ⟨(List.getElem?_eq_some_iff.1 hc).1, fun i d hd hi _ => ?_, fun i d hd hi => ?_⟩
  · have := hS at_ i c d hc hd (by omega); omega
  · rcases Nat.lt_or_ge i at_ with h1 | h1
    · have := hF.2.1 i d hd h1; omega
    · have : i = at_ := by omega
      subst this
      rw [hc] at hd
      injection hd with hd
      subst hd
      omega
/-! ### One thing more, one thing less -/
def insTh (L : Th) (a : Nat) (x : Value) : Th := L.filter (fun t => decide (t.1 < a)) ++ [(a, x)] ++ L.filter (fun t => decide (a < t.1))
def delTh (L : Th) (a : Nat) : Th := L.filter (fun t => decide (t.1 ≠ a))
theorem filter_take {α : Type} (p : α → Bool) (L : List α) (n : Nat) (h1 : ∀ t ∈ L.take n, p t = true) (h2 : ∀ t ∈ L.drop n, p t = false) : L.filter p = L.take n := by
  conv => lhs; rw [← List.take_append_drop n L]
  rw [List.filter_append, List.filter_eq_self.2 h1, List.filter_eq_nil_iff.2 (fun t ht => by simp [h2 t ht]), List.append_nil]
theorem filter_drop {α : Type} (p : α → Bool) (L : List α) (n : Nat) (h1 : ∀ t ∈ L.take n, p t = false) (h2 : ∀ t ∈ L.drop n, p t = true) : L.filter p = L.drop n := by
  conv => lhs; rw [← List.take_append_drop n L]
  rw [List.filter_append, List.filter_eq_self.2 h2, List.filter_eq_nil_iff.2 (fun t ht => by simp [h1 t ht]), List.nil_append]
theorem mem_take_idx {α : Type} {L : List α} {n : Nat} {t : α} (h : t ∈ L.take n) : ∃ i, i < n ∧ L[i]? = some t := by
  obtain ⟨i, hi, rfl⟩ := List.getElem_of_mem h
  rw [List.length_take] at hi
  exact ⟨i, by omega, by rw [List.getElem_take]; exact List.getElem?_eq_getElem (by omega)⟩
theorem mem_drop_idx {α : Type} {L : List α} {n : Nat} {t : α} (h : t ∈ L.drop n) : ∃ i, n ≤ i ∧ L[i]? = some t := by
  obtain ⟨i, hi, rfl⟩ := List.getElem_of_mem h
  rw [List.length_drop] at hi
  exact ⟨n + i, by omega, by rw [List.getElem_drop]; exact List.getElem?_eq_getElem (by omega)⟩
theorem mkC_idx {L : Th} {i : Nat} {t : Nat × Value} (h : L[i]? = some t) : (mkC L)[i]? = some ⟨t.1, t.2, true⟩ := by rw [mkC_get, h]; rfl
theorem mkC_append (a b : Th) : mkC (a ++ b) = mkC a ++ mkC b := by simp [mkC]
theorem ins_new {L : Th} {a at_ : Nat} (x : Value) {k : Nat} (hO : OkTh k L) (hF : Found (mkC L) (a : Int) at_ false) : (mkC L).take at_ ++ [⟨a, x, true⟩] ++ (mkC L).drop at_ = mkC (insTh L a x) := by
  have hab := found_above hF (mkC_rising hO)
  have e1 : L.filter (fun t => decide (t.1 < a)) = L.take at_ := filter_take _ _ _
    (fun t ht => by obtain ⟨i, hi, h⟩ := mem_take_idx ht; have := hF.2.1 i _ (mkC_idx h) hi; simp at this ⊢; omega)
    (fun t ht => by obtain ⟨i, hi, h⟩ := mem_drop_idx ht; have := hab i _ (mkC_idx h) hi rfl; simp at this ⊢; omega)
  have e2 : L.filter (fun t => decide (a < t.1)) = L.drop at_ := filter_drop _ _ _
    (fun t ht => by obtain ⟨i, hi, h⟩ := mem_take_idx ht; have := hF.2.1 i _ (mkC_idx h) hi; simp at this ⊢; omega)
    (fun t ht => by obtain ⟨i, hi, h⟩ := mem_drop_idx ht; have := hab i _ (mkC_idx h) hi rfl; simp at this ⊢; omega)
  unfold insTh
  rw [e1, e2, mkC_append, mkC_append]
  unfold mkC
  rw [List.map_take, List.map_drop]
  rfl
theorem ins_old {L : Th} {a at_ : Nat} (x : Value) {k : Nat} (hO : OkTh k L) (hF : Found (mkC L) (a : Int) at_ true) : at_ < L.length ∧ (mkC L).set at_ ⟨a, x, true⟩ = mkC (insTh L a x) := by
  obtain ⟨hlt, hab, hbe⟩ := found_above1 hF hO (live_mkC L) (mkC_rising hO)
  rw [mkC_length] at hlt
  refine ⟨hlt, ?_⟩
  have e1 : L.filter (fun t => decide (t.1 < a)) = L.take at_ := filter_take _ _ _
    (fun t ht => by obtain ⟨i, hi, h⟩ := mem_take_idx ht; have := hF.2.1 i _ (mkC_idx h) hi; simp at this ⊢; omega)
    (fun t ht => by obtain ⟨i, hi, h⟩ := mem_drop_idx ht; have := hF.2.2.1 i _ (mkC_idx h) hi; simp at this ⊢; omega)
  have e2 : L.filter (fun t => decide (a < t.1)) = L.drop (at_ + 1) := filter_drop _ _ _
    (fun t ht => by obtain ⟨i, hi, h⟩ := mem_take_idx ht; have := hbe i _ (mkC_idx h) hi; simp at this ⊢; omega)
    (fun t ht => by obtain ⟨i, hi, h⟩ := mem_drop_idx ht; have := hab i _ (mkC_idx h) hi rfl; simp at this ⊢; omega)
  unfold insTh
  rw [e1, e2, mkC_append, mkC_append, List.set_eq_take_append_cons_drop, if_pos (by rw [mkC_length]; exact hlt)]
  unfold mkC
  rw [List.map_take, List.map_drop, List.append_assoc]
  rfl
theorem insTh_ok {k : Nat} {L : Th} {a : Nat} (x : Value) (h : OkTh k L) (ha : a < 2 ^ k) : OkTh k (insTh L a x) := by
  unfold insTh
  refine ⟨?_, fun t ht => ?_⟩
  · rw [List.append_assoc, List.pairwise_append]
    refine ⟨h.1.filter _, ?_, ?_⟩
    · rw [List.singleton_append, List.pairwise_cons]
      exact ⟨fun t ht => by have := (List.mem_filter.1 ht).2; simpa using this, h.1.filter _⟩
    · intro s hs t ht
      have h1 := (List.mem_filter.1 hs).2
      simp at h1
      rcases List.mem_append.1 ht with ht | ht
      · simp at ht
        rw [ht]
        exact h1
      · have h2 := (List.mem_filter.1 ht).2
        simp at h2
        omega
  · rcases List.mem_append.1 ht with ht | ht
    · rcases List.mem_append.1 ht with ht | ht
      · exact h.2 t (List.mem_filter.1 ht).1
      · simp at ht
        rw [ht]
        exact ha
    · exact h.2 t (List.mem_filter.1 ht).1
theorem delTh_ok {k : Nat} {L : Th} {a : Nat} (h : OkTh k L) : OkTh k (delTh L a) := ⟨h.1.filter _, fun t ht => h.2 t (List.mem_filter.1 ht).1⟩
theorem clv_set_x (cs : List Cl) (i : Nat) (x : Value) (c : Cl) (h : cs[i]? = some c) : (clv cs).set (i * 3 + 1) x = clv (cs.set i ⟨c.a, x, c.h⟩) := by
  induction cs generalizing i with
  | nil => simp at h
  | cons d cs ih =>
    cases i with
    | zero =>
      simp at h
      subst h
      simp [clv_cons, Cl.vals]
    | succ i =>
      have := ih i (by simpa using h)
      rw [clv_cons, List.set_cons_succ, clv_cons, ← this]
      have h3 : d.vals.length = 3 := rfl
      rw [show (i + 1) * 3 + 1 = 3 + (i * 3 + 1) by omega, List.set_append_right _ _ (by omega), h3, show 3 + (i * 3 + 1) - 3 = i * 3 + 1 by omega]
/-- A row whose p-th cell goes: those behind it, up to j, stand one place ahead. -/
def shifted {α : Type} (cs : List α) (p j : Nat) : List α := cs.take p ++ (cs.drop (p + 1)).take (j - p - 1) ++ cs.drop (j - 1)
theorem shifted_start {α : Type} (cs : List α) (p : Nat) : shifted cs p (p + 1) = cs := by
  unfold shifted
  rw [show p + 1 - p - 1 = 0 by omega, List.take_zero, List.append_nil, Nat.add_sub_cancel, List.take_append_drop]
theorem shifted_len {α : Type} (cs : List α) (p j : Nat) (h : p < j) (hj : j ≤ cs.length) : (shifted cs p j).length = cs.length := by
  simp [shifted]; omega
theorem shifted_get {α : Type} (cs : List α) (p j : Nat) (h : p < j) (hj : j < cs.length) : (shifted cs p j)[j]? = cs[j]? := by
  unfold shifted
  rw [List.getElem?_append_right (by simp; omega), List.getElem?_drop]
  congr 1
  simp
  omega
theorem shifted_set {α : Type} (cs : List α) (p j : Nat) (c : α) (h : p < j) (hc : cs[j]? = some c) : (shifted cs p j).set (j - 1) c = shifted cs p (j + 1) := by
  obtain ⟨hj, rfl⟩ := List.getElem?_eq_some_iff.1 hc
  unfold shifted
  have hl : (cs.take p ++ (cs.drop (p + 1)).take (j - p - 1)).length = j - 1 := by simp; omega
  rw [List.set_append_right _ _ (by omega), hl, Nat.sub_self]
  have e1 : cs.drop (j - 1) = cs[j - 1] :: cs.drop j := by
    rw [List.drop_eq_getElem_cons (by omega), show j - 1 + 1 = j by omega]
  have e2 : (cs.drop (p + 1)).take (j + 1 - p - 1) = (cs.drop (p + 1)).take (j - p - 1) ++ [cs[j]] := by
    rw [show j + 1 - p - 1 = (j - p - 1) + 1 by omega, List.take_succ_eq_append_getElem (by simp; omega)]
    congr 2
    rw [List.getElem_drop]
    congr 1
    omega
  rw [e1, e2, List.set_cons_zero, Nat.add_sub_cancel, List.append_assoc, List.append_assoc, List.append_assoc]
  rfl
theorem shifted_end {α : Type} (cs : List α) (p : Nat) (h : p < cs.length) : (shifted cs p cs.length).take (cs.length - 1) = cs.take p ++ cs.drop (p + 1) := by
  unfold shifted
  rw [List.take_append_of_le_length (by simp; omega), List.take_of_length_le (by simp; omega), List.take_of_length_le (l := cs.drop (p + 1)) (by simp; omega)]
theorem del_at {L : Th} {k p : Nat} {t : Nat × Value} (hO : OkTh k L) (h : L[p]? = some t) : L.take p ++ L.drop (p + 1) = delTh L t.1 := by
  obtain ⟨hp, rfl⟩ := List.getElem?_eq_some_iff.1 h
  have hne : ∀ (i : Nat) (s : Nat × Value), L[i]? = some s → i ≠ p → s.1 ≠ L[p].1 := by
    intro i s hs hi
    obtain ⟨hi', rfl⟩ := List.getElem?_eq_some_iff.1 hs
    rcases Nat.lt_trichotomy i p with hlt | heq | hlt
    · have := List.pairwise_iff_getElem.1 hO.1 i p hi' hp hlt; omega
    · exact absurd heq hi
    · have := List.pairwise_iff_getElem.1 hO.1 p i hp hi' hlt; omega
  have hsplit : L = L.take p ++ L[p] :: L.drop (p + 1) := by rw [← List.drop_eq_getElem_cons hp, List.take_append_drop]
  have key : ∀ s ∈ L.take p ++ L.drop (p + 1), s.1 ≠ L[p].1 := by
    intro s hs
    rcases List.mem_append.1 hs with hs | hs
    · obtain ⟨i, hi, hs⟩ := mem_take_idx hs
      exact hne i s hs (by omega)
    · obtain ⟨i, hi, hs⟩ := mem_drop_idx hs
      exact hne i s hs (by omega)
  generalize L[p] = u at *
  have h1 : ∀ X Y : Th, (X ++ u :: Y).filter (fun t => decide (t.1 ≠ u.1)) = (X ++ Y).filter (fun t => decide (t.1 ≠ u.1)) := by
    intro X Y
    rw [List.filter_append, List.filter_cons, if_neg (by simp), ← List.filter_append]
  have h2 := h1 (L.take p) (L.drop (p + 1))
  rw [← hsplit] at h2
  unfold delTh
  rw [h2]
  exact (List.filter_eq_self.2 (fun s hs => by simpa using key s hs)).symm
theorem getTh_idx {L : Th} {addr : Int} {x : Value} (h : getTh L addr = some x) : ∃ (p : Nat) (t : Nat × Value), L[p]? = some t ∧ (t.1 : Int) = addr := by
  unfold getTh at h
  obtain ⟨t, ht, _⟩ := Option.map_eq_some_iff.1 h
  have h1 := List.find?_some ht
  obtain ⟨p, hp, rfl⟩ := List.getElem_of_mem (List.mem_of_find?_eq_some ht)
  exact ⟨p, L[p], List.getElem?_eq_getElem hp, by simpa using h1⟩
end
section
open Go.RowKit
theorem wrap_pow {k : Nat} (h : k ≤ 16) : wrap64 ((2 : Int) ^ k) = ((2 ^ k : Nat) : Int) := by
  have h1 := pow16 h
  have h2 : ((2 : Int) ^ k) = ((2 ^ k : Nat) : Int) := by push_cast; rfl
  rw [h2]
  generalize 2 ^ k = m at *
  unfold wrap64
  omega
set_option maxHeartbeats 1000000 in
set_option maxRecDepth 100000 in
theorem dense_any (k n : Nat) (w : World) (hk : k ≤ 16) (hn : n ≤ 70000) :
    Calls Try.prog 75 #[.int .i64 k, .int .i64 n] w fun e w' => e = .returned (.bool (denseB k n)) ∧ w = w' := by
  have hw := wrap_pow hk
  by_cases h6 : k ≤ 6
  · go_enter Try.func75, Try.ntmps75
    go_wp2
    go_ret
    refine ⟨retB (boolI ?_), rfl⟩
    unfold denseB
    simp only [decide_eq_true_eq, gt_iff_lt]
    have h2 : ((2 : Int) ^ k) = ((2 ^ k : Nat) : Int) := by push_cast; rfl
    rw [h2]
    clear hw
    generalize 2 ^ k = m at *
    omega
  · clear hw
    go_enter Try.func75, Try.ntmps75
    go_wp2
    go_ret
    refine ⟨retB (boolI ?_), rfl⟩
    simp [denseB]
    omega
end
section
open Go.RowKit
section
variable {P : Program}
theorem run_append_zeros_grow (w : World) (t ti ty e : TypeId) (i : TypeInfo) (z : Value) (size bytes : Nat) (ht : P.underlying t = some (.slice e)) {k : IntKind} (hti : P.underlying ti = some (.int k)) (hi : P.info? e = some i) (hz : i.zero = some z)
    (hsize : i.size = size) (hby : i.bytes = bytes) (hzs : z.cells.size = size) (hsz : 0 < size) (hb0 : 0 < bytes)
    (A : Option Addr) (n cap : Nat) (xs : List Value) (hread : Rw w size A n xs) (kx : IntKind) (m : Nat) (h1 : ∀ u ∈ (Builtin.zeroCells z.cells m).toList, u.oneCell' = true)
    (hbytes : (n + m) * bytes ≤ 140737488355328) (hcap : cap < n + m) :
    ∃ v' w', (Builtin.append_ #[t, ti] ty #[.slice A n cap, .int kx m]).run P w = .ok v' w' ∧ w'.ownsRow w.heap.size e size v' (n + m) (xs ++ (Builtin.zeroCells z.cells m).toList) ∧ Below w.heap.size w w' := by
  subst hsize
  subst hby
  have hle : n + m ≤ 140737488355328 := Nat.le_trans (Nat.le_mul_of_pos_right _ hb0) hbytes
  have h63 : n + m ≤ maxLen := by simp only [maxLen]; omega
  have hw : IntKind.i64.wrap (m : Int) = m := by rw [IntKind.wrap_i64]; omega
  have hw0 : IntKind.i64.wrap 0 = 0 := by rw [IntKind.wrap_i64]; rfl
  have hneg : ¬ ((m : Int) < 0) := by omega
  have hmb : m * i.bytes ≤ 140737488355328 := Nat.le_trans (Nat.mul_le_mul_right _ (Nat.le_add_left m n)) hbytes
  have hbig : ¬ (281474976710656 < (m : Int) * (i.bytes : Int)) := by
    rw [← Int.natCast_mul]
    omega
  have hsn : i.size ≠ 0 := by omega
  obtain ⟨news, hnews⟩ : ∃ news, news = (Builtin.zeroCells z.cells m).toList := ⟨_, rfl⟩
  rw [← hnews] at h1 ⊢
  have hl : news.length = m * i.size := by rw [hnews, Array.length_toList, size_zeroCells, hzs]
  have hna : Builtin.zeroCells z.cells m = news.toArray := by rw [hnews]
  have hlen : (xs ++ news).length = (n + m) * i.size := by rw [List.length_append, hread.1, hl, Nat.add_mul]
  have hnil : m = 0 → news = [] := fun h => List.eq_nil_of_length_eq_zero (by rw [hl, h, Nat.zero_mul])
  have grown : ∀ (old : Nat), old < n + m → ∀ (row : Option Nat),
      (w.drew.alloc (.cells (xs.toArray ++ news.toArray ++ Builtin.zeroCells z.cells (grownCap w (n + m) old e - (n + m))) e)).ownsRow w.heap.size e i.size
        (.slice (some ⟨w.heap.size, 0, none⟩) (n + m) (grownCap w (n + m) old e)) (n + m) (xs ++ news) ∧
      w.grownBy (w.drew.alloc (.cells (xs.toArray ++ news.toArray ++ Builtin.zeroCells z.cells (grownCap w (n + m) old e - (n + m))) e)) row := by
    intro old ho row
    have hge := grownCap_ge w (n + m) old e
    have hcm : grownCap w (n + m) old e ≤ maxLen := grownCap_le_maxLen w (n + m) old e h63
    refine ⟨⟨hlen, .inr ⟨w.heap.size, _, _, rfl, Nat.le_refl _, heap_alloc_new w.drew _, hge, hcm, ?_, ?_⟩⟩, ⟨rfl, rfl, rfl, by simp, fun k hk _ => heap_alloc_old w.drew _ hk⟩⟩
    · simp only [Array.size_append, List.size_toArray, size_zeroCells, hzs, hread.1, hl, ← Nat.add_mul]
      congr 1
      omega
    · simp only [Array.toList_append, List.append_assoc]
      rw [← List.append_assoc, ← hlen]
      exact List.take_left
  have runs : ∀ (A : Option Addr) (cap : Nat), cap < n + m → (Builtin.firstCells i.size n (.slice A n cap)).run P w.drew = .ok xs.toArray w.drew → (Builtin.append_ #[t, ti] ty #[.slice A n cap, .int kx m]).run P w =
      .ok (.slice (some ⟨w.heap.size, 0, none⟩) (n + m) (grownCap w (n + m) cap e)) (w.drew.alloc (.cells (xs.toArray ++ news.toArray ++ Builtin.zeroCells z.cells (grownCap w (n + m) cap e - (n + m))) e)) := by
    intro A cap hcap hfo
    have hn : ¬ (n + m ≤ cap) := by omega
    have h63' : ¬ (9223372036854775807 < ((n : Int) + (m : Int))) := by omega
    have hfit := growslice_fits hcap hbytes
    have h48' : ¬ (281474976710656 < Builtin.nextslicecap (n + m) cap * i.bytes) := by omega
    by_cases hm : m = 0
    · have hnl := hnil hm
      subst hm
      rw [hnl]
      simp only [Nat.add_zero] at hn h63' h48' ⊢
      have h63'' : ¬ (9223372036854775807 < (n : Int)) := by omega
      simp [Builtin.append_, run_underlying ht, run_underlying hti, sizeOf, typeInfo, zeroValue, hi, hz, asInt, asIntOf, hw0, hn, h63'', h48', Question.forced, hfo, newRow, grownCap]
    · have hmz : ¬ (m * i.size = 0) := Nat.mul_ne_zero hm hsn
      simp [Builtin.append_, run_underlying ht, run_underlying hti, sizeOf, typeInfo, zeroValue, hi, hz, asInt, asIntOf, hw, hneg, hbig, hn, h63', h48', Question.forced, hfo, newRow, grownCap, hmz, hna]
      congr 2
      apply Array.ext'
      simp [List.append_assoc]
  have hgr := grown cap hcap none
  have hb : Below w.heap.size w (w.drew.alloc (.cells (xs.toArray ++ news.toArray ++ Builtin.zeroCells z.cells (grownCap w (n + m) cap e - (n + m))) e)) := (Below.refl _ _).drew.alloc (Nat.le_refl _) _
  refine ⟨_, _, runs A cap hcap ?_, hgr.1, hb⟩
  rcases Nat.eq_zero_or_pos n with h0 | h0
  · subst h0
    have hx : xs = [] := List.eq_nil_of_length_eq_zero (by simpa using hread.1)
    subst hx
    cases A with
    | none => simp [Builtin.firstCells]
    | some ad => exact run_firstCells_some (P := P) w.drew i.size 0 ad 0 cap [] (by simp) (by simp)
  · obtain ⟨b, o, rfl, _, hc⟩ := hread.2 h0
    refine run_firstCells_some (P := P) w.drew i.size n _ n cap xs hread.1 (fun j u hu => ?_)
    have := hc j u hu
    unfold Addr.add
    by_cases hj : j = 0
    · subst hj; simpa using this
    · simpa [hj] using this
theorem zeros_grow (w : World) {ops : Array Oper} {rest : List Oper} {o : Oper} {a : Act} {Q : Exit → Act → World → Prop} (hgd : o.guard = none) (s x : Operand) (t ti e : TypeId) (z : Value) (size bytes : Nat)
    (ho : o.op = .call { callee := .builtin .append, args := #[s, x], argTypes := #[t, ti] })
    (ht : P.underlying t = some (.slice e)) {k : IntKind} (hti : P.underlying ti = some (.int k)) (hinfo : (P.info? e).map (fun i => (i.zero, i.size, i.bytes)) = some (some z, size, bytes)) (hzs : z.cells.size = size) (hsz : 0 < size) (hb0 : 0 < bytes)
    (A : Option Addr) (n cap : Nat) (xs : List Value) (hs : a.eval s = .slice A n cap) (hread : Rw w size A n xs) (kx : IntKind) (m : Nat) (hx : a.eval x = .int kx m) (h1 : ∀ u ∈ (Builtin.zeroCells z.cells m).toList, u.oneCell' = true)
    (hbytes : (n + m) * bytes ≤ 140737488355328) (hcap : cap < n + m)
    (h : ∀ v' w', w'.ownsRow w.heap.size e size v' (n + m) (xs ++ (Builtin.zeroCells z.cells m).toList) → Below w.heap.size w w' → wpList P ops Q rest (a.put o.dst v') w') : wpList P ops Q (o :: rest) a w := by
  obtain ⟨i, hi, hz, hsize, hby⟩ := info_parts hinfo
  obtain ⟨v', w', hrun, h2, h3⟩ := run_append_zeros_grow (P := P) w t ti o.type e i z size bytes ht hti hi hz hsize hby hzs hsz hb0 A n cap xs hread kx m h1 hbytes hcap
  refine wpList_plain hgd fun K hK => ?_
  unfold Oper.wp execOp
  simp only [ho, resolve, invoke, builtin, Sem.run_bind, Sem.run_pure, Result.andThen_ok, List.map_toArray, List.map_cons, List.map_nil, hs, hx, hrun]
  exact hK _ _ (h v' w' h2 h3)
theorem run_copy_sz (w : World) (dT sT ty elem : TypeId) (sz : Nat) (g o dLen dCap : Nat) (a : Addr) (sLen sCap : Nat) (cur : Array Value) (t : TypeId) (cs : List Value)
    (hu : P.underlying dT = some (.slice elem)) (hs : (P.info? elem).map (·.size) = some sz)
    (hg : w.heap[g]? = some (.cells cur t (0, 0))) (hn : cs.length = Nat.min sLen dLen * sz)
    (hsrc : ∀ j v, cs[j]? = some v → w.cell? (a.add j) = some v) (hfit : o + cs.length ≤ cur.size) (h1 : ∀ v ∈ cs, v.oneCell' = true) :
    (Builtin.copy_ #[dT, sT] ty #[.slice (some ⟨g, o, none⟩) dLen dCap, .slice (some a) sLen sCap]).run P w =
      .ok (goInt (Nat.min sLen dLen)) (w.setRow g (cur.toList.take o ++ cs ++ cur.toList.drop (o + cs.length)).toArray) := by
  have hl := run_loadCells_list (P := P) w a cs hsrc
  have hst := run_storeCells_at P g o t cs 0 cur w hg (by simpa using hfit) h1
  cases hq : P.info? elem with
  | none => simp [hq] at hs
  | some i =>
    have hi : i.size = sz := by simpa [hq] using hs
    simp [Builtin.copy_, run_underlying hu, Builtin.lenOf, Builtin.firstCells, sizeOf, typeInfo, hq, hi, ← hn, hl, hst]
theorem take_splice {α : Type} (L cs : List α) (off k : Nat) (h : off + cs.length ≤ k) (hk : k ≤ L.length) : (L.take off ++ cs ++ L.drop (off + cs.length)).take k = splice (L.take k) off cs := by
  unfold splice
  rw [List.take_take, Nat.min_eq_left (by omega), List.append_assoc, List.take_append, List.take_of_length_le (l := L.take off) (by simp; omega)]
  congr 1
  rw [List.take_append, List.take_of_length_le (by simp; omega)]
  congr 1
  rw [List.drop_take]
  congr 1
  simp
  omega
/-- copy into a row of the call's own: from element i on. -/
theorem run_copy_own (w : World) (dT sT ty elem : TypeId) (sz base n cap g i dCap : Nat) (A : Option Addr) (m sCap dLen : Nat) (xs cs : List Value)
    (hu : P.underlying dT = some (.slice elem)) (hs : (P.info? elem).map (·.size) = some sz) (hO : w.ownsRow base elem sz (.slice (some ⟨g, 0, none⟩) n cap) n xs)
    (q : Nat) (hq : Nat.min m dLen = q) (hr : Rw w sz A q cs) (hm : 0 < q) (hd : i + dLen ≤ n) (h1 : ∀ v ∈ cs, v.oneCell' = true) :
    ∃ w', (Builtin.copy_ #[dT, sT] ty #[.slice (some ⟨g, i * sz, none⟩) dLen dCap, .slice A m sCap]).run P w = .ok (goInt q) w' ∧
      w'.ownsRow base elem sz (.slice (some ⟨g, 0, none⟩) n cap) n (splice xs (i * sz) cs) ∧ w.grownBy w' (some g) := by
  have hqd : q ≤ dLen := by rw [← hq]; exact Nat.min_le_right _ _
  obtain ⟨b, o, rfl, hb, hc⟩ := hr.2 hm
  rcases hO.2 with ⟨h', h0⟩ | ⟨g', cap', cur, h', hbg, hg, hnc, hcm, hcs, htake⟩
  · omega
  simp only [Value.slice.injEq, Option.some.injEq, Addr.mk.injEq, and_true, true_and] at h'
  obtain ⟨rfl, rfl⟩ := h'
  have hsrc : ∀ j v, cs[j]? = some v → w.cell? ((⟨b, o, none⟩ : Addr).add j) = some v := fun j v hv => by
    have := hc j v hv
    unfold Addr.add
    by_cases hj : j = 0
    · subst hj; simpa using this
    · simpa [hj] using this
  have e1 : i * sz + q * sz ≤ n * sz := by rw [← Nat.add_mul]; exact Nat.mul_le_mul_right _ (by omega)
  have e2 : n * sz ≤ cap * sz := Nat.mul_le_mul_right _ hnc
  have hfit : i * sz + cs.length ≤ cur.size := by rw [hr.1, hcs]; omega
  have hrun := run_copy_sz (P := P) w dT sT ty elem sz g (i * sz) dLen dCap ⟨b, o, none⟩ m sCap cur elem cs hu hs hg (by rw [hq]; exact hr.1) hsrc hfit h1
  rw [hq] at hrun
  refine ⟨_, hrun, ⟨?_, .inr ⟨g, cap, _, rfl, hbg, setRow_heap w g cur _ elem _ hg, hnc, hcm, ?_, ?_⟩⟩, ?_⟩
  · rw [length_splice _ _ _ (by rw [hO.1, hr.1]; omega)]; exact hO.1
  · simp only [List.size_toArray, List.length_append, List.length_take, List.length_drop, Array.length_toList]; omega
  · rw [← htake]
    exact take_splice _ _ _ _ (by rw [hr.1]; omega) (by rw [Array.length_toList, hcs]; omega)
  · refine ⟨rfl, rfl, rfl, by simp [World.setRow], fun k hk hne => ?_⟩
    simp only [World.setRow, Array.getElem?_modify]
    rw [if_neg (fun e => hne (by rw [e]))]
theorem copy_own (w : World) {ops : Array Oper} {rest : List Oper} {o : Oper} {a : Act} {Q : Exit → Act → World → Prop} (hgd : o.guard = none) (d s : Operand) (dT sT elem : TypeId)
    (ho : o.op = .call { callee := .builtin .copy, args := #[d, s], argTypes := #[dT, sT] }) (sz base n cap g i dCap : Nat) (A : Option Addr) (m sCap dLen : Nat) (xs cs : List Value)
    (hu : P.underlying dT = some (.slice elem)) (hs : (P.info? elem).map (·.size) = some sz) (hO : w.ownsRow base elem sz (.slice (some ⟨g, 0, none⟩) n cap) n xs)
    (hdv : a.eval d = .slice (some ⟨g, i * sz, none⟩) dLen dCap) (hsv : a.eval s = .slice A m sCap)
    (q : Nat) (hq : Nat.min m dLen = q) (hr : Rw w sz A q cs) (hm : 0 < q) (hd : i + dLen ≤ n) (h1 : ∀ v ∈ cs, v.oneCell' = true)
    (h : ∀ w', w'.ownsRow base elem sz (.slice (some ⟨g, 0, none⟩) n cap) n (splice xs (i * sz) cs) → w.grownBy w' (some g) → wpList P ops Q rest (a.put o.dst (goInt q)) w') : wpList P ops Q (o :: rest) a w := by
  obtain ⟨w', hrun, h2, h3⟩ := run_copy_own (P := P) w dT sT o.type elem sz base n cap g i dCap A m sCap dLen xs cs hu hs hO q hq hr hm hd h1
  refine wpList_plain hgd fun K hK => ?_
  unfold Oper.wp execOp
  simp only [ho, resolve, invoke, builtin, Sem.run_bind, Sem.run_pure, Result.andThen_ok, List.map_toArray, List.map_cons, List.map_nil, hdv, hsv, hrun]
  exact hK _ _ (h w' h2 h3)
def cutA (A : Option Addr) (c sz i : Nat) : Option Addr := if c = i then A else A.map (·.add (i * sz))
theorem cutA_some {g c sz i : Nat} (h : i < c) : cutA (some ⟨g, 0, none⟩) c sz i = some ⟨g, i * sz, none⟩ := by
  unfold cutA
  rw [if_neg (by omega)]
  by_cases h0 : i * sz = 0 <;> simp [Addr.add, h0]
theorem run_slice_lo {t e sz : Nat} (ht : P.underlying t = some (.slice e)) (hz : ∀ w, (sizeOf e).run P w = .ok sz w) (A : Option Addr) (n c i : Nat) (hi : i ≤ n) (w : World) :
    (Instr.slice t (.slice A n c) (some (.int .i64 (i : Int))) none none).run P w = .ok (.slice (cutA A c sz i) (n - i) (c - i)) w := by
  have h0 : (0 : Int) ≤ (i : Int) := by omega
  have h1 : (i : Int) ≤ (n : Int) := by omega
  simp [Instr.slice, run_underlying ht, Instr.sliceBounds, Instr.sliceBound, asIntOf, h0, h1, hz, cutA]
  intro h; omega
theorem run_slice_hi {t e sz : Nat} (ht : P.underlying t = some (.slice e)) (hz : ∀ w, (sizeOf e).run P w = .ok sz w) (g n c j : Nat) (hj : j ≤ c) (w : World) :
    (Instr.slice t (.slice (some ⟨g, 0, none⟩) n c) none (some (.int .i64 (j : Int))) none).run P w = .ok (.slice (some ⟨g, 0, none⟩) j c) w := by
  have h0 : (0 : Int) ≤ (j : Int) := by omega
  have h1 : (j : Int) ≤ (c : Int) := by omega
  simp [Instr.slice, run_underlying ht, Instr.sliceBounds, Instr.sliceBound, asIntOf, h0, h1, hz, Addr.add]
  intro h; omega
theorem own_extend {w : World} {base n cap g sz m : Nat} {e : TypeId} {xs : List Value} (h : w.ownsRow base e sz (.slice (some ⟨g, 0, none⟩) n cap) n xs) (hn : n ≤ m) (hm : m ≤ cap) :
    ∃ ys, ys.length = (m - n) * sz ∧ w.ownsRow base e sz (.slice (some ⟨g, 0, none⟩) m cap) m (xs ++ ys) := by
  rcases h.2 with ⟨h', h0⟩ | ⟨g', cap', cur, h', hbg, hg, hnc, hcm, hcs, htake⟩
  · cases h'
  · simp only [Value.slice.injEq, Option.some.injEq, Addr.mk.injEq, and_true, true_and] at h'
    obtain ⟨rfl, rfl⟩ := h'
    have e1 : n * sz ≤ m * sz := Nat.mul_le_mul_right _ hn
    have e2 : m * sz ≤ cap * sz := Nat.mul_le_mul_right _ hm
    have e3 : (m - n) * sz = m * sz - n * sz := Nat.sub_mul _ _ _
    have hl : ((cur.toList.drop (n * sz)).take ((m - n) * sz)).length = (m - n) * sz := by
      rw [List.length_take, List.length_drop, Array.length_toList]; omega
    refine ⟨(cur.toList.drop (n * sz)).take ((m - n) * sz), hl, ?_, .inr ⟨g, cap, cur, rfl, hbg, hg, hm, hcm, hcs, ?_⟩⟩
    · rw [List.length_append, h.1, hl]; omega
    · rw [← htake, ← List.take_add]; congr 1; omega
theorem Rw.take_ {w : World} {sz n i : Nat} {A : Option Addr} {vs : List Value} (h : Rw w sz A n vs) (hi : i ≤ n) : Rw w sz A i (vs.take (i * sz)) := by
  have e : i * sz ≤ n * sz := Nat.mul_le_mul_right _ hi
  refine ⟨by rw [List.length_take, h.1]; omega, fun h0 => ?_⟩
  obtain ⟨b, o, hA, hb, hc⟩ := h.2 (by omega)
  refine ⟨b, o, hA, hb, fun j u hu => hc j u ?_⟩
  rw [List.getElem?_take] at hu
  split at hu
  · exact hu
  · cases hu
theorem Rw.drop_ {w : World} {sz n i g : Nat} {vs : List Value} (h : Rw w sz (some ⟨g, 0, none⟩) n vs) (hi : i ≤ n) : Rw w sz (some ⟨g, i * sz, none⟩) (n - i) (vs.drop (i * sz)) := by
  refine ⟨by rw [List.length_drop, h.1, Nat.sub_mul], fun h0 => ?_⟩
  obtain ⟨b, o, hA, hb, hc⟩ := h.2 (by omega)
  injection hA with hA
  injection hA with h1 h2
  subst h1 h2
  refine ⟨g, i * sz, rfl, hb, fun j u hu => ?_⟩
  have := hc (i * sz + j) u (by rw [← hu, List.getElem?_drop])
  rw [Nat.zero_add] at this
  exact this
theorem clv_take (cs : List Cl) (i : Nat) : (clv cs).take (i * 3) = clv (cs.take i) := by
  rcases Nat.le_total i cs.length with h | h
  · conv => lhs; rw [← List.take_append_drop i cs, clv_append]
    exact List.take_left' (by rw [clv_length, List.length_take]; omega)
  · rw [List.take_of_length_le (by rw [clv_length]; omega), List.take_of_length_le h]
theorem clv_drop (cs : List Cl) (i : Nat) : (clv cs).drop (i * 3) = clv (cs.drop i) := by
  rcases Nat.le_total i cs.length with h | h
  · conv => lhs; rw [← List.take_append_drop i cs, clv_append]
    exact List.drop_left' (by rw [clv_length, List.length_take]; omega)
  · rw [List.drop_of_length_le (by rw [clv_length]; omega), List.drop_of_length_le h]; rfl
/-- A splice of whole cells. -/
theorem splice_clv (xs cs : List Cl) (i : Nat) : splice (clv xs) (i * 3) (clv cs) = clv (xs.take i ++ (cs ++ xs.drop (i + cs.length))) := by
  unfold splice
  rw [clv_take, clv_length, ← Nat.add_mul, clv_drop, clv_append, clv_append]
theorem own_lower {w : World} {base base' n : Nat} {e : TypeId} {sz : Nat} {v : Value} {xs : List Value} (h : w.ownsRow base e sz v n xs) (hb : base' ≤ base) : w.ownsRow base' e sz v n xs := by
  obtain ⟨h1, h2⟩ := h
  refine ⟨h1, ?_⟩
  rcases h2 with h2 | ⟨g, cap, cur, hv, hg, r⟩
  · exact .inl h2
  · exact .inr ⟨g, cap, cur, hv, Nat.le_trans hb hg, r⟩
theorem ins_lists {α : Type} (cs : List α) (c z : α) (n i m : Nat) (hl : cs.length = n) (hi : i < n) (hm : n + 1 = i + m) :
    ((cs.take i ++ List.replicate m z).take i ++ ([c] ++ (cs.take i ++ List.replicate m z).drop (i + 1))).take (i + 1) ++ (cs.drop i ++ ((cs.take i ++ List.replicate m z).take i ++ ([c] ++ (cs.take i ++ List.replicate m z).drop (i + 1))).drop (i + 1 + (cs.drop i).length)) = cs.take i ++ [c] ++ cs.drop i := by
  have ht : (cs.take i).length = i := by rw [List.length_take]; omega
  have e1 : (cs.take i ++ List.replicate m z).take i = cs.take i := List.take_left' ht
  rw [e1]
  have e2 : ∀ R : List α, (cs.take i ++ ([c] ++ R)).take (i + 1) = cs.take i ++ [c] := fun R => by
    rw [← List.append_assoc]
    exact List.take_left' (by simp [ht])
  rw [e2]
  have e3 : (cs.take i ++ ([c] ++ (cs.take i ++ List.replicate m z).drop (i + 1))).drop (i + 1 + (cs.drop i).length) = [] := by
    apply List.drop_eq_nil_of_le
    simp only [List.length_append, List.length_drop, List.length_replicate, ht, List.length_cons, List.length_nil]
    omega
  rw [e3, List.append_nil]
theorem splice_ins {α : Type} (A B Y c : List α) (s : Nat) (hY : Y.length = s) (hc : c.length = s) : splice (splice (A ++ B ++ Y) (A.length + s) B) A.length c = A ++ c ++ B := by
  have e1 : splice (A ++ B ++ Y) (A.length + s) B = (A ++ B ++ Y).take (A.length + s) ++ B := by
    unfold splice
    rw [List.drop_eq_nil_of_le (by simp; omega), List.append_nil]
  have hl : ((A ++ B ++ Y).take (A.length + s)).length = A.length + s := by simp; omega
  rw [e1]
  unfold splice
  rw [hc, List.drop_left' hl, List.take_append_of_le_length (by omega), List.take_take, Nat.min_eq_left (by omega), List.append_assoc, List.take_left' rfl, List.append_assoc]
/-- clear, of a part of a row of the call's own. -/
theorem run_clear_own (w : World) (t elem : TypeId) (z : Value) (sz base n cap g i m c' : Nat) (xs : List Value)
    (hu : P.underlying t = some (.slice elem)) (hv : ∀ w, (zeroValue elem).run P w = .ok z w) (hz : z.cells.size = sz) (hO : w.ownsRow base elem sz (.slice (some ⟨g, 0, none⟩) n cap) n xs)
    (hm : 0 < m) (hd : i + m ≤ n) (h1 : ∀ v ∈ (Builtin.zeroCells z.cells m).toList, v.oneCell' = true) :
    ∃ w', (∀ ty, (Builtin.clear_ #[t] ty #[.slice (some ⟨g, i * sz, none⟩) m c']).run P w = .ok (.tuple #[]) w') ∧
      w'.ownsRow base elem sz (.slice (some ⟨g, 0, none⟩) n cap) n (splice xs (i * sz) (Builtin.zeroCells z.cells m).toList) ∧ w.grownBy w' (some g) := by
  have hcl : (Builtin.zeroCells z.cells m).toList.length = m * sz := by rw [Array.length_toList, size_zeroCells, hz]
  generalize hcs : (Builtin.zeroCells z.cells m).toList = cs at *
  have hca : Builtin.zeroCells z.cells m = cs.toArray := by rw [← hcs]
  rcases hO.2 with ⟨h', h0⟩ | ⟨g', cap', cur, h', hbg, hg, hnc, hcm, hcs', htake⟩
  · cases h'
  simp only [Value.slice.injEq, Option.some.injEq, Addr.mk.injEq, and_true, true_and] at h'
  obtain ⟨rfl, rfl⟩ := h'
  have e1 : i * sz + m * sz ≤ n * sz := by rw [← Nat.add_mul]; exact Nat.mul_le_mul_right _ (by omega)
  have e2 : n * sz ≤ cap * sz := Nat.mul_le_mul_right _ hnc
  have hfit : i * sz + cs.length ≤ cur.size := by omega
  have hst := run_storeCells_at P g (i * sz) elem cs 0 cur w hg (by simpa using hfit) h1
  obtain ⟨m', rfl⟩ : ∃ m', m = m' + 1 := ⟨m - 1, by omega⟩
  refine ⟨w.setRow g (cur.toList.take (i * sz) ++ cs ++ cur.toList.drop (i * sz + cs.length)).toArray, ?_, ⟨?_, .inr ⟨g, cap, _, rfl, hbg, setRow_heap w g cur _ elem _ hg, hnc, hcm, ?_, ?_⟩⟩, ?_⟩
  · intro ty; simp [Builtin.clear_, run_underlying hu, hv, hca, hst]
  · rw [length_splice _ _ _ (by rw [hO.1]; omega)]; exact hO.1
  · simp only [List.size_toArray, List.length_append, List.length_take, List.length_drop, Array.length_toList]; omega
  · rw [← htake]
    exact take_splice _ _ _ _ (by omega) (by rw [Array.length_toList]; omega)
  · refine ⟨rfl, rfl, rfl, by simp [World.setRow], fun k hk hne => ?_⟩
    simp only [World.setRow, Array.getElem?_modify]
    rw [if_neg (fun e => hne (by rw [e]))]
theorem own_cut {w : World} {base n cap m g sz : Nat} {e : TypeId} {xs : List Value} (h : w.ownsRow base e sz (.slice (some ⟨g, 0, none⟩) n cap) n xs) (hm : m ≤ n) : w.ownsRow base e sz (.slice (some ⟨g, 0, none⟩) m cap) m (xs.take (m * sz)) := by
  have e1 : m * sz ≤ n * sz := Nat.mul_le_mul_right _ hm
  rcases h.2 with ⟨h', h0⟩ | ⟨g', cap', cur, h', hbg, hg, hnc, hcm, hcs, htake⟩
  · cases h'
  · simp only [Value.slice.injEq, Option.some.injEq, Addr.mk.injEq, and_true, true_and] at h'
    obtain ⟨rfl, rfl⟩ := h'
    refine ⟨by rw [List.length_take, h.1]; omega, .inr ⟨g, cap, cur, rfl, hbg, hg, by omega, hcm, hcs, ?_⟩⟩
    rw [← htake, List.take_take, Nat.min_eq_left e1]
end
end
section
theorem th_split {α : Type} {L : List α} {i : Nat} {t : α} (h : L[i]? = some t) : L = L.take i ++ t :: L.drop (i + 1) := by
  obtain ⟨h1, rfl⟩ := List.getElem?_eq_some_iff.1 h
  rw [← List.drop_eq_getElem_cons h1, List.take_append_drop]
theorem th_from_at {k : Nat} {L : Th} {addr : Int} {i : Nat} (hO : OkTh k L) (hl : ∀ (j : Nat) t, L[j]? = some t → j < i → (t.1 : Int) < addr) (hr : ∀ t, L[i]? = some t → addr ≤ (t.1 : Int)) : fromTh L addr = L[i]? := by
  unfold fromTh
  conv => lhs; rw [← List.take_append_drop i L]
  have g1 : (L.take i).filter (fun t => decide (addr ≤ (t.1 : Int))) = [] := by
    rw [List.filter_eq_nil_iff]
    intro t ht
    obtain ⟨j, hj, ht⟩ := mem_take_idx ht
    have := hl j t ht hj
    simp only [decide_eq_true_eq]
    omega
  rw [List.filter_append, g1, List.nil_append]
  cases h : L[i]? with
  | none => rw [List.drop_eq_nil_of_le (by simpa using h)]; rfl
  | some t =>
    obtain ⟨h1, h2⟩ := List.getElem?_eq_some_iff.1 h
    rw [List.drop_eq_getElem_cons h1, h2, List.filter_cons_of_pos (by simpa using hr t h)]
    rfl
end
end Go.Proofs.Ytfoapkcgdkfggaa
