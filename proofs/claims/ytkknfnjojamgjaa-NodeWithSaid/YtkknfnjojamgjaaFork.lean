/- Forks: a node with just these kids; cutting a point; putting in a kid, taking one out. -/
import Derived.Test.YtkknfnjojamgjaaNd6
set_option linter.unusedSimpArgs false
set_option linter.unusedVariables false
namespace Go.Proofs.Ytkknfnjojamgjaa
open Go.RowKit
/-! ### Cutting -/
theorem bit_cutc (m c b : Nat) : bit (cutc m c) b = if b < m then 0 else bit c b := by
  unfold bit cutc
  split
  · rename_i h
    obtain ⟨d, rfl⟩ : ∃ d, m = b + (d + 1) := ⟨m - b - 1, by omega⟩
    have : c / 2 ^ (b + (d + 1)) * 2 ^ (b + (d + 1)) = (c / 2 ^ (b + (d + 1)) * 2 ^ d * 2) * 2 ^ b := by
      rw [Nat.pow_add, Nat.pow_succ]
      generalize c / (2 ^ b * (2 ^ d * 2)) = X
      generalize 2 ^ b = B
      generalize 2 ^ d = D
      simp only [Nat.mul_comm, Nat.mul_left_comm, Nat.mul_assoc]
    rw [this, Nat.mul_div_cancel _ (Nat.two_pow_pos b), Nat.mul_mod_left]
  · rename_i h
    obtain ⟨d, rfl⟩ : ∃ d, b = m + d := ⟨b - m, by omega⟩
    rw [Nat.pow_add, ← Nat.div_div_eq_div_mul, Nat.mul_div_cancel _ (Nat.two_pow_pos m), Nat.div_div_eq_div_mul]
theorem foldl_zero (b : Nat) : ∀ (p : List Nat), (∀ c ∈ p, bit c b = 0) → p.foldl (fun a c => 2 * a + bit c b) 0 = 0
  | [], _ => rfl
  | c :: p, h => by
    rw [List.foldl_cons, h c List.mem_cons_self]
    exact foldl_zero b p fun c hc => h c (List.mem_cons_of_mem _ hc)
theorem foldl_cut (m b : Nat) (h : m ≤ b) : ∀ (p : List Nat) (a : Nat), (cut m p).foldl (fun a c => 2 * a + bit c b) a = p.foldl (fun a c => 2 * a + bit c b) a
  | [], _ => rfl
  | c :: p, a => by
    show (cut m p).foldl _ (2 * a + bit (cutc m c) b) = p.foldl _ (2 * a + bit c b)
    rw [bit_cutc, if_neg (by omega), foldl_cut m b h p]
theorem addr_cut_lo {m b : Nat} (p : List Nat) (h : b < m) : addrOf (cut m p) b = 0 := by
  unfold addrOf
  apply foldl_zero
  intro c hc
  obtain ⟨d, _, rfl⟩ := List.mem_map.1 hc
  rw [bit_cutc, if_pos h]
theorem addr_cut_hi {m b : Nat} (p : List Nat) (h : m ≤ b) : addrOf (cut m p) b = addrOf p b := foldl_cut m b h p 0
theorem zp_cut {k m : Nat} {p : List Nat} (h : Zp k p) : Zp k (cut m p) := by
  refine ⟨by unfold cut; rw [List.length_map]; exact h.1, fun x hx => ?_⟩
  obtain ⟨d, hd, rfl⟩ := List.mem_map.1 hx
  exact cutc_lt m d (h.2 d hd)
/-! ### Kids in their places -/
def insK (ks : List Kid) (q : Kid) : List Kid := ks.filter (fun r => decide (r.at_ < q.at_)) ++ [q] ++ ks.filter (fun r => decide (q.at_ < r.at_))
def delK (ks : List Kid) (a : Nat) : List Kid := ks.filter fun r => decide (r.at_ ≠ a)
theorem kidTh_ins (ks : List Kid) (q : Kid) : kidTh (insK ks q) = insTh (kidTh ks) q.at_ (.pointer (some ⟨q.blk, 0, none⟩)) := by
  unfold kidTh insK insTh
  simp only [List.map_append, List.map_cons, List.map_nil, List.filter_map, Function.comp_def]
theorem kidTh_del (ks : List Kid) (a : Nat) : kidTh (delK ks a) = delTh (kidTh ks) a := by
  unfold kidTh delK delTh
  simp only [List.filter_map, Function.comp_def]
theorem mem_insK {ks : List Kid} {q r : Kid} (h : r ∈ insK ks q) : r = q ∨ r ∈ ks := by
  unfold insK at h
  simp only [List.mem_append, List.mem_filter, List.mem_singleton] at h
  rcases h with (h | h) | h
  · exact .inr h.1
  · exact .inl h
  · exact .inr h.1
theorem mem_insK_iff {ks : List Kid} {q r : Kid} : r ∈ insK ks q ↔ r = q ∨ (r ∈ ks ∧ r.at_ ≠ q.at_) := by
  unfold insK
  simp only [List.mem_append, List.mem_filter, List.mem_singleton, decide_eq_true_eq]
  constructor
  · rintro ((h | h) | h)
    · exact .inr ⟨h.1, by omega⟩
    · exact .inl h
    · exact .inr ⟨h.1, by omega⟩
  · rintro (h | ⟨h, h2⟩)
    · exact .inl (.inr h)
    · rcases Nat.lt_or_ge r.at_ q.at_ with h3 | h3
      · exact .inl (.inl ⟨h, h3⟩)
      · exact .inr ⟨h, by omega⟩
theorem insK_sorted {ks : List Kid} {q : Kid} (h : ks.Pairwise fun a b => a.at_ < b.at_) : (insK ks q).Pairwise fun a b => a.at_ < b.at_ := by
  unfold insK
  rw [List.pairwise_append, List.pairwise_append]
  refine ⟨⟨h.filter _, List.pairwise_singleton _ _, ?_⟩, h.filter _, ?_⟩
  · intro a ha b hb
    rw [List.mem_singleton] at hb
    subst hb
    simpa using (List.mem_filter.1 ha).2
  · intro a ha b hb
    have hb2 : q.at_ < b.at_ := by simpa using (List.mem_filter.1 hb).2
    rcases List.mem_append.1 ha with ha | ha
    · have : a.at_ < q.at_ := by simpa using (List.mem_filter.1 ha).2
      omega
    · rw [List.mem_singleton] at ha
      subst ha
      exact hb2
theorem delK_sorted {ks : List Kid} {a : Nat} (h : ks.Pairwise fun a b => a.at_ < b.at_) : (delK ks a).Pairwise fun a b => a.at_ < b.at_ := h.filter _
/-! ### A fork -/
/-- Block g is a node with just these kids. -/
def Fork (w : World) (k g lv : Nat) (pre : List Nat) (ks : List Kid) : Prop :=
  ∃ (A : Option Addr) (c gs : Nat), lv < 64 ∧ Pt w A k pre ∧ k ≤ c ∧ (∀ b, b ≤ lv → addrOf pre b = 0) ∧ (∀ q ∈ ks, NodeOf w k q.blk q.lv q.pre q.es) ∧ (∀ q ∈ ks, q.lv < lv) ∧
    (∀ q ∈ ks, addrOf q.pre lv = q.at_ ∧ ∀ b, lv < b → addrOf q.pre b = addrOf pre b) ∧ (ks.Pairwise fun q r => q.at_ < r.at_) ∧ 2 ≤ ks.length ∧ SlotsAt_n w gs k (kidTh ks) ∧
    Blk w g 139 (nodeCells lv A k c 0 (some ⟨gs, 0, none⟩) (sumsOf (kidEs ks)))
theorem Fork.node {w : World} {k g lv : Nat} {pre : List Nat} {ks : List Kid} (h : Fork w k g lv pre ks) : NodeOf w k g lv pre (kidEs ks) := by
  obtain ⟨A, c, gs, h1, h2, h3, h4, h5, h6, h7, h8, h9, h10, h11⟩ := h
  exact .fork ks h1 h2 h3 h4 h5 h6 h7 h8 h9 h10 h11
theorem Fork.stay {w w' : World} {k g lv : Nat} {pre : List Nat} {ks : List Kid} (h : Fork w k g lv pre ks) (hb : Below w.heap.size w w') : Fork w' k g lv pre ks := by
  obtain ⟨A, c, gs, h1, h2, h3, h4, h5, h6, h7, h8, h9, h10, h11⟩ := h
  exact ⟨A, c, gs, h1, h2.below hb, h3, h4, fun q hq => (h5 q hq).stay hb, h6, h7, h8, h9, h10.below hb, h11.below hb⟩
/-- A node is an entry or a fork. -/
theorem NodeOf.cases' {w : World} {k g : Nat} {lv : Int} {pre : List Nat} {es : List Ent} (h : NodeOf w k g lv pre es) :
    (∃ A c v, lv = -1 ∧ es = [(pre, v)] ∧ v < 2 ^ 64 ∧ Pt w A k pre ∧ k ≤ c ∧ Blk w g 139 (nodeCells (-1) A k c v none ⟨1, v, v, v⟩)) ∨
    (∃ (m : Nat) (ks : List Kid), lv = (m : Int) ∧ es = kidEs ks ∧ Fork w k g m pre ks) := by
  cases h with
  | leaf hv hp hc hB => exact .inl ⟨_, _, _, rfl, rfl, hv, hp, hc, hB⟩
  | fork ks hlv hp hc hz hk hl ha hs h2 hS hB => exact .inr ⟨_, ks, rfl, rfl, _, _, _, hlv, hp, hc, hz, hk, hl, ha, hs, h2, hS, hB⟩
theorem addr_lt_pow {k : Nat} {p : List Nat} (h : Zp k p) (b : Nat) : addrOf p b < 2 ^ k := by
  have := addrOf_lt p b
  rwa [h.1] at this
end Go.Proofs.Ytkknfnjojamgjaa
