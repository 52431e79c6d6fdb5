/- Nodes: shapes, made, forks. -/
import Derived.Test.YtlgdllohmmmegaaNdA
import Derived.StillTailTactics
set_option linter.unusedSimpArgs false
set_option linter.unusedVariables false
namespace Go.Proofs.Ytlgdllohmmmegaa
open Go.RowKit
theorem Blk.set5 {w : World} {g : Nat} {t : TypeId} {a b c d e x0 x1 x2 x3 x4 : Value} (h : Blk w g t #[a, b, c, d, e]) :
    Blk (((((w.setCell ⟨g, 0, none⟩ x0).setCell ⟨g, 1, none⟩ x1).setCell ⟨g, 2, none⟩ x2).setCell ⟨g, 3, none⟩ x3).setCell ⟨g, 4, none⟩ x4) g t #[x0, x1, x2, x3, x4] :=
  ((((h.set1 x0).set1 x1).set1 x2).set1 x3).set1 x4
theorem cell_far5 {w : World} {b g i0 i1 i2 i3 i4 l : Nat} {x0 x1 x2 x3 x4 : Value} (hne : g ≠ b) :
    (((((w.setCell ⟨b, i0, none⟩ x0).setCell ⟨b, i1, none⟩ x1).setCell ⟨b, i2, none⟩ x2).setCell ⟨b, i3, none⟩ x3).setCell ⟨b, i4, none⟩ x4).cell? ⟨g, l, none⟩ = w.cell? ⟨g, l, none⟩ :=
  (cell_far1 hne).trans ((cell_far1 hne).trans ((cell_far1 hne).trans ((cell_far1 hne).trans (cell_far1 hne))))
theorem below_set5 {B g : Nat} {a w : World} {x0 x1 x2 x3 x4 : Value} (h : Below B a w) (hg : B ≤ g) :
    Below B a (((((w.setCell ⟨g, 0, none⟩ x0).setCell ⟨g, 1, none⟩ x1).setCell ⟨g, 2, none⟩ x2).setCell ⟨g, 3, none⟩ x3).setCell ⟨g, 4, none⟩ x4) :=
  ((((h.setCell hg _).setCell hg _).setCell hg _).setCell hg _).setCell hg _
theorem own_far5 {w : World} {base g : Nat} {e : TypeId} {size : Nat} {v : Value} {n : Nat} {xs : List Value} {x0 x1 x2 x3 x4 : Value} (h : w.ownsRow base e size v n xs) (hg : g < base) :
    (((((w.setCell ⟨g, 0, none⟩ x0).setCell ⟨g, 1, none⟩ x1).setCell ⟨g, 2, none⟩ x2).setCell ⟨g, 3, none⟩ x3).setCell ⟨g, 4, none⟩ x4).ownsRow base e size v n xs :=
  ownsRow_setCell_below (ownsRow_setCell_below (ownsRow_setCell_below (ownsRow_setCell_below (ownsRow_setCell_below h (a := ⟨g, 0, none⟩) hg _) (a := ⟨g, 1, none⟩) hg _) (a := ⟨g, 2, none⟩) hg _) (a := ⟨g, 3, none⟩) hg _) (a := ⟨g, 4, none⟩) hg _
theorem kidEs_take {ks : List Kid} {j : Nat} {q : Kid} (h : ks[j]? = some q) : kidEs (ks.take (j + 1)) = kidEs (ks.take j) ++ q.es := by
  unfold kidEs
  rw [List.take_add_one, h]
  simp
theorem kidEs_ne {ks : List Kid} {j : Nat} {q : Kid} (h : ks[j]? = some q) (hne : q.es ≠ []) : kidEs (ks.take (j + 1)) ≠ [] := by
  rw [kidEs_take h]; simp [hne]
theorem Blk.set4_7 {w : World} {g : Nat} {t : TypeId} {a0 a1 a2 a3 a b c d x0 x1 x2 x3 : Value} (h : Blk w g t #[a0, a1, a2, a3, a, b, c, d]) :
    Blk ((((w.setCell ⟨g, 4, none⟩ x0).setCell ⟨g, 5, none⟩ x1).setCell ⟨g, 6, none⟩ x2).setCell ⟨g, 7, none⟩ x3) g t #[a0, a1, a2, a3, x0, x1, x2, x3] :=
  (((h.set1 x0).set1 x1).set1 x2).set1 x3
theorem Blk.sums {w : World} {g : Nat} {t : TypeId} {lv : Int} {A : Option Addr} {k c v : Nat} {kids : Option Addr} {s : Sum4} (h : Blk w g t (nodeCells lv A k c v kids s)) (s' : Sum4) :
    Blk ((((w.setCell ⟨g, 4, none⟩ (.int .u64 (s'.c : Int))).setCell ⟨g, 5, none⟩ (.int .u64 (s'.s : Int))).setCell ⟨g, 6, none⟩ (.int .u64 (s'.mn : Int))).setCell ⟨g, 7, none⟩ (.int .u64 (s'.mx : Int))) g t (nodeCells lv A k c v kids s') := by
  unfold nodeCells at h ⊢
  exact h.set4_7
theorem below_set4 {B g i0 i1 i2 i3 : Nat} {a w : World} {x0 x1 x2 x3 : Value} (h : Below B a w) (hg : B ≤ g) :
    Below B a ((((w.setCell ⟨g, i0, none⟩ x0).setCell ⟨g, i1, none⟩ x1).setCell ⟨g, i2, none⟩ x2).setCell ⟨g, i3, none⟩ x3) :=
  (((h.setCell hg _).setCell hg _).setCell hg _).setCell hg _
theorem own_far4 {w : World} {base g i0 i1 i2 i3 : Nat} {e : TypeId} {size : Nat} {v : Value} {n : Nat} {xs : List Value} {x0 x1 x2 x3 : Value} (h : w.ownsRow base e size v n xs) (hg : g < base) :
    ((((w.setCell ⟨g, i0, none⟩ x0).setCell ⟨g, i1, none⟩ x1).setCell ⟨g, i2, none⟩ x2).setCell ⟨g, i3, none⟩ x3).ownsRow base e size v n xs :=
  ownsRow_setCell_below (ownsRow_setCell_below (ownsRow_setCell_below (ownsRow_setCell_below h (a := ⟨g, i0, none⟩) hg _) (a := ⟨g, i1, none⟩) hg _) (a := ⟨g, i2, none⟩) hg _) (a := ⟨g, i3, none⟩) hg _
theorem wrap_u64_nat (a b : Nat) : IntKind.u64.wrap ((a : Int) + (b : Int)) = (((a + b) % 2 ^ 64 : Nat) : Int) := by
  rw [IntKind.wrap_u64]; omega
/-! ### Cutting -/
theorem bit_cutc (m c b : Nat) : bit (cutc m c) b = if b < m then 0 else bit c b := by
  unfold bit cutc
  split
  · rename_i h
    obtain ⟨d, rfl⟩ : ∃ d, m = b + (d + 1) := ⟨m - b - 1, by omega⟩
    have : c / 2 ^ (b + (d + 1)) * 2 ^ (b + (d + 1)) = (c / 2 ^ (b + (d + 1)) * 2 ^ d * 2) * 2 ^ b := by
      rw [Nat.pow_add, Nat.pow_succ]
      generalize c / (2 ^ b * (2 ^ d * 2)) = X
      generalize 2 ^ b = B
      generalize 2 ^ d = D
      simp only [Nat.mul_comm, Nat.mul_left_comm, Nat.mul_assoc]
    rw [this, Nat.mul_div_cancel _ (Nat.two_pow_pos b), Nat.mul_mod_left]
  · rename_i h
    obtain ⟨d, rfl⟩ : ∃ d, b = m + d := ⟨b - m, by omega⟩
    rw [Nat.pow_add, ← Nat.div_div_eq_div_mul, Nat.mul_div_cancel _ (Nat.two_pow_pos m), Nat.div_div_eq_div_mul]
theorem foldl_zero (b : Nat) : ∀ (p : List Nat), (∀ c ∈ p, bit c b = 0) → p.foldl (fun a c => 2 * a + bit c b) 0 = 0
  | [], _ => rfl
  | c :: p, h => by
    rw [List.foldl_cons, h c List.mem_cons_self]
    exact foldl_zero b p fun c hc => h c (List.mem_cons_of_mem _ hc)
theorem foldl_cut (m b : Nat) (h : m ≤ b) : ∀ (p : List Nat) (a : Nat), (cut m p).foldl (fun a c => 2 * a + bit c b) a = p.foldl (fun a c => 2 * a + bit c b) a
  | [], _ => rfl
  | c :: p, a => by
    show (cut m p).foldl _ (2 * a + bit (cutc m c) b) = p.foldl _ (2 * a + bit c b)
    rw [bit_cutc, if_neg (by omega), foldl_cut m b h p]
theorem addr_cut_lo {m b : Nat} (p : List Nat) (h : b < m) : addrOf (cut m p) b = 0 := by
  unfold addrOf
  apply foldl_zero
  intro c hc
  obtain ⟨d, _, rfl⟩ := List.mem_map.1 hc
  rw [bit_cutc, if_pos h]
theorem addr_cut_hi {m b : Nat} (p : List Nat) (h : m ≤ b) : addrOf (cut m p) b = addrOf p b := foldl_cut m b h p 0
theorem zp_cut {k m : Nat} {p : List Nat} (h : Zp k p) : Zp k (cut m p) := by
  refine ⟨by unfold cut; rw [List.length_map]; exact h.1, fun x hx => ?_⟩
  obtain ⟨d, hd, rfl⟩ := List.mem_map.1 hx
  exact cutc_lt m d (h.2 d hd)
/-! ### Kids in their places -/
def insK (ks : List Kid) (q : Kid) : List Kid := ks.filter (fun r => decide (r.at_ < q.at_)) ++ [q] ++ ks.filter (fun r => decide (q.at_ < r.at_))
def delK (ks : List Kid) (a : Nat) : List Kid := ks.filter fun r => decide (r.at_ ≠ a)
theorem kidTh_ins (ks : List Kid) (q : Kid) : kidTh (insK ks q) = insTh (kidTh ks) q.at_ (.pointer (some ⟨q.blk, 0, none⟩)) := by
  unfold kidTh insK insTh
  simp only [List.map_append, List.map_cons, List.map_nil, List.filter_map, Function.comp_def]
theorem kidTh_del (ks : List Kid) (a : Nat) : kidTh (delK ks a) = delTh (kidTh ks) a := by
  unfold kidTh delK delTh
  simp only [List.filter_map, Function.comp_def]
theorem mem_insK {ks : List Kid} {q r : Kid} (h : r ∈ insK ks q) : r = q ∨ r ∈ ks := by
  unfold insK at h
  simp only [List.mem_append, List.mem_filter, List.mem_singleton] at h
  rcases h with (h | h) | h
  · exact .inr h.1
  · exact .inl h
  · exact .inr h.1
theorem mem_insK_iff {ks : List Kid} {q r : Kid} : r ∈ insK ks q ↔ r = q ∨ (r ∈ ks ∧ r.at_ ≠ q.at_) := by
  unfold insK
  simp only [List.mem_append, List.mem_filter, List.mem_singleton, decide_eq_true_eq]
  constructor
  · rintro ((h | h) | h)
    · exact .inr ⟨h.1, by omega⟩
    · exact .inl h
    · exact .inr ⟨h.1, by omega⟩
  · rintro (h | ⟨h, h2⟩)
    · exact .inl (.inr h)
    · rcases Nat.lt_or_ge r.at_ q.at_ with h3 | h3
      · exact .inl (.inl ⟨h, h3⟩)
      · exact .inr ⟨h, by omega⟩
theorem insK_sorted {ks : List Kid} {q : Kid} (h : ks.Pairwise fun a b => a.at_ < b.at_) : (insK ks q).Pairwise fun a b => a.at_ < b.at_ := by
  unfold insK
  rw [List.pairwise_append, List.pairwise_append]
  refine ⟨⟨h.filter _, List.pairwise_singleton _ _, ?_⟩, h.filter _, ?_⟩
  · intro a ha b hb
    rw [List.mem_singleton] at hb
    subst hb
    simpa using (List.mem_filter.1 ha).2
  · intro a ha b hb
    have hb2 : q.at_ < b.at_ := by simpa using (List.mem_filter.1 hb).2
    rcases List.mem_append.1 ha with ha | ha
    · have : a.at_ < q.at_ := by simpa using (List.mem_filter.1 ha).2
      omega
    · rw [List.mem_singleton] at ha
      subst ha
      exact hb2
theorem delK_sorted {ks : List Kid} {a : Nat} (h : ks.Pairwise fun a b => a.at_ < b.at_) : (delK ks a).Pairwise fun a b => a.at_ < b.at_ := h.filter _
/-! ### A fork -/
theorem addr_lt_pow {k : Nat} {p : List Nat} (h : Zp k p) (b : Nat) : addrOf p b < 2 ^ k := by
  have := addrOf_lt p b
  rwa [h.1] at this
end Go.Proofs.Ytlgdllohmmmegaa
