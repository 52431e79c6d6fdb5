/- rank: two nodes of different points as one. -/
import Derived.Test.YtfkpanpageeklaaWkS
import Derived.Test.YtfkpanpageeklaaLwC
set_option linter.unusedSimpArgs false
set_option linter.unusedVariables false
namespace Go.Proofs.Ytfkpanpageeklaa
open Go.RowKit
/-- A node whose entries agree with a point from a level on stands below that level. -/
theorem under {w : World} {k g m : Nat} {lv : Int} {pre z : List Nat} {es : List Ent} (h : NodeOf w k g lv pre es) (ha : ∀ x ∈ es, ∀ b, m ≤ b → addrOf x.1 b = addrOf z b) : lv < (m : Int) ∧ ∀ b, m ≤ b → addrOf pre b = addrOf z b := by
  obtain ⟨i1, i2, i3, i4, i5, i6, i7⟩ := h.info
  have hlv : lv < (m : Int) := by
    rcases h.cases' with ⟨A, c, v, rfl, _⟩ | ⟨l, ks, rfl, rfl, hF⟩
    · omega
    · rcases Nat.lt_or_ge l m with h | h
      · omega
      · exfalso
        have hfk : FK k ⟨g, l, pre, ks⟩ := Fork.fk (f := ⟨g, l, pre, ks⟩) hF
        have h2 := hF.two
        have hm0 : ks[0] ∈ ks := List.getElem_mem (by omega)
        have hm1 : ks[1] ∈ ks := List.getElem_mem (by omega)
        have hlt := List.pairwise_iff_getElem.1 hF.sorted 0 1 (by omega) (by omega) (by omega)
        obtain ⟨x, hx⟩ := List.exists_mem_of_ne_nil _ (hF.kid _ hm0).1.info.2.1
        obtain ⟨y, hy⟩ := List.exists_mem_of_ne_nil _ (hF.kid _ hm1).1.info.2.1
        have h3 : addrOf x.1 l = ks[0].at_ := (hfk.es _ hm0 x hx).2.1
        have h4 : addrOf y.1 l = ks[1].at_ := (hfk.es _ hm1 y hy).2.1
        have h5 := ha x (mem_kidEs.2 ⟨_, hm0, hx⟩) l h
        have h6 := ha y (mem_kidEs.2 ⟨_, hm1, hy⟩) l h
        omega
  refine ⟨hlv, fun b hb => ?_⟩
  obtain ⟨x, hx⟩ := List.exists_mem_of_ne_nil _ i2
  rw [← (i5 x hx).2.2 b (by omega)]
  exact ha x hx b hb
theorem kidAt_insU {ks : List Kid} {q : Kid} : kidAt (insK ks q) q.at_ = some (q.blk, ⟨q.lv, q.pre, q.es⟩) := by
  unfold kidAt insK
  rw [List.append_assoc, List.find?_append]
  have h1 : (ks.filter fun r => decide (r.at_ < q.at_)).find? (fun r => decide (r.at_ = q.at_)) = none := by
    rw [List.find?_eq_none]
    intro r hr
    have := (List.mem_filter.1 hr).2
    simp at this ⊢
    omega
  rw [h1]
  simp
theorem kidAt_insU_ne {ks : List Kid} {q : Kid} {a : Nat} (ha : a ≠ q.at_) : kidAt (insK ks q) a = kidAt ks a := by
  have key : ∀ (l : List Kid), ((l.filter fun r => decide (r.at_ < q.at_)) ++ [q] ++ (l.filter fun r => decide (q.at_ < r.at_))).find? (fun r => decide (r.at_ = a)) = if a < q.at_ then (l.filter fun r => decide (r.at_ < q.at_)).find? (fun r => decide (r.at_ = a)) else (l.filter fun r => decide (q.at_ < r.at_)).find? (fun r => decide (r.at_ = a)) := by
    intro l
    rw [List.append_assoc, List.find?_append]
    split
    · rename_i h
      cases hf : (l.filter fun r => decide (r.at_ < q.at_)).find? (fun r => decide (r.at_ = a)) with
      | some r => rfl
      | none =>
        simp only [Option.none_or]
        rw [List.find?_eq_none]
        intro r hr
        rcases List.mem_append.1 hr with hr | hr
        · rw [List.mem_singleton.1 hr]; simp; omega
        · have := (List.mem_filter.1 hr).2
          simp at this ⊢
          omega
    · rename_i h
      have h1 : (l.filter fun r => decide (r.at_ < q.at_)).find? (fun r => decide (r.at_ = a)) = none := by
        rw [List.find?_eq_none]
        intro r hr
        have := (List.mem_filter.1 hr).2
        simp at this ⊢
        omega
      rw [h1]
      simp only [Option.none_or, List.singleton_append, List.find?_cons]
      rw [show decide (q.at_ = a) = false by simp; omega]
  have key2 : ∀ (l : List Kid) (P : Kid → Bool), (∀ r, r.at_ = a → P r = true) → (l.filter P).find? (fun r => decide (r.at_ = a)) = l.find? (fun r => decide (r.at_ = a)) := by
    intro l P hP
    induction l with
    | nil => rfl
    | cons r l ih =>
      by_cases hr : r.at_ = a
      · rw [List.filter_cons_of_pos (hP r hr)]
        simp [hr]
      · by_cases hp : P r = true
        · rw [List.filter_cons_of_pos hp]
          simp only [List.find?_cons, hr, decide_false]
          exact ih
        · rw [List.filter_cons_of_neg hp]
          simp only [List.find?_cons, hr, decide_false]
          exact ih
  unfold kidAt insK
  rw [key]
  split
  · rename_i h
    rw [key2 _ _ fun r hr => by simp; omega]
  · rename_i h
    rw [key2 _ _ fun r hr => by simp; omega]
theorem Fork.fk' {w : World} {k g m : Nat} {pre : List Nat} {ks : List Kid} (h : Fork w k g m pre ks) : FK k ⟨g, m, pre, ks⟩ := Fork.fk (f := ⟨g, m, pre, ks⟩) h
theorem mem_ins {w w' : World} {k g g' m : Nat} {pre : List Nat} {ks : List Kid} {q : Kid} (h : Fork w' k g' m pre (insK ks q)) (h0 : Fork w k g m pre ks) (x : Ent) : x ∈ kidEs (insK ks q) ↔ (addrOf x.1 m = q.at_ ∧ x ∈ q.es) ∨ (addrOf x.1 m ≠ q.at_ ∧ x ∈ kidEs ks) := by
  have h1 := h.fk'.mem (e := x) (a := addrOf x.1 m) rfl
  have h2 := h0.fk'.mem (e := x) (a := addrOf x.1 m) rfl
  simp only at h1 h2
  by_cases ha : addrOf x.1 m = q.at_
  · rw [h1, ha, kidAt_insU]
    exact ⟨fun h => .inl ⟨rfl, h⟩, fun h => h.elim (·.2) (fun h => absurd rfl h.1)⟩
  · rw [h1, kidAt_insU_ne ha, ← h2]
    exact ⟨fun h => .inr ⟨ha, h⟩, fun h => h.elim (fun h => absurd h.1 ha) (·.2)⟩
/-- Two nodes as one. -/
def UnOut (w : World) (k : Nat) (ea eb : List Ent) (e : Ending) (w' : World) : Prop :=
  ∃ g lv pre es, e = .returned (.pointer (some ⟨g, 0, none⟩)) ∧ NodeOf w' k g lv pre es ∧ (∀ x, x ∈ es ↔ x ∈ ea ∨ x ∈ eb) ∧ Below w.heap.size w w'
/-- The two share no point. -/
def Apart (ea eb : List Ent) : Prop := ∀ x ∈ ea, ∀ y ∈ eb, x.1 ≠ y.1
theorem kid_small {w : World} {k g m : Nat} {pre : List Nat} {ks : List Kid} (h : Fork w k g m pre ks) {q : Kid} (hq : q ∈ ks) : q.es.length < (kidEs ks).length := by
  obtain ⟨j, hj, rfl⟩ := List.mem_iff_getElem.1 hq
  have h1 := congrArg List.length (kidEs_at (List.getElem?_eq_getElem hj))
  simp only [List.length_append] at h1
  have h2 := h.two
  have hne : ∀ r ∈ ks, 0 < r.es.length := fun r hr => List.length_pos_iff.2 (h.kid r hr).1.info.2.1
  rcases Nat.eq_zero_or_pos j with h0 | h0
  · subst h0
    have h3 : ks[1] ∈ ks.drop (0 + 1) := by
      rw [List.mem_iff_getElem]
      exact ⟨0, by rw [List.length_drop]; omega, by rw [List.getElem_drop]⟩
    have h4 : 0 < (kidEs (ks.drop (0 + 1))).length := by
      obtain ⟨x, hx⟩ := List.exists_mem_of_ne_nil _ (h.kid ks[1] (List.getElem_mem _)).1.info.2.1
      exact List.length_pos_of_mem (mem_kidEs.2 ⟨_, h3, hx⟩)
    omega
  · have h3 : ks[0] ∈ ks.take j := by
      rw [List.mem_iff_getElem]
      exact ⟨0, by rw [List.length_take]; omega, by rw [List.getElem_take]⟩
    have h4 : 0 < (kidEs (ks.take j)).length := by
      obtain ⟨x, hx⟩ := List.exists_mem_of_ne_nil _ (h.kid ks[0] (List.getElem_mem _)).1.info.2.1
      exact List.length_pos_of_mem (mem_kidEs.2 ⟨_, h3, hx⟩)
    omega
/-- What hangs at an address agrees with a point from the fork's level on. -/
theorem kid_agree {w : World} {k g m : Nat} {pre z : List Nat} {ks : List Kid} (h : Fork w k g m pre ks) (hz : Zp k z) (hc : part pre z ≤ (m : Int)) {x : Ent} (hx : x ∈ esOf (kidAt ks (addrOf z m))) : ∀ b, m ≤ b → addrOf x.1 b = addrOf z b := by
  cases hk : kidAt ks (addrOf z m) with
  | none => rw [hk] at hx; simp [esOf] at hx
  | some y =>
    rw [hk] at hx
    obtain ⟨q, hq, hqa, rfl⟩ := kidAt_some hk
    have h1 := h.fk'.es q hq x hx
    have h2 := h.fk'.agree hz hc
    intro b hb
    rcases Nat.eq_or_lt_of_le hb with h3 | h3
    · subst h3
      exact h1.2.1.trans hqa
    · exact (h1.2.2 b h3).trans (h2 b h3)
theorem part_sym {k : Nat} {p q : List Nat} (hp : Zp k p) (hq : Zp k q) : part p q = part q p := by
  have h1 := part_spec p q (hp.1.trans hq.1.symm) hp.2 hq.2
  have h2 := part_spec q p (hq.1.trans hp.1.symm) hq.2 hp.2
  have h3 := (part_le_iff hp hq (part q p) h2.1).2 fun b hb => (h2.2.2.1 b hb).symm
  have h4 := (part_le_iff hq hp (part p q) h1.1).2 fun b hb => (h1.2.2.1 b hb).symm
  omega
/-- A fork with what lay at an address and a node's entries there. -/
theorem un_mem {w w' : World} {k g gn m : Nat} {pre z : List Nat} {ks : List Kid} {q : Kid} {ex : List Ent} (hF : Fork w k g m pre ks) (hn : Fork w' k gn m pre (insK ks q)) (hq : q.at_ = addrOf z m) (hm : ∀ x, x ∈ q.es ↔ x ∈ esOf (kidAt ks (addrOf z m)) ∨ x ∈ ex) (he : ∀ x ∈ ex, addrOf x.1 m = addrOf z m) (x : Ent) : x ∈ kidEs (insK ks q) ↔ x ∈ kidEs ks ∨ x ∈ ex := by
  rw [mem_ins hn hF, hq, hm]
  constructor
  · rintro (⟨h1, h2 | h2⟩ | ⟨h1, h2⟩)
    · exact .inl ((hF.fk'.mem (e := x) h1).2 h2)
    · exact .inr h2
    · exact .inl h2
  · rintro (h | h)
    · by_cases ha : addrOf x.1 m = addrOf z m
      · exact .inl ⟨ha, .inl ((hF.fk'.mem (e := x) ha).1 h)⟩
      · exact .inr ⟨ha, h⟩
    · exact .inl ⟨he x h, .inr h⟩
theorem pair_mem {g g' m : Nat} {lv lv' : Int} {pre pre' : List Nat} {ea eb : List Ent} (hl : addrOf pre m ≠ addrOf pre' m) (x : Ent) : x ∈ kidEs (pairK g g' lv lv' pre pre' ea eb m) ↔ x ∈ ea ∨ x ∈ eb := by
  rw [pairK_eq hl, mem_kidEs]
  split
  · simp
  · simp [or_comm]
end Go.Proofs.Ytfkpanpageeklaa
