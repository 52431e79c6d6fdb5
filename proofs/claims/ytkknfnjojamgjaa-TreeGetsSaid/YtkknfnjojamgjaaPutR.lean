/- Plain lists: Del and Put of the document, on sorted lists of entries. -/
import Derived.Test.YtkknfnjojamgjaaRef06b
set_option linter.unusedSimpArgs false
set_option linter.unusedVariables false
namespace Go.Proofs.Ytkknfnjojamgjaa
open Go.RowKit
/-- Sorted rows of k coordinates. -/
def SortR (k : Nat) (rows : List ER) : Prop := (∀ r ∈ rows, Zp k r.p) ∧ rows.Pairwise fun a b => Zlt a.p b.p
theorem SortR.nil (k : Nat) : SortR k [] := ⟨fun r h => by (cases h), List.Pairwise.nil⟩
theorem cmp_ge {k : Nat} {p q : List Nat} (hp : Zp k p) (hq : Zp k q) : 0 ≤ cmp p q ↔ p = q ∨ Zlt q p := by
  rcases cmp_cases p q with h | h | h
  · rw [h]
    constructor
    · intro h'; omega
    · rintro (h' | h')
      · rw [(cmp_eq hp hq).2 h'] at h; omega
      · rw [(cmp_gt hp hq).2 h'] at h; omega
  · exact ⟨fun _ => .inl ((cmp_eq hp hq).1 h), fun _ => by omega⟩
  · exact ⟨fun _ => .inr ((cmp_gt hp hq).1 h), fun _ => by omega⟩
theorem cmp_neg {k : Nat} {p q : List Nat} (hp : Zp k p) (hq : Zp k q) (h : ¬ 0 ≤ cmp p q) : Zlt p q := by
  rcases cmp_cases p q with h' | h' | h'
  · exact (cmp_lt hp hq).1 h'
  · omega
  · omega
theorem pl_take {k : Nat} {rows : List ER} {p : List Nat} (hS : SortR k rows) (hp : Zp k p) : ∀ r ∈ rows.take (plR rows p), Zlt r.p p := by
  intro r hr
  obtain ⟨i, hi⟩ := List.getElem?_of_mem hr
  have hil := (List.getElem?_eq_some_iff.1 hi).1
  have hiv := (List.getElem?_eq_some_iff.1 hi).2
  rw [List.length_take] at hil
  have hlt : i < plR rows p := by omega
  have := List.not_of_lt_findIdx (p := notAhead p) (xs := rows) hlt
  rw [List.getElem_take] at hiv
  rw [hiv] at this
  unfold notAhead at this
  exact cmp_neg (hS.1 r (List.mem_of_mem_take hr)) hp (by simpa using this)
theorem pl_at {k : Nat} {rows : List ER} {p : List Nat} (hS : SortR k rows) (hp : Zp k p) {r : ER} (h : rows[plR rows p]? = some r) : r.p = p ∨ Zlt p r.p := by
  have hl := (List.getElem?_eq_some_iff.1 h).1
  have hv := (List.getElem?_eq_some_iff.1 h).2
  have := List.findIdx_getElem (p := notAhead p) (xs := rows) (w := hl)
  have hv' : rows[List.findIdx (notAhead p) rows]'hl = r := hv
  rw [hv'] at this
  unfold notAhead at this
  exact (cmp_ge (hS.1 r (List.mem_of_getElem? h)) hp).1 (by simpa using this)
theorem pl_drop {k : Nat} {rows : List ER} {p : List Nat} (hS : SortR k rows) (hp : Zp k p) : ∀ r ∈ rows.drop (plR rows p + 1), Zlt p r.p := by
  intro r hr
  rcases Nat.lt_or_ge (plR rows p) rows.length with hl | hl
  · have h0 : rows[plR rows p]? = some rows[plR rows p] := List.getElem?_eq_getElem hl
    have hd : rows.drop (plR rows p) = rows[plR rows p] :: rows.drop (plR rows p + 1) := List.drop_eq_getElem_cons hl
    have hpw : (rows.drop (plR rows p)).Pairwise fun a b => Zlt a.p b.p := hS.2.sublist (List.drop_sublist _ _)
    rw [hd] at hpw
    have h1 := (List.pairwise_cons.1 hpw).1 r hr
    rcases pl_at hS hp h0 with h2 | h2
    · rw [← h2]; exact h1
    · exact zlt_trans h2 h1
  · rw [List.drop_of_length_le (by omega)] at hr
    cases hr
theorem has_spec {k : Nat} {rows : List ER} {p : List Nat} (hS : SortR k rows) (hp : Zp k p) : (hasR rows p = true ↔ ∃ r, rows[plR rows p]? = some r ∧ r.p = p) ∧ (hasR rows p = true ↔ ∃ r ∈ rows, r.p = p) := by
  have h1 : hasR rows p = true ↔ ∃ r, rows[plR rows p]? = some r ∧ r.p = p := by
    unfold hasR
    cases h : rows[plR rows p]? with
    | none => simp
    | some r =>
      simp only [decide_eq_true_eq, Option.some.injEq, exists_eq_left']
      exact cmp_eq (hS.1 r (List.mem_of_getElem? h)) hp
  refine ⟨h1, h1.trans ⟨fun ⟨r, hr, he⟩ => ⟨r, List.mem_of_getElem? hr, he⟩, fun ⟨r, hr, he⟩ => ?_⟩⟩
  rw [← List.take_append_drop (plR rows p) rows] at hr
  rcases List.mem_append.1 hr with hr | hr
  · have := pl_take hS hp r hr
    rw [he] at this
    exact absurd this (zlt_irrefl p)
  · rcases Nat.lt_or_ge (plR rows p) rows.length with hl | hl
    · rw [List.drop_eq_getElem_cons hl] at hr
      rcases List.mem_cons.1 hr with hr | hr
      · exact ⟨r, by rw [hr]; exact List.getElem?_eq_getElem hl, he⟩
      · have := pl_drop hS hp r hr
        rw [he] at this
        exact absurd this (zlt_irrefl p)
    · rw [List.drop_of_length_le hl] at hr
      cases hr
theorem del_spec {k : Nat} {rows : List ER} {p : List Nat} (hS : SortR k rows) (hp : Zp k p) : SortR k (delR rows p) ∧ ∀ r, r ∈ delR rows p ↔ r ∈ rows ∧ r.p ≠ p := by
  obtain ⟨h1, h2⟩ := has_spec hS hp
  unfold delR
  cases hh : hasR rows p with
  | false =>
    rw [if_neg (by simp)]
    refine ⟨hS, fun r => ⟨fun hr => ⟨hr, fun he => ?_⟩, fun hr => hr.1⟩⟩
    have := h2.2 ⟨r, hr, he⟩
    rw [hh] at this
    cases this
  | true =>
    rw [if_pos rfl]
    obtain ⟨r0, hr0, he0⟩ := h1.1 hh
    have hl := (List.getElem?_eq_some_iff.1 hr0).1
    have hv := (List.getElem?_eq_some_iff.1 hr0).2
    have hsplit : rows = rows.take (plR rows p) ++ (r0 :: rows.drop (plR rows p + 1)) := by
      conv => lhs; rw [← List.take_append_drop (plR rows p) rows, List.drop_eq_getElem_cons hl, hv]
    have hT := pl_take hS hp
    have hD := pl_drop hS hp
    have hmem : ∀ r, r ∈ rows ↔ r ∈ rows.take (plR rows p) ∨ r = r0 ∨ r ∈ rows.drop (plR rows p + 1) := fun r => by
      conv => lhs; rw [hsplit]
      rw [List.mem_append, List.mem_cons]
    refine ⟨⟨fun r hr => ?_, ?_⟩, fun r => ?_⟩
    · rcases List.mem_append.1 hr with hr | hr
      · exact hS.1 r (List.mem_of_mem_take hr)
      · exact hS.1 r (List.mem_of_mem_drop hr)
    · rw [List.pairwise_append]
      refine ⟨hS.2.sublist (List.take_sublist _ _), hS.2.sublist (List.drop_sublist _ _), fun a ha b hb => zlt_trans (hT a ha) (hD b hb)⟩
    · rw [hmem, List.mem_append]
      constructor
      · rintro (h | h)
        · exact ⟨.inl h, fun he => zlt_irrefl p (by have := hT r h; rwa [he] at this)⟩
        · exact ⟨.inr (.inr h), fun he => zlt_irrefl p (by have := hD r h; rwa [he] at this)⟩
      · rintro ⟨h | h | h, hne⟩
        · exact .inl h
        · rw [h] at hne; exact absurd he0 hne
        · exact .inr h
theorem put_spec {k : Nat} {rows : List ER} {q : ER} (hS : SortR k rows) (hq : Zp k q.p) : SortR k (putR rows q) ∧ ∀ r, r ∈ putR rows q ↔ r = q ∨ (r ∈ rows ∧ r.p ≠ q.p) := by
  obtain ⟨hS1, hm⟩ := del_spec hS hq
  have hT := pl_take hS1 hq
  have hD : ∀ r ∈ (delR rows q.p).drop (plR (delR rows q.p) q.p), Zlt q.p r.p := by
    intro r hr
    rcases Nat.lt_or_ge (plR (delR rows q.p) q.p) (delR rows q.p).length with hl | hl
    · rw [List.drop_eq_getElem_cons hl] at hr
      rcases List.mem_cons.1 hr with hr | hr
      · rcases pl_at hS1 hq (List.getElem?_eq_getElem hl) with h1 | h1
        · have := (hm _).1 (List.getElem_mem hl)
          exact absurd h1 this.2
        · rw [hr]; exact h1
      · exact pl_drop hS1 hq r hr
    · rw [List.drop_of_length_le hl] at hr
      cases hr
  unfold putR
  refine ⟨⟨fun r hr => ?_, ?_⟩, fun r => ?_⟩
  · rcases List.mem_append.1 hr with hr | hr
    · rcases List.mem_append.1 hr with hr | hr
      · exact hS1.1 r (List.mem_of_mem_take hr)
      · rw [List.mem_singleton] at hr
        rw [hr]; exact hq
    · exact hS1.1 r (List.mem_of_mem_drop hr)
  · rw [List.pairwise_append, List.pairwise_append]
    refine ⟨⟨hS1.2.sublist (List.take_sublist _ _), List.pairwise_singleton _ _, fun a ha b hb => ?_⟩, hS1.2.sublist (List.drop_sublist _ _), fun a ha b hb => ?_⟩
    · rw [List.mem_singleton] at hb
      rw [hb]; exact hT a ha
    · rcases List.mem_append.1 ha with ha | ha
      · exact zlt_trans (hT a ha) (hD b hb)
      · rw [List.mem_singleton] at ha
        rw [ha]; exact hD b hb
  · rw [List.mem_append, List.mem_append, List.mem_singleton, ← hm r]
    conv => rhs; rhs; rw [← List.take_append_drop (plR (delR rows q.p) q.p) (delR rows q.p)]
    rw [List.mem_append]
    constructor
    · rintro ((h | h) | h)
      · exact .inr (.inl h)
      · exact .inl h
      · exact .inr (.inr h)
    · rintro (h | h | h)
      · exact .inl (.inr h)
      · exact .inl (.inl h)
      · exact .inr h
theorem SortR.ents {k : Nat} {rows : List ER} (h : SortR k rows) : Zsorted (ents rows) := by
  unfold Zsorted Go.Proofs.Ytkknfnjojamgjaa.ents
  rw [List.pairwise_map]
  exact h.2
/-- Entries put one after the other. -/
def allR (k : Nat) (rows : List ER) : List ER := rows.foldl (fun acc r => if r.n = k then putR acc r else acc) []
theorem allR_snoc (k : Nat) (rows : List ER) (r : ER) : allR k (rows ++ [r]) = if r.n = k then putR (allR k rows) r else allR k rows := by
  unfold allR
  rw [List.foldl_append]; rfl
theorem allR_sub (k : Nat) (rows : List ER) : ∀ r ∈ allR k rows, r ∈ rows ∧ r.n = k := by
  suffices h : ∀ (l acc : List ER), (∀ r ∈ acc, r ∈ rows ∧ r.n = k) → (∀ r ∈ l, r ∈ rows) → ∀ r ∈ l.foldl (fun acc r => if r.n = k then putR acc r else acc) acc, r ∈ rows ∧ r.n = k from
    h rows [] (fun r h => by cases h) (fun r h => h)
  intro l
  induction l with
  | nil => intro acc h _; exact h
  | cons x l ih =>
    intro acc h hl
    rw [List.foldl_cons]
    refine ih _ ?_ fun r hr => hl r (List.mem_cons_of_mem _ hr)
    split
    · rename_i hx
      intro r hr
      rcases mem_putR hr with rfl | hr
      · exact ⟨hl _ List.mem_cons_self, hx⟩
      · exact h r hr
    · exact h
theorem delR_len (rows : List ER) (p : List Nat) : (delR rows p).length ≤ rows.length := by
  unfold delR
  split
  · simp; omega
  · exact Nat.le_refl _
theorem putR_len (rows : List ER) (r : ER) : (putR rows r).length ≤ rows.length + 1 := by
  have := delR_len rows r.p
  unfold putR
  simp; omega
theorem allR_len (k : Nat) (rows : List ER) : (allR k rows).length ≤ rows.length := by
  suffices h : ∀ (l acc : List ER), (l.foldl (fun acc r => if r.n = k then putR acc r else acc) acc).length ≤ acc.length + l.length from by
    have := h rows []
    simpa [allR] using this
  intro l
  induction l with
  | nil => intro acc; simp
  | cons x l ih =>
    intro acc
    rw [List.foldl_cons]
    refine Nat.le_trans (ih _) ?_
    split
    · have := putR_len acc x; simp; omega
    · simp
end Go.Proofs.Ytkknfnjojamgjaa
