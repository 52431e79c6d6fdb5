/- The references 01 and 06. -/
import Derived.Test.YtlgdllohmmmegaaNdB
import Derived.Test.YtlgdllohmmmegaaNdA
import Derived.Test.YtlgdllohmmmegaaEnA
set_option linter.unusedSimpArgs false
set_option linter.unusedVariables false
namespace Go.Proofs.Ytlgdllohmmmegaa
section
open Go.RowKit
theorem wrap64_of {n : Int} (h : -9223372036854775808 ≤ n ∧ n ≤ 9223372036854775807) : wrap64 n = n := by unfold wrap64; omega
end
section
open Go.RowKit
/-- The bits from m up, below j. -/
def part_cut (m j z : Nat) : Nat := cutc m (z % 2 ^ j)
theorem part_cut_low (m z : Nat) (hm : m ≤ 64) : part_cut m m z = 0 := by
  unfold part_cut cutc
  rw [Nat.div_eq_of_lt (Nat.mod_lt _ (Nat.two_pow_pos _)), Nat.zero_mul]
theorem part_cut_step {m j : Nat} (z : Nat) (h : m ≤ j) : part_cut m (j + 1) z = part_cut m j z + bit z j * 2 ^ j := by
  unfold part_cut cutc bit
  have h1 : z % 2 ^ (j + 1) = z % 2 ^ j + 2 ^ j * (z / 2 ^ j % 2) := by
    rw [Nat.pow_succ, Nat.mod_mul]
  rw [h1]
  obtain ⟨d, rfl⟩ : ∃ d, j = m + d := ⟨j - m, by omega⟩
  generalize z / 2 ^ (m + d) % 2 = t
  rw [Nat.pow_add]
  have h2 : (z % (2 ^ m * 2 ^ d) + 2 ^ m * 2 ^ d * t) / 2 ^ m = z % (2 ^ m * 2 ^ d) / 2 ^ m + 2 ^ d * t := by
    rw [Nat.mul_assoc, Nat.add_mul_div_left _ _ (Nat.two_pow_pos m)]
  rw [h2, Nat.add_mul]
  congr 1
  simp only [Nat.mul_comm, Nat.mul_left_comm, Nat.mul_assoc]
theorem part_cut_top {m z : Nat} (hz : z < 2 ^ 64) : part_cut m 64 z = cutc m z := by
  unfold part_cut
  rw [Nat.mod_eq_of_lt hz]
theorem part_cut_le (m j z : Nat) : part_cut m j z < 2 ^ j := by
  unfold part_cut cutc
  exact Nat.lt_of_le_of_lt (Nat.div_mul_le_self _ _) (Nat.mod_lt _ (Nat.two_pow_pos _))
end
section
open Go.RowKit
theorem wrap_i64_sm {n : Int} (h0 : 0 ≤ n) (h1 : n ≤ 70368744177664) : IntKind.i64.wrap n = n := by rw [IntKind.wrap_i64]; omega
theorem wrap64_sm {n : Int} (h0 : 0 ≤ n) (h1 : n ≤ 70368744177664) : wrap64 n = n := by rw [wrap64_of (by omega)]
def notAhead (p : List Nat) (r : ER) : Bool := decide (0 ≤ cmp r.p p)
/-- Where a point stands or would stand. -/
def plR (rows : List ER) (p : List Nat) : Nat := rows.findIdx (notAhead p)
def hasR (rows : List ER) (p : List Nat) : Bool := match rows[plR rows p]? with | some r => decide (cmp r.p p = 0) | none => false
theorem plR_found {rows : List ER} {p : List Nat} {j : Nat} {r : ER} (hr : rows[j]? = some r) (h : 0 ≤ cmp r.p p) (hlt : ∀ (i : Nat) (s : ER), i < j → rows[i]? = some s → cmp s.p p < 0) :
    plR rows p = j ∧ hasR rows p = decide (cmp r.p p = 0) := by
  have hj := (List.getElem?_eq_some_iff.1 hr).1
  have hv := (List.getElem?_eq_some_iff.1 hr).2
  have h1 : plR rows p = j := by
    unfold plR
    rw [List.findIdx_eq hj]
    refine ⟨by rw [hv]; unfold notAhead; simpa using h, fun i hi => ?_⟩
    have hil : i < rows.length := by omega
    have := hlt i rows[i] hi (List.getElem?_eq_getElem hil)
    unfold notAhead
    simp; omega
  refine ⟨h1, ?_⟩
  unfold hasR
  rw [h1, hr]
theorem plR_none {rows : List ER} {p : List Nat} (hlt : ∀ (i : Nat) (s : ER), rows[i]? = some s → cmp s.p p < 0) : plR rows p = rows.length ∧ hasR rows p = false := by
  have h1 : plR rows p = rows.length := by
    unfold plR
    rw [List.findIdx_eq_length]
    intro r hr
    obtain ⟨i, hi⟩ := List.getElem?_of_mem hr
    have := hlt i r hi
    unfold notAhead
    simp; omega
  refine ⟨h1, ?_⟩
  unfold hasR
  rw [h1, List.getElem?_eq_none (Nat.le_refl _)]
end
section
open Go.RowKit
def delR (rows : List ER) (p : List Nat) : List ER := if hasR rows p then rows.take (plR rows p) ++ rows.drop (plR rows p + 1) else rows
def putR (rows : List ER) (r : ER) : List ER := (delR rows r.p).take (plR (delR rows r.p) r.p) ++ [r] ++ (delR rows r.p).drop (plR (delR rows r.p) r.p)
theorem flat_take (rows : List ER) (i : Nat) : (rows.flatMap entv).take (i * 2) = (rows.take i).flatMap entv := by
  induction rows generalizing i with
  | nil => simp
  | cons r rows ih =>
    cases i with
    | zero => simp
    | succ i =>
      rw [List.flatMap_cons, List.take_succ_cons, List.flatMap_cons, Nat.add_mul, Nat.add_comm (i * 2), List.take_append, ← ih i, List.take_of_length_le (by simp [entv])]
      simp [entv]
theorem flat_drop (rows : List ER) (i : Nat) : (rows.flatMap entv).drop (i * 2) = (rows.drop i).flatMap entv := by
  induction rows generalizing i with
  | nil => simp
  | cons r rows ih =>
    cases i with
    | zero => simp
    | succ i =>
      rw [List.flatMap_cons, List.drop_succ_cons, Nat.add_mul, Nat.add_comm (i * 2), List.drop_append, ← ih i]
      simp [entv]
theorem one_ents (rows : List ER) : ∀ u ∈ rows.flatMap entv, u.oneCell' = true := by
  intro u hu
  obtain ⟨r, _, hu⟩ := List.mem_flatMap.1 hu
  unfold entv at hu
  simp at hu
  rcases hu with rfl | rfl <;> rfl
theorem hasR_lt {rows : List ER} {p : List Nat} (h : hasR rows p = true) : plR rows p < rows.length := by
  unfold hasR at h
  split at h
  · rename_i r hr
    exact (List.getElem?_eq_some_iff.1 hr).1
  · cases h
theorem plR_le (rows : List ER) (p : List Nat) : plR rows p ≤ rows.length := List.findIdx_le_length
theorem mem_delR {rows : List ER} {p : List Nat} {r : ER} (h : r ∈ delR rows p) : r ∈ rows := by
  unfold delR at h
  split at h
  · rcases List.mem_append.1 h with h | h
    · exact List.mem_of_mem_take h
    · exact List.mem_of_mem_drop h
  · exact h
theorem mem_putR {rows : List ER} {q r : ER} (h : r ∈ putR rows q) : r = q ∨ r ∈ rows := by
  unfold putR at h
  rcases List.mem_append.1 h with h | h
  · rcases List.mem_append.1 h with h | h
    · exact .inr (mem_delR (List.mem_of_mem_take h))
    · exact .inl (by simpa using h)
  · exact .inr (mem_delR (List.mem_of_mem_drop h))
end
section
open Go.RowKit
/-- Sorted rows of k coordinates. -/
def SortR (k : Nat) (rows : List ER) : Prop := (∀ r ∈ rows, Zp k r.p) ∧ rows.Pairwise fun a b => Zlt a.p b.p
theorem SortR.nil (k : Nat) : SortR k [] := ⟨fun r h => by (cases h), List.Pairwise.nil⟩
theorem cmp_ge {k : Nat} {p q : List Nat} (hp : Zp k p) (hq : Zp k q) : 0 ≤ cmp p q ↔ p = q ∨ Zlt q p := by
  rcases cmp_cases p q with h | h | h
  · rw [h]
    constructor
    · intro h'; omega
    · rintro (h' | h')
      · rw [(cmp_eq hp hq).2 h'] at h; omega
      · rw [(cmp_gt hp hq).2 h'] at h; omega
  · exact ⟨fun _ => .inl ((cmp_eq hp hq).1 h), fun _ => by omega⟩
  · exact ⟨fun _ => .inr ((cmp_gt hp hq).1 h), fun _ => by omega⟩
theorem cmp_neg {k : Nat} {p q : List Nat} (hp : Zp k p) (hq : Zp k q) (h : ¬ 0 ≤ cmp p q) : Zlt p q := by
  rcases cmp_cases p q with h' | h' | h'
  · exact (cmp_lt hp hq).1 h'
  · omega
  · omega
theorem pl_take {k : Nat} {rows : List ER} {p : List Nat} (hS : SortR k rows) (hp : Zp k p) : ∀ r ∈ rows.take (plR rows p), Zlt r.p p := by
  intro r hr
  obtain ⟨i, hi⟩ := List.getElem?_of_mem hr
  have hil := (List.getElem?_eq_some_iff.1 hi).1
  have hiv := (List.getElem?_eq_some_iff.1 hi).2
  rw [List.length_take] at hil
  have hlt : i < plR rows p := by omega
  have := List.not_of_lt_findIdx (p := notAhead p) (xs := rows) hlt
  rw [List.getElem_take] at hiv
  rw [hiv] at this
  unfold notAhead at this
  exact cmp_neg (hS.1 r (List.mem_of_mem_take hr)) hp (by simpa using this)
theorem pl_at {k : Nat} {rows : List ER} {p : List Nat} (hS : SortR k rows) (hp : Zp k p) {r : ER} (h : rows[plR rows p]? = some r) : r.p = p ∨ Zlt p r.p := by
  have hl := (List.getElem?_eq_some_iff.1 h).1
  have hv := (List.getElem?_eq_some_iff.1 h).2
  have := List.findIdx_getElem (p := notAhead p) (xs := rows) (w := hl)
  have hv' : rows[List.findIdx (notAhead p) rows]'hl = r := hv
  rw [hv'] at this
  unfold notAhead at this
  exact (cmp_ge (hS.1 r (List.mem_of_getElem? h)) hp).1 (by simpa using this)
theorem pl_drop {k : Nat} {rows : List ER} {p : List Nat} (hS : SortR k rows) (hp : Zp k p) : ∀ r ∈ rows.drop (plR rows p + 1), Zlt p r.p := by
  intro r hr
  rcases Nat.lt_or_ge (plR rows p) rows.length with hl | hl
  · have h0 : rows[plR rows p]? = some rows[plR rows p] := List.getElem?_eq_getElem hl
    have hd : rows.drop (plR rows p) = rows[plR rows p] :: rows.drop (plR rows p + 1) := List.drop_eq_getElem_cons hl
    have hpw : (rows.drop (plR rows p)).Pairwise fun a b => Zlt a.p b.p := hS.2.sublist (List.drop_sublist _ _)
    rw [hd] at hpw
    have h1 := (List.pairwise_cons.1 hpw).1 r hr
    rcases pl_at hS hp h0 with h2 | h2
    · rw [← h2]; exact h1
    · exact zlt_trans h2 h1
  · rw [List.drop_of_length_le (by omega)] at hr
    cases hr
theorem has_spec {k : Nat} {rows : List ER} {p : List Nat} (hS : SortR k rows) (hp : Zp k p) : (hasR rows p = true ↔ ∃ r, rows[plR rows p]? = some r ∧ r.p = p) ∧ (hasR rows p = true ↔ ∃ r ∈ rows, r.p = p) := by
  have h1 : hasR rows p = true ↔ ∃ r, rows[plR rows p]? = some r ∧ r.p = p := by
    unfold hasR
    cases h : rows[plR rows p]? with
    | none => simp
    | some r =>
      simp only [decide_eq_true_eq, Option.some.injEq, exists_eq_left']
      exact cmp_eq (hS.1 r (List.mem_of_getElem? h)) hp
  refine ⟨h1, h1.trans ⟨fun ⟨r, hr, he⟩ => ⟨r, List.mem_of_getElem? hr, he⟩, fun ⟨r, hr, he⟩ => ?_⟩⟩
  rw [← List.take_append_drop (plR rows p) rows] at hr
  rcases List.mem_append.1 hr with hr | hr
  · have := pl_take hS hp r hr
    rw [he] at this
    exact absurd this (zlt_irrefl p)
  · rcases Nat.lt_or_ge (plR rows p) rows.length with hl | hl
    · rw [List.drop_eq_getElem_cons hl] at hr
      rcases List.mem_cons.1 hr with hr | hr
      · exact ⟨r, by rw [hr]; exact List.getElem?_eq_getElem hl, he⟩
      · have := pl_drop hS hp r hr
        rw [he] at this
        exact absurd this (zlt_irrefl p)
    · rw [List.drop_of_length_le hl] at hr
      cases hr
theorem del_spec {k : Nat} {rows : List ER} {p : List Nat} (hS : SortR k rows) (hp : Zp k p) : SortR k (delR rows p) ∧ ∀ r, r ∈ delR rows p ↔ r ∈ rows ∧ r.p ≠ p := by
  obtain ⟨h1, h2⟩ := has_spec hS hp
  unfold delR
  cases hh : hasR rows p with
  | false =>
    rw [if_neg (by simp)]
    refine ⟨hS, fun r => ⟨fun hr => ⟨hr, fun he => ?_⟩, fun hr => hr.1⟩⟩
    have := h2.2 ⟨r, hr, he⟩
    rw [hh] at this
    cases this
  | true =>
    rw [if_pos rfl]
    obtain ⟨r0, hr0, he0⟩ := h1.1 hh
    have hl := (List.getElem?_eq_some_iff.1 hr0).1
    have hv := (List.getElem?_eq_some_iff.1 hr0).2
    have hsplit : rows = rows.take (plR rows p) ++ (r0 :: rows.drop (plR rows p + 1)) := by
      conv => lhs; rw [← List.take_append_drop (plR rows p) rows, List.drop_eq_getElem_cons hl, hv]
    have hT := pl_take hS hp
    have hD := pl_drop hS hp
    have hmem : ∀ r, r ∈ rows ↔ r ∈ rows.take (plR rows p) ∨ r = r0 ∨ r ∈ rows.drop (plR rows p + 1) := fun r => by
      conv => lhs; rw [hsplit]
      rw [List.mem_append, List.mem_cons]
    refine ⟨⟨fun r hr => ?_, ?_⟩, fun r => ?_⟩
    · rcases List.mem_append.1 hr with hr | hr
      · exact hS.1 r (List.mem_of_mem_take hr)
      · exact hS.1 r (List.mem_of_mem_drop hr)
    · rw [List.pairwise_append]
      refine ⟨hS.2.sublist (List.take_sublist _ _), hS.2.sublist (List.drop_sublist _ _), fun a ha b hb => zlt_trans (hT a ha) (hD b hb)⟩
    · rw [hmem, List.mem_append]
      constructor
      · rintro (h | h)
        · exact ⟨.inl h, fun he => zlt_irrefl p (by have := hT r h; rwa [he] at this)⟩
        · exact ⟨.inr (.inr h), fun he => zlt_irrefl p (by have := hD r h; rwa [he] at this)⟩
      · rintro ⟨h | h | h, hne⟩
        · exact .inl h
        · rw [h] at hne; exact absurd he0 hne
        · exact .inr h
theorem put_spec {k : Nat} {rows : List ER} {q : ER} (hS : SortR k rows) (hq : Zp k q.p) : SortR k (putR rows q) ∧ ∀ r, r ∈ putR rows q ↔ r = q ∨ (r ∈ rows ∧ r.p ≠ q.p) := by
  obtain ⟨hS1, hm⟩ := del_spec hS hq
  have hT := pl_take hS1 hq
  have hD : ∀ r ∈ (delR rows q.p).drop (plR (delR rows q.p) q.p), Zlt q.p r.p := by
    intro r hr
    rcases Nat.lt_or_ge (plR (delR rows q.p) q.p) (delR rows q.p).length with hl | hl
    · rw [List.drop_eq_getElem_cons hl] at hr
      rcases List.mem_cons.1 hr with hr | hr
      · rcases pl_at hS1 hq (List.getElem?_eq_getElem hl) with h1 | h1
        · have := (hm _).1 (List.getElem_mem hl)
          exact absurd h1 this.2
        · rw [hr]; exact h1
      · exact pl_drop hS1 hq r hr
    · rw [List.drop_of_length_le hl] at hr
      cases hr
  unfold putR
  refine ⟨⟨fun r hr => ?_, ?_⟩, fun r => ?_⟩
  · rcases List.mem_append.1 hr with hr | hr
    · rcases List.mem_append.1 hr with hr | hr
      · exact hS1.1 r (List.mem_of_mem_take hr)
      · rw [List.mem_singleton] at hr
        rw [hr]; exact hq
    · exact hS1.1 r (List.mem_of_mem_drop hr)
  · rw [List.pairwise_append, List.pairwise_append]
    refine ⟨⟨hS1.2.sublist (List.take_sublist _ _), List.pairwise_singleton _ _, fun a ha b hb => ?_⟩, hS1.2.sublist (List.drop_sublist _ _), fun a ha b hb => ?_⟩
    · rw [List.mem_singleton] at hb
      rw [hb]; exact hT a ha
    · rcases List.mem_append.1 ha with ha | ha
      · exact zlt_trans (hT a ha) (hD b hb)
      · rw [List.mem_singleton] at ha
        rw [ha]; exact hD b hb
  · rw [List.mem_append, List.mem_append, List.mem_singleton, ← hm r]
    conv => rhs; rhs; rw [← List.take_append_drop (plR (delR rows q.p) q.p) (delR rows q.p)]
    rw [List.mem_append]
    constructor
    · rintro ((h | h) | h)
      · exact .inr (.inl h)
      · exact .inl h
      · exact .inr (.inr h)
    · rintro (h | h | h)
      · exact .inl (.inr h)
      · exact .inl (.inl h)
      · exact .inr h
theorem SortR.ents {k : Nat} {rows : List ER} (h : SortR k rows) : Zsorted (ents rows) := by
  unfold Zsorted Go.Proofs.Ytlgdllohmmmegaa.ents
  rw [List.pairwise_map]
  exact h.2
/-- Entries put one after the other. -/
def allR (k : Nat) (rows : List ER) : List ER := rows.foldl (fun acc r => if r.n = k then putR acc r else acc) []
theorem allR_snoc (k : Nat) (rows : List ER) (r : ER) : allR k (rows ++ [r]) = if r.n = k then putR (allR k rows) r else allR k rows := by
  unfold allR
  rw [List.foldl_append]; rfl
theorem allR_sub (k : Nat) (rows : List ER) : ∀ r ∈ allR k rows, r ∈ rows ∧ r.n = k := by
  suffices h : ∀ (l acc : List ER), (∀ r ∈ acc, r ∈ rows ∧ r.n = k) → (∀ r ∈ l, r ∈ rows) → ∀ r ∈ l.foldl (fun acc r => if r.n = k then putR acc r else acc) acc, r ∈ rows ∧ r.n = k from
    h rows [] (fun r h => by cases h) (fun r h => h)
  intro l
  induction l with
  | nil => intro acc h _; exact h
  | cons x l ih =>
    intro acc h hl
    rw [List.foldl_cons]
    refine ih _ ?_ fun r hr => hl r (List.mem_cons_of_mem _ hr)
    split
    · rename_i hx
      intro r hr
      rcases mem_putR hr with rfl | hr
      · exact ⟨hl _ List.mem_cons_self, hx⟩
      · exact h r hr
    · exact h
theorem delR_len (rows : List ER) (p : List Nat) : (delR rows p).length ≤ rows.length := by
  unfold delR
  split
  · simp; omega
  · exact Nat.le_refl _
theorem putR_len (rows : List ER) (r : ER) : (putR rows r).length ≤ rows.length + 1 := by
  have := delR_len rows r.p
  unfold putR
  simp; omega
theorem allR_len (k : Nat) (rows : List ER) : (allR k rows).length ≤ rows.length := by
  suffices h : ∀ (l acc : List ER), (l.foldl (fun acc r => if r.n = k then putR acc r else acc) acc).length ≤ acc.length + l.length from by
    have := h rows []
    simpa [allR] using this
  intro l
  induction l with
  | nil => intro acc; simp
  | cons x l ih =>
    intro acc
    rw [List.foldl_cons]
    refine Nat.le_trans (ih _) ?_
    split
    · have := putR_len acc x; simp; omega
    · simp
end
section
open Go.RowKit
theorem run_slice_mid {P : Program} {t e sz : Nat} (ht : P.underlying t = some (.slice e)) (hz : ∀ w, (sizeOf e).run P w = .ok sz w) (A : Option Addr) (n c i j : Nat) (hij : i ≤ j) (hj : j ≤ c) (w : World) :
    (Instr.slice t (.slice A n c) (some (.int .i64 (i : Int))) (some (.int .i64 (j : Int))) none).run P w = .ok (.slice (cutA A c sz i) (j - i) (c - i)) w := by
  have h0 : (0 : Int) ≤ (i : Int) := by omega
  have h1 : (i : Int) ≤ (j : Int) := by omega
  have h2 : (0 : Int) ≤ (j : Int) := by omega
  have h3 : (j : Int) ≤ (c : Int) := by omega
  simp [Instr.slice, run_underlying ht, Instr.sliceBounds, Instr.sliceBound, asIntOf, h0, h1, h2, h3, hz, cutA]
  rw [if_pos hj, if_pos hij]
theorem calls_args {P : Program} {f : FuncId} {args args' : Array Value} {w : World} {Q : Ending → World → Prop} (h : Calls P f args w Q) (e : args = args') : Calls P f args' w Q := e ▸ h
section
variable {α : Type}
def fl (G : List (List α)) (t : Nat) : Nat := (G.take t).flatten.length
theorem fl_zero (G : List (List α)) : fl G 0 = 0 := by simp [fl]
theorem seg_split {G : List (List α)} {t : Nat} {g : List α} (h : G[t]? = some g) : G = G.take t ++ g :: G.drop (t + 1) := by
  have ht := (List.getElem?_eq_some_iff.1 h).1
  have hg := (List.getElem?_eq_some_iff.1 h).2
  conv => lhs; rw [← List.take_append_drop t G, List.drop_eq_getElem_cons ht, hg]
theorem fl_succ {G : List (List α)} {t : Nat} {g : List α} (h : G[t]? = some g) : fl G (t + 1) = fl G t + g.length := by
  unfold fl
  rw [List.take_add_one, h]
  simp
theorem fl_all (G : List (List α)) {t : Nat} (h : G.length ≤ t) : fl G t = G.flatten.length := by
  unfold fl
  rw [List.take_of_length_le h]
theorem fl_get {G : List (List α)} {t : Nat} {g : List α} (h : G[t]? = some g) {d : Nat} (hd : d < g.length) : G.flatten[fl G t + d]? = g[d]? := by
  unfold fl
  conv => lhs; rw [seg_split h]
  rw [List.flatten_append, List.flatten_cons]
  rw [List.take_left' (by have := (List.getElem?_eq_some_iff.1 h).1; simp; omega)]
  rw [List.getElem?_append_right (by omega), Nat.add_sub_cancel_left, List.getElem?_append_left hd]
theorem fl_le {G : List (List α)} {t : Nat} {g : List α} (h : G[t]? = some g) : fl G t + g.length ≤ G.flatten.length := by
  have : G.flatten.length = (G.take t).flatten.length + (g.length + (G.drop (t + 1)).flatten.length) := by
    conv => lhs; rw [seg_split h]
    simp
  unfold fl
  omega
theorem fl_seg {G : List (List α)} {t : Nat} {g : List α} (h : G[t]? = some g) : (G.flatten.drop (fl G t)).take g.length = g := by
  have e : G.flatten = (G.take t).flatten ++ (g ++ (G.drop (t + 1)).flatten) := by
    conv => lhs; rw [seg_split h]
    rw [List.flatten_append, List.flatten_cons]
  unfold fl
  rw [e, List.drop_left' rfl, List.take_left' rfl]
end
/-- The slice of one kid's entries. -/
def segv (A : Option Addr) (c : Nat) (G : List (List ER)) (t : Nat) : Value := .slice (cutA A c 2 (fl G t)) ((G[t]?.getD []).length) (c - fl G t)
def segvs (A : Option Addr) (c : Nat) (G : List (List ER)) (m : Nat) : List Value := (List.range m).map (segv A c G)
theorem segvs_succ (A : Option Addr) (c : Nat) (G : List (List ER)) (m : Nat) : segvs A c G (m + 1) = segvs A c G m ++ [segv A c G m] := by
  unfold segvs
  rw [List.range_succ, List.map_append]
  rfl
/-- A kid's entries in memory. -/
theorem EntsAt.seg {w : World} {A : Option Addr} {n c t : Nat} {G : List (List ER)} {g : List ER} (h : EntsAt w A n G.flatten) (hnc : n ≤ c) (hg : G[t]? = some g) :
    segv A c G t = .slice (cutA A c 2 (fl G t)) g.length (c - fl G t) ∧ EntsAt w (cutA A c 2 (fl G t)) g.length g ∧ g.length ≤ c - fl G t := by
  have hl := h.len
  have hle := fl_le hg
  refine ⟨by unfold segv; rw [hg]; rfl, ⟨?_, fun r hr => h.2 r ?_⟩, by omega⟩
  · have h1 := h.1.cut (i := fl G t) (c := c) (by omega) hnc
    have h2 := h1.take_ (i := g.length) (by omega)
    rw [flat_drop, flat_take, fl_seg hg] at h2
    exact h2
  · exact List.mem_flatten.2 ⟨g, List.mem_of_getElem? hg, hr⟩
/-- These are the kids' lists at a level. -/
structure Parts (G : List (List ER)) (lv : Nat) : Prop where
  ne : ∀ g ∈ G, g ≠ []
  same : ∀ g ∈ G, ∀ r ∈ g, ∀ s ∈ g, addrOf r.p lv = addrOf s.p lv
  diff : G.Pairwise fun g h => ∀ r ∈ g, ∀ s ∈ h, addrOf r.p lv ≠ addrOf s.p lv
end
end Go.Proofs.Ytlgdllohmmmegaa
