/- Entries in z-order around a point: plain laws. -/
import Derived.Test.YtfkpanpageeklaaFr
import Derived.Test.YtfkpanpageeklaaTrB
set_option linter.unusedSimpArgs false
set_option linter.unusedVariables false
namespace Go.Proofs.Ytfkpanpageeklaa
open Go.RowKit
/-! ### A fork's kids, ahead of a point and behind it -/
section
variable {k : Nat} {p : List Nat} {f : PF}
theorem FK.agree (h : FK k f) (hp : Zp k p) (hc : part f.pre p ≤ (f.lv : Int)) : ∀ b : Nat, f.lv < b → addrOf f.pre b = addrOf p b := by
  intro b hb
  exact (part_le_iff h.pre hp f.lv (by omega)).1 hc b (by omega)
theorem FK.kid_lt (h : FK k f) (hp : Zp k p) (hc : part f.pre p ≤ (f.lv : Int)) {q : Kid} (hq : q ∈ f.ks) (hlt : q.at_ < addrOf p f.lv) : ∀ e ∈ q.es, Zlt e.1 p := by
  intro e he
  obtain ⟨h1, h2, h3⟩ := h.es q hq e he
  exact ⟨f.lv, fun b hb => (h3 b hb).trans (h.agree hp hc b hb), by rw [h2]; exact hlt⟩
theorem FK.kid_gt (h : FK k f) (hp : Zp k p) (hc : part f.pre p ≤ (f.lv : Int)) {q : Kid} (hq : q ∈ f.ks) (hlt : addrOf p f.lv < q.at_) : ∀ e ∈ q.es, Zlt p e.1 := by
  intro e he
  obtain ⟨h1, h2, h3⟩ := h.es q hq e he
  exact ⟨f.lv, fun b hb => ((h3 b hb).trans (h.agree hp hc b hb)).symm, by rw [h2]; exact hlt⟩
end
/-- A node that does not cover a point: all of it is ahead, or all of it behind. -/
theorem miss_side {k : Nat} {lv : Int} {pre p : List Nat} {es : List Ent} (hz : Zp k pre) (hp : Zp k p) (hl : -1 ≤ lv) (hm : lv < part pre p) (hes : ∀ e ∈ es, ∀ b : Nat, lv < (b : Int) → addrOf e.1 b = addrOf pre b) :
    (cmp pre p = -1 ∧ ∀ e ∈ es, Zlt e.1 p) ∨ (cmp pre p = 1 ∧ ∀ e ∈ es, Zlt p e.1) := by
  rcases cmp_cases pre p with h | h | h
  · refine .inl ⟨h, fun e he => ?_⟩
    obtain ⟨a, h1, h2⟩ := (cmp_lt hz hp).1 h
    have := part_unique hz hp h1 (by omega)
    exact ⟨a, fun b hb => (hes e he b (by omega)).trans (h1 b hb), by rw [hes e he a (by omega)]; exact h2⟩
  · exfalso
    obtain rfl := (cmp_eq hz hp).1 h
    rw [part_self hz] at hm
    omega
  · refine .inr ⟨h, fun e he => ?_⟩
    obtain ⟨a, h1, h2⟩ := (cmp_gt hz hp).1 h
    have := part_unique hz hp (fun b hb => (h1 b hb).symm) (by omega)
    exact ⟨a, fun b hb => (h1 b hb).trans (hes e he b (by omega)).symm, by rw [hes e he a (by omega)]; exact h2⟩
/-! ### Places among the kids -/
theorem kid_place {ks : List Kid} (hs : ks.Pairwise fun q r => q.at_ < r.at_) (a : Nat) :
    ∃ j, j ≤ ks.length ∧ (∀ (i : Nat) (q : Kid), ks[i]? = some q → i < j → q.at_ < a) ∧ (∀ (i : Nat) (q : Kid), ks[i]? = some q → j ≤ i → a ≤ q.at_) := by
  induction ks with
  | nil => exact ⟨0, Nat.le_refl _, fun i q h _ => (by simp at h), fun i q h _ => (by simp at h)⟩
  | cons x ks ih =>
    rw [List.pairwise_cons] at hs
    by_cases hx : x.at_ < a
    · obtain ⟨j, h1, h2, h3⟩ := ih hs.2
      refine ⟨j + 1, by simpa using h1, fun i q h hi => ?_, fun i q h hi => ?_⟩
      · cases i with
        | zero => simp at h; subst h; exact hx
        | succ i => exact h2 i q (by simpa using h) (by omega)
      · cases i with
        | zero => omega
        | succ i => exact h3 i q (by simpa using h) (by omega)
    · refine ⟨0, Nat.zero_le _, fun i q h hi => absurd hi (by omega), fun i q h _ => ?_⟩
      cases i with
      | zero => simp at h; subst h; omega
      | succ i =>
        have := hs.1 q (List.mem_of_getElem? (by simpa using h))
        omega
theorem kidAt_of {ks : List Kid} (hs : ks.Pairwise fun q r => q.at_ < r.at_) {j : Nat} {q : Kid} (h : ks[j]? = some q) : kidAt ks q.at_ = some (q.blk, ⟨q.lv, q.pre, q.es⟩) := by
  have hm := List.mem_of_getElem? h
  cases hk : kidAt ks q.at_ with
  | none => exact absurd rfl (kidAt_none hk q hm)
  | some x =>
    obtain ⟨r, hr, hra, rfl⟩ := kidAt_some hk
    obtain ⟨i, hi⟩ := List.getElem?_of_mem hr
    have : i = j := by
      rcases Nat.lt_trichotomy i j with h1 | h1 | h1
      · have := kids_lt hs hi h h1; omega
      · exact h1
      · have := kids_lt hs h hi h1; omega
    subst this
    rw [hi] at h
    injection h with h
    rw [h]
theorem kidAt_no {ks : List Kid} {a : Nat} (h : ∀ (i : Nat) (q : Kid), ks[i]? = some q → q.at_ ≠ a) : kidAt ks a = none := by
  cases hk : kidAt ks a with
  | none => rfl
  | some x =>
    obtain ⟨r, hr, hra, rfl⟩ := kidAt_some hk
    obtain ⟨i, hi⟩ := List.getElem?_of_mem hr
    exact absurd hra (h i r hi)
/-- The kid at an address, and those on either side. -/
theorem kid_split {ks : List Kid} (hs : ks.Pairwise fun q r => q.at_ < r.at_) (a : Nat) :
    (∃ (j : Nat) (q : Kid), ks[j]? = some q ∧ q.at_ = a ∧ kidAt ks a = some (q.blk, ⟨q.lv, q.pre, q.es⟩) ∧ (∀ r ∈ ks.take j, r.at_ < a) ∧ (∀ r ∈ ks.drop (j + 1), a < r.at_)) ∨
    (∃ j : Nat, j ≤ ks.length ∧ kidAt ks a = none ∧ (∀ r ∈ ks.take j, r.at_ < a) ∧ (∀ r ∈ ks.drop j, a < r.at_)) := by
  obtain ⟨j, h1, h2, h3⟩ := kid_place hs a
  have ht : ∀ r ∈ ks.take j, r.at_ < a := by
    intro r hr
    obtain ⟨i, hi, hr⟩ := mem_take_idx hr
    exact h2 i r hr hi
  cases hj : ks[j]? with
  | none =>
    refine .inr ⟨j, h1, kidAt_no fun i q hq e => ?_, ht, fun r hr => ?_⟩
    · rcases Nat.lt_or_ge i j with h | h
      · have := h2 i q hq h; omega
      · have : ks.length ≤ j := by simpa using hj
        rw [List.getElem?_eq_none (by omega)] at hq
        cases hq
    · rw [List.drop_eq_nil_of_le (by simpa using hj)] at hr
      cases hr
  | some q =>
    have hq := h3 j q hj (Nat.le_refl _)
    by_cases he : q.at_ = a
    · subst he
      refine .inl ⟨j, q, hj, rfl, kidAt_of hs hj, ht, fun r hr => ?_⟩
      obtain ⟨i, hi, hr⟩ := mem_drop_idx hr
      exact kids_lt hs hj hr (by omega)
    · refine .inr ⟨j, h1, kidAt_no fun i r hr e => ?_, ht, fun r hr => ?_⟩
      · rcases Nat.lt_trichotomy i j with h | h | h
        · have := h2 i r hr h; omega
        · subst h; rw [hj] at hr; injection hr with hr; subst hr; exact he e
        · have := kids_lt hs hj hr h; omega
      · obtain ⟨i, hi, hr⟩ := mem_drop_idx hr
        rcases Nat.eq_or_lt_of_le hi with h | h
        · subst h; rw [hj] at hr; injection hr with hr; subst hr; omega
        · have := kids_lt hs hj hr h; omega
theorem kidEs_append (a b : List Kid) : kidEs (a ++ b) = kidEs a ++ kidEs b := by unfold kidEs; exact List.flatMap_append
theorem kidEs_cons (q : Kid) (b : List Kid) : kidEs (q :: b) = q.es ++ kidEs b := by unfold kidEs; exact List.flatMap_cons
theorem mem_kidEs {ks : List Kid} {e : Ent} : e ∈ kidEs ks ↔ ∃ q ∈ ks, e ∈ q.es := by unfold kidEs; exact List.mem_flatMap
theorem kidEs_at {ks : List Kid} {j : Nat} {q : Kid} (h : ks[j]? = some q) : kidEs ks = kidEs (ks.take j) ++ (q.es ++ kidEs (ks.drop (j + 1))) := by
  conv => lhs; rw [th_split h]
  rw [kidEs_append, kidEs_cons]
theorem kidEs_place (ks : List Kid) (j : Nat) : kidEs ks = kidEs (ks.take j) ++ kidEs (ks.drop j) := by rw [← kidEs_append, List.take_append_drop]
theorem kidEs_head {ks : List Kid} (hne : ∀ q ∈ ks, q.es ≠ []) {q : Kid} (h : ks[0]? = some q) : (kidEs ks).head? = q.es.head? := by
  cases ks with
  | nil => simp at h
  | cons x ks =>
    simp at h
    subst h
    rw [kidEs_cons]
    have := hne x List.mem_cons_self
    cases hx : x.es with
    | nil => exact absurd hx this
    | cons e l => rfl
theorem kidEs_last {ks : List Kid} (hne : ∀ q ∈ ks, q.es ≠ []) {q : Kid} (h : ks[ks.length - 1]? = some q) : (kidEs ks).getLast? = q.es.getLast? := by
  have h0 : ks.length ≠ 0 := by
    intro h0
    rw [List.length_eq_zero_iff.1 h0] at h
    simp at h
  rw [kidEs_at h, show ks.drop (ks.length - 1 + 1) = [] from List.drop_eq_nil_of_le (by omega), show kidEs [] = [] from rfl, List.append_nil]
  have := hne q (List.mem_of_getElem? h)
  rw [List.getLast?_append]
  obtain ⟨e, he⟩ := Option.isSome_iff_exists.1 (List.getLast?_isSome.2 this)
  rw [he]
  rfl
/-! ### What stands around a point in a list in z-order -/
/-- A list in two: what is ahead of a point; what is not. -/
structure Cut2 (p : List Nat) (es A B : List Ent) : Prop where
  eq : es = A ++ B
  lo : ∀ e ∈ A, Zlt e.1 p
  hi : ∀ e ∈ B, ¬ Zlt e.1 p
/-- A list in two: what is not behind a point; what is. -/
structure Cut3 (p : List Nat) (es A B : List Ent) : Prop where
  eq : es = A ++ B
  lo : ∀ e ∈ A, ¬ Zlt p e.1
  hi : ∀ e ∈ B, Zlt p e.1
/-- A list in three: what is ahead of a point, what may be either, what is behind it. -/
structure Mid (p : List Nat) (es A es' B : List Ent) : Prop where
  eq : es = A ++ (es' ++ B)
  lo : ∀ e ∈ A, Zlt e.1 p
  hi : ∀ e ∈ B, Zlt p e.1
section
variable {k : Nat} {p : List Nat} {es A es' B : List Ent}
theorem Mid.start (p : List Nat) (es : List Ent) : Mid p es [] es [] := ⟨by simp, fun e h => (by cases h), fun e h => (by cases h)⟩
theorem Mid.kid (h : Mid p es A es' B) {f : PF} (hf : FK k f) (hp : Zp k p) (hc : part f.pre p ≤ (f.lv : Int)) (he : es' = kidEs f.ks) {j : Nat} {q : Kid} (hq : f.ks[j]? = some q) (hlo : ∀ r ∈ f.ks.take j, r.at_ < addrOf p f.lv) (hhi : ∀ r ∈ f.ks.drop (j + 1), addrOf p f.lv < r.at_) :
    Mid p es (A ++ kidEs (f.ks.take j)) q.es (kidEs (f.ks.drop (j + 1)) ++ B) := by
  subst he
  refine ⟨?_, fun e h' => ?_, fun e h' => ?_⟩
  · rw [h.eq, kidEs_at hq]
    simp only [List.append_assoc]
  · rcases List.mem_append.1 h' with h' | h'
    · exact h.lo e h'
    · obtain ⟨r, hr, he⟩ := mem_kidEs.1 h'
      exact hf.kid_lt hp hc (List.mem_of_mem_take hr) (hlo r hr) e he
  · rcases List.mem_append.1 h' with h' | h'
    · obtain ⟨r, hr, he⟩ := mem_kidEs.1 h'
      exact hf.kid_gt hp hc (List.mem_of_mem_drop hr) (hhi r hr) e he
    · exact h.hi e h'
theorem Mid.gap (h : Mid p es A es' B) {f : PF} (hf : FK k f) (hp : Zp k p) (hc : part f.pre p ≤ (f.lv : Int)) (he : es' = kidEs f.ks) {j : Nat} (hlo : ∀ r ∈ f.ks.take j, r.at_ < addrOf p f.lv) (hhi : ∀ r ∈ f.ks.drop j, addrOf p f.lv < r.at_) :
    Mid p es (A ++ kidEs (f.ks.take j)) [] (kidEs (f.ks.drop j) ++ B) := by
  subst he
  refine ⟨?_, fun e h' => ?_, fun e h' => ?_⟩
  · rw [h.eq, kidEs_place f.ks j]
    simp only [List.append_assoc, List.nil_append]
  · rcases List.mem_append.1 h' with h' | h'
    · exact h.lo e h'
    · obtain ⟨r, hr, he⟩ := mem_kidEs.1 h'
      exact hf.kid_lt hp hc (List.mem_of_mem_take hr) (hlo r hr) e he
  · rcases List.mem_append.1 h' with h' | h'
    · obtain ⟨r, hr, he⟩ := mem_kidEs.1 h'
      exact hf.kid_gt hp hc (List.mem_of_mem_drop hr) (hhi r hr) e he
    · exact h.hi e h'
theorem Mid.lt (h : Mid p es A es' B) (hl : ∀ e ∈ es', Zlt e.1 p) : Mid p es (A ++ es') [] B := by
  refine ⟨by rw [h.eq]; simp, fun e h' => ?_, h.hi⟩
  rcases List.mem_append.1 h' with h' | h'
  · exact h.lo e h'
  · exact hl e h'
theorem Mid.gt (h : Mid p es A es' B) (hl : ∀ e ∈ es', Zlt p e.1) : Mid p es A [] (es' ++ B) := by
  refine ⟨by rw [h.eq]; simp, h.lo, fun e h' => ?_⟩
  rcases List.mem_append.1 h' with h' | h'
  · exact hl e h'
  · exact h.hi e h'
theorem Mid.cut2 (h : Mid p es A [] B) : Cut2 p es A B := ⟨by simpa using h.eq, h.lo, fun e he hl => zlt_asymm hl (h.hi e he)⟩
theorem Mid.cut3 (h : Mid p es A [] B) : Cut3 p es A B := ⟨by simpa using h.eq, fun e he hl => zlt_asymm hl (h.lo e he), h.hi⟩
theorem Mid.one2 {v : Nat} (h : Mid p es A [(p, v)] B) : Cut2 p es A ((p, v) :: B) := by
  refine ⟨by simpa using h.eq, h.lo, fun e he hl => ?_⟩
  rcases List.mem_cons.1 he with rfl | he
  · exact zlt_irrefl _ hl
  · exact zlt_asymm hl (h.hi e he)
theorem Mid.one3 {v : Nat} (h : Mid p es A [(p, v)] B) : Cut3 p es (A ++ [(p, v)]) B := by
  refine ⟨by simpa using h.eq, fun e he hl => ?_, h.hi⟩
  rcases List.mem_append.1 he with he | he
  · exact zlt_asymm hl (h.lo e he)
  · rw [List.mem_singleton] at he
    subst he
    exact zlt_irrefl _ hl
/-- The place of the first one that isn't ahead of a point. -/
def fromI (es : List Ent) (p : List Nat) : Nat := (es.takeWhile fun e => decide (cmp e.1 p < 0)).length
theorem Cut2.place (h : Cut2 p es A B) (hz : ∀ e ∈ es, Zp k e.1) (hp : Zp k p) : fromI es p = A.length ∧ es[fromI es p]? = B.head? := by
  have h1 : fromI es p = A.length := by
    unfold fromI
    rw [h.eq, List.takeWhile_append_of_pos]
    · have : (B.takeWhile fun e => decide (cmp e.1 p < 0)) = [] := by
        cases hB : B with
        | nil => rfl
        | cons b l =>
          have hb : b ∈ B := by rw [hB]; exact List.mem_cons_self
          have hzb : Zp k b.1 := hz b (by rw [h.eq]; exact List.mem_append_right _ hb)
          have hc : ¬ cmp b.1 p < 0 := by
            intro hc
            rcases cmp_cases b.1 p with h1 | h1 | h1
            · exact h.hi b hb ((cmp_lt hzb hp).1 h1)
            · omega
            · omega
          rw [List.takeWhile_cons_of_neg (by simpa using hc)]
      rw [this]
      simp
    · intro e he
      have hze : Zp k e.1 := hz e (by rw [h.eq]; exact List.mem_append_left _ he)
      rw [(cmp_lt hze hp).2 (h.lo e he)]
      decide
  refine ⟨h1, ?_⟩
  rw [h1, h.eq, List.getElem?_append_right (Nat.le_refl _), Nat.sub_self, List.head?_eq_getElem?]
theorem fromI_le (es : List Ent) (p : List Nat) : fromI es p ≤ es.length := by
  unfold fromI
  exact (List.takeWhile_sublist _).length_le
end
end Go.Proofs.Ytfkpanpageeklaa
