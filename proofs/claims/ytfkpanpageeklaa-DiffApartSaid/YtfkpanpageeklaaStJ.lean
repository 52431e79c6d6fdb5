/- sets: who is in a join; plain laws. -/
import Derived.Test.YtfkpanpageeklaaStB
set_option linter.unusedSimpArgs false
set_option linter.unusedVariables false
namespace Go.Proofs.Ytfkpanpageeklaa
open Go.RowKit
/-- An entry of two lists' join: by a rule where both have its point; else as one has it, where that one's stay. -/
def JM (r : Nat) (l rt bo : Bool) (ea eb : List Ent) (x : Ent) : Prop :=
  (bo = true ∧ ∃ va vb, (x.1, va) ∈ ea ∧ (x.1, vb) ∈ eb ∧ x.2 = stval r va vb) ∨ (l = true ∧ x ∈ ea ∧ ∀ v, (x.1, v) ∉ eb) ∨ (rt = true ∧ x ∈ eb ∧ ∀ v, (x.1, v) ∉ ea)
section
variable {r : Nat} {l rt bo : Bool} {ea eb : List Ent} {x : Ent}
theorem JM.nil_l : JM r l rt bo [] eb x ↔ rt = true ∧ x ∈ eb := by simp [JM]
theorem JM.nil_r : JM r l rt bo ea [] x ↔ l = true ∧ x ∈ ea := by simp [JM]
theorem JM.has (h : JM r l rt bo ea eb x) : (∃ v, (x.1, v) ∈ ea) ∨ ∃ v, (x.1, v) ∈ eb := by
  rcases h with ⟨_, va, vb, h1, h2, _⟩ | ⟨_, h, _⟩ | ⟨_, h, _⟩
  · exact .inl ⟨va, h1⟩
  · exact .inl ⟨x.2, h⟩
  · exact .inr ⟨x.2, h⟩
/-- Two lists pairs of which are alike at a point join alike there. -/
theorem JM.congr {ea' eb' : List Ent} (ha : ∀ v, (x.1, v) ∈ ea ↔ (x.1, v) ∈ ea') (hb : ∀ v, (x.1, v) ∈ eb ↔ (x.1, v) ∈ eb') : JM r l rt bo ea eb x ↔ JM r l rt bo ea' eb' x := by
  have hx : x ∈ ea ↔ x ∈ ea' := ha x.2
  have hy : x ∈ eb ↔ x ∈ eb' := hb x.2
  unfold JM
  simp only [ha, hb, hx, hy]
/-- Where they share no point each stands alone. -/
theorem JM.apart (h : Apart ea eb) : JM r l rt bo ea eb x ↔ (l = true ∧ x ∈ ea) ∨ (rt = true ∧ x ∈ eb) := by
  constructor
  · rintro (⟨_, va, vb, h1, h2, _⟩ | ⟨h1, h2, _⟩ | ⟨h1, h2, _⟩)
    · exact absurd (Eq.refl x.1) (h (x.1, va) h1 (x.1, vb) h2)
    · exact .inl ⟨h1, h2⟩
    · exact .inr ⟨h1, h2⟩
  · rintro (⟨h1, h2⟩ | ⟨h1, h2⟩)
    · exact .inr (.inl ⟨h1, h2, fun v hv => h x h2 (x.1, v) hv rfl⟩)
    · exact .inr (.inr ⟨h1, h2, fun v hv => h (x.1, v) hv x h2 rfl⟩)
theorem JM.leaf {p : List Nat} {va vb : Nat} : JM r l rt bo [(p, va)] [(p, vb)] x ↔ bo = true ∧ x = (p, stval r va vb) := by
  obtain ⟨q, v⟩ := x
  simp only [JM, List.mem_singleton, Prod.mk.injEq]
  constructor
  · rintro (⟨h1, va', vb', ⟨rfl, rfl⟩, ⟨_, rfl⟩, h2⟩ | ⟨_, ⟨rfl, _⟩, h2⟩ | ⟨_, ⟨rfl, _⟩, h2⟩)
    · exact ⟨h1, rfl, h2⟩
    · exact absurd ⟨rfl, rfl⟩ (h2 vb)
    · exact absurd ⟨rfl, rfl⟩ (h2 va)
  · rintro ⟨h1, rfl, h2⟩
    exact .inl ⟨h1, va, vb, ⟨rfl, rfl⟩, ⟨rfl, rfl⟩, h2⟩
end
/-- Two forks of one level: kid by kid. -/
theorem JM.kids {w w' : World} {k g g' m r : Nat} {l rt bo : Bool} {pre pre' : List Nat} {ks ks' : List Kid} (h : Fork w k g m pre ks) (h' : Fork w' k g' m pre' ks') (x : Ent) :
    JM r l rt bo (kidEs ks) (kidEs ks') x ↔ JM r l rt bo (esOf (kidAt ks (addrOf x.1 m))) (esOf (kidAt ks' (addrOf x.1 m))) x :=
  JM.congr (fun v => h.fk'.mem (e := (x.1, v)) rfl) (fun v => h'.fk'.mem (e := (x.1, v)) rfl)
/-- A fork and a node that lies below one of its addresses. -/
theorem JM.below_l {w : World} {k g m a r : Nat} {l rt bo : Bool} {pre : List Nat} {ks : List Kid} {eb : List Ent} (h : Fork w k g m pre ks) (hb : ∀ y ∈ eb, addrOf y.1 m = a) (x : Ent) :
    JM r l rt bo (kidEs ks) eb x ↔ (l = true ∧ addrOf x.1 m ≠ a ∧ x ∈ kidEs ks) ∨ JM r l rt bo (esOf (kidAt ks a)) eb x := by
  by_cases ha : addrOf x.1 m = a
  · have h1 : JM r l rt bo (kidEs ks) eb x ↔ JM r l rt bo (esOf (kidAt ks a)) eb x := JM.congr (fun v => h.fk'.mem (e := (x.1, v)) ha) (fun v => Iff.rfl)
    rw [h1]
    exact ⟨.inr, fun h => h.elim (fun h => absurd ha h.2.1) id⟩
  · have hno : ∀ v, (x.1, v) ∉ eb := fun v hv => ha (hb (x.1, v) hv)
    have hno2 : ∀ v, (x.1, v) ∉ esOf (kidAt ks a) := fun v hv => by
      cases hk : kidAt ks a with
      | none => rw [hk] at hv; simp [esOf] at hv
      | some y =>
        rw [hk] at hv
        obtain ⟨q, hq, hqa, rfl⟩ := kidAt_some hk
        exact ha ((h.fk'.es q hq (x.1, v) hv).2.1.trans hqa)
    constructor
    · rintro (⟨_, va, vb, _, h2, _⟩ | ⟨h1, h2, _⟩ | ⟨_, h2, _⟩)
      · exact absurd h2 (hno _)
      · exact .inl ⟨h1, ha, h2⟩
      · exact absurd h2 (hno _)
    · rintro (⟨h1, _, h2⟩ | h2)
      · exact .inr (.inl ⟨h1, h2, hno⟩)
      · rcases h2.has with ⟨v, hv⟩ | ⟨v, hv⟩
        · exact absurd hv (hno2 v)
        · exact absurd hv (hno v)
theorem JM.below_r {w : World} {k g m a r : Nat} {l rt bo : Bool} {pre : List Nat} {ks : List Kid} {ea : List Ent} (h : Fork w k g m pre ks) (hb : ∀ y ∈ ea, addrOf y.1 m = a) (x : Ent) :
    JM r l rt bo ea (kidEs ks) x ↔ (rt = true ∧ addrOf x.1 m ≠ a ∧ x ∈ kidEs ks) ∨ JM r l rt bo ea (esOf (kidAt ks a)) x := by
  by_cases ha : addrOf x.1 m = a
  · have h1 : JM r l rt bo ea (kidEs ks) x ↔ JM r l rt bo ea (esOf (kidAt ks a)) x := JM.congr (fun v => Iff.rfl) (fun v => h.fk'.mem (e := (x.1, v)) ha)
    rw [h1]
    exact ⟨.inr, fun h => h.elim (fun h => absurd ha h.2.1) id⟩
  · have hno : ∀ v, (x.1, v) ∉ ea := fun v hv => ha (hb (x.1, v) hv)
    have hno2 : ∀ v, (x.1, v) ∉ esOf (kidAt ks a) := fun v hv => by
      cases hk : kidAt ks a with
      | none => rw [hk] at hv; simp [esOf] at hv
      | some y =>
        rw [hk] at hv
        obtain ⟨q, hq, hqa, rfl⟩ := kidAt_some hk
        exact ha ((h.fk'.es q hq (x.1, v) hv).2.1.trans hqa)
    constructor
    · rintro (⟨_, va, vb, h1, _, _⟩ | ⟨_, h2, _⟩ | ⟨h1, h2, _⟩)
      · exact absurd h1 (hno _)
      · exact absurd h2 (hno _)
      · exact .inl ⟨h1, ha, h2⟩
    · rintro (⟨h1, _, h2⟩ | h2)
      · exact .inr (.inr ⟨h1, h2, hno⟩)
      · rcases h2.has with ⟨v, hv⟩ | ⟨v, hv⟩
        · exact absurd hv (hno v)
        · exact absurd hv (hno2 v)
theorem at_kid {w : World} {k g m a : Nat} {pre : List Nat} {ks : List Kid} (h : Fork w k g m pre ks) {y : Ent} (hy : y ∈ esOf (kidAt ks a)) : addrOf y.1 m = a := by
  cases hk : kidAt ks a with
  | none => rw [hk] at hy; simp [esOf] at hy
  | some z =>
    rw [hk] at hy
    obtain ⟨q, hq, hqa, rfl⟩ := kidAt_some hk
    exact (h.fk'.es q hq y hy).2.1.trans hqa
theorem JM.at_ {w w' : World} {k g g' m a r : Nat} {l rt bo : Bool} {pre pre' : List Nat} {ks ks' : List Kid} (h : Fork w k g m pre ks) (h' : Fork w' k g' m pre' ks') {x : Ent} (hx : JM r l rt bo (esOf (kidAt ks a)) (esOf (kidAt ks' a)) x) : addrOf x.1 m = a := by
  rcases hx.has with ⟨v, hv⟩ | ⟨v, hv⟩
  · exact at_kid (y := (x.1, v)) h hv
  · exact at_kid (y := (x.1, v)) h' hv
/-- One address more of two forks' join. -/
theorem JM.next {w w' : World} {k g g' m a s r : Nat} {l rt bo : Bool} {pre pre' : List Nat} {ks ks' : List Kid} (h : Fork w k g m pre ks) (h' : Fork w' k g' m pre' ks') (hs : s ≤ a) (hg : ∀ q ∈ ks, s ≤ q.at_ → a ≤ q.at_) (hg' : ∀ q ∈ ks', s ≤ q.at_ → a ≤ q.at_) (x : Ent) :
    (JM r l rt bo (kidEs ks) (kidEs ks') x ∧ addrOf x.1 m < a + 1) ↔ (JM r l rt bo (kidEs ks) (kidEs ks') x ∧ addrOf x.1 m < s) ∨ JM r l rt bo (esOf (kidAt ks a)) (esOf (kidAt ks' a)) x := by
  constructor
  · rintro ⟨h1, h2⟩
    by_cases h3 : addrOf x.1 m < s
    · exact .inl ⟨h1, h3⟩
    · right
      have h4 : a ≤ addrOf x.1 m := by
        rcases h1.has with ⟨v, hv⟩ | ⟨v, hv⟩
        · obtain ⟨q, hq, hv⟩ := mem_kidEs.1 hv
          have h5 : addrOf x.1 m = q.at_ := (h.fk'.es q hq (x.1, v) hv).2.1
          rw [h5]
          exact hg q hq (by omega)
        · obtain ⟨q, hq, hv⟩ := mem_kidEs.1 hv
          have h5 : addrOf x.1 m = q.at_ := (h'.fk'.es q hq (x.1, v) hv).2.1
          rw [h5]
          exact hg' q hq (by omega)
      have h6 : addrOf x.1 m = a := by omega
      have h7 := (JM.kids h h' x).1 h1
      rw [h6] at h7
      exact h7
  · rintro (⟨h1, h2⟩ | h1)
    · exact ⟨h1, by omega⟩
    · have h2 := JM.at_ h h' h1
      refine ⟨(JM.kids h h' x).2 ?_, by omega⟩
      rw [h2]
      exact h1
/-- No kid is left: all has been joined. -/
theorem JM.all {w w' : World} {k g g' m s r : Nat} {l rt bo : Bool} {pre pre' : List Nat} {ks ks' : List Kid} (h : Fork w k g m pre ks) (h' : Fork w' k g' m pre' ks') (hg : ∀ q ∈ ks, q.at_ < s) (hg' : ∀ q ∈ ks', q.at_ < s) (x : Ent) :
    (JM r l rt bo (kidEs ks) (kidEs ks') x ∧ addrOf x.1 m < s) ↔ JM r l rt bo (kidEs ks) (kidEs ks') x := by
  refine ⟨(·.1), fun h1 => ⟨h1, ?_⟩⟩
  rcases h1.has with ⟨v, hv⟩ | ⟨v, hv⟩
  · obtain ⟨q, hq, hv⟩ := mem_kidEs.1 hv
    have h5 : addrOf x.1 m = q.at_ := (h.fk'.es q hq (x.1, v) hv).2.1
    rw [h5]
    exact hg q hq
  · obtain ⟨q, hq, hv⟩ := mem_kidEs.1 hv
    have h5 : addrOf x.1 m = q.at_ := (h'.fk'.es q hq (x.1, v) hv).2.1
    rw [h5]
    exact hg' q hq
end Go.Proofs.Ytfkpanpageeklaa
