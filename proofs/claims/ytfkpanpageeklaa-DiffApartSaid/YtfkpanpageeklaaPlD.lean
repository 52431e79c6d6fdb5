/- Two lists in z-order, point by point: what changed. Plain laws. -/
import Derived.Test.YtfkpanpageeklaaPlW
import Derived.Test.YtfkpanpageeklaaTrD
set_option linter.unusedSimpArgs false
set_option linter.unusedVariables false
namespace Go.Proofs.Ytfkpanpageeklaa
/-- What a list has at a point. -/
def getE (A : List Ent) (p : List Nat) : Option Nat := (A.find? fun e => decide (e.1 = p)).map (·.2)
theorem getE_mem {A : List Ent} {p : List Nat} {v : Nat} (h : getE A p = some v) : (p, v) ∈ A := by
  unfold getE at h
  obtain ⟨e, he, rfl⟩ := Option.map_eq_some_iff.1 h
  have h1 := List.mem_of_find?_eq_some he
  have h2 := List.find?_some he
  simp only [decide_eq_true_eq] at h2
  rw [← h2]
  exact h1
theorem getE_none {A : List Ent} {p : List Nat} : getE A p = none ↔ ∀ v, (p, v) ∉ A := by
  unfold getE
  rw [Option.map_eq_none_iff, List.find?_eq_none]
  constructor
  · intro h v hv
    exact absurd (h (p, v) hv) (by simp)
  · intro h e he
    simp only [decide_eq_true_eq]
    rintro rfl
    exact h e.2 he
theorem getE_of {A : List Ent} (hs : Zsorted A) {p : List Nat} {v : Nat} (h : (p, v) ∈ A) : getE A p = some v := by
  cases hg : getE A p with
  | none => exact absurd h (getE_none.1 hg v)
  | some u => rw [uniq_val hs (getE_mem hg) h]
theorem getE_append (A B : List Ent) (p : List Nat) : getE (A ++ B) p = (getE A p).or (getE B p) := by
  unfold getE
  rw [List.find?_append]
  cases List.find? (fun e => decide (e.1 = p)) A <;> rfl
theorem getE_far {A : List Ent} {p : List Nat} (h : ∀ e ∈ A, e.1 ≠ p) : getE A p = none := getE_none.2 fun v hv => h (p, v) hv rfl
theorem getE_nil (p : List Nat) : getE [] p = none := rfl
/-- What became of a point. -/
structure CE where
  p : List Nat
  had : Bool
  has : Bool
  old : Nat
  new : Nat
def chgAt (A B : List Ent) (p : List Nat) : CE := ⟨p, (getE A p).isSome, (getE B p).isSome, (getE A p).getD 0, (getE B p).getD 0⟩
structure Chgs (A B : List Ent) (L : List CE) : Prop where
  sorted : L.Pairwise fun c d => Zlt c.p d.p
  mem : ∀ c, c ∈ L ↔ getE A c.p ≠ getE B c.p ∧ c = chgAt A B c.p
theorem ce_ext : ∀ {L M : List CE}, (L.Pairwise fun c d => Zlt c.p d.p) → (M.Pairwise fun c d => Zlt c.p d.p) → (∀ c, c ∈ L ↔ c ∈ M) → L = M
  | [], [], _, _, _ => rfl
  | [], d :: M, _, _, h => by have := (h d).2 List.mem_cons_self; cases this
  | c :: L, [], _, _, h => by have := (h c).1 List.mem_cons_self; cases this
  | c :: L, d :: M, h1, h2, h => by
    rw [List.pairwise_cons] at h1 h2
    have hcd : c = d := by
      rcases List.mem_cons.1 ((h c).1 List.mem_cons_self) with e | hc
      · exact e
      · rcases List.mem_cons.1 ((h d).2 List.mem_cons_self) with e | hd
        · exact e.symm
        · exact absurd (h2.1 c hc) fun h3 => zlt_asymm h3 (h1.1 d hd)
    subst hcd
    congr 1
    refine ce_ext h1.2 h2.2 fun x => ?_
    constructor
    · intro hx
      rcases List.mem_cons.1 ((h x).1 (List.mem_cons_of_mem _ hx)) with rfl | h3
      · exact absurd (h1.1 x hx) (zlt_irrefl _)
      · exact h3
    · intro hx
      rcases List.mem_cons.1 ((h x).2 (List.mem_cons_of_mem _ hx)) with rfl | h3
      · exact absurd (h2.1 x hx) (zlt_irrefl _)
      · exact h3
theorem Chgs.uniq {A B : List Ent} {L M : List CE} (h : Chgs A B L) (h' : Chgs A B M) : L = M := ce_ext h.sorted h'.sorted fun c => by rw [h.mem, h'.mem]
theorem Chgs.same (A : List Ent) : Chgs A A [] := ⟨List.Pairwise.nil, fun c => by simp⟩
theorem Chgs.empty_iff {A B : List Ent} {L : List CE} (hA : Zsorted A) (hB : Zsorted B) (h : Chgs A B L) : L = [] ↔ A = B := by
  constructor
  · rintro rfl
    have hg : ∀ p, getE A p = getE B p := by
      intro p
      by_cases hp : getE A p = getE B p
      · exact hp
      · have := (h.mem (chgAt A B p)).2 ⟨hp, rfl⟩
        cases this
    refine sorted_ext hA hB fun e => ?_
    constructor
    · intro he
      have := getE_of hA (p := e.1) (v := e.2) he
      rw [hg] at this
      exact getE_mem this
    · intro he
      have := getE_of hB (p := e.1) (v := e.2) he
      rw [← hg] at this
      exact getE_mem this
  · rintro rfl
    exact h.uniq (Chgs.same A)
/-- All of one list is ahead of all of another one. -/
def Ahead (A B : List Ent) : Prop := ∀ e ∈ A, ∀ f ∈ B, Zlt e.1 f.1
theorem Ahead.nil_l (B : List Ent) : Ahead [] B := fun e h => (by cases h)
theorem Ahead.nil_r (A : List Ent) : Ahead A [] := fun e _ f h => (by cases h)
theorem Ahead.none {A B : List Ent} (h : Ahead A B) {p : List Nat} (hp : getE A p ≠ .none) : getE B p = .none := by
  cases ha : getE A p with
  | none => exact absurd ha hp
  | some v =>
    refine getE_far fun e he => ?_
    rintro rfl
    exact zlt_irrefl _ (h (e.1, v) (getE_mem ha) e he)
theorem Ahead.none' {A B : List Ent} (h : Ahead A B) {p : List Nat} (hp : getE B p ≠ .none) : getE A p = .none := by
  cases ha : getE B p with
  | none => exact absurd ha hp
  | some v =>
    refine getE_far fun e he => ?_
    rintro rfl
    exact zlt_irrefl _ (h e he (e.1, v) (getE_mem ha))
theorem ne_some {A B : List Ent} {p : List Nat} (h : getE A p ≠ getE B p) : getE A p ≠ .none ∨ getE B p ≠ .none := by
  by_cases h1 : getE A p = .none
  · right
    intro h2
    exact h (h1.trans h2.symm)
  · exact .inl h1
theorem Chgs.append {A1 B1 A2 B2 : List Ent} {L1 L2 : List CE} (h1 : Chgs A1 B1 L1) (h2 : Chgs A2 B2 L2) (haa : Ahead A1 A2) (hab : Ahead A1 B2) (hba : Ahead B1 A2) (hbb : Ahead B1 B2) : Chgs (A1 ++ A2) (B1 ++ B2) (L1 ++ L2) := by
  have key1 : ∀ p, getE A1 p ≠ .none ∨ getE B1 p ≠ .none → getE A2 p = .none ∧ getE B2 p = .none := by
    rintro p (h | h)
    · exact ⟨haa.none h, hab.none h⟩
    · exact ⟨hba.none h, hbb.none h⟩
  have hor : ∀ (x : Option Nat), x.or .none = x := fun x => by cases x <;> rfl
  refine ⟨?_, fun c => ?_⟩
  · rw [List.pairwise_append]
    refine ⟨h1.sorted, h2.sorted, fun c hc d hd => ?_⟩
    have c1 := ((h1.mem c).1 hc).1
    have d1 := ((h2.mem d).1 hd).1
    rcases ne_some c1 with hc' | hc' <;> rcases ne_some d1 with hd' | hd'
    all_goals
      obtain ⟨v, hv⟩ := Option.ne_none_iff_exists'.1 hc'
      obtain ⟨u, hu⟩ := Option.ne_none_iff_exists'.1 hd'
    · exact haa _ (getE_mem hv) _ (getE_mem hu)
    · exact hab _ (getE_mem hv) _ (getE_mem hu)
    · exact hba _ (getE_mem hv) _ (getE_mem hu)
    · exact hbb _ (getE_mem hv) _ (getE_mem hu)
  · rw [List.mem_append, h1.mem, h2.mem]
    unfold chgAt
    rw [getE_append, getE_append]
    by_cases hp : getE A1 c.p ≠ .none ∨ getE B1 c.p ≠ .none
    · obtain ⟨e1, e2⟩ := key1 c.p hp
      rw [e1, e2, hor, hor]
      simp
    · have e1 : getE A1 c.p = .none := Classical.byContradiction fun h => hp (.inl h)
      have e2 : getE B1 c.p = .none := Classical.byContradiction fun h => hp (.inr h)
      rw [e1, e2]
      simp
def goneE (e : Ent) : CE := ⟨e.1, true, false, e.2, 0⟩
def comeE (e : Ent) : CE := ⟨e.1, false, true, 0, e.2⟩
theorem Chgs.gone {A : List Ent} (hs : Zsorted A) : Chgs A [] (A.map goneE) := by
  refine ⟨?_, fun c => ?_⟩
  · rw [List.pairwise_map]
    exact hs
  · rw [List.mem_map, getE_nil]
    constructor
    · rintro ⟨e, he, rfl⟩
      have := getE_of hs (p := e.1) (v := e.2) he
      unfold chgAt goneE
      simp only [this, getE_nil]
      exact ⟨by simp, rfl⟩
    · rintro ⟨h1, h2⟩
      obtain ⟨v, hv⟩ := Option.ne_none_iff_exists'.1 h1
      refine ⟨(c.p, v), getE_mem hv, ?_⟩
      rw [h2]
      unfold chgAt goneE
      simp only [hv, getE_nil]
      rfl
theorem Chgs.come {B : List Ent} (hs : Zsorted B) : Chgs [] B (B.map comeE) := by
  refine ⟨?_, fun c => ?_⟩
  · rw [List.pairwise_map]
    exact hs
  · rw [List.mem_map, getE_nil]
    constructor
    · rintro ⟨e, he, rfl⟩
      have := getE_of hs (p := e.1) (v := e.2) he
      unfold chgAt comeE
      simp only [this, getE_nil]
      exact ⟨by simp, rfl⟩
    · rintro ⟨h1, h2⟩
      obtain ⟨v, hv⟩ := Option.ne_none_iff_exists'.1 h1.symm
      refine ⟨(c.p, v), getE_mem hv, ?_⟩
      rw [h2]
      unfold chgAt comeE
      simp only [hv, getE_nil]
      rfl
theorem Chgs.one {p : List Nat} {v u : Nat} : Chgs [(p, v)] [(p, u)] (if v = u then [] else [⟨p, true, true, v, u⟩]) := by
  have g : ∀ (x : Nat) (q : List Nat), getE [(p, x)] q = if p = q then some x else none := by
    intro x q
    unfold getE
    by_cases h : p = q <;> simp [List.find?, h]
  by_cases h : v = u
  · subst h
    rw [if_pos rfl]
    exact Chgs.same _
  · rw [if_neg h]
    refine ⟨List.pairwise_singleton _ _, fun c => ?_⟩
    rw [List.mem_singleton]
    unfold chgAt
    rw [g, g]
    by_cases hp : p = c.p
    · rw [if_pos hp, if_pos hp, ← hp]
      simp only [ne_eq, Option.some.injEq, h, not_false_eq_true, Option.isSome_some, Option.getD_some, true_and]
    · rw [if_neg hp, if_neg hp]
      simp only [ne_eq, not_true_eq_false, false_and, iff_false]
      rintro rfl
      exact hp rfl
def CE.swap (c : CE) : CE := ⟨c.p, c.has, c.had, c.new, c.old⟩
theorem CE.swap_swap (c : CE) : c.swap.swap = c := rfl
theorem chgAt_swap (A B : List Ent) (p : List Nat) : (chgAt A B p).swap = chgAt B A p := rfl
theorem Chgs.swap {A B : List Ent} {L : List CE} (h : Chgs A B L) : Chgs B A (L.map CE.swap) := by
  refine ⟨?_, fun c => ?_⟩
  · rw [List.pairwise_map]
    exact h.sorted
  · rw [List.mem_map]
    constructor
    · rintro ⟨d, hd, rfl⟩
      obtain ⟨h1, h2⟩ := (h.mem d).1 hd
      refine ⟨fun e => h1 e.symm, ?_⟩
      conv => lhs; rw [h2]
      rfl
    · rintro ⟨h1, h2⟩
      refine ⟨c.swap, (h.mem _).2 ⟨fun e => h1 e.symm, ?_⟩, rfl⟩
      conv => lhs; rw [h2]
      rfl
end Go.Proofs.Ytfkpanpageeklaa
