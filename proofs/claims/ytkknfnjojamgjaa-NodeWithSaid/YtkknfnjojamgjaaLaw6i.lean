/- NodePair: the plain law: the entries of pairs. -/
import Derived.Test.YtkknfnjojamgjaaLaw6h
set_option linter.unusedSimpArgs false
set_option linter.unusedVariables false
namespace Go.Proofs.Ytkknfnjojamgjaa
open Go.RowKit
theorem sameB_nat (p q : List Nat) : sameB (p.map fun (x : Nat) => (x : Int)) (q.map fun (x : Nat) => (x : Int)) = decide (p = q) := by
  apply boolI
  unfold sameB
  rw [decide_eq_true_eq, decide_eq_true_eq]
  constructor
  · intro h
    have hl : p.length = q.length := by
      have := congrArg List.length h
      simpa using this
    apply List.ext_getElem hl
    intro i h1 h2
    have := congrArg (fun l => l[i]?) h
    simp [h1, h2] at this
    omega
  · rintro rfl; rfl
/-- A point is covered where it is the prefix, cut. -/
theorem covers_cut {k m : Nat} {pre q : List Nat} (hp : Zp k pre) (hq : Zp k q) (hz : ∀ b, b ≤ m → addrOf pre b = 0) : part pre q ≤ (m : Int) ↔ cut (m + 1) q = pre := by
  obtain ⟨g1, g2, g3, g4⟩ := part_spec pre q (by rw [hp.1, hq.1]) hp.2 hq.2
  constructor
  · intro h
    refine eq_of_addr (zp_cut hq) hp fun b => ?_
    rcases Nat.lt_or_ge m b with hb | hb
    · rw [addr_cut_hi _ (by omega)]; exact (g3 b (by omega)).symm
    · rw [addr_cut_lo _ (by omega)]; exact (hz b hb).symm
  · intro h
    rcases Int.lt_or_le (m : Int) (part pre q) with h1 | h1
    · exfalso
      refine g4 (by omega) ?_
      have := addr_cut_hi (m := m + 1) (b := (part pre q).toNat) q (by omega)
      rw [h] at this
      exact this
    · exact h1
theorem pairK_es {g g' : Nat} {lv lv' : Int} {pre pre' : List Nat} {es es' : List Ent} {m : Nat} (h : addrOf pre m ≠ addrOf pre' m) (e : Ent) : e ∈ kidEs (pairK g g' lv lv' pre pre' es es' m) ↔ e ∈ es ∨ e ∈ es' := by
  rw [pairK_eq h]
  unfold kidEs
  split <;> simp [or_comm]
theorem mem_ents_iff {rows : List ER} {e : Ent} : e ∈ ents rows ↔ ∃ r ∈ rows, r.e = e := by
  unfold ents
  rw [List.mem_map]
theorem es_pair2 {w : World} {k g g0 g1 m : Nat} {r0 r1 : ER} {pre : List Nat} (hF : Fork w k g m pre (pairK g0 g1 (-1) (-1) r0.p r1.p [(r0.p, r0.v)] [(r1.p, r1.v)] m)) (hne : addrOf r0.p m ≠ addrOf r1.p m) (h0 : Zp k r0.p) (h1 : Zp k r1.p) (hn0 : r0.n = k) (hn1 : r1.n = k) :
    ents (allR k [r0, r1]) = kidEs (pairK g0 g1 (-1) (-1) r0.p r1.p [(r0.p, r0.v)] [(r1.p, r1.v)] m) ∧ SortR k (allR k [r0, r1]) ∧ ∀ r, r ∈ allR k [r0, r1] ↔ r = r0 ∨ r = r1 := by
  have hpn : r0.p ≠ r1.p := fun h => hne (by rw [h])
  have e : allR k [r0, r1] = putR (putR [] r0) r1 := by
    unfold allR
    simp [hn0, hn1]
  obtain ⟨s0, m0⟩ := put_spec (SortR.nil k) h0 (q := r0)
  obtain ⟨s1, m1⟩ := put_spec s0 h1 (q := r1)
  have hmem : ∀ r, r ∈ allR k [r0, r1] ↔ r = r0 ∨ r = r1 := fun r => by
    rw [e, m1, m0]
    constructor
    · rintro (h | ⟨h | ⟨h, _⟩, _⟩)
      · exact .inr h
      · exact .inl h
      · cases h
    · rintro (h | h)
      · exact .inr ⟨.inl h, by rw [h]; exact hpn⟩
      · exact .inl h
  refine ⟨sorted_ext (by rw [e]; exact s1.ents) hF.node.info.2.2.2.2.2.1 fun x => ?_, by rw [e]; exact s1, hmem⟩
  rw [pairK_es hne, mem_ents_iff]
  simp only [List.mem_singleton]
  constructor
  · rintro ⟨r, hr, rfl⟩
    rcases (hmem r).1 hr with rfl | rfl
    · exact .inl rfl
    · exact .inr rfl
  · rintro (rfl | rfl)
    · exact ⟨r0, (hmem r0).2 (.inl rfl), rfl⟩
    · exact ⟨r1, (hmem r1).2 (.inr rfl), rfl⟩
theorem es_pair3 {w : World} {k g gn g2 m0 m : Nat} {r0 r1 r2 : ER} {pre pre' : List Nat} {es : List Ent} {K : List Kid} (hF : Fork w k g m pre' (pairK gn g2 (m0 : Int) (-1) pre r2.p es [(r2.p, r2.v)] m)) (hne : addrOf pre m ≠ addrOf r2.p m)
    (hes : ents (allR k [r0, r1]) = es) (hS : SortR k (allR k [r0, r1])) (hm : ∀ r, r ∈ allR k [r0, r1] ↔ r = r0 ∨ r = r1) (h2 : Zp k r2.p) (hn2 : r2.n = k) (hd0 : r0.p ≠ r2.p) (hd1 : r1.p ≠ r2.p) :
    ents (allR k [r0, r1, r2]) = kidEs (pairK gn g2 (m0 : Int) (-1) pre r2.p es [(r2.p, r2.v)] m) := by
  have e : allR k [r0, r1, r2] = putR (allR k [r0, r1]) r2 := by
    rw [show [r0, r1, r2] = [r0, r1] ++ [r2] from rfl, allR_snoc, if_pos hn2]
  obtain ⟨s2, m2⟩ := put_spec hS h2 (q := r2)
  refine sorted_ext (by rw [e]; exact s2.ents) hF.node.info.2.2.2.2.2.1 fun x => ?_
  rw [pairK_es hne, mem_ents_iff, ← hes, mem_ents_iff, e]
  simp only [List.mem_singleton]
  constructor
  · rintro ⟨r, hr, rfl⟩
    rcases (m2 r).1 hr with rfl | ⟨hr, _⟩
    · exact .inr rfl
    · exact .inl ⟨r, hr, rfl⟩
  · rintro (⟨r, hr, rfl⟩ | rfl)
    · refine ⟨r, (m2 r).2 (.inr ⟨hr, ?_⟩), rfl⟩
      rcases (hm r).1 hr with rfl | rfl
      · exact hd0
      · exact hd1
    · exact ⟨r2, (m2 r2).2 (.inl rfl), rfl⟩
/-- The two kids of a pair, found. -/
theorem pair_kids {w : World} {k g m ga gb : Nat} {la lb : Int} {pre pa pb : List Nat} {ea eb : List Ent} (hF : Fork w k g m pre (pairK ga gb la lb pa pb ea eb m)) (hne : addrOf pa m ≠ addrOf pb m) :
    getTh (kidTh (pairK ga gb la lb pa pb ea eb m)) (addrOf pa m : Int) = some (.pointer (some ⟨ga, 0, none⟩)) ∧ getTh (kidTh (pairK ga gb la lb pa pb ea eb m)) (addrOf pb m : Int) = some (.pointer (some ⟨gb, 0, none⟩)) := by
  obtain ⟨A, c, gs, hp, hS, hB⟩ := hF.head
  have ha : (⟨addrOf pa m, ga, la, pa, ea⟩ : Kid) ∈ pairK ga gb la lb pa pb ea eb m := by
    unfold pairK
    exact mem_insK_iff.2 (.inr ⟨mem_insK_iff.2 (.inl rfl), hne⟩)
  have hb : (⟨addrOf pb m, gb, lb, pb, eb⟩ : Kid) ∈ pairK ga gb la lb pa pb ea eb m := by
    unfold pairK
    exact mem_insK_iff.2 (.inl rfl)
  exact ⟨getTh_some hS.ok (t := (addrOf pa m, .pointer (some ⟨ga, 0, none⟩))) (List.mem_map.2 ⟨_, ha, rfl⟩), getTh_some hS.ok (t := (addrOf pb m, .pointer (some ⟨gb, 0, none⟩))) (List.mem_map.2 ⟨_, hb, rfl⟩)⟩
end Go.Proofs.Ytkknfnjojamgjaa
