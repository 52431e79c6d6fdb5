/- rank: two nodes of different points as one. -/
import Derived.Test.YtnopacldaoekiaaWkS
import Derived.Test.YtnopacldaoekiaaLwC
set_option linter.unusedSimpArgs false
set_option linter.unusedVariables false
namespace Go.Proofs.Ytnopacldaoekiaa
open Go.RowKit
/-- A node whose entries agree with a point from a level on stands below that level. -/
theorem under {w : World} {k g m : Nat} {lv : Int} {pre z : List Nat} {es : List Ent} (h : NodeOf w k g lv pre es) (ha : ∀ x ∈ es, ∀ b, m ≤ b → addrOf x.1 b = addrOf z b) : lv < (m : Int) ∧ ∀ b, m ≤ b → addrOf pre b = addrOf z b := by
  obtain ⟨i1, i2, i3, i4, i5, i6, i7⟩ := h.info
  have hlv : lv < (m : Int) := by
    rcases h.cases' with ⟨A, c, v, rfl, _⟩ | ⟨l, ks, rfl, rfl, hF⟩
    · omega
    · rcases Nat.lt_or_ge l m with h | h
      · omega
      · exfalso
        have hfk : FK k ⟨g, l, pre, ks⟩ := Fork.fk (f := ⟨g, l, pre, ks⟩) hF
        have h2 := hF.two
        have hm0 : ks[0] ∈ ks := List.getElem_mem (by omega)
        have hm1 : ks[1] ∈ ks := List.getElem_mem (by omega)
        have hlt := List.pairwise_iff_getElem.1 hF.sorted 0 1 (by omega) (by omega) (by omega)
        obtain ⟨x, hx⟩ := List.exists_mem_of_ne_nil _ (hF.kid _ hm0).1.info.2.1
        obtain ⟨y, hy⟩ := List.exists_mem_of_ne_nil _ (hF.kid _ hm1).1.info.2.1
        have h3 : addrOf x.1 l = ks[0].at_ := (hfk.es _ hm0 x hx).2.1
        have h4 : addrOf y.1 l = ks[1].at_ := (hfk.es _ hm1 y hy).2.1
        have h5 := ha x (mem_kidEs.2 ⟨_, hm0, hx⟩) l h
        have h6 := ha y (mem_kidEs.2 ⟨_, hm1, hy⟩) l h
        omega
  refine ⟨hlv, fun b hb => ?_⟩
  obtain ⟨x, hx⟩ := List.exists_mem_of_ne_nil _ i2
  rw [← (i5 x hx).2.2 b (by omega)]
  exact ha x hx b hb
theorem kidAt_insU {ks : List Kid} {q : Kid} : kidAt (insK ks q) q.at_ = some (q.blk, ⟨q.lv, q.pre, q.es⟩) := by
  unfold kidAt insK
  rw [List.append_assoc, List.find?_append]
  have h1 : (ks.filter fun r => decide (r.at_ < q.at_)).find? (fun r => decide (r.at_ = q.at_)) = none := by
    rw [List.find?_eq_none]
    intro r hr
    have := (List.mem_filter.1 hr).2
    simp at this ⊢
    omega
  rw [h1]
  simp
theorem kidAt_insU_ne {ks : List Kid} {q : Kid} {a : Nat} (ha : a ≠ q.at_) : kidAt (insK ks q) a = kidAt ks a := by
  have key : ∀ (l : List Kid), ((l.filter fun r => decide (r.at_ < q.at_)) ++ [q] ++ (l.filter fun r => decide (q.at_ < r.at_))).find? (fun r => decide (r.at_ = a)) = if a < q.at_ then (l.filter fun r => decide (r.at_ < q.at_)).find? (fun r => decide (r.at_ = a)) else (l.filter fun r => decide (q.at_ < r.at_)).find? (fun r => decide (r.at_ = a)) := by
    intro l
    rw [List.append_assoc, List.find?_append]
    split
    · rename_i h
      cases hf : (l.filter fun r => decide (r.at_ < q.at_)).find? (fun r => decide (r.at_ = a)) with
      | some r => rfl
      | none =>
        simp only [Option.none_or]
        rw [List.find?_eq_none]
        intro r hr
        rcases List.mem_append.1 hr with hr | hr
        · rw [List.mem_singleton.1 hr]; simp; omega
        · have := (List.mem_filter.1 hr).2
          simp at this ⊢
          omega
    · rename_i h
      have h1 : (l.filter fun r => decide (r.at_ < q.at_)).find? (fun r => decide (r.at_ = a)) = none := by
        rw [List.find?_eq_none]
        intro r hr
        have := (List.mem_filter.1 hr).2
        simp at this ⊢
        omega
      rw [h1]
      simp only [Option.none_or, List.singleton_append, List.find?_cons]
      rw [show decide (q.at_ = a) = false by simp; omega]
  have key2 : ∀ (l : List Kid) (P : Kid → Bool), (∀ r, r.at_ = a → P r = true) → (l.filter P).find? (fun r => decide (r.at_ = a)) = l.find? (fun r => decide (r.at_ = a)) := by
    intro l P hP
    induction l with
    | nil => rfl
    | cons r l ih =>
      by_cases hr : r.at_ = a
      · rw [List.filter_cons_of_pos (hP r hr)]
        simp [hr]
      · by_cases hp : P r = true
        · rw [List.filter_cons_of_pos hp]
          simp only [List.find?_cons, hr, decide_false]
          exact ih
        · rw [List.filter_cons_of_neg hp]
          simp only [List.find?_cons, hr, decide_false]
          exact ih
  unfold kidAt insK
  rw [key]
  split
  · rename_i h
    rw [key2 _ _ fun r hr => by simp; omega]
  · rename_i h
    rw [key2 _ _ fun r hr => by simp; omega]
theorem Fork.fk' {w : World} {k g m : Nat} {pre : List Nat} {ks : List Kid} (h : Fork w k g m pre ks) : FK k ⟨g, m, pre, ks⟩ := Fork.fk (f := ⟨g, m, pre, ks⟩) h
theorem mem_ins {w w' : World} {k g g' m : Nat} {pre : List Nat} {ks : List Kid} {q : Kid} (h : Fork w' k g' m pre (insK ks q)) (h0 : Fork w k g m pre ks) (x : Ent) : x ∈ kidEs (insK ks q) ↔ (addrOf x.1 m = q.at_ ∧ x ∈ q.es) ∨ (addrOf x.1 m ≠ q.at_ ∧ x ∈ kidEs ks) := by
  have h1 := h.fk'.mem (e := x) (a := addrOf x.1 m) rfl
  have h2 := h0.fk'.mem (e := x) (a := addrOf x.1 m) rfl
  simp only at h1 h2
  by_cases ha : addrOf x.1 m = q.at_
  · rw [h1, ha, kidAt_insU]
    exact ⟨fun h => .inl ⟨rfl, h⟩, fun h => h.elim (·.2) (fun h => absurd rfl h.1)⟩
  · rw [h1, kidAt_insU_ne ha, ← h2]
    exact ⟨fun h => .inr ⟨ha, h⟩, fun h => h.elim (fun h => absurd h.1 ha) (·.2)⟩
/-- Two nodes as one. -/
def UnOut (w : World) (k : Nat) (ea eb : List Ent) (e : Ending) (w' : World) : Prop :=
  ∃ g lv pre es, e = .returned (.pointer (some ⟨g, 0, none⟩)) ∧ NodeOf w' k g lv pre es ∧ (∀ x, x ∈ es ↔ x ∈ ea ∨ x ∈ eb) ∧ Below w.heap.size w w'
set_option maxHeartbeats 1000000 in
set_option maxRecDepth 100000 in
theorem rk_union_l (w : World) (b : Value) (hb : b = .pointer none ∨ ∃ g, b = .pointer (some ⟨g, 0, none⟩)) : Calls Try.prog 97 #[.pointer none, b] w fun e w' => e = .returned b ∧ w = w' := by
  rcases hb with rfl | ⟨g, rfl⟩
  all_goals
    go_enter Try.func97, Try.ntmps97
    go_wp2
    go_ret
    exact ⟨rfl, rfl⟩
set_option maxHeartbeats 1000000 in
set_option maxRecDepth 100000 in
theorem rk_union_r (w : World) (g : Nat) : Calls Try.prog 97 #[.pointer (some ⟨g, 0, none⟩), .pointer none] w fun e w' => e = .returned (.pointer (some ⟨g, 0, none⟩)) ∧ w = w' := by
  go_enter Try.func97, Try.ntmps97
  go_wp2
  go_ret
  exact ⟨rfl, rfl⟩
/-- The two share no point. -/
def Apart (ea eb : List Ent) : Prop := ∀ x ∈ ea, ∀ y ∈ eb, x.1 ≠ y.1
def UnHyp (k N : Nat) : Prop := ∀ (w : World) (ga gb : Nat) (la lb : Int) (pa pb : List Nat) (ea eb : List Ent), ea.length + eb.length < N → NodeOf w k ga la pa ea → NodeOf w k gb lb pb eb → Apart ea eb → Calls Try.prog 97 #[.pointer (some ⟨ga, 0, none⟩), .pointer (some ⟨gb, 0, none⟩)] w (UnOut w k ea eb)
theorem kid_small {w : World} {k g m : Nat} {pre : List Nat} {ks : List Kid} (h : Fork w k g m pre ks) {q : Kid} (hq : q ∈ ks) : q.es.length < (kidEs ks).length := by
  obtain ⟨j, hj, rfl⟩ := List.mem_iff_getElem.1 hq
  have h1 := congrArg List.length (kidEs_at (List.getElem?_eq_getElem hj))
  simp only [List.length_append] at h1
  have h2 := h.two
  have hne : ∀ r ∈ ks, 0 < r.es.length := fun r hr => List.length_pos_iff.2 (h.kid r hr).1.info.2.1
  rcases Nat.eq_zero_or_pos j with h0 | h0
  · subst h0
    have h3 : ks[1] ∈ ks.drop (0 + 1) := by
      rw [List.mem_iff_getElem]
      exact ⟨0, by rw [List.length_drop]; omega, by rw [List.getElem_drop]⟩
    have h4 : 0 < (kidEs (ks.drop (0 + 1))).length := by
      obtain ⟨x, hx⟩ := List.exists_mem_of_ne_nil _ (h.kid ks[1] (List.getElem_mem _)).1.info.2.1
      exact List.length_pos_of_mem (mem_kidEs.2 ⟨_, h3, hx⟩)
    omega
  · have h3 : ks[0] ∈ ks.take j := by
      rw [List.mem_iff_getElem]
      exact ⟨0, by rw [List.length_take]; omega, by rw [List.getElem_take]⟩
    have h4 : 0 < (kidEs (ks.take j)).length := by
      obtain ⟨x, hx⟩ := List.exists_mem_of_ne_nil _ (h.kid ks[0] (List.getElem_mem _)).1.info.2.1
      exact List.length_pos_of_mem (mem_kidEs.2 ⟨_, h3, hx⟩)
    omega
/-- A fork's kid at an address, and a node. -/
theorem un_kid_l {k N : Nat} (H : UnHyp k N) {w : World} {g m gb : Nat} {lb : Int} {pre pb : List Nat} {ks : List Kid} {eb : List Ent} (h : Fork w k g m pre ks) (h' : NodeOf w k gb lb pb eb) (hN : (kidEs ks).length + eb.length ≤ N) (hd : Apart (kidEs ks) eb) (a : Nat) :
    Calls Try.prog 97 #[ptrOf (kidAt ks a), .pointer (some ⟨gb, 0, none⟩)] w (UnOut w k (esOf (kidAt ks a)) eb) := by
  cases hk : kidAt ks a with
  | none =>
    refine (rk_union_l w _ (.inr ⟨gb, rfl⟩)).mono ?_
    rintro e w' ⟨h1, h2⟩
    subst h1 h2
    exact ⟨gb, lb, pb, eb, rfl, h', fun x => by simp [esOf], Below.refl _ _⟩
  | some x =>
    obtain ⟨q, hq, hqa, rfl⟩ := kidAt_some hk
    exact H w q.blk gb q.lv lb q.pre pb q.es eb (by have := kid_small h hq; omega) (h.kid q hq).1 h' (fun x hx y hy => hd x (mem_kidEs.2 ⟨q, hq, hx⟩) y hy)
theorem un_kid_r {k N : Nat} (H : UnHyp k N) {w : World} {g m ga : Nat} {la : Int} {pre pa : List Nat} {ks : List Kid} {ea : List Ent} (h : Fork w k g m pre ks) (h' : NodeOf w k ga la pa ea) (hN : ea.length + (kidEs ks).length ≤ N) (hd : Apart ea (kidEs ks)) (a : Nat) :
    Calls Try.prog 97 #[.pointer (some ⟨ga, 0, none⟩), ptrOf (kidAt ks a)] w (UnOut w k ea (esOf (kidAt ks a))) := by
  cases hk : kidAt ks a with
  | none =>
    refine (rk_union_r w ga).mono ?_
    rintro e w' ⟨h1, h2⟩
    subst h1 h2
    exact ⟨ga, la, pa, ea, rfl, h', fun x => by simp [esOf], Below.refl _ _⟩
  | some x =>
    obtain ⟨q, hq, hqa, rfl⟩ := kidAt_some hk
    exact H w ga q.blk la q.lv pa q.pre ea q.es (by have := kid_small h hq; omega) h' (h.kid q hq).1 (fun x hx y hy => hd x hx y (mem_kidEs.2 ⟨q, hq, hy⟩))
/-- What hangs at an address agrees with a point from the fork's level on. -/
theorem kid_agree {w : World} {k g m : Nat} {pre z : List Nat} {ks : List Kid} (h : Fork w k g m pre ks) (hz : Zp k z) (hc : part pre z ≤ (m : Int)) {x : Ent} (hx : x ∈ esOf (kidAt ks (addrOf z m))) : ∀ b, m ≤ b → addrOf x.1 b = addrOf z b := by
  cases hk : kidAt ks (addrOf z m) with
  | none => rw [hk] at hx; simp [esOf] at hx
  | some y =>
    rw [hk] at hx
    obtain ⟨q, hq, hqa, rfl⟩ := kidAt_some hk
    have h1 := h.fk'.es q hq x hx
    have h2 := h.fk'.agree hz hc
    intro b hb
    rcases Nat.eq_or_lt_of_le hb with h3 | h3
    · subst h3
      exact h1.2.1.trans hqa
    · exact (h1.2.2 b h3).trans (h2 b h3)
theorem part_sym {k : Nat} {p q : List Nat} (hp : Zp k p) (hq : Zp k q) : part p q = part q p := by
  have h1 := part_spec p q (hp.1.trans hq.1.symm) hp.2 hq.2
  have h2 := part_spec q p (hq.1.trans hp.1.symm) hq.2 hp.2
  have h3 := (part_le_iff hp hq (part q p) h2.1).2 fun b hb => (h2.2.2.1 b hb).symm
  have h4 := (part_le_iff hq hp (part p q) h1.1).2 fun b hb => (h1.2.2.1 b hb).symm
  omega
/-- A fork with what lay at an address and a node's entries there. -/
theorem un_mem {w w' : World} {k g gn m : Nat} {pre z : List Nat} {ks : List Kid} {q : Kid} {ex : List Ent} (hF : Fork w k g m pre ks) (hn : Fork w' k gn m pre (insK ks q)) (hq : q.at_ = addrOf z m) (hm : ∀ x, x ∈ q.es ↔ x ∈ esOf (kidAt ks (addrOf z m)) ∨ x ∈ ex) (he : ∀ x ∈ ex, addrOf x.1 m = addrOf z m) (x : Ent) : x ∈ kidEs (insK ks q) ↔ x ∈ kidEs ks ∨ x ∈ ex := by
  rw [mem_ins hn hF, hq, hm]
  constructor
  · rintro (⟨h1, h2 | h2⟩ | ⟨h1, h2⟩)
    · exact .inl ((hF.fk'.mem (e := x) h1).2 h2)
    · exact .inr h2
    · exact .inl h2
  · rintro (h | h)
    · by_cases ha : addrOf x.1 m = addrOf z m
      · exact .inl ⟨ha, .inl ((hF.fk'.mem (e := x) ha).1 h)⟩
      · exact .inr ⟨ha, h⟩
    · exact .inl ⟨he x h, .inr h⟩
theorem pair_mem {g g' m : Nat} {lv lv' : Int} {pre pre' : List Nat} {ea eb : List Ent} (hl : addrOf pre m ≠ addrOf pre' m) (x : Ent) : x ∈ kidEs (pairK g g' lv lv' pre pre' ea eb m) ↔ x ∈ ea ∨ x ∈ eb := by
  rw [pairK_eq hl, mem_kidEs]
  split
  · simp
  · simp [or_comm]
set_option maxHeartbeats 16000000 in
set_option maxRecDepth 100000 in
theorem rk_union_step {k N : Nat} (hk1 : 1 ≤ k) (hk : k ≤ 16) (H : UnHyp k N) (w : World) (ga gb : Nat) (la lb : Int) (pa pb : List Nat) (ea eb : List Ent) (hN : ea.length + eb.length ≤ N) (hA : NodeOf w k ga la pa ea) (hB : NodeOf w k gb lb pb eb) (hd : Apart ea eb) :
    Calls Try.prog 97 #[.pointer (some ⟨ga, 0, none⟩), .pointer (some ⟨gb, 0, none⟩)] w (UnOut w k ea eb) := by
  have HIH := hide H
  have HA := hide hA
  have HBB := hide hB
  have HAP := hide hd
  have HLN := hide hN
  obtain ⟨a1, a2, a3, a4, a5, a6, a7⟩ := hA.info
  obtain ⟨b1, b2, b3, b4, b5, b6, b7⟩ := hB.info
  have HIA := hide (show Zp k pa ∧ ∀ x ∈ ea, ∀ b : Nat, la < (b : Int) → addrOf x.1 b = addrOf pa b from ⟨a1, fun x hx => (a5 x hx).2.2⟩)
  have HIBB := hide (show Zp k pb ∧ ∀ x ∈ eb, ∀ b : Nat, lb < (b : Int) → addrOf x.1 b = addrOf pb b from ⟨b1, fun x hx => (b5 x hx).2.2⟩)
  have HB := hide (Below.refl w.heap.size w)
  have hsym := part_sym a1 b1
  have hps := part_spec pa pb (a1.1.trans b1.1.symm) a1.2 b1.2
  have hcA := hA.cases'
  have hcB := hB.cases'
  have HSYM := hide hsym
  clear H hA hB hd hN a2 a5 a6 a7 b2 b5 b6 b7 hsym
  rcases Int.lt_trichotomy la lb with hl | hl | hl
  · by_cases hc : part pa pb ≤ lb
    case neg =>
      obtain ⟨m, hm⟩ : ∃ m : Nat, part pa pb = (m : Int) := ⟨(part pa pb).toNat, by omega⟩
      have hne : addrOf pa m ≠ addrOf pb m := by
        have := hps.2.2.2 (by omega)
        rw [hm] at this
        simpa using this
      have HPM := hide hm
      have HNE := hide hne
      have HLL := hide (show la < (m : Int) ∧ lb < (m : Int) from ⟨by omega, by omega⟩)
      have ec1 : decide (part pa pb ≤ la) = false := by simp; omega
      have ec2 : decide (part pb pa ≤ lb) = false := by rw [← HSYM.out]; simp; omega
      have EC1 := hide ec1
      have EC2 := hide ec2
      clear hm hne hps hcA hcB ec1 ec2
      have e1 : (la == lb) = false := by simp; omega
      go_enter Try.func97, Try.ntmps97
      go_wp2_with fail
      refine (nd_level (HA.out.stay HB.out)).mono ?_
      rintro e w2 ⟨rfl, rfl⟩
      go_wp2_with fail
      refine (nd_level (HBB.out.stay HB.out)).mono ?_
      rintro e w3 ⟨rfl, rfl⟩
      go_wp2_with fail
      refine (nd_prefix (HBB.out.stay HB.out) hk).mono ?_
      rintro e w4 ⟨v4, rfl, ho4, hb4⟩
      obtain ⟨A4, c4, rfl, hp4⟩ := Pt.of_own ho4 HIBB.out.1.1 HIBB.out.1.2
      replace HB := hide (below_then HB.out hb4)
      have HP4 := hide hp4
      clear ho4 hb4 hp4
      have hcv5 := nd_covers (d := c4) (HA.out.stay HB.out) hk1 hk HP4.out
      rw [EC1.out] at hcv5
      have HCV5 := hide hcv5
      clear hcv5
      go_wp2_with fail
      refine HCV5.out.mono ?_
      rintro e w5 ⟨rfl, rfl⟩
      go_wp2_with fail
      refine (nd_prefix (HA.out.stay HB.out) hk).mono ?_
      rintro e w6 ⟨v6, rfl, ho6, hb6⟩
      obtain ⟨A6, c6, rfl, hp6⟩ := Pt.of_own ho6 HIA.out.1.1 HIA.out.1.2
      replace HB := hide (below_then HB.out hb6)
      have HP6 := hide hp6
      clear ho6 hb6 hp6
      have hcv7 := nd_covers (d := c6) (HBB.out.stay HB.out) hk1 hk HP6.out
      rw [EC2.out] at hcv7
      have HCV7 := hide hcv7
      clear hcv7
      go_wp2_with fail
      refine HCV7.out.mono ?_
      rintro e w7 ⟨rfl, rfl⟩
      go_wp2_with fail
      refine (nd_pair (HA.out.stay HB.out) (HBB.out.stay HB.out) hk1 hk HPM.out (by have := HLL.out; omega) (by have := HLL.out; omega)).mono ?_
      rintro e w90 ⟨gn, rfl, hFn, -, hb90⟩
      have HF := hide (show UnOut w k ea eb (.returned (.pointer (some ⟨gn, 0, none⟩))) w90 from ⟨gn, _, _, _, rfl, hFn.node, pair_mem HNE.out, below_then HB.out hb90⟩)
      clear hFn hb90
      go_wp2
      go_ret
      exact HF.out
    rcases hcB with ⟨_, _, _, h0, _⟩ | ⟨m, ks, hm, hes, hF⟩
    · omega
    subst hm hes
    have HFK := hide hF
    have hm64 := hF.lv
    have HLL := hide (show la < (m : Int) from hl)
    have HCV := hide (show part pb pa ≤ (m : Int) by rw [← HSYM.out]; exact hc)
    have ec2 : decide (part pb pa ≤ (m : Int)) = true := by simpa using HCV.out
    have EC2 := hide ec2
    have e2 : decide ((m : Int) < la) = false := by simp; omega
    have e3 : decide (la < (m : Int)) = true := by simpa using hl
    clear hF hcA ec2 hps
    by_cases hc1 : part pa pb ≤ la
    · have EC1 := hide (show decide (part pa pb ≤ la) = true by simpa using hc1)
      have e1 : (la == (m : Int)) = false := by simp; omega
      clear hc hc1 hl
      go_enter Try.func97, Try.ntmps97
      go_wp2_with fail
      refine (nd_level (HA.out.stay HB.out)).mono ?_
      rintro e w2 ⟨rfl, rfl⟩
      go_wp2_with fail
      refine (nd_level (HBB.out.stay HB.out)).mono ?_
      rintro e w3 ⟨rfl, rfl⟩
      go_wp2_with fail
      refine (nd_prefix (HBB.out.stay HB.out) hk).mono ?_
      rintro e w4 ⟨v4, rfl, ho4, hb4⟩
      obtain ⟨A4, c4, rfl, hp4⟩ := Pt.of_own ho4 HIBB.out.1.1 HIBB.out.1.2
      replace HB := hide (below_then HB.out hb4)
      have HP4 := hide hp4
      clear ho4 hb4 hp4
      have hcv5 := nd_covers (d := c4) (HA.out.stay HB.out) hk1 hk HP4.out
      rw [EC1.out] at hcv5
      have HCV5 := hide hcv5
      clear hcv5
      go_wp2_with fail
      refine HCV5.out.mono ?_
      rintro e w5 ⟨rfl, rfl⟩
      go_wp2_with fail
      refine (nd_level (HA.out.stay HB.out)).mono ?_
      rintro e w6 ⟨rfl, rfl⟩
      go_wp2_with fail
      refine (nd_level (HBB.out.stay HB.out)).mono ?_
      rintro e w7 ⟨rfl, rfl⟩
      go_wp2_with fail
      refine (nd_prefix (HA.out.stay HB.out) hk).mono ?_
      rintro e w8 ⟨v8, rfl, ho8, hb8⟩
      obtain ⟨A8, c8, rfl, hp8⟩ := Pt.of_own ho8 HIA.out.1.1 HIA.out.1.2
      replace HB := hide (below_then HB.out hb8)
      have HP8 := hide hp8
      clear ho8 hb8 hp8
      have hcv9 := nd_covers (d := c8) (HBB.out.stay HB.out) hk1 hk HP8.out
      rw [EC2.out] at hcv9
      have HCV9 := hide hcv9
      clear hcv9
      go_wp2_with fail
      refine HCV9.out.mono ?_
      rintro e w9 ⟨rfl, rfl⟩
      go_wp2_with fail
      refine (nd_level (HBB.out.stay HB.out)).mono ?_
      rintro e w10 ⟨rfl, rfl⟩
      go_wp2_with fail
      refine (nd_level (HA.out.stay HB.out)).mono ?_
      rintro e w11 ⟨rfl, rfl⟩
      go_wp2_with fail
      refine (nd_prefix (HA.out.stay HB.out) hk).mono ?_
      rintro e w12 ⟨v12, rfl, ho12, hb12⟩
      obtain ⟨A12, c12, rfl, hp12⟩ := Pt.of_own ho12 HIA.out.1.1 HIA.out.1.2
      replace HB := hide (below_then HB.out hb12)
      have HP12 := hide hp12
      clear ho12 hb12 hp12
      go_wp2_with fail
      refine (nd_level (HBB.out.stay HB.out)).mono ?_
      rintro e w13 ⟨rfl, rfl⟩
      go_wp2_with fail
      refine (zb_addr A12 k pa c12 m _ HP12.out hk1 hk hm64).mono ?_
      rintro e w14 ⟨rfl, rfl⟩
      have HKD := hide (nd_kid_at (HFK.out.stay HB.out) (addrOf pa m))
      go_wp2_with fail
      refine HKD.out.mono ?_
      rintro e w80 ⟨rfl, hb80⟩
      replace HB := hide (below_then HB.out hb80)
      have HUN := hide (un_kid_r HIH.out (HFK.out.stay HB.out) (HA.out.stay HB.out) (by have := HLN.out; omega) HAP.out (addrOf pa m))
      clear hb80 HKD
      go_wp2_with fail
      refine HUN.out.mono ?_
      rintro e w81 ⟨gr, lr, pr, er, rfl, hr, hmr, hb81⟩
      replace HB := hide (below_then HB.out hb81)
      have hun := under (m := m) (z := pa) hr (fun x hx => by
        rcases (hmr x).1 hx with h | h
        · exact fun b hb => (HIA.out.2 x h b (by have := HLL.out; omega))
        · exact kid_agree HFK.out HIA.out.1 HCV.out h)
      have hpr := hr.info.1
      have HWI := hide (nd_with (HFK.out.stay HB.out) hr hk1 hk ((part_le_iff HIBB.out.1 hpr m (by omega)).2 fun b hb => ((HFK.out.fk'.agree HIA.out.1 HCV.out b (by simp only; omega)).trans (hun.2 b (by omega)).symm)) hun.1)
      have HHU := hide (hun.2 m (Nat.le_refl _))
      have HMR := hide hmr
      clear hb81 hun hpr hr hmr HUN
      go_wp2_with fail
      refine HWI.out.mono ?_
      rintro e w82 ⟨gn, rfl, hFn, -, hb82⟩
      have HF := hide (show UnOut w k ea (kidEs ks) (.returned (.pointer (some ⟨gn, 0, none⟩))) w82 from ⟨gn, _, _, _, rfl, hFn.node, fun x => (un_mem HFK.out hFn HHU.out (fun y => (HMR.out y).trans or_comm) (fun y hy => HIA.out.2 y hy m (by have := HLL.out; omega)) x).trans or_comm, below_then HB.out hb82⟩)
      clear hFn hb82
      go_wp2
      go_ret
      exact HF.out
    · have EC1 := hide (show decide (part pa pb ≤ la) = false by simpa using hc1)
      have e1 : (la == (m : Int)) = false := by simp; omega
      clear hc hc1 hl
      go_enter Try.func97, Try.ntmps97
      go_wp2_with fail
      refine (nd_level (HA.out.stay HB.out)).mono ?_
      rintro e w2 ⟨rfl, rfl⟩
      go_wp2_with fail
      refine (nd_level (HBB.out.stay HB.out)).mono ?_
      rintro e w3 ⟨rfl, rfl⟩
      go_wp2_with fail
      refine (nd_prefix (HBB.out.stay HB.out) hk).mono ?_
      rintro e w4 ⟨v4, rfl, ho4, hb4⟩
      obtain ⟨A4, c4, rfl, hp4⟩ := Pt.of_own ho4 HIBB.out.1.1 HIBB.out.1.2
      replace HB := hide (below_then HB.out hb4)
      have HP4 := hide hp4
      clear ho4 hb4 hp4
      have hcv5 := nd_covers (d := c4) (HA.out.stay HB.out) hk1 hk HP4.out
      rw [EC1.out] at hcv5
      have HCV5 := hide hcv5
      clear hcv5
      go_wp2_with fail
      refine HCV5.out.mono ?_
      rintro e w5 ⟨rfl, rfl⟩
      go_wp2_with fail
      refine (nd_prefix (HA.out.stay HB.out) hk).mono ?_
      rintro e w6 ⟨v6, rfl, ho6, hb6⟩
      obtain ⟨A6, c6, rfl, hp6⟩ := Pt.of_own ho6 HIA.out.1.1 HIA.out.1.2
      replace HB := hide (below_then HB.out hb6)
      have HP6 := hide hp6
      clear ho6 hb6 hp6
      have hcv7 := nd_covers (d := c6) (HBB.out.stay HB.out) hk1 hk HP6.out
      rw [EC2.out] at hcv7
      have HCV7 := hide hcv7
      clear hcv7
      go_wp2_with fail
      refine HCV7.out.mono ?_
      rintro e w7 ⟨rfl, rfl⟩
      go_wp2_with fail
      refine (nd_level (HBB.out.stay HB.out)).mono ?_
      rintro e w8 ⟨rfl, rfl⟩
      go_wp2_with fail
      refine (nd_level (HA.out.stay HB.out)).mono ?_
      rintro e w9 ⟨rfl, rfl⟩
      go_wp2_with fail
      refine (nd_prefix (HA.out.stay HB.out) hk).mono ?_
      rintro e w10 ⟨v10, rfl, ho10, hb10⟩
      obtain ⟨A10, c10, rfl, hp10⟩ := Pt.of_own ho10 HIA.out.1.1 HIA.out.1.2
      replace HB := hide (below_then HB.out hb10)
      have HP10 := hide hp10
      clear ho10 hb10 hp10
      go_wp2_with fail
      refine (nd_level (HBB.out.stay HB.out)).mono ?_
      rintro e w11 ⟨rfl, rfl⟩
      go_wp2_with fail
      refine (zb_addr A10 k pa c10 m _ HP10.out hk1 hk hm64).mono ?_
      rintro e w12 ⟨rfl, rfl⟩
      have HKD := hide (nd_kid_at (HFK.out.stay HB.out) (addrOf pa m))
      go_wp2_with fail
      refine HKD.out.mono ?_
      rintro e w80 ⟨rfl, hb80⟩
      replace HB := hide (below_then HB.out hb80)
      have HUN := hide (un_kid_r HIH.out (HFK.out.stay HB.out) (HA.out.stay HB.out) (by have := HLN.out; omega) HAP.out (addrOf pa m))
      clear hb80 HKD
      go_wp2_with fail
      refine HUN.out.mono ?_
      rintro e w81 ⟨gr, lr, pr, er, rfl, hr, hmr, hb81⟩
      replace HB := hide (below_then HB.out hb81)
      have hun := under (m := m) (z := pa) hr (fun x hx => by
        rcases (hmr x).1 hx with h | h
        · exact fun b hb => (HIA.out.2 x h b (by have := HLL.out; omega))
        · exact kid_agree HFK.out HIA.out.1 HCV.out h)
      have hpr := hr.info.1
      have HWI := hide (nd_with (HFK.out.stay HB.out) hr hk1 hk ((part_le_iff HIBB.out.1 hpr m (by omega)).2 fun b hb => ((HFK.out.fk'.agree HIA.out.1 HCV.out b (by simp only; omega)).trans (hun.2 b (by omega)).symm)) hun.1)
      have HHU := hide (hun.2 m (Nat.le_refl _))
      have HMR := hide hmr
      clear hb81 hun hpr hr hmr HUN
      go_wp2_with fail
      refine HWI.out.mono ?_
      rintro e w82 ⟨gn, rfl, hFn, -, hb82⟩
      have HF := hide (show UnOut w k ea (kidEs ks) (.returned (.pointer (some ⟨gn, 0, none⟩))) w82 from ⟨gn, _, _, _, rfl, hFn.node, fun x => (un_mem HFK.out hFn HHU.out (fun y => (HMR.out y).trans or_comm) (fun y hy => HIA.out.2 y hy m (by have := HLL.out; omega)) x).trans or_comm, below_then HB.out hb82⟩)
      clear hFn hb82
      go_wp2
      go_ret
      exact HF.out
  · subst hl
    by_cases hc : part pa pb ≤ la
    case neg =>
      obtain ⟨m, hm⟩ : ∃ m : Nat, part pa pb = (m : Int) := ⟨(part pa pb).toNat, by omega⟩
      have hne : addrOf pa m ≠ addrOf pb m := by
        have := hps.2.2.2 (by omega)
        rw [hm] at this
        simpa using this
      have HPM := hide hm
      have HNE := hide hne
      have HLL := hide (show la < (m : Int) ∧ la < (m : Int) from ⟨by omega, by omega⟩)
      have ec1 : decide (part pa pb ≤ la) = false := by simp; omega
      have ec2 : decide (part pb pa ≤ la) = false := by rw [← HSYM.out]; simp; omega
      have EC1 := hide ec1
      have EC2 := hide ec2
      clear hm hne hps hcA hcB ec1 ec2
      have e1 : (la == la) = true := by simp
      go_enter Try.func97, Try.ntmps97
      go_wp2_with fail
      refine (nd_level (HA.out.stay HB.out)).mono ?_
      rintro e w2 ⟨rfl, rfl⟩
      go_wp2_with fail
      refine (nd_level (HBB.out.stay HB.out)).mono ?_
      rintro e w3 ⟨rfl, rfl⟩
      go_wp2_with fail
      refine (nd_prefix (HBB.out.stay HB.out) hk).mono ?_
      rintro e w4 ⟨v4, rfl, ho4, hb4⟩
      obtain ⟨A4, c4, rfl, hp4⟩ := Pt.of_own ho4 HIBB.out.1.1 HIBB.out.1.2
      replace HB := hide (below_then HB.out hb4)
      have HP4 := hide hp4
      clear ho4 hb4 hp4
      have hcv5 := nd_covers (d := c4) (HA.out.stay HB.out) hk1 hk HP4.out
      rw [EC1.out] at hcv5
      have HCV5 := hide hcv5
      clear hcv5
      go_wp2_with fail
      refine HCV5.out.mono ?_
      rintro e w5 ⟨rfl, rfl⟩
      go_wp2_with fail
      refine (nd_prefix (HBB.out.stay HB.out) hk).mono ?_
      rintro e w6 ⟨v6, rfl, ho6, hb6⟩
      obtain ⟨A6, c6, rfl, hp6⟩ := Pt.of_own ho6 HIBB.out.1.1 HIBB.out.1.2
      replace HB := hide (below_then HB.out hb6)
      have HP6 := hide hp6
      clear ho6 hb6 hp6
      have hcv7 := nd_covers (d := c6) (HA.out.stay HB.out) hk1 hk HP6.out
      rw [EC1.out] at hcv7
      have HCV7 := hide hcv7
      clear hcv7
      go_wp2_with fail
      refine HCV7.out.mono ?_
      rintro e w7 ⟨rfl, rfl⟩
      go_wp2_with fail
      refine (nd_prefix (HA.out.stay HB.out) hk).mono ?_
      rintro e w8 ⟨v8, rfl, ho8, hb8⟩
      obtain ⟨A8, c8, rfl, hp8⟩ := Pt.of_own ho8 HIA.out.1.1 HIA.out.1.2
      replace HB := hide (below_then HB.out hb8)
      have HP8 := hide hp8
      clear ho8 hb8 hp8
      have hcv9 := nd_covers (d := c8) (HBB.out.stay HB.out) hk1 hk HP8.out
      rw [EC2.out] at hcv9
      have HCV9 := hide hcv9
      clear hcv9
      go_wp2_with fail
      refine HCV9.out.mono ?_
      rintro e w9 ⟨rfl, rfl⟩
      go_wp2_with fail
      refine (nd_pair (HA.out.stay HB.out) (HBB.out.stay HB.out) hk1 hk HPM.out (by have := HLL.out; omega) (by have := HLL.out; omega)).mono ?_
      rintro e w90 ⟨gn, rfl, hFn, -, hb90⟩
      have HF := hide (show UnOut w k ea eb (.returned (.pointer (some ⟨gn, 0, none⟩))) w90 from ⟨gn, _, _, _, rfl, hFn.node, pair_mem HNE.out, below_then HB.out hb90⟩)
      clear hFn hb90
      go_wp2
      go_ret
      exact HF.out
    rcases hcA with ⟨_, _, v, h0, h1, _⟩ | ⟨m, ks, hm, hes, hF⟩
    · exfalso
      subst h0 h1
      rcases hcB with ⟨_, _, v', _, h1', _⟩ | ⟨m, ks, hm, _⟩
      · subst h1'
        exact HAP.out _ (List.mem_singleton.2 rfl) _ (List.mem_singleton.2 rfl) (part_neg a1 b1 (show part pa pb < 0 by omega))
      · omega
    subst hm hes
    rcases hcB with ⟨_, _, _, h0, _⟩ | ⟨m', ks', hm', hes', hF'⟩
    · omega
    obtain rfl : m' = m := by omega
    subst hes'
    have HFK := hide hF
    have HFB := hide hF'
    have HCV := hide hc
    have EC1 := hide (show decide (part pa pb ≤ (m' : Int)) = true by simpa using hc)
    have e1 : ((m' : Int) == (m' : Int)) = true := by simp
    have HAT := hide (fun q (hq : q ∈ ks') => pow_le_16 (hF'.kid q hq).2.2.2.2 hk)
    have HSO := hide hF'.sorted
    clear hF hF' hm' hc hps
    go_enter Try.func97, Try.ntmps97
    go_wp2_with fail
    refine (nd_level (HA.out.stay HB.out)).mono ?_
    rintro e w2 ⟨rfl, rfl⟩
    go_wp2_with fail
    refine (nd_level (HBB.out.stay HB.out)).mono ?_
    rintro e w3 ⟨rfl, rfl⟩
    go_wp2_with fail
    refine (nd_prefix (HBB.out.stay HB.out) hk).mono ?_
    rintro e w4 ⟨v4, rfl, ho4, hb4⟩
    obtain ⟨A4, c4, rfl, hp4⟩ := Pt.of_own ho4 HIBB.out.1.1 HIBB.out.1.2
    replace HB := hide (below_then HB.out hb4)
    have HP4 := hide hp4
    clear ho4 hb4 hp4
    have hcv5 := nd_covers (d := c4) (HA.out.stay HB.out) hk1 hk HP4.out
    rw [EC1.out] at hcv5
    have HCV5 := hide hcv5
    clear hcv5
    go_wp2_with fail
    refine HCV5.out.mono ?_
    rintro e w5 ⟨rfl, rfl⟩
    have H0 := hide (nd_from_0 (HFB.out.stay HB.out))
    go_wp2_with fail
    refine H0.out.mono ?_
    rintro e w20 ⟨rfl, hb20⟩
    replace HB := hide (below_then HB.out hb20)
    have HFA := hide (HFK.out.stay HB.out)
    clear hb20 H0
    go_wp2
    go_loopw [5, 6, 7] (fun x5 x6 x7 wr => ∃ (go j : Nat) (ko : List Kid), x5 = .pointer (some ⟨go, 0, none⟩) ∧ x6 = .int .i64 ((kAt ks' j : Nat) : Int) ∧ x7 = kPt ks' j ∧ j ≤ ks'.length ∧ Fork wr k go m' pa ko ∧ (∀ x, x ∈ kidEs ko ↔ x ∈ kidEs ks ∨ x ∈ kidEs (ks'.take j)) ∧ Below w.heap.size w wr) (fun _ x6 x7 _ => fromM x6 x7)
    case atStart => exact ⟨ga, 0, ks, rfl, rfl, rfl, Nat.zero_le _, HFA.out, fun x => by simp [kidEs], HB.out⟩
    case round =>
      obtain ⟨go, j, ko, rfl, rfl, rfl, hj, hFo, hmo, hb⟩ := hrel
      rename World => wz
      have HFO := hide hFo
      have HMO := hide hmo
      clear HB HFA
      have HB := hide hb
      clear hFo hmo hb
      rcases Nat.lt_or_ge j ks'.length with hjl | hjl
      case inr =>
        rw [kAt_none hjl, kPt_none hjl]
        have HF := hide (show UnOut w k (kidEs ks) (kidEs ks') (.returned (.pointer (some ⟨go, 0, none⟩))) wz from ⟨go, _, _, _, rfl, HFO.out.node, fun x => by rw [HMO.out, List.take_of_length_le hjl], HB.out⟩)
        clear hjl
        go_wp2
        go_ret
        exact HF.out
      obtain ⟨q, hq⟩ : ∃ q, ks'[j]? = some q := ⟨ks'[j], List.getElem?_eq_getElem hjl⟩
      rw [kAt_some hq, kPt_some hq]
      have hqm := List.mem_of_getElem? hq
      have hkq := HFB.out.kid q hqm
      have hqa1 : ((q.at_ : Nat) : Int) ≤ 65535 := by have := HAT.out q hqm; omega
      have HQ := hide hq
      have HKQ := hide hkq
      have hag : ∀ b, m' < b → addrOf pa b = addrOf q.pre b := fun b hb => (HFK.out.fk'.agree HIBB.out.1 HCV.out b hb).trans (hkq.2.2.2.1 b hb).symm
      have hcq : part pa q.pre ≤ (m' : Int) := (part_le_iff HIA.out.1 hkq.1.info.1 m' (by omega)).2 fun b hb => hag b (by omega)
      have HAG := hide (And.intro hag hcq)
      have HKD := hide (nd_kid_at (HFK.out.stay HB.out) q.at_)
      have heq : ∀ x ∈ q.es, ∀ b, m' ≤ b → addrOf x.1 b = addrOf q.pre b := fun x hx b hb => (hkq.1.info.2.2.2.2.1 x hx).2.2 b (by have := hkq.2.1; omega)
      have HEQ := hide heq
      have hap : Apart (kidEs ks) q.es := fun x hx y hy => HAP.out x hx y (mem_kidEs.2 ⟨q, hqm, hy⟩)
      have hsm := kid_small HFB.out hqm
      have HSM := hide (show (kidEs ks).length + q.es.length ≤ N by have := HLN.out; omega)
      have HAPQ := hide hap
      clear hq hqm hkq hag hcq heq hap hsm
      go_wp2_with fail
      refine HKD.out.mono ?_
      rintro e w21 ⟨rfl, hb21⟩
      replace HFO := hide (HFO.out.stay hb21)
      replace HB := hide (below_then HB.out hb21)
      clear hb21 HKD
      have hka := un_kid_l HIH.out (HFK.out.stay HB.out) (HKQ.out.1.stay HB.out) HSM.out HAPQ.out q.at_
      cases hkk : kidAt ks q.at_ with
      | some x =>
        rw [hkk] at hka
        have HKK := hide hkk
        have HUN := hide hka
        unfold ptrOf
        simp only [Option.map_some]
        clear hka hkk
        go_wp2_with fail
        refine HUN.out.mono ?_
        rintro e w22 ⟨gr, lr, pr, er, rfl, hr, hmr, hb22⟩
        rw [← HKK.out] at hmr
        replace HFO := hide (HFO.out.stay hb22)
        replace HB := hide (below_then HB.out hb22)
        clear hb22 HUN
        have hun := under (m := m') (z := q.pre) hr (fun x hx => by
          rcases (hmr x).1 hx with h | h
          · rw [← HKQ.out.2.2.1] at h
            exact kid_agree HFK.out HKQ.out.1.info.1 HAG.out.2 h
          · exact HEQ.out x h)
        have hpr := hr.info.1
        have HWI := hide (nd_with HFO.out hr hk1 hk ((part_le_iff HIA.out.1 hpr m' (by omega)).2 fun b hb => ((HAG.out.1 b (by omega)).trans (hun.2 b (by omega)).symm)) hun.1)
        have hat : addrOf pr m' = addrOf q.pre m' := hun.2 m' (Nat.le_refl _)
        have HATQ := hide hat
        have HMR := hide hmr
        clear hun hpr hr hmr hat
        go_wp2_with fail
        refine HWI.out.mono ?_
        rintro e w23 ⟨gn, rfl, hFn, -, hb23⟩
        have hmn : ∀ x, x ∈ kidEs (insK ko ⟨addrOf pr m', gr, lr, pr, er⟩) ↔ x ∈ kidEs ks ∨ x ∈ kidEs (ks'.take (j + 1)) := fun x => by
          rw [mem_ins hFn HFO.out, kidEs_take HQ.out, List.mem_append]
          simp only
          rw [HATQ.out, HKQ.out.2.2.1, HMO.out]
          have hfa := HFK.out.fk'.mem (e := x) (a := q.at_)
          simp only at hfa
          constructor
          · rintro (⟨h1, h2⟩ | ⟨h1, h2 | h2⟩)
            · rcases (HMR.out x).1 h2 with h2 | h2
              · exact .inl ((hfa h1).2 h2)
              · exact .inr (.inr h2)
            · exact .inl h2
            · exact .inr (.inl h2)
          · rintro (h | h | h)
            · by_cases ha : addrOf x.1 m' = q.at_
              · exact .inl ⟨ha, (HMR.out x).2 (.inl ((hfa ha).1 h))⟩
              · exact .inr ⟨ha, .inl h⟩
            · refine .inr ⟨?_, .inr h⟩
              obtain ⟨r, hr, hx⟩ := mem_kidEs.1 h
              have h1 := (HFB.out.fk'.es r (List.mem_of_mem_take hr) x hx).2.1
              simp only at h1
              rw [h1]
              obtain ⟨i, hi, rfl⟩ := List.mem_iff_getElem.1 hr
              rw [List.length_take] at hi
              have h2 := List.pairwise_iff_getElem.1 HSO.out i j (by omega) (List.getElem?_eq_some_iff.1 HQ.out).1 (by omega)
              rw [(List.getElem?_eq_some_iff.1 HQ.out).2] at h2
              rw [List.getElem_take]
              omega
            · refine .inl ⟨?_, (HMR.out x).2 (.inr h)⟩
              rw [HEQ.out x h m' (Nat.le_refl _)]
              exact HKQ.out.2.2.1
        have HMN := hide hmn
        replace HB := hide (below_then HB.out hb23)
        have HNX := hide (nd_from_next (HFB.out.stay HB.out) HQ.out)
        have HFN := hide hFn
        clear hFn hmn hb23 HWI
        go_wp2_with fail
        refine HNX.out.mono ?_
        rintro e w24 ⟨rfl, hb24⟩
        have HFN2 := hide (HFN.out.stay hb24)
        replace HB := hide (below_then HB.out hb24)
        clear hb24 HNX
        go_wp2
        go_roundw
        case rel => exact ⟨gn, j + 1, _, rfl, rfl, rfl, by have := (List.getElem?_eq_some_iff.1 HQ.out).1; omega, HFN2.out, HMN.out, HB.out⟩
        case measure => exact fromM_lt HSO.out HAT.out HQ.out
      | none =>
        have hmr : ∀ x, x ∈ q.es ↔ x ∈ esOf (kidAt ks q.at_) ∨ x ∈ q.es := fun x => by rw [hkk]; simp [esOf]
        have hr := HKQ.out.1.stay HB.out
        unfold ptrOf
        simp only [Option.map_none]
        clear hka hkk
        have hun := under (m := m') (z := q.pre) hr (fun x hx => by
          rcases (hmr x).1 hx with h | h
          · rw [← HKQ.out.2.2.1] at h
            exact kid_agree HFK.out HKQ.out.1.info.1 HAG.out.2 h
          · exact HEQ.out x h)
        have hpr := hr.info.1
        have HWI := hide (nd_with HFO.out hr hk1 hk ((part_le_iff HIA.out.1 hpr m' (by omega)).2 fun b hb => ((HAG.out.1 b (by omega)).trans (hun.2 b (by omega)).symm)) hun.1)
        have hat : addrOf q.pre m' = addrOf q.pre m' := hun.2 m' (Nat.le_refl _)
        have HATQ := hide hat
        have HMR := hide hmr
        clear hun hpr hr hmr hat
        go_wp2_with fail
        refine HWI.out.mono ?_
        rintro e w23 ⟨gn, rfl, hFn, -, hb23⟩
        have hmn : ∀ x, x ∈ kidEs (insK ko ⟨addrOf q.pre m', q.blk, q.lv, q.pre, q.es⟩) ↔ x ∈ kidEs ks ∨ x ∈ kidEs (ks'.take (j + 1)) := fun x => by
          rw [mem_ins hFn HFO.out, kidEs_take HQ.out, List.mem_append]
          simp only
          rw [HKQ.out.2.2.1, HMO.out]
          have hfa := HFK.out.fk'.mem (e := x) (a := q.at_)
          simp only at hfa
          constructor
          · rintro (⟨h1, h2⟩ | ⟨h1, h2 | h2⟩)
            · rcases (HMR.out x).1 h2 with h2 | h2
              · exact .inl ((hfa h1).2 h2)
              · exact .inr (.inr h2)
            · exact .inl h2
            · exact .inr (.inl h2)
          · rintro (h | h | h)
            · by_cases ha : addrOf x.1 m' = q.at_
              · exact .inl ⟨ha, (HMR.out x).2 (.inl ((hfa ha).1 h))⟩
              · exact .inr ⟨ha, .inl h⟩
            · refine .inr ⟨?_, .inr h⟩
              obtain ⟨r, hr, hx⟩ := mem_kidEs.1 h
              have h1 := (HFB.out.fk'.es r (List.mem_of_mem_take hr) x hx).2.1
              simp only at h1
              rw [h1]
              obtain ⟨i, hi, rfl⟩ := List.mem_iff_getElem.1 hr
              rw [List.length_take] at hi
              have h2 := List.pairwise_iff_getElem.1 HSO.out i j (by omega) (List.getElem?_eq_some_iff.1 HQ.out).1 (by omega)
              rw [(List.getElem?_eq_some_iff.1 HQ.out).2] at h2
              rw [List.getElem_take]
              omega
            · refine .inl ⟨?_, (HMR.out x).2 (.inr h)⟩
              rw [HEQ.out x h m' (Nat.le_refl _)]
              exact HKQ.out.2.2.1
        have HMN := hide hmn
        replace HB := hide (below_then HB.out hb23)
        have HNX := hide (nd_from_next (HFB.out.stay HB.out) HQ.out)
        have HFN := hide hFn
        clear hFn hmn hb23 HWI
        go_wp2_with fail
        refine HNX.out.mono ?_
        rintro e w24 ⟨rfl, hb24⟩
        have HFN2 := hide (HFN.out.stay hb24)
        replace HB := hide (below_then HB.out hb24)
        clear hb24 HNX
        go_wp2
        go_roundw
        case rel => exact ⟨gn, j + 1, _, rfl, rfl, rfl, by have := (List.getElem?_eq_some_iff.1 HQ.out).1; omega, HFN2.out, HMN.out, HB.out⟩
        case measure => exact fromM_lt HSO.out HAT.out HQ.out
  · by_cases hc : part pa pb ≤ la
    case neg =>
      obtain ⟨m, hm⟩ : ∃ m : Nat, part pa pb = (m : Int) := ⟨(part pa pb).toNat, by omega⟩
      have hne : addrOf pa m ≠ addrOf pb m := by
        have := hps.2.2.2 (by omega)
        rw [hm] at this
        simpa using this
      have HPM := hide hm
      have HNE := hide hne
      have HLL := hide (show la < (m : Int) ∧ lb < (m : Int) from ⟨by omega, by omega⟩)
      have ec1 : decide (part pa pb ≤ la) = false := by simp; omega
      have ec2 : decide (part pb pa ≤ lb) = false := by rw [← HSYM.out]; simp; omega
      have EC1 := hide ec1
      have EC2 := hide ec2
      clear hm hne hps hcA hcB ec1 ec2
      have e1 : (la == lb) = false := by simp; omega
      go_enter Try.func97, Try.ntmps97
      go_wp2_with fail
      refine (nd_level (HA.out.stay HB.out)).mono ?_
      rintro e w2 ⟨rfl, rfl⟩
      go_wp2_with fail
      refine (nd_level (HBB.out.stay HB.out)).mono ?_
      rintro e w3 ⟨rfl, rfl⟩
      go_wp2_with fail
      refine (nd_prefix (HBB.out.stay HB.out) hk).mono ?_
      rintro e w4 ⟨v4, rfl, ho4, hb4⟩
      obtain ⟨A4, c4, rfl, hp4⟩ := Pt.of_own ho4 HIBB.out.1.1 HIBB.out.1.2
      replace HB := hide (below_then HB.out hb4)
      have HP4 := hide hp4
      clear ho4 hb4 hp4
      have hcv5 := nd_covers (d := c4) (HA.out.stay HB.out) hk1 hk HP4.out
      rw [EC1.out] at hcv5
      have HCV5 := hide hcv5
      clear hcv5
      go_wp2_with fail
      refine HCV5.out.mono ?_
      rintro e w5 ⟨rfl, rfl⟩
      go_wp2_with fail
      refine (nd_prefix (HA.out.stay HB.out) hk).mono ?_
      rintro e w6 ⟨v6, rfl, ho6, hb6⟩
      obtain ⟨A6, c6, rfl, hp6⟩ := Pt.of_own ho6 HIA.out.1.1 HIA.out.1.2
      replace HB := hide (below_then HB.out hb6)
      have HP6 := hide hp6
      clear ho6 hb6 hp6
      have hcv7 := nd_covers (d := c6) (HBB.out.stay HB.out) hk1 hk HP6.out
      rw [EC2.out] at hcv7
      have HCV7 := hide hcv7
      clear hcv7
      go_wp2_with fail
      refine HCV7.out.mono ?_
      rintro e w7 ⟨rfl, rfl⟩
      go_wp2_with fail
      refine (nd_pair (HA.out.stay HB.out) (HBB.out.stay HB.out) hk1 hk HPM.out (by have := HLL.out; omega) (by have := HLL.out; omega)).mono ?_
      rintro e w90 ⟨gn, rfl, hFn, -, hb90⟩
      have HF := hide (show UnOut w k ea eb (.returned (.pointer (some ⟨gn, 0, none⟩))) w90 from ⟨gn, _, _, _, rfl, hFn.node, pair_mem HNE.out, below_then HB.out hb90⟩)
      clear hFn hb90
      go_wp2
      go_ret
      exact HF.out
    rcases hcA with ⟨_, _, _, h0, _⟩ | ⟨m, ks, hm, hes, hF⟩
    · omega
    subst hm hes
    have HFK := hide hF
    have hm64 := hF.lv
    have HLL := hide (show lb < (m : Int) from hl)
    have HCV := hide hc
    have EC1 := hide (show decide (part pa pb ≤ (m : Int)) = true by simpa using hc)
    have e2 : decide (lb < (m : Int)) = true := by simpa using hl
    have e1 : ((m : Int) == lb) = false := by simp; omega
    clear hF hcB hps hc hl
    go_enter Try.func97, Try.ntmps97
    go_wp2_with fail
    refine (nd_level (HA.out.stay HB.out)).mono ?_
    rintro e w2 ⟨rfl, rfl⟩
    go_wp2_with fail
    refine (nd_level (HBB.out.stay HB.out)).mono ?_
    rintro e w3 ⟨rfl, rfl⟩
    go_wp2_with fail
    refine (nd_prefix (HBB.out.stay HB.out) hk).mono ?_
    rintro e w4 ⟨v4, rfl, ho4, hb4⟩
    obtain ⟨A4, c4, rfl, hp4⟩ := Pt.of_own ho4 HIBB.out.1.1 HIBB.out.1.2
    replace HB := hide (below_then HB.out hb4)
    have HP4 := hide hp4
    clear ho4 hb4 hp4
    have hcv5 := nd_covers (d := c4) (HA.out.stay HB.out) hk1 hk HP4.out
    rw [EC1.out] at hcv5
    have HCV5 := hide hcv5
    clear hcv5
    go_wp2_with fail
    refine HCV5.out.mono ?_
    rintro e w5 ⟨rfl, rfl⟩
    go_wp2_with fail
    refine (nd_level (HA.out.stay HB.out)).mono ?_
    rintro e w6 ⟨rfl, rfl⟩
    go_wp2_with fail
    refine (nd_level (HBB.out.stay HB.out)).mono ?_
    rintro e w7 ⟨rfl, rfl⟩
    go_wp2_with fail
    refine (nd_prefix (HBB.out.stay HB.out) hk).mono ?_
    rintro e w8 ⟨v8, rfl, ho8, hb8⟩
    obtain ⟨A8, c8, rfl, hp8⟩ := Pt.of_own ho8 HIBB.out.1.1 HIBB.out.1.2
    replace HB := hide (below_then HB.out hb8)
    have HP8 := hide hp8
    clear ho8 hb8 hp8
    go_wp2_with fail
    refine (nd_level (HA.out.stay HB.out)).mono ?_
    rintro e w9 ⟨rfl, rfl⟩
    go_wp2_with fail
    refine (zb_addr A8 k pb c8 m _ HP8.out hk1 hk hm64).mono ?_
    rintro e w10 ⟨rfl, rfl⟩
    have HKD := hide (nd_kid_at (HFK.out.stay HB.out) (addrOf pb m))
    go_wp2_with fail
    refine HKD.out.mono ?_
    rintro e w80 ⟨rfl, hb80⟩
    replace HB := hide (below_then HB.out hb80)
    have HUN := hide (un_kid_l HIH.out (HFK.out.stay HB.out) (HBB.out.stay HB.out) (by have := HLN.out; omega) HAP.out (addrOf pb m))
    clear hb80 HKD
    go_wp2_with fail
    refine HUN.out.mono ?_
    rintro e w81 ⟨gr, lr, pr, er, rfl, hr, hmr, hb81⟩
    replace HB := hide (below_then HB.out hb81)
    have hun := under (m := m) (z := pb) hr (fun x hx => by
      rcases (hmr x).1 hx with h | h
      · exact kid_agree HFK.out HIBB.out.1 HCV.out h
      · exact fun b hb => (HIBB.out.2 x h b (by have := HLL.out; omega)))
    have hpr := hr.info.1
    have HWI := hide (nd_with (HFK.out.stay HB.out) hr hk1 hk ((part_le_iff HIA.out.1 hpr m (by omega)).2 fun b hb => ((HFK.out.fk'.agree HIBB.out.1 HCV.out b (by simp only; omega)).trans (hun.2 b (by omega)).symm)) hun.1)
    have HHU := hide (hun.2 m (Nat.le_refl _))
    have HMR := hide hmr
    clear hb81 hun hpr hr hmr HUN
    go_wp2_with fail
    refine HWI.out.mono ?_
    rintro e w82 ⟨gn, rfl, hFn, -, hb82⟩
    have HF := hide (show UnOut w k (kidEs ks) eb (.returned (.pointer (some ⟨gn, 0, none⟩))) w82 from ⟨gn, _, _, _, rfl, hFn.node, fun x => un_mem HFK.out hFn HHU.out HMR.out (fun y hy => HIBB.out.2 y hy m (by have := HLL.out; omega)) x, below_then HB.out hb82⟩)
    clear hFn hb82
    go_wp2
    go_ret
    exact HF.out
theorem un_hyp {k : Nat} (hk1 : 1 ≤ k) (hk : k ≤ 16) : ∀ N, UnHyp k N
  | 0 => fun _ _ _ _ _ _ _ _ _ h => absurd h (Nat.not_lt_zero _)
  | N + 1 => fun w ga gb la lb pa pb ea eb h hA hB hd => rk_union_step hk1 hk (un_hyp hk1 hk N) w ga gb la lb pa pb ea eb (by omega) hA hB hd
theorem rk_union {k : Nat} (hk1 : 1 ≤ k) (hk : k ≤ 16) {w : World} {ga gb : Nat} {la lb : Int} {pa pb : List Nat} {ea eb : List Ent} (hA : NodeOf w k ga la pa ea) (hB : NodeOf w k gb lb pb eb) (hd : Apart ea eb) : Calls Try.prog 97 #[.pointer (some ⟨ga, 0, none⟩), .pointer (some ⟨gb, 0, none⟩)] w (UnOut w k ea eb) :=
  un_hyp hk1 hk (ea.length + eb.length + 1) w ga gb la lb pa pb ea eb (by omega) hA hB hd
end Go.Proofs.Ytnopacldaoekiaa
