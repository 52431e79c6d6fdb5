/- pantilelaw07: Done, awake, Heavy, Grown. -/
import Derived.Test.YtfkpanpageeklaaTrC
import Derived.Test.YtfkpanpageeklaaEnA
import Derived.Test.YtfkpanpageeklaaReA
set_option linter.unusedSimpArgs false
set_option linter.unusedVariables false
namespace Go.Proofs.Ytfkpanpageeklaa
open Go.RowKit
/-- A tree and the list of its entries. -/
def Now (w : World) (k t : Nat) (A : Option Addr) (n c : Nat) : Prop := ∃ rows es, TreeOf w k t es ∧ EntsAt w A n rows ∧ n ≤ c ∧ SortR k rows ∧ (∀ r ∈ rows, r.n = k) ∧ ents rows = es
theorem Now.stay {w w' : World} {k t : Nat} {A : Option Addr} {n c : Nat} (h : Now w k t A n c) (hb : Below w.heap.size w w') : Now w' k t A n c := by
  obtain ⟨rows, es, h1, h2, h3, h4, h5, h6⟩ := h
  exact ⟨rows, es, h1.stay hb, h2.below hb, h3, h4, h5, h6⟩
theorem TreeOf.sorted {w : World} {k t : Nat} {es : List Ent} (h : TreeOf w k t es) : Zsorted es ∧ ∀ e ∈ es, Zp k e.1 ∧ e.2 < 2 ^ 64 := by
  obtain ⟨h1, h2, ⟨_, rfl⟩ | ⟨g, lv, pre, _, hN⟩⟩ := h
  · exact ⟨List.Pairwise.nil, fun e he => (by cases he)⟩
  · obtain ⟨i1, i2, i3, i4, i5, i6, i7⟩ := hN.info
    exact ⟨i6, fun e he => ⟨(i5 e he).1, (i5 e he).2.1⟩⟩
theorem mem_ents {rows : List ER} {e : Ent} : e ∈ ents rows ↔ ∃ r ∈ rows, (r.p, r.v) = e := by
  unfold ents ER.e
  rw [List.mem_map]
theorem now_new {w : World} {k t : Nat} {A : Option Addr} {c : Nat} (hk1 : 1 ≤ k) (hk : k ≤ 16) (hT : TreeBlk w t k none) : Now w k t A 0 c :=
  ⟨[], [], ⟨hk1, hk, .inl ⟨hT, rfl⟩⟩, ⟨Rw.nil _ _ _, fun r hr => (by cases hr)⟩, Nat.zero_le _, SortR.nil k, fun r hr => (by cases hr), rfl⟩
theorem now_del {w : World} {k t : Nat} {A : Option Addr} {n c : Nat} {rows : List ER} {es es' : List Ent} {p : List Nat} (hS : SortR k rows) (hkk : ∀ r ∈ rows, r.n = k) (hes : ents rows = es) (hp : Zp k p) (hT : TreeOf w k t es') (hm : ∀ x, x ∈ es' ↔ x ∈ es ∧ x.1 ≠ p) (hE : EntsAt w A n (delR rows p)) (hnc : n ≤ c) : Now w k t A n c := by
  obtain ⟨s1, s2⟩ := del_spec hS hp
  refine ⟨delR rows p, es', hT, hE, hnc, s1, fun r hr => hkk r (mem_delR hr), sorted_ext s1.ents hT.sorted.1 fun e => ?_⟩
  rw [hm, ← hes, mem_ents, mem_ents]
  constructor
  · rintro ⟨r, hr, rfl⟩
    obtain ⟨h1, h2⟩ := (s2 r).1 hr
    exact ⟨⟨r, h1, rfl⟩, h2⟩
  · rintro ⟨⟨r, hr, rfl⟩, h⟩
    exact ⟨r, (s2 r).2 ⟨hr, h⟩, rfl⟩
theorem now_put {w : World} {k t : Nat} {A : Option Addr} {n c : Nat} {rows : List ER} {es es' : List Ent} {q : ER} (hS : SortR k rows) (hkk : ∀ r ∈ rows, r.n = k) (hes : ents rows = es) (hp : Zp k q.p) (hqn : q.n = k) (hT : TreeOf w k t es') (hm : ∀ x, x ∈ es' ↔ x = (q.p, q.v) ∨ (x ∈ es ∧ x.1 ≠ q.p)) (hE : EntsAt w A n (putR rows q)) (hnc : n ≤ c) : Now w k t A n c := by
  obtain ⟨s1, s2⟩ := put_spec hS hp
  refine ⟨putR rows q, es', hT, hE, hnc, s1, fun r hr => ?_, sorted_ext s1.ents hT.sorted.1 fun e => ?_⟩
  · rcases mem_putR hr with rfl | hr
    · exact hqn
    · exact hkk r hr
  · rw [hm, ← hes, mem_ents, mem_ents]
    constructor
    · rintro ⟨r, hr, rfl⟩
      rcases (s2 r).1 hr with rfl | ⟨h1, h2⟩
      · exact .inl rfl
      · exact .inr ⟨⟨r, h1, rfl⟩, h2⟩
    · rintro (rfl | ⟨⟨r, hr, rfl⟩, h⟩)
      · exact ⟨q, (s2 q).2 (.inl rfl), rfl⟩
      · exact ⟨r, (s2 r).2 (.inr ⟨hr, h⟩), rfl⟩
theorem has_iff {k : Nat} {rows : List ER} {es : List Ent} {p : List Nat} (hS : SortR k rows) (hes : ents rows = es) (hp : Zp k p) : hasR rows p = true ↔ ∃ v, (p, v) ∈ es := by
  rw [(has_spec hS hp).2, ← hes]
  constructor
  · rintro ⟨r, hr, rfl⟩
    exact ⟨r.v, mem_ents.2 ⟨r, hr, rfl⟩⟩
  · rintro ⟨v, hv⟩
    obtain ⟨r, hr, he⟩ := mem_ents.1 hv
    injection he with he _
    exact ⟨r, hr, he⟩
theorem has_val {k : Nat} {rows : List ER} {es : List Ent} {p : List Nat} {r : ER} (hS : SortR k rows) (hes : ents rows = es) (hp : Zp k p) (hh : hasR rows p = true) (hr : rows[plR rows p]? = some r) : (p, r.v) ∈ es := by
  obtain ⟨s, hs, he⟩ := (has_spec hS hp).1.1 hh
  rw [hr] at hs
  injection hs with hs
  subst hs
  rw [← hes]
  exact mem_ents.2 ⟨r, List.mem_of_getElem? hr, by rw [he]⟩
theorem uniq_val {es : List Ent} (h : Zsorted es) {p : List Nat} {v v' : Nat} (h1 : (p, v) ∈ es) (h2 : (p, v') ∈ es) : v = v' := by
  induction es with
  | nil => cases h1
  | cons e es ih =>
    obtain ⟨a, b⟩ := List.pairwise_cons.1 h
    rcases List.mem_cons.1 h1 with h1' | h1'
    · rcases List.mem_cons.1 h2 with h2' | h2'
      · rw [← h1'] at h2'
        injection h2' with _ h3
        exact h3.symm
      · have := a _ h2'
        rw [← h1'] at this
        exact absurd this (zlt_irrefl p)
    · rcases List.mem_cons.1 h2 with h2' | h2'
      · have := a _ h1'
        rw [← h2'] at this
        exact absurd this (zlt_irrefl p)
      · exact ih b h1' h2'
theorem tree_info : ∃ j, Try.prog.info? 100 = some j ∧ j.size ≠ 0 := by
  have h : (Try.prog.info? 100).map (fun j => j.size) = some 2 := by kernel_rfl
  obtain ⟨j, hj, h8⟩ := Option.map_eq_some_iff.1 h
  exact ⟨j, hj, by omega⟩
theorem tptr_same (a : Addr) (w : World) : (binOp .eql 25 (.pointer (some a)) (.pointer (some a))).run Try.prog w = .ok (.bool true) w := by
  obtain ⟨j, hj, _⟩ := tree_info
  exact run_eql_ptr_same w a Try.underlying25 hj
theorem tptr_other {w : World} {a b : Nat} {ca cb : Array Value} {ta tb : TypeId} (hne : a ≠ b) (ha : Blk w a ta ca) (hb : Blk w b tb cb) : (binOp .eql 25 (.pointer (some ⟨a, 0, none⟩)) (.pointer (some ⟨b, 0, none⟩))).run Try.prog w = .ok (.bool false) w := by
  obtain ⟨j, hj, h0⟩ := tree_info
  exact run_eql_ptr_other w Try.underlying25 hj h0 (fun h => hne (by injection h)) ha hb
theorem TreeOf.blk {w : World} {k t : Nat} {es : List Ent} (h : TreeOf w k t es) : ∃ root, TreeBlk w t k root := by
  obtain ⟨_, _, ⟨h, _⟩ | ⟨g, _, _, h, _⟩⟩ := h
  · exact ⟨_, h⟩
  · exact ⟨_, h⟩
/-- What Done answers. -/
def DoneOut (w : World) (k n : Nat) (e : Ending) (w' : World) : Prop :=
  ∃ (t' : Nat) (A' : Option Addr) (n' c' : Nat), e = .returned (.tuple #[.pointer (some ⟨t', 0, none⟩), .slice A' n' c', .bool true]) ∧ Now w' k t' A' n' c' ∧ n' ≤ n + 1 ∧ Below w.heap.size w w'
set_option maxHeartbeats 4000000 in
set_option maxRecDepth 100000 in
theorem done_del {w : World} {k t n c : Nat} {A : Option Addr} (hN : Now w k t A n c) (hn : n ≤ 1000) {RA : Option Addr} {Rn Rc v : Nat} {p : List Nat} (hp : Pt w RA Rn p) (hc : Rn ≤ Rc) (hm : Rc ≤ maxLen) (hv : v < 2 ^ 64) :
    Calls Try.prog 27 #[.pointer (some ⟨t, 0, none⟩), .slice A n c, .agg #[.bool true, .slice RA Rn Rc, .int .u64 (v : Int)]] w (DoneOut w k n) := by
  obtain ⟨rows, es, hT, hE, hnc, hS, hkk, hes⟩ := hN
  obtain ⟨root, hTB⟩ := hT.blk
  have b1 := (Below.refl w.heap.size w).alloc (Nat.le_refl _) (.cells #[.bool true, .slice RA Rn Rc, .int .u64 (v : Int)] 56)
  have hA := Blk.new w 56 #[.bool true, .slice RA Rn Rc, .int .u64 (v : Int)]
  have HB1 := hide b1
  have HTB := hide hTB
  have HT := hide hT
  have HE := hide hE
  have HS := hide hS
  have HKK := hide hkk
  have HES := hide hes
  have HP := hide hp
  have HNC := hide hnc
  clear hT hE hS hkk hes hTB hp b1 hnc
  go_enter Try.func27, Try.ntmps27
  go_upto_region 1 with fail
  generalize w.alloc (.cells #[.bool true, .slice RA Rn Rc, .int .u64 (v : Int)] 56) = w1 at *
  have HK := hide (tr_k (Blk.below HTB.out HB1.out))
  have y0 := hA.cell 0
  have y1 := hA.cell 1
  have y2 := hA.cell 2
  simp at y0 y1 y2
  have HA := hide hA
  clear hA
  go_wp2_with fail
  refine HK.out.mono ?_
  rintro e w2 ⟨rfl, rfl⟩
  by_cases hRk : Rn = k
  · subst hRk
    have HZ := hide HP.out.zp
    have HD := hide (tr_del (c := Rc) (HT.out.stay HB1.out) (HP.out.below HB1.out))
    have hk16 : Rn ≤ 16 := HT.out.2.1
    clear HK
    go_wp2_with fail
    refine HD.out.mono ?_
    rintro e w2 ⟨⟨rfl, hno⟩ | ⟨t', es', v', rfl, hT', hin, hmem⟩, hb2⟩
    · have c2 := below_then HB1.out hb2
      have HC2 := hide c2
      have hA2 := HA.out.below hb2
      have y0 := hA2.cell 0
      have y1 := hA2.cell 1
      have y2 := hA2.cell 2
      simp at y0 y1 y2
      have HG := hide (ref_get A RA n c Rn Rc rows p w2 (HE.out.below c2) HKK.out (HP.out.below c2) (by omega) (by omega))
      have HNO := hide hno
      clear hA2 c2 hb2 HD hno
      go_wp2_with fail
      refine HG.out.mono ?_
      rintro e w3 ⟨⟨v3, ok, rfl, hok, h0, h1⟩, rfl⟩
      have hokf : ok = false := by
        rw [hok]
        cases hh : hasR rows p with
        | false => rfl
        | true =>
          obtain ⟨v, hv⟩ := (has_iff HS.out HES.out HZ.out).1 hh
          exact absurd hv (HNO.out v)
      subst hokf
      clear hok h0 h1 HG
      go_wp2
      go_ret3
      exact ⟨t, A, n, c, rfl, ⟨rows, es, HT.out.stay HC2.out, HE.out.below HC2.out, HNC.out, HS.out, HKK.out, HES.out⟩, by omega, HC2.out⟩
    · have c2 := below_then HB1.out hb2
      have HC2 := hide c2
      have hA2 := HA.out.below hb2
      have y0 := hA2.cell 0
      have y1 := hA2.cell 1
      have y2 := hA2.cell 2
      simp at y0 y1 y2
      have HG := hide (ref_get A RA n c Rn Rc rows p w2 (HE.out.below c2) HKK.out (HP.out.below c2) (by omega) (by omega))
      have HRD := hide (ref_del A RA n c Rn Rc rows p w2 (HE.out.below c2) HNC.out HKK.out (HP.out.below c2) (by omega) (by omega))
      have HIN := hide hin
      have HMEM := hide hmem
      have HT' := hide hT'
      clear hA2 c2 hb2 HD hin hmem hT'
      go_wp2_with fail
      refine HG.out.mono ?_
      rintro e w3 ⟨⟨v3, ok, rfl, hok, h0, h1⟩, rfl⟩
      have hokf : ok = true := by
        rw [hok]
        exact (has_iff HS.out HES.out HZ.out).2 ⟨v', HIN.out⟩
      subst hokf
      clear hok h0 h1 HG
      go_wp2_with fail
      refine HRD.out.mono ?_
      rintro e w4 ⟨A', n', c', rfl, hE', hnc', hn', hb4⟩
      have HH := hide (And.intro hE' (And.intro hnc' (And.intro hn' hb4)))
      clear hE' hnc' hn' hb4 HRD
      go_wp2
      go_ret3
      obtain ⟨hE', hnc', hn', hb4⟩ := HH.out
      exact ⟨t', A', n', c', rfl, now_del HS.out HKK.out HES.out HZ.out (HT'.out.stay hb4) HMEM.out hE' hnc', by omega, below_then HC2.out hb4⟩
  · have HD := hide (tr_del_dim (Blk.below HTB.out HB1.out) RA Rn Rc hRk)
    have e1 : ((Rn : Int) != (k : Int)) = true := by simp; omega
    clear HK hRk
    go_wp2_with fail
    refine HD.out.mono ?_
    rintro e w2 ⟨rfl, rfl⟩
    go_wp2
    go_ret3
    exact ⟨t, A, n, c, rfl, ⟨rows, es, HT.out.stay HB1.out, HE.out.below HB1.out, HNC.out, HS.out, HKK.out, HES.out⟩, by omega, HB1.out⟩
theorem tptr_run {w : World} {a b : Nat} {ca cb : Array Value} {ta tb : TypeId} (ha : Blk w a ta ca) (hb : Blk w b tb cb) : (binOp .eql 25 (.pointer (some ⟨a, 0, none⟩)) (.pointer (some ⟨b, 0, none⟩))).run Try.prog w = .ok (.bool (decide (a = b))) w := by
  by_cases h : a = b
  · subst h
    rw [tptr_same]
    simp
  · rw [tptr_other h ha hb]
    simp [h]
set_option maxHeartbeats 4000000 in
set_option maxRecDepth 100000 in
theorem done_put {w : World} {k t n c : Nat} {A : Option Addr} (hN : Now w k t A n c) (hn : n ≤ 1000) {RA : Option Addr} {Rn Rc v : Nat} {p : List Nat} (hp : Pt w RA Rn p) (hc : Rn ≤ Rc) (hm : Rc ≤ maxLen) (hv : v < 2 ^ 64) :
    Calls Try.prog 27 #[.pointer (some ⟨t, 0, none⟩), .slice A n c, .agg #[.bool false, .slice RA Rn Rc, .int .u64 (v : Int)]] w (DoneOut w k n) := by
  obtain ⟨rows, es, hT, hE, hnc, hS, hkk, hes⟩ := hN
  obtain ⟨root, hTB⟩ := hT.blk
  have b1 := (Below.refl w.heap.size w).alloc (Nat.le_refl _) (.cells #[.bool false, .slice RA Rn Rc, .int .u64 (v : Int)] 56)
  have hA := Blk.new w 56 #[.bool false, .slice RA Rn Rc, .int .u64 (v : Int)]
  have HB1 := hide b1
  have HTB := hide hTB
  have HT := hide hT
  have HE := hide hE
  have HS := hide hS
  have HKK := hide hkk
  have HES := hide hes
  have HP := hide hp
  have HNC := hide hnc
  have HSO := hide hT.sorted.1
  clear hT hE hS hkk hes hTB hp b1 hnc
  go_enter Try.func27, Try.ntmps27
  go_upto_region 1 with fail
  generalize w.alloc (.cells #[.bool false, .slice RA Rn Rc, .int .u64 (v : Int)] 56) = w1 at *
  have HK := hide (tr_k (Blk.below HTB.out HB1.out))
  have y0 := hA.cell 0
  have y1 := hA.cell 1
  have y2 := hA.cell 2
  simp at y0 y1 y2
  have HA := hide hA
  clear hA
  go_wp2_with fail
  refine HK.out.mono ?_
  rintro e w2 ⟨rfl, rfl⟩
  by_cases hRk : Rn = k
  · subst hRk
    have HZ := hide HP.out.zp
    have HD := hide (tr_put (c := Rc) (HT.out.stay HB1.out) (HP.out.below HB1.out) hv)
    have hk16 : Rn ≤ 16 := HT.out.2.1
    clear HK
    go_wp2_with fail
    refine HD.out.mono ?_
    rintro e w2 ⟨t', es', rfl, hT', hmem, htt, hb2⟩
    have c2 := below_then HB1.out hb2
    have HC2 := hide c2
    have hA2 := HA.out.below hb2
    have y0 := hA2.cell 0
    have y1 := hA2.cell 1
    have y2 := hA2.cell 2
    simp at y0 y1 y2
    have hal : w.heap.size < w2.heap.size := hA2.lt
    have HG := hide (ref_get A RA n c Rn Rc rows p w2 (HE.out.below c2) HKK.out (HP.out.below c2) (by omega) (by omega))
    have HRP := hide (ref_put A RA n c Rn Rc v rows p w2.drew ((HE.out.below c2).below (Below.refl _ w2).drew) HNC.out HKK.out ((HP.out.below c2).below (Below.refl _ w2).drew) hc hm (by omega) (by omega) hv)
    have HMEM := hide hmem
    have HT' := hide hT'
    have HTT := hide htt
    obtain ⟨root', hTB'⟩ := hT'.blk
    have HQ := hide (fun (W : World) (hW : Below w2.heap.size w2 W) => tptr_run (Blk.below hTB' hW) (Blk.below (Blk.below HTB.out c2) hW))
    clear hA2 c2 hb2 HD hmem hT' htt hTB'
    go_wp2_with fail
    refine HG.out.mono ?_
    rintro e w3 ⟨⟨v3, ok, rfl, hok, h0, h1⟩, rfl⟩
    clear HG
    cases ok with
    | false =>
      have hne : t' ≠ t := fun h => by
        have h2 := (has_iff HS.out HES.out HZ.out).2 ⟨v, HTT.out.1 h⟩
        rw [← hok] at h2
        cases h2
      clear h1
      have hq0 := HQ.out w2 (Below.refl _ _)
      rw [show decide (t' = t) = false by simp [hne]] at hq0
      have HQB := hide (fun W hW => by have := HQ.out W hW; rw [show decide (t' = t) = false by simp [hne]] at this; exact this)
      have hk0 := And.intro (show w2.drew.cell? ⟨w.heap.size, 1, none⟩ = _ from y1) (And.intro (show w2.drew.cell? ⟨w.heap.size, 2, none⟩ = _ from y2) (HQB.out w2.drew (Below.refl _ _).drew))
      clear HQ hok hne
      go_wp2_with fail
      refine wp_region_held_drew (S := (fun w' => w'.cell? ⟨w.heap.size, 1, none⟩ = some (.slice RA Rn Rc) ∧ w'.cell? ⟨w.heap.size, 2, none⟩ = some (.int .u64 (v : Int)) ∧ (binOp .eql 25 (.pointer (some ⟨t', 0, none⟩)) (.pointer (some ⟨t, 0, none⟩))).run Try.prog w' = .ok (.bool false) w')) (by kernel_rfl) hk0 (fun hHeld => ?_)
      refine wpAnyH_take (i := 0) (oi := { dst := some 99, op := _, type := _, pos := _, after := _, guard := _ }) (v := ?_) rfl (by kernel_rfl) (by kernel_rfl) (by kernel_rfl) (fun _ _ _ h => h) (Or.inl ⟨by rfl, ?_⟩) (by assumption) ?_
      rotate_left 1
      · intro wS hSw
        try dsimp only at hSw
        go_simp
        all_goals with_reducible rfl
      try simp only [Act.put, List.setIfInBounds_toArray, List.set_cons_zero, List.set_cons_succ]
      refine wpAnyH_take (i := 1) (oi := { dst := some 100, op := _, type := _, pos := _, after := _, guard := _ }) (v := ?_) rfl (by kernel_rfl) (by kernel_rfl) (by kernel_rfl) (fun _ _ _ h => h) (Or.inl ⟨by rfl, ?_⟩) (by assumption) ?_
      rotate_left 1
      · intro wS hSw
        try dsimp only at hSw
        go_simp
        all_goals with_reducible rfl
      try simp only [Act.put, List.setIfInBounds_toArray, List.set_cons_zero, List.set_cons_succ]
      refine wpAnyH_take (i := 2) (oi := { dst := some 101, op := _, type := _, pos := _, after := _, guard := _ }) (v := ?_) rfl (by kernel_rfl) (by kernel_rfl) (by kernel_rfl) (fun _ _ _ h => h) (Or.inl ⟨by rfl, ?_⟩) (by assumption) ?_
      rotate_left 1
      · intro wS hSw
        try dsimp only at hSw
        go_simp
        all_goals with_reducible rfl
      try simp only [Act.put, List.setIfInBounds_toArray, List.set_cons_zero, List.set_cons_succ]
      refine wpAnyH_take (i := 3) (oi := { dst := some 102, op := _, type := _, pos := _, after := _, guard := _ }) (v := ?_) rfl (by kernel_rfl) (by kernel_rfl) (by kernel_rfl) (fun _ _ _ h => h) (Or.inl ⟨by rfl, ?_⟩) (by assumption) ?_
      rotate_left 1
      · intro wS hSw
        try dsimp only at hSw
        go_simp
        all_goals with_reducible rfl
      try simp only [Act.put, List.setIfInBounds_toArray, List.set_cons_zero, List.set_cons_succ]
      refine wpAnyH_take (i := 4) (oi := { dst := some 103, op := _, type := _, pos := _, after := _, guard := _ }) (v := ?_) rfl (by kernel_rfl) (by kernel_rfl) (by kernel_rfl) (fun _ _ _ h => h) (Or.inl ⟨by rfl, ?_⟩) (by assumption) ?_
      rotate_left 1
      · intro wS hSw
        try dsimp only at hSw
        go_simp
        all_goals with_reducible rfl
      try simp only [Act.put, List.setIfInBounds_toArray, List.set_cons_zero, List.set_cons_succ]
      refine wpAnyH_take (i := 5) (oi := { dst := some 104, op := _, type := _, pos := _, after := _, guard := _ }) (v := ?_) rfl (by kernel_rfl) (by kernel_rfl) (by kernel_rfl) (fun _ _ _ h => h) (Or.inl ⟨by rfl, ?_⟩) (by assumption) ?_
      rotate_left 1
      · intro wS hSw
        try dsimp only at hSw
        go_simp
        all_goals with_reducible rfl
      try simp only [Act.put, List.setIfInBounds_toArray, List.set_cons_zero, List.set_cons_succ]
      refine wpAnyH_take (i := 7) (oi := { dst := some 106, op := _, type := _, pos := _, after := _, guard := _ }) (v := ?_) rfl (by kernel_rfl) (by kernel_rfl) (by kernel_rfl) (fun _ _ _ h => h) (Or.inl ⟨by rfl, ?_⟩) (by assumption) ?_
      rotate_left 1
      · intro wS hSw
        try dsimp only at hSw
        go_simp
        all_goals with_reducible rfl
      try simp only [Act.put, List.setIfInBounds_toArray, List.set_cons_zero, List.set_cons_succ]
      refine wpAnyH_take (i := 8) (oi := { dst := some 107, op := _, type := _, pos := _, after := _, guard := _ }) (v := ?_) rfl (by kernel_rfl) (by kernel_rfl) (by kernel_rfl) (fun _ _ _ h => h) (Or.inl ⟨by rfl, ?_⟩) (by assumption) ?_
      rotate_left 1
      · intro wS hSw
        try dsimp only at hSw
        go_simp
        all_goals with_reducible rfl
      try simp only [Act.put, List.setIfInBounds_toArray, List.set_cons_zero, List.set_cons_succ]
      refine wpAnyH_ready (rs := [6]) (by kernel_rfl) (by simp) ?_
      refine AllReadyH.cons (o := { dst := some 105, op := _, type := _, pos := _, after := _, guard := _ }) rfl (fun K hK => ?_) ?_
      · go_simp
        go_at_call 52
        refine HRP.out.mono ?_
        rintro e w5 ⟨A', n', c', rfl, hE', hnc', hn', hb5⟩
        have hd5 : Below w2.heap.size w2 w5 := (Below.refl _ w2).drew.trans hb5
        have HH := hide (And.intro hE' (And.intro hnc' (And.intro hn' hd5)))
        have hk5 := And.intro ((hd5.cell (p := ⟨w.heap.size, 1, none⟩) hal).trans y1) (And.intro ((hd5.cell (p := ⟨w.heap.size, 2, none⟩) hal).trans y2) (HQB.out w5 hd5))
        clear hE' hnc' hn' hb5
        try go_wp2_with fail
        refine hK.out _ _ ?_ (fun hHeld => ?_)
        · exact hk5
        clear hK K
        try simp only [Act.put, List.setIfInBounds_toArray, List.set_cons_zero, List.set_cons_succ]
        refine wpAnyH_take (i := 9) (oi := { dst := some 108, op := _, type := _, pos := _, after := _, guard := _ }) (v := ?_) rfl (by kernel_rfl) (by kernel_rfl) (by kernel_rfl) (fun _ _ _ h => h) (Or.inl ⟨by rfl, ?_⟩) (by assumption) ?_
        rotate_left 1
        · intro wS hSw
          try dsimp only at hSw
          go_simp
          all_goals with_reducible rfl
        try simp only [Act.put, List.setIfInBounds_toArray, List.set_cons_zero, List.set_cons_succ]
        refine wpAnyH_take (i := 10) (oi := { dst := some 109, op := _, type := _, pos := _, after := _, guard := _ }) (v := ?_) rfl (by kernel_rfl) (by kernel_rfl) (by kernel_rfl) (fun _ _ _ h => h) (Or.inl ⟨by rfl, ?_⟩) (by assumption) ?_
        rotate_left 1
        · intro wS hSw
          try dsimp only at hSw
          go_simp
          all_goals with_reducible rfl
        try simp only [Act.put, List.setIfInBounds_toArray, List.set_cons_zero, List.set_cons_succ]
        refine wpAnyH_take (i := 11) (oi := { dst := some 110, op := _, type := _, pos := _, after := _, guard := _ }) (v := ?_) rfl (by kernel_rfl) (by kernel_rfl) (by kernel_rfl) (fun _ _ _ h => h) (Or.inl ⟨by rfl, ?_⟩) (by assumption) ?_
        rotate_left 1
        · intro wS hSw
          try dsimp only at hSw
          go_simp
          all_goals with_reducible rfl
        try simp only [Act.put, List.setIfInBounds_toArray, List.set_cons_zero, List.set_cons_succ]
        refine wpAnyH_take (i := 12) (oi := { dst := some 111, op := _, type := _, pos := _, after := _, guard := _ }) (v := ?_) rfl (by kernel_rfl) (by kernel_rfl) (by kernel_rfl) (fun _ _ _ h => h) (Or.inl ⟨by rfl, ?_⟩) (by assumption) ?_
        rotate_left 1
        · intro wS hSw
          try dsimp only at hSw
          go_simp
          all_goals with_reducible rfl
        try simp only [Act.put, List.setIfInBounds_toArray, List.set_cons_zero, List.set_cons_succ]
        refine wpAnyH_take (i := 13) (oi := { dst := some 112, op := _, type := _, pos := _, after := _, guard := _ }) (v := ?_) rfl (by kernel_rfl) (by kernel_rfl) (by kernel_rfl) (fun _ _ _ h => h) (Or.inl ⟨by rfl, ?_⟩) (by assumption) ?_
        rotate_left 1
        · intro wS hSw
          try dsimp only at hSw
          go_simp
          all_goals with_reducible rfl
        try simp only [Act.put, List.setIfInBounds_toArray, List.set_cons_zero, List.set_cons_succ]
        refine wpAnyH_take (i := 14) (oi := { dst := some 113, op := _, type := _, pos := _, after := _, guard := _ }) (v := ?_) rfl (by kernel_rfl) (by kernel_rfl) (by kernel_rfl) (fun _ _ _ h => h) (Or.inl ⟨by rfl, ?_⟩) (by assumption) ?_
        rotate_left 1
        · intro wS hSw
          try dsimp only at hSw
          go_simp
          all_goals with_reducible rfl
        try simp only [Act.put, List.setIfInBounds_toArray, List.set_cons_zero, List.set_cons_succ]
        refine wpAnyH_take (i := 15) (oi := { dst := some 114, op := _, type := _, pos := _, after := _, guard := _ }) (v := ?_) rfl (by kernel_rfl) (by kernel_rfl) (by kernel_rfl) (fun _ _ _ h => h) (Or.inl ⟨by rfl, ?_⟩) (by assumption) ?_
        rotate_left 1
        · intro wS hSw
          try dsimp only at hSw
          go_simp
          all_goals with_reducible rfl
        try simp only [Act.put, List.setIfInBounds_toArray, List.set_cons_zero, List.set_cons_succ]
        refine wpAnyH_take (i := 16) (oi := { dst := some 115, op := _, type := _, pos := _, after := _, guard := _ }) (v := undef) rfl (by kernel_rfl) (by kernel_rfl) (by kernel_rfl) (fun _ _ _ h => h) (Or.inr ⟨by rfl, rfl⟩) (by assumption) ?_
        try simp only [Act.put, List.setIfInBounds_toArray, List.set_cons_zero, List.set_cons_succ]
        refine wpAnyH_take (i := 17) (oi := { dst := some 116, op := _, type := _, pos := _, after := _, guard := _ }) (v := undef) rfl (by kernel_rfl) (by kernel_rfl) (by kernel_rfl) (fun _ _ _ h => h) (Or.inr ⟨by rfl, rfl⟩) (by assumption) ?_
        try simp only [Act.put, List.setIfInBounds_toArray, List.set_cons_zero, List.set_cons_succ]
        refine wpAnyH_take (i := 18) (oi := { dst := some 117, op := _, type := _, pos := _, after := _, guard := _ }) (v := undef) rfl (by kernel_rfl) (by kernel_rfl) (by kernel_rfl) (fun _ _ _ h => h) (Or.inr ⟨by rfl, rfl⟩) (by assumption) ?_
        try simp only [Act.put, List.setIfInBounds_toArray, List.set_cons_zero, List.set_cons_succ]
        refine wpAnyH_take (i := 19) (oi := { dst := some 118, op := _, type := _, pos := _, after := _, guard := _ }) (v := undef) rfl (by kernel_rfl) (by kernel_rfl) (by kernel_rfl) (fun _ _ _ h => h) (Or.inr ⟨by rfl, rfl⟩) (by assumption) ?_
        try simp only [Act.put, List.setIfInBounds_toArray, List.set_cons_zero, List.set_cons_succ]
        refine wpAnyH_take (i := 20) (oi := { dst := some 119, op := _, type := _, pos := _, after := _, guard := _ }) (v := ?_) rfl (by kernel_rfl) (by kernel_rfl) (by kernel_rfl) (fun _ _ _ h => h) (Or.inl ⟨by rfl, ?_⟩) (by assumption) ?_
        rotate_left 1
        · intro wS hSw
          try dsimp only at hSw
          go_simp
          all_goals with_reducible rfl
        try simp only [Act.put, List.setIfInBounds_toArray, List.set_cons_zero, List.set_cons_succ]
        refine wpAnyH_take (i := 21) (oi := { dst := some 120, op := _, type := _, pos := _, after := _, guard := _ }) (v := ?_) rfl (by kernel_rfl) (by kernel_rfl) (by kernel_rfl) (fun _ _ _ h => h) (Or.inl ⟨by rfl, ?_⟩) (by assumption) ?_
        rotate_left 1
        · intro wS hSw
          try dsimp only at hSw
          go_simp
          all_goals with_reducible rfl
        try simp only [Act.put, List.setIfInBounds_toArray, List.set_cons_zero, List.set_cons_succ]
        refine wpAnyH_take (i := 22) (oi := { dst := some 121, op := _, type := _, pos := _, after := _, guard := _ }) (v := ?_) rfl (by kernel_rfl) (by kernel_rfl) (by kernel_rfl) (fun _ _ _ h => h) (Or.inl ⟨by rfl, ?_⟩) (by assumption) ?_
        rotate_left 1
        · intro wS hSw
          try dsimp only at hSw
          go_simp
          all_goals with_reducible rfl
        try simp only [Act.put, List.setIfInBounds_toArray, List.set_cons_zero, List.set_cons_succ]
        refine wpAnyH_take (i := 23) (oi := { dst := some 122, op := _, type := _, pos := _, after := _, guard := _ }) (v := ?_) rfl (by kernel_rfl) (by kernel_rfl) (by kernel_rfl) (fun _ _ _ h => h) (Or.inl ⟨by rfl, ?_⟩) (by assumption) ?_
        rotate_left 1
        · intro wS hSw
          try dsimp only at hSw
          go_simp
          all_goals with_reducible rfl
        try simp only [Act.put, List.setIfInBounds_toArray, List.set_cons_zero, List.set_cons_succ]
        refine wpAnyH_take (i := 24) (oi := { dst := some 123, op := _, type := _, pos := _, after := _, guard := _ }) (v := ?_) rfl (by kernel_rfl) (by kernel_rfl) (by kernel_rfl) (fun _ _ _ h => h) (Or.inl ⟨by rfl, ?_⟩) (by assumption) ?_
        rotate_left 1
        · intro wS hSw
          try dsimp only at hSw
          go_simp
          all_goals with_reducible rfl
        try simp only [Act.put, List.setIfInBounds_toArray, List.set_cons_zero, List.set_cons_succ]
        refine wpAnyH_take (i := 25) (oi := { dst := some 124, op := _, type := _, pos := _, after := _, guard := _ }) (v := ?_) rfl (by kernel_rfl) (by kernel_rfl) (by kernel_rfl) (fun _ _ _ h => h) (Or.inl ⟨by rfl, ?_⟩) (by assumption) ?_
        rotate_left 1
        · intro wS hSw
          try dsimp only at hSw
          go_simp
          all_goals with_reducible rfl
        try simp only [Act.put, List.setIfInBounds_toArray, List.set_cons_zero, List.set_cons_succ]
        refine wpAnyH_take (i := 26) (oi := { dst := some 6, op := _, type := _, pos := _, after := _, guard := _ }) (v := ?_) rfl (by kernel_rfl) (by kernel_rfl) (by kernel_rfl) (fun _ _ _ h => h) (Or.inl ⟨by rfl, ?_⟩) (by assumption) ?_
        rotate_left 1
        · intro wS hSw
          try dsimp only at hSw
          go_simp
          all_goals with_reducible rfl
        try simp only [Act.put, List.setIfInBounds_toArray, List.set_cons_zero, List.set_cons_succ]
        refine wpAnyH_take (i := 27) (oi := { dst := some 7, op := _, type := _, pos := _, after := _, guard := _ }) (v := ?_) rfl (by kernel_rfl) (by kernel_rfl) (by kernel_rfl) (fun _ _ _ h => h) (Or.inl ⟨by rfl, ?_⟩) (by assumption) ?_
        rotate_left 1
        · intro wS hSw
          try dsimp only at hSw
          go_simp
          all_goals with_reducible rfl
        try simp only [Act.put, List.setIfInBounds_toArray, List.set_cons_zero, List.set_cons_succ]
        refine wpAnyH_take (i := 28) (oi := { dst := some 8, op := _, type := _, pos := _, after := _, guard := _ }) (v := ?_) rfl (by kernel_rfl) (by kernel_rfl) (by kernel_rfl) (fun _ _ _ h => h) (Or.inl ⟨by rfl, ?_⟩) (by assumption) ?_
        rotate_left 1
        · intro wS hSw
          try dsimp only at hSw
          go_simp
          all_goals with_reducible rfl
        try simp only [Act.put, List.setIfInBounds_toArray, List.set_cons_zero, List.set_cons_succ]
        refine wpAnyH_done (by kernel_rfl) ?_ _
        go_wp2
        go_ret3
        obtain ⟨hE', hnc', hn', hb4⟩ := HH.out
        exact ⟨t', A', n', c', rfl, now_put HS.out HKK.out HES.out HZ.out rfl (HT'.out.stay hb4) HMEM.out hE' hnc', by omega, below_then HC2.out hb4⟩
      · exact AllReadyH.nil
    | true =>
      obtain ⟨r, hr, hrv⟩ := h1 rfl
      have hin := has_val HS.out HES.out HZ.out hok.symm hr
      rw [hrv] at hin
      by_cases hvv : v3 = v
      · subst hvv
        have htt : t' = t := HTT.out.2 hin
        clear h1 h0 hr hrv hin
        have hq0 := HQ.out w2 (Below.refl _ _)
        rw [show decide (t' = t) = true by simp [htt]] at hq0
        have HQB := hide (fun W hW => by have := HQ.out W hW; rw [show decide (t' = t) = true by simp [htt]] at this; exact this)
        have hk0 := And.intro (show w2.drew.cell? ⟨w.heap.size, 1, none⟩ = _ from y1) (And.intro (show w2.drew.cell? ⟨w.heap.size, 2, none⟩ = _ from y2) (HQB.out w2.drew (Below.refl _ _).drew))
        clear HQ hok
        clear htt
        go_wp2_with fail
        first
          | go_region_held3 (fun w' => w'.cell? ⟨w.heap.size, 1, none⟩ = some (.slice RA Rn Rc) ∧ w'.cell? ⟨w.heap.size, 2, none⟩ = some (.int .u64 (v3 : Int)) ∧ (binOp .eql 25 (.pointer (some ⟨t', 0, none⟩)) (.pointer (some ⟨t, 0, none⟩))).run Try.prog w' = .ok (.bool true) w')
              (first
                | go_keep
                | exact hk5
                | exact hk0)
              (first
                | (go_at_call 52
                   refine HRP.out.mono ?_
                   rintro e w5 ⟨A', n', c', rfl, hE', hnc', hn', hb5⟩
                   have hd5 : Below w2.heap.size w2 w5 := (Below.refl _ w2).drew.trans hb5
                   have HH := hide (And.intro hE' (And.intro hnc' (And.intro hn' hd5)))
                   have hk5 := And.intro ((hd5.cell (p := ⟨w.heap.size, 1, none⟩) hal).trans y1) (And.intro ((hd5.cell (p := ⟨w.heap.size, 2, none⟩) hal).trans y2) (HQB.out w5 hd5))
                   clear hE' hnc' hn' hb5))
          | fail
        all_goals
          go_wp2
          go_ret3
          obtain ⟨hE', hnc', hn', hb4⟩ := HH.out
          exact ⟨t', A', n', c', rfl, now_put HS.out HKK.out HES.out HZ.out rfl (HT'.out.stay hb4) HMEM.out hE' hnc', by omega, below_then HC2.out hb4⟩
      · have hne : t' ≠ t := fun h => hvv (uniq_val HSO.out hin (HTT.out.1 h))
        have ev : ((v3 : Int) == (v : Int)) = false := by simp; omega
        clear h1 hr hrv hin hvv
        have hq0 := HQ.out w2 (Below.refl _ _)
        rw [show decide (t' = t) = false by simp [hne]] at hq0
        have HQB := hide (fun W hW => by have := HQ.out W hW; rw [show decide (t' = t) = false by simp [hne]] at this; exact this)
        have hk0 := And.intro (show w2.drew.cell? ⟨w.heap.size, 1, none⟩ = _ from y1) (And.intro (show w2.drew.cell? ⟨w.heap.size, 2, none⟩ = _ from y2) (HQB.out w2.drew (Below.refl _ _).drew))
        clear HQ hok
        clear hne
        go_wp2_with fail
        first
          | go_region_held3 (fun w' => w'.cell? ⟨w.heap.size, 1, none⟩ = some (.slice RA Rn Rc) ∧ w'.cell? ⟨w.heap.size, 2, none⟩ = some (.int .u64 (v : Int)) ∧ (binOp .eql 25 (.pointer (some ⟨t', 0, none⟩)) (.pointer (some ⟨t, 0, none⟩))).run Try.prog w' = .ok (.bool false) w')
              (first
                | go_keep
                | exact hk5
                | exact hk0)
              (first
                | (go_at_call 52
                   refine HRP.out.mono ?_
                   rintro e w5 ⟨A', n', c', rfl, hE', hnc', hn', hb5⟩
                   have hd5 : Below w2.heap.size w2 w5 := (Below.refl _ w2).drew.trans hb5
                   have HH := hide (And.intro hE' (And.intro hnc' (And.intro hn' hd5)))
                   have hk5 := And.intro ((hd5.cell (p := ⟨w.heap.size, 1, none⟩) hal).trans y1) (And.intro ((hd5.cell (p := ⟨w.heap.size, 2, none⟩) hal).trans y2) (HQB.out w5 hd5))
                   clear hE' hnc' hn' hb5))
          | fail
        all_goals
          go_wp2
          go_ret3
          obtain ⟨hE', hnc', hn', hb4⟩ := HH.out
          exact ⟨t', A', n', c', rfl, now_put HS.out HKK.out HES.out HZ.out rfl (HT'.out.stay hb4) HMEM.out hE' hnc', by omega, below_then HC2.out hb4⟩
  · have HD := hide (tr_put_dim (Blk.below HTB.out HB1.out) RA Rn Rc (v : Int) hRk)
    have e1 : ((Rn : Int) != (k : Int)) = true := by simp; omega
    clear HK hRk
    go_wp2_with fail
    refine HD.out.mono ?_
    rintro e w2 ⟨rfl, rfl⟩
    go_wp2
    go_ret3
    exact ⟨t, A, n, c, rfl, ⟨rows, es, HT.out.stay HB1.out, HE.out.below HB1.out, HNC.out, HS.out, HKK.out, HES.out⟩, by omega, HB1.out⟩
theorem pt_lit2 (w : World) (a b : Nat) (ha : a < 2 ^ 64) (hb : b < 2 ^ 64) : Pt (w.alloc (.cells #[.int .u64 (a : Int), .int .u64 (b : Int)] 50)) (some ⟨w.heap.size, 0, none⟩) 2 [a, b] := by
  refine ⟨rfl, Rw.of_blk (Blk.new w 50 #[.int .u64 (a : Int), .int .u64 (b : Int)]) rfl ?_, fun x hx => ?_⟩
  · intro j u h
    simpa [u64s] using h
  · simp at hx
    rcases hx with rfl | rfl
    · exact ha
    · exact hb
theorem es_awake {es1 es2 es3 : List Ent} (h1 : ∀ x, x ∈ es1 ↔ x = ([7, 3], 1) ∨ (x ∈ ([] : List Ent) ∧ x.1 ≠ [7, 3])) (h2 : ∀ x, x ∈ es2 ↔ x = ([0, 8], 2) ∨ (x ∈ es1 ∧ x.1 ≠ [0, 8])) (h3 : ∀ x, x ∈ es3 ↔ x = ([4, 0], 3) ∨ (x ∈ es2 ∧ x.1 ≠ [4, 0])) (hs : Zsorted es3) :
    es3 = [([4, 0], 3), ([7, 3], 1), ([0, 8], 2)] := by
  have z1 : Zlt [4, 0] [7, 3] := (cmp_lt (k := 2) ⟨rfl, by decide⟩ ⟨rfl, by decide⟩).1 (by decide +kernel)
  have z2 : Zlt [7, 3] [0, 8] := (cmp_lt (k := 2) ⟨rfl, by decide⟩ ⟨rfl, by decide⟩).1 (by decide +kernel)
  refine sorted_ext hs ?_ fun e => ?_
  · unfold Zsorted
    simp only [List.pairwise_cons, List.mem_cons, List.not_mem_nil, or_false, forall_eq_or_imp, forall_eq, List.Pairwise.nil, and_true]
    exact ⟨⟨z1, zlt_trans z1 z2⟩, z2, fun a h => h.elim⟩
  · rw [h3, h2, h1]
    simp only [List.mem_cons, List.not_mem_nil, or_false, false_and]
    constructor
    · rintro (rfl | ⟨rfl | ⟨rfl, _⟩, _⟩)
      · simp
      · simp
      · simp
    · rintro (rfl | rfl | rfl)
      · simp
      · simp
      · simp
set_option maxHeartbeats 2000000 in
set_option maxRecDepth 100000 in
theorem heavy7 (A : Option Addr) (n c m : Nat) (acts : List TA) (w : World) (h : ActsAt w A n acts) (hm : m ≤ 1000) :
    Calls Try.prog 7 #[.slice A n c, .int .i64 (m : Int)] w fun e w' => (e = .returned (.bool true) ∨ (e = .returned (.bool false) ∧ n ≤ m)) ∧ Below w.heap.size w w' := by
  have HE := hide h
  clear h
  by_cases hnm : n ≤ m
  · have e1 : ¬ m < n := by omega
    have hn1000 : n ≤ 1000 := by omega
    have HNM := hide hnm
    clear hnm
    go_enter Try.func7, Try.ntmps7
    go_wp2
    go_loop [5] (fun x5 => ∃ (j : Nat), x5 = .int .i64 (j : Int) ∧ j ≤ n) (fun x => n - (intOf x).toNat)
    case atStart => exact ⟨0, rfl, Nat.zero_le _⟩
    case round =>
      obtain ⟨j, rfl, hj⟩ := hrel
      by_cases hjn : j < n
      · obtain ⟨b, o, r, rfl, hbl, hr, hok, k0, k1, k2⟩ := HE.out.at_ hjn
        by_cases h40 : r.n ≤ 40
        · have e2 : decide ((40 : Int) < (r.n : Int)) = false := by simp; omega
          clear hr hok
          go_wp2
          go_round
          case rel => exact ⟨j + 1, by go_num, by omega⟩
          case measure => simp [intOf]; omega
        · have e2 : decide ((40 : Int) < (r.n : Int)) = true := by simp; omega
          clear hr hok
          go_wp2
          go_ret
          exact ⟨.inl rfl, Below.refl _ _⟩
      · have e9 : decide ((j : Int) < (n : Int)) = false := by simp; omega
        go_wp2
        go_ret
        exact ⟨.inr ⟨rfl, HNM.out⟩, Below.refl _ _⟩
  · have e1 : m < n := by omega
    clear hnm
    go_enter Try.func7, Try.ntmps7
    go_wp2
    go_ret
    exact ⟨.inl rfl, Below.refl _ _⟩
theorem done7 {w : World} {k t n c : Nat} {A : Option Addr} (hN : Now w k t A n c) (hn : n ≤ 1000) {r : TA} (hr : r.ok w) :
    Calls Try.prog 27 #[.pointer (some ⟨t, 0, none⟩), .slice A n c, .agg #[.bool r.d, .slice r.A r.n r.c, .int .u64 (r.v : Int)]] w (DoneOut w k n) := by
  obtain ⟨d, RA, Rn, Rc, p, v⟩ := r
  obtain ⟨h1, h2, h3, h4⟩ := hr
  cases d with
  | true => exact done_del hN hn h1 h2 h3 h4
  | false => exact done_put hN hn h1 h2 h3 h4
set_option maxHeartbeats 4000000 in
set_option maxRecDepth 100000 in
theorem grown7 {w : World} {k n c : Nat} {A : Option Addr} {acts : List TA} (hk1 : 1 ≤ k) (hk : k ≤ 16) (hE : ActsAt w A n acts) (hn : n ≤ 100) :
    Calls Try.prog 8 #[.int .i64 (k : Int), .slice A n c] w fun e w' => ∃ (t : Nat) (A' : Option Addr) (n' c' : Nat), e = .returned (.tuple #[.pointer (some ⟨t, 0, none⟩), .slice A' n' c', .bool true]) ∧ Now w' k t A' n' c' ∧ n' ≤ n ∧ Below w.heap.size w w' := by
  have HN := hide (tr_new k w hk1 hk)
  have HE := hide hE
  clear hE
  go_enter Try.func8, Try.ntmps8
  go_wp2_with fail
  refine HN.out.mono ?_
  rintro e w1 ⟨rfl, hT1, hb1⟩
  have hal := (Below.refl w1.heap.size w1).alloc (Nat.le_refl _) (.cells #[] 63)
  have HB2 := hide (below_then hb1 hal)
  have HNW := hide (now_new (A := some ⟨w1.heap.size, 0, none⟩) (c := 0) hk1 hk (Blk.below hT1 hal))
  clear hT1 hb1 hal HN
  go_wp2
  go_loopw [7, 9, 10] (fun x7 x9 x10 wr => ∃ (j t : Nat) (A' : Option Addr) (n' c' : Nat), x7 = .pointer (some ⟨t, 0, none⟩) ∧ x9 = .slice A' n' c' ∧ x10 = .int .i64 (j : Int) ∧ j ≤ n ∧ n' ≤ j ∧ Now wr k t A' n' c' ∧ Below w.heap.size w wr) (fun _ _ x _ => n - (intOf x).toNat)
  case atStart => exact ⟨0, w.heap.size, some ⟨w1.heap.size, 0, none⟩, 0, 0, rfl, rfl, rfl, Nat.zero_le _, Nat.le_refl _, HNW.out, HB2.out⟩
  case round =>
    obtain ⟨j, t, A', n', c', rfl, rfl, rfl, hj, hnj, hNow, hb⟩ := hrel
    have HNow := hide hNow
    have HBr := hide hb
    rename World => wz
    by_cases hjn : j < n
    · obtain ⟨b, o, r, rfl, hbl, hr, hok, k0, k1, k2⟩ := (HE.out.below hb).at_ hjn
      have HD := hide (done7 hNow (by omega) hok)
      clear hNow hb hr hok
      go_wp2_with fail
      refine HD.out.mono ?_
      rintro e w5 ⟨t', A5, n5, c5, rfl, hN5, hn5, hb5⟩
      have HH := hide (And.intro hN5 (below_then HBr.out hb5))
      clear hN5 hb5 HD k0 k1 k2
      go_wp2
      go_roundw
      case rel => exact ⟨j + 1, t', A5, n5, c5, rfl, rfl, by go_num, by omega, by omega, HH.out.1, HH.out.2⟩
      case measure => simp [intOf]; omega
    · have e9 : decide ((j : Int) < (n : Int)) = false := by simp; omega
      clear hNow hb
      go_wp2
      go_ret3
      exact ⟨t, A', n', c', rfl, HNow.out, by omega, HBr.out⟩
end Go.Proofs.Ytfkpanpageeklaa
