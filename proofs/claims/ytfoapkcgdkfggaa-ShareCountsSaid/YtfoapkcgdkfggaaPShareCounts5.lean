/- ShareCounts: contracts and plain laws that the statement leans on (TrD Uq ShrA ShrB ShrC PaA ShA ShrD). No condition. -/
import Derived.Test.YtfoapkcgdkfggaaPShareCounts4
set_option linter.unusedSimpArgs false
set_option linter.unusedVariables false
namespace Go.Proofs.Ytfoapkcgdkfggaa
open Go.RowKit
/-- A tree and the list of its entries. -/
def Now (w : World) (k t : Nat) (A : Option Addr) (n c : Nat) : Prop := ∃ rows es, TreeOf w k t es ∧ EntsAt w A n rows ∧ n ≤ c ∧ SortR k rows ∧ (∀ r ∈ rows, r.n = k) ∧ ents rows = es
theorem Now.stay {w w' : World} {k t : Nat} {A : Option Addr} {n c : Nat} (h : Now w k t A n c) (hb : Below w.heap.size w w') : Now w' k t A n c := by
  obtain ⟨rows, es, h1, h2, h3, h4, h5, h6⟩ := h
  exact ⟨rows, es, h1.stay hb, h2.below hb, h3, h4, h5, h6⟩
theorem TreeOf.sorted {w : World} {k t : Nat} {es : List Ent} (h : TreeOf w k t es) : Zsorted es ∧ ∀ e ∈ es, Zp k e.1 ∧ e.2 < 2 ^ 64 := by
  obtain ⟨h1, h2, ⟨_, rfl⟩ | ⟨g, lv, pre, _, hN⟩⟩ := h
  · exact ⟨List.Pairwise.nil, fun e he => (by cases he)⟩
  · obtain ⟨i1, i2, i3, i4, i5, i6, i7⟩ := hN.info
    exact ⟨i6, fun e he => ⟨(i5 e he).1, (i5 e he).2.1⟩⟩
theorem mem_ents {rows : List ER} {e : Ent} : e ∈ ents rows ↔ ∃ r ∈ rows, (r.p, r.v) = e := by
  unfold ents ER.e
  rw [List.mem_map]
theorem now_new {w : World} {k t : Nat} {A : Option Addr} {c : Nat} (hk1 : 1 ≤ k) (hk : k ≤ 16) (hT : TreeBlk w t k none) : Now w k t A 0 c :=
  ⟨[], [], ⟨hk1, hk, .inl ⟨hT, rfl⟩⟩, ⟨Rw.nil _ _ _, fun r hr => (by cases hr)⟩, Nat.zero_le _, SortR.nil k, fun r hr => (by cases hr), rfl⟩
theorem now_del {w : World} {k t : Nat} {A : Option Addr} {n c : Nat} {rows : List ER} {es es' : List Ent} {p : List Nat} (hS : SortR k rows) (hkk : ∀ r ∈ rows, r.n = k) (hes : ents rows = es) (hp : Zp k p) (hT : TreeOf w k t es') (hm : ∀ x, x ∈ es' ↔ x ∈ es ∧ x.1 ≠ p) (hE : EntsAt w A n (delR rows p)) (hnc : n ≤ c) : Now w k t A n c := by
  obtain ⟨s1, s2⟩ := del_spec hS hp
  refine ⟨delR rows p, es', hT, hE, hnc, s1, fun r hr => hkk r (mem_delR hr), sorted_ext s1.ents hT.sorted.1 fun e => ?_⟩
  rw [hm, ← hes, mem_ents, mem_ents]
  constructor
  · rintro ⟨r, hr, rfl⟩
    obtain ⟨h1, h2⟩ := (s2 r).1 hr
    exact ⟨⟨r, h1, rfl⟩, h2⟩
  · rintro ⟨⟨r, hr, rfl⟩, h⟩
    exact ⟨r, (s2 r).2 ⟨hr, h⟩, rfl⟩
theorem now_put {w : World} {k t : Nat} {A : Option Addr} {n c : Nat} {rows : List ER} {es es' : List Ent} {q : ER} (hS : SortR k rows) (hkk : ∀ r ∈ rows, r.n = k) (hes : ents rows = es) (hp : Zp k q.p) (hqn : q.n = k) (hT : TreeOf w k t es') (hm : ∀ x, x ∈ es' ↔ x = (q.p, q.v) ∨ (x ∈ es ∧ x.1 ≠ q.p)) (hE : EntsAt w A n (putR rows q)) (hnc : n ≤ c) : Now w k t A n c := by
  obtain ⟨s1, s2⟩ := put_spec hS hp
  refine ⟨putR rows q, es', hT, hE, hnc, s1, fun r hr => ?_, sorted_ext s1.ents hT.sorted.1 fun e => ?_⟩
  · rcases mem_putR hr with rfl | hr
    · exact hqn
    · exact hkk r hr
  · rw [hm, ← hes, mem_ents, mem_ents]
    constructor
    · rintro ⟨r, hr, rfl⟩
      rcases (s2 r).1 hr with rfl | ⟨h1, h2⟩
      · exact .inl rfl
      · exact .inr ⟨⟨r, h1, rfl⟩, h2⟩
    · rintro (rfl | ⟨⟨r, hr, rfl⟩, h⟩)
      · exact ⟨q, (s2 q).2 (.inl rfl), rfl⟩
      · exact ⟨r, (s2 r).2 (.inr ⟨hr, h⟩), rfl⟩
theorem has_iff {k : Nat} {rows : List ER} {es : List Ent} {p : List Nat} (hS : SortR k rows) (hes : ents rows = es) (hp : Zp k p) : hasR rows p = true ↔ ∃ v, (p, v) ∈ es := by
  rw [(has_spec hS hp).2, ← hes]
  constructor
  · rintro ⟨r, hr, rfl⟩
    exact ⟨r.v, mem_ents.2 ⟨r, hr, rfl⟩⟩
  · rintro ⟨v, hv⟩
    obtain ⟨r, hr, he⟩ := mem_ents.1 hv
    injection he with he _
    exact ⟨r, hr, he⟩
theorem has_val {k : Nat} {rows : List ER} {es : List Ent} {p : List Nat} {r : ER} (hS : SortR k rows) (hes : ents rows = es) (hp : Zp k p) (hh : hasR rows p = true) (hr : rows[plR rows p]? = some r) : (p, r.v) ∈ es := by
  obtain ⟨s, hs, he⟩ := (has_spec hS hp).1.1 hh
  rw [hr] at hs
  injection hs with hs
  subst hs
  rw [← hes]
  exact mem_ents.2 ⟨r, List.mem_of_getElem? hr, by rw [he]⟩
theorem uniq_val {es : List Ent} (h : Zsorted es) {p : List Nat} {v v' : Nat} (h1 : (p, v) ∈ es) (h2 : (p, v') ∈ es) : v = v' := by
  induction es with
  | nil => cases h1
  | cons e es ih =>
    obtain ⟨a, b⟩ := List.pairwise_cons.1 h
    rcases List.mem_cons.1 h1 with h1' | h1'
    · rcases List.mem_cons.1 h2 with h2' | h2'
      · rw [← h1'] at h2'
        injection h2' with _ h3
        exact h3.symm
      · have := a _ h2'
        rw [← h1'] at this
        exact absurd this (zlt_irrefl p)
    · rcases List.mem_cons.1 h2 with h2' | h2'
      · have := a _ h1'
        rw [← h2'] at this
        exact absurd this (zlt_irrefl p)
      · exact ih b h1' h2'
theorem tree_info : ∃ j, Try.prog.info? 79 = some j ∧ j.size ≠ 0 := by
  have h : (Try.prog.info? 79).map (fun j => j.size) = some 2 := by kernel_rfl
  obtain ⟨j, hj, h8⟩ := Option.map_eq_some_iff.1 h
  exact ⟨j, hj, by omega⟩
theorem tptr_same (a : Addr) (w : World) : (binOp .eql 23 (.pointer (some a)) (.pointer (some a))).run Try.prog w = .ok (.bool true) w := by
  obtain ⟨j, hj, _⟩ := tree_info
  exact run_eql_ptr_same w a Try.underlying23 hj
theorem tptr_other {w : World} {a b : Nat} {ca cb : Array Value} {ta tb : TypeId} (hne : a ≠ b) (ha : Blk w a ta ca) (hb : Blk w b tb cb) : (binOp .eql 23 (.pointer (some ⟨a, 0, none⟩)) (.pointer (some ⟨b, 0, none⟩))).run Try.prog w = .ok (.bool false) w := by
  obtain ⟨j, hj, h0⟩ := tree_info
  exact run_eql_ptr_other w Try.underlying23 hj h0 (fun h => hne (by injection h)) ha hb
theorem TreeOf.blk {w : World} {k t : Nat} {es : List Ent} (h : TreeOf w k t es) : ∃ root, TreeBlk w t k root := by
  obtain ⟨_, _, ⟨h, _⟩ | ⟨g, _, _, h, _⟩⟩ := h
  · exact ⟨_, h⟩
  · exact ⟨_, h⟩
/-- What Done answers. -/
def DoneOut (w : World) (k n : Nat) (e : Ending) (w' : World) : Prop :=
  ∃ (t' : Nat) (A' : Option Addr) (n' c' : Nat), e = .returned (.tuple #[.pointer (some ⟨t', 0, none⟩), .slice A' n' c', .bool true]) ∧ Now w' k t' A' n' c' ∧ n' ≤ n + 1 ∧ Below w.heap.size w w'
set_option maxHeartbeats 4000000 in
set_option maxRecDepth 100000 in
theorem done_del {w : World} {k t n c : Nat} {A : Option Addr} (hN : Now w k t A n c) (hn : n ≤ 1000) {RA : Option Addr} {Rn Rc v : Nat} {p : List Nat} (hp : Pt w RA Rn p) (hc : Rn ≤ Rc) (hm : Rc ≤ maxLen) (hv : v < 2 ^ 64) :
    Calls Try.prog 15 #[.pointer (some ⟨t, 0, none⟩), .slice A n c, .agg #[.bool true, .slice RA Rn Rc, .int .u64 (v : Int)]] w (DoneOut w k n) := by
  obtain ⟨rows, es, hT, hE, hnc, hS, hkk, hes⟩ := hN
  obtain ⟨root, hTB⟩ := hT.blk
  have b1 := (Below.refl w.heap.size w).alloc (Nat.le_refl _) (.cells #[.bool true, .slice RA Rn Rc, .int .u64 (v : Int)] 38)
  have hA := Blk.new w 38 #[.bool true, .slice RA Rn Rc, .int .u64 (v : Int)]
  have HB1 := hide b1
  have HTB := hide hTB
  have HT := hide hT
  have HE := hide hE
  have HS := hide hS
  have HKK := hide hkk
  have HES := hide hes
  have HP := hide hp
  have HNC := hide hnc
  clear hT hE hS hkk hes hTB hp b1 hnc
  go_enter Try.func15, Try.ntmps15
  go_upto_region 1 with fail
  generalize w.alloc (.cells #[.bool true, .slice RA Rn Rc, .int .u64 (v : Int)] 38) = w1 at *
  have HK := hide (tr_k (Blk.below HTB.out HB1.out))
  have y0 := hA.cell 0
  have y1 := hA.cell 1
  have y2 := hA.cell 2
  simp at y0 y1 y2
  have HA := hide hA
  clear hA
  go_wp2_with fail
  refine HK.out.mono ?_
  rintro e w2 ⟨rfl, rfl⟩
  by_cases hRk : Rn = k
  · subst hRk
    have HZ := hide HP.out.zp
    have HD := hide (tr_del (c := Rc) (HT.out.stay HB1.out) (HP.out.below HB1.out))
    have hk16 : Rn ≤ 16 := HT.out.2.1
    clear HK
    go_wp2_with fail
    refine HD.out.mono ?_
    rintro e w2 ⟨⟨rfl, hno⟩ | ⟨t', es', v', rfl, hT', hin, hmem⟩, hb2⟩
    · have c2 := below_then HB1.out hb2
      have HC2 := hide c2
      have hA2 := HA.out.below hb2
      have y0 := hA2.cell 0
      have y1 := hA2.cell 1
      have y2 := hA2.cell 2
      simp at y0 y1 y2
      have HG := hide (ref_get A RA n c Rn Rc rows p w2 (HE.out.below c2) HKK.out (HP.out.below c2) (by omega) (by omega))
      have HNO := hide hno
      clear hA2 c2 hb2 HD hno
      go_wp2_with fail
      refine HG.out.mono ?_
      rintro e w3 ⟨⟨v3, ok, rfl, hok, h0, h1⟩, rfl⟩
      have hokf : ok = false := by
        rw [hok]
        cases hh : hasR rows p with
        | false => rfl
        | true =>
          obtain ⟨v, hv⟩ := (has_iff HS.out HES.out HZ.out).1 hh
          exact absurd hv (HNO.out v)
      subst hokf
      clear hok h0 h1 HG
      go_wp2
      go_ret3
      exact ⟨t, A, n, c, rfl, ⟨rows, es, HT.out.stay HC2.out, HE.out.below HC2.out, HNC.out, HS.out, HKK.out, HES.out⟩, by omega, HC2.out⟩
    · have c2 := below_then HB1.out hb2
      have HC2 := hide c2
      have hA2 := HA.out.below hb2
      have y0 := hA2.cell 0
      have y1 := hA2.cell 1
      have y2 := hA2.cell 2
      simp at y0 y1 y2
      have HG := hide (ref_get A RA n c Rn Rc rows p w2 (HE.out.below c2) HKK.out (HP.out.below c2) (by omega) (by omega))
      have HRD := hide (ref_del A RA n c Rn Rc rows p w2 (HE.out.below c2) HNC.out HKK.out (HP.out.below c2) (by omega) (by omega))
      have HIN := hide hin
      have HMEM := hide hmem
      have HT' := hide hT'
      clear hA2 c2 hb2 HD hin hmem hT'
      go_wp2_with fail
      refine HG.out.mono ?_
      rintro e w3 ⟨⟨v3, ok, rfl, hok, h0, h1⟩, rfl⟩
      have hokf : ok = true := by
        rw [hok]
        exact (has_iff HS.out HES.out HZ.out).2 ⟨v', HIN.out⟩
      subst hokf
      clear hok h0 h1 HG
      go_wp2_with fail
      refine HRD.out.mono ?_
      rintro e w4 ⟨A', n', c', rfl, hE', hnc', hn', hb4⟩
      have HH := hide (And.intro hE' (And.intro hnc' (And.intro hn' hb4)))
      clear hE' hnc' hn' hb4 HRD
      go_wp2
      go_ret3
      obtain ⟨hE', hnc', hn', hb4⟩ := HH.out
      exact ⟨t', A', n', c', rfl, now_del HS.out HKK.out HES.out HZ.out (HT'.out.stay hb4) HMEM.out hE' hnc', by omega, below_then HC2.out hb4⟩
  · have HD := hide (tr_del_dim (Blk.below HTB.out HB1.out) RA Rn Rc hRk)
    have e1 : ((Rn : Int) != (k : Int)) = true := by simp; omega
    clear HK hRk
    go_wp2_with fail
    refine HD.out.mono ?_
    rintro e w2 ⟨rfl, rfl⟩
    go_wp2
    go_ret3
    exact ⟨t, A, n, c, rfl, ⟨rows, es, HT.out.stay HB1.out, HE.out.below HB1.out, HNC.out, HS.out, HKK.out, HES.out⟩, by omega, HB1.out⟩
theorem tptr_run {w : World} {a b : Nat} {ca cb : Array Value} {ta tb : TypeId} (ha : Blk w a ta ca) (hb : Blk w b tb cb) : (binOp .eql 23 (.pointer (some ⟨a, 0, none⟩)) (.pointer (some ⟨b, 0, none⟩))).run Try.prog w = .ok (.bool (decide (a = b))) w := by
  by_cases h : a = b
  · subst h
    rw [tptr_same]
    simp
  · rw [tptr_other h ha hb]
    simp [h]
set_option maxHeartbeats 4000000 in
set_option maxRecDepth 100000 in
theorem done_put {w : World} {k t n c : Nat} {A : Option Addr} (hN : Now w k t A n c) (hn : n ≤ 1000) {RA : Option Addr} {Rn Rc v : Nat} {p : List Nat} (hp : Pt w RA Rn p) (hc : Rn ≤ Rc) (hm : Rc ≤ maxLen) (hv : v < 2 ^ 64) :
    Calls Try.prog 15 #[.pointer (some ⟨t, 0, none⟩), .slice A n c, .agg #[.bool false, .slice RA Rn Rc, .int .u64 (v : Int)]] w (DoneOut w k n) := by
  obtain ⟨rows, es, hT, hE, hnc, hS, hkk, hes⟩ := hN
  obtain ⟨root, hTB⟩ := hT.blk
  have b1 := (Below.refl w.heap.size w).alloc (Nat.le_refl _) (.cells #[.bool false, .slice RA Rn Rc, .int .u64 (v : Int)] 38)
  have hA := Blk.new w 38 #[.bool false, .slice RA Rn Rc, .int .u64 (v : Int)]
  have HB1 := hide b1
  have HTB := hide hTB
  have HT := hide hT
  have HE := hide hE
  have HS := hide hS
  have HKK := hide hkk
  have HES := hide hes
  have HP := hide hp
  have HNC := hide hnc
  have HSO := hide hT.sorted.1
  clear hT hE hS hkk hes hTB hp b1 hnc
  go_enter Try.func15, Try.ntmps15
  go_upto_region 1 with fail
  generalize w.alloc (.cells #[.bool false, .slice RA Rn Rc, .int .u64 (v : Int)] 38) = w1 at *
  have HK := hide (tr_k (Blk.below HTB.out HB1.out))
  have y0 := hA.cell 0
  have y1 := hA.cell 1
  have y2 := hA.cell 2
  simp at y0 y1 y2
  have HA := hide hA
  clear hA
  go_wp2_with fail
  refine HK.out.mono ?_
  rintro e w2 ⟨rfl, rfl⟩
  by_cases hRk : Rn = k
  · subst hRk
    have HZ := hide HP.out.zp
    have HD := hide (tr_put (c := Rc) (HT.out.stay HB1.out) (HP.out.below HB1.out) hv)
    have hk16 : Rn ≤ 16 := HT.out.2.1
    clear HK
    go_wp2_with fail
    refine HD.out.mono ?_
    rintro e w2 ⟨t', es', rfl, hT', hmem, htt, hb2⟩
    have c2 := below_then HB1.out hb2
    have HC2 := hide c2
    have hA2 := HA.out.below hb2
    have y0 := hA2.cell 0
    have y1 := hA2.cell 1
    have y2 := hA2.cell 2
    simp at y0 y1 y2
    have hal : w.heap.size < w2.heap.size := hA2.lt
    have HG := hide (ref_get A RA n c Rn Rc rows p w2 (HE.out.below c2) HKK.out (HP.out.below c2) (by omega) (by omega))
    have HRP := hide (ref_put A RA n c Rn Rc v rows p w2.drew ((HE.out.below c2).below (Below.refl _ w2).drew) HNC.out HKK.out ((HP.out.below c2).below (Below.refl _ w2).drew) hc hm (by omega) (by omega) hv)
    have HMEM := hide hmem
    have HT' := hide hT'
    have HTT := hide htt
    obtain ⟨root', hTB'⟩ := hT'.blk
    have HQ := hide (fun (W : World) (hW : Below w2.heap.size w2 W) => tptr_run (Blk.below hTB' hW) (Blk.below (Blk.below HTB.out c2) hW))
    clear hA2 c2 hb2 HD hmem hT' htt hTB'
    go_wp2_with fail
    refine HG.out.mono ?_
    rintro e w3 ⟨⟨v3, ok, rfl, hok, h0, h1⟩, rfl⟩
    clear HG
    cases ok with
    | false =>
      have hne : t' ≠ t := fun h => by
        have h2 := (has_iff HS.out HES.out HZ.out).2 ⟨v, HTT.out.1 h⟩
        rw [← hok] at h2
        cases h2
      clear h1
      have hq0 := HQ.out w2 (Below.refl _ _)
      rw [show decide (t' = t) = false by simp [hne]] at hq0
      have HQB := hide (fun W hW => by have := HQ.out W hW; rw [show decide (t' = t) = false by simp [hne]] at this; exact this)
      have hk0 := And.intro (show w2.drew.cell? ⟨w.heap.size, 1, none⟩ = _ from y1) (And.intro (show w2.drew.cell? ⟨w.heap.size, 2, none⟩ = _ from y2) (HQB.out w2.drew (Below.refl _ _).drew))
      clear HQ hok hne
      go_wp2_with fail
      refine wp_region_held_drew (S := (fun w' => w'.cell? ⟨w.heap.size, 1, none⟩ = some (.slice RA Rn Rc) ∧ w'.cell? ⟨w.heap.size, 2, none⟩ = some (.int .u64 (v : Int)) ∧ (binOp .eql 23 (.pointer (some ⟨t', 0, none⟩)) (.pointer (some ⟨t, 0, none⟩))).run Try.prog w' = .ok (.bool false) w')) (by kernel_rfl) hk0 (fun hHeld => ?_)
      refine wpAnyH_take (i := 0) (oi := { dst := some 99, op := _, type := _, pos := _, after := _, guard := _ }) (v := ?_) rfl (by kernel_rfl) (by kernel_rfl) (by kernel_rfl) (fun _ _ _ h => h) (Or.inl ⟨by rfl, ?_⟩) (by assumption) ?_
      rotate_left 1
      · intro wS hSw
        try dsimp only at hSw
        go_simp
        all_goals with_reducible rfl
      try simp only [Act.put, List.setIfInBounds_toArray, List.set_cons_zero, List.set_cons_succ]
      refine wpAnyH_take (i := 1) (oi := { dst := some 100, op := _, type := _, pos := _, after := _, guard := _ }) (v := ?_) rfl (by kernel_rfl) (by kernel_rfl) (by kernel_rfl) (fun _ _ _ h => h) (Or.inl ⟨by rfl, ?_⟩) (by assumption) ?_
      rotate_left 1
      · intro wS hSw
        try dsimp only at hSw
        go_simp
        all_goals with_reducible rfl
      try simp only [Act.put, List.setIfInBounds_toArray, List.set_cons_zero, List.set_cons_succ]
      refine wpAnyH_take (i := 2) (oi := { dst := some 101, op := _, type := _, pos := _, after := _, guard := _ }) (v := ?_) rfl (by kernel_rfl) (by kernel_rfl) (by kernel_rfl) (fun _ _ _ h => h) (Or.inl ⟨by rfl, ?_⟩) (by assumption) ?_
      rotate_left 1
      · intro wS hSw
        try dsimp only at hSw
        go_simp
        all_goals with_reducible rfl
      try simp only [Act.put, List.setIfInBounds_toArray, List.set_cons_zero, List.set_cons_succ]
      refine wpAnyH_take (i := 3) (oi := { dst := some 102, op := _, type := _, pos := _, after := _, guard := _ }) (v := ?_) rfl (by kernel_rfl) (by kernel_rfl) (by kernel_rfl) (fun _ _ _ h => h) (Or.inl ⟨by rfl, ?_⟩) (by assumption) ?_
      rotate_left 1
      · intro wS hSw
        try dsimp only at hSw
        go_simp
        all_goals with_reducible rfl
      try simp only [Act.put, List.setIfInBounds_toArray, List.set_cons_zero, List.set_cons_succ]
      refine wpAnyH_take (i := 4) (oi := { dst := some 103, op := _, type := _, pos := _, after := _, guard := _ }) (v := ?_) rfl (by kernel_rfl) (by kernel_rfl) (by kernel_rfl) (fun _ _ _ h => h) (Or.inl ⟨by rfl, ?_⟩) (by assumption) ?_
      rotate_left 1
      · intro wS hSw
        try dsimp only at hSw
        go_simp
        all_goals with_reducible rfl
      try simp only [Act.put, List.setIfInBounds_toArray, List.set_cons_zero, List.set_cons_succ]
      refine wpAnyH_take (i := 5) (oi := { dst := some 104, op := _, type := _, pos := _, after := _, guard := _ }) (v := ?_) rfl (by kernel_rfl) (by kernel_rfl) (by kernel_rfl) (fun _ _ _ h => h) (Or.inl ⟨by rfl, ?_⟩) (by assumption) ?_
      rotate_left 1
      · intro wS hSw
        try dsimp only at hSw
        go_simp
        all_goals with_reducible rfl
      try simp only [Act.put, List.setIfInBounds_toArray, List.set_cons_zero, List.set_cons_succ]
      refine wpAnyH_take (i := 7) (oi := { dst := some 106, op := _, type := _, pos := _, after := _, guard := _ }) (v := ?_) rfl (by kernel_rfl) (by kernel_rfl) (by kernel_rfl) (fun _ _ _ h => h) (Or.inl ⟨by rfl, ?_⟩) (by assumption) ?_
      rotate_left 1
      · intro wS hSw
        try dsimp only at hSw
        go_simp
        all_goals with_reducible rfl
      try simp only [Act.put, List.setIfInBounds_toArray, List.set_cons_zero, List.set_cons_succ]
      refine wpAnyH_take (i := 8) (oi := { dst := some 107, op := _, type := _, pos := _, after := _, guard := _ }) (v := ?_) rfl (by kernel_rfl) (by kernel_rfl) (by kernel_rfl) (fun _ _ _ h => h) (Or.inl ⟨by rfl, ?_⟩) (by assumption) ?_
      rotate_left 1
      · intro wS hSw
        try dsimp only at hSw
        go_simp
        all_goals with_reducible rfl
      try simp only [Act.put, List.setIfInBounds_toArray, List.set_cons_zero, List.set_cons_succ]
      refine wpAnyH_ready (rs := [6]) (by kernel_rfl) (by simp) ?_
      refine AllReadyH.cons (o := { dst := some 105, op := _, type := _, pos := _, after := _, guard := _ }) rfl (fun K hK => ?_) ?_
      · go_simp
        go_at_call 31
        refine HRP.out.mono ?_
        rintro e w5 ⟨A', n', c', rfl, hE', hnc', hn', hb5⟩
        have hd5 : Below w2.heap.size w2 w5 := (Below.refl _ w2).drew.trans hb5
        have HH := hide (And.intro hE' (And.intro hnc' (And.intro hn' hd5)))
        have hk5 := And.intro ((hd5.cell (p := ⟨w.heap.size, 1, none⟩) hal).trans y1) (And.intro ((hd5.cell (p := ⟨w.heap.size, 2, none⟩) hal).trans y2) (HQB.out w5 hd5))
        clear hE' hnc' hn' hb5
        try go_wp2_with fail
        refine hK.out _ _ ?_ (fun hHeld => ?_)
        · exact hk5
        clear hK K
        try simp only [Act.put, List.setIfInBounds_toArray, List.set_cons_zero, List.set_cons_succ]
        refine wpAnyH_take (i := 9) (oi := { dst := some 108, op := _, type := _, pos := _, after := _, guard := _ }) (v := ?_) rfl (by kernel_rfl) (by kernel_rfl) (by kernel_rfl) (fun _ _ _ h => h) (Or.inl ⟨by rfl, ?_⟩) (by assumption) ?_
        rotate_left 1
        · intro wS hSw
          try dsimp only at hSw
          go_simp
          all_goals with_reducible rfl
        try simp only [Act.put, List.setIfInBounds_toArray, List.set_cons_zero, List.set_cons_succ]
        refine wpAnyH_take (i := 10) (oi := { dst := some 109, op := _, type := _, pos := _, after := _, guard := _ }) (v := ?_) rfl (by kernel_rfl) (by kernel_rfl) (by kernel_rfl) (fun _ _ _ h => h) (Or.inl ⟨by rfl, ?_⟩) (by assumption) ?_
        rotate_left 1
        · intro wS hSw
          try dsimp only at hSw
          go_simp
          all_goals with_reducible rfl
        try simp only [Act.put, List.setIfInBounds_toArray, List.set_cons_zero, List.set_cons_succ]
        refine wpAnyH_take (i := 11) (oi := { dst := some 110, op := _, type := _, pos := _, after := _, guard := _ }) (v := ?_) rfl (by kernel_rfl) (by kernel_rfl) (by kernel_rfl) (fun _ _ _ h => h) (Or.inl ⟨by rfl, ?_⟩) (by assumption) ?_
        rotate_left 1
        · intro wS hSw
          try dsimp only at hSw
          go_simp
          all_goals with_reducible rfl
        try simp only [Act.put, List.setIfInBounds_toArray, List.set_cons_zero, List.set_cons_succ]
        refine wpAnyH_take (i := 12) (oi := { dst := some 111, op := _, type := _, pos := _, after := _, guard := _ }) (v := ?_) rfl (by kernel_rfl) (by kernel_rfl) (by kernel_rfl) (fun _ _ _ h => h) (Or.inl ⟨by rfl, ?_⟩) (by assumption) ?_
        rotate_left 1
        · intro wS hSw
          try dsimp only at hSw
          go_simp
          all_goals with_reducible rfl
        try simp only [Act.put, List.setIfInBounds_toArray, List.set_cons_zero, List.set_cons_succ]
        refine wpAnyH_take (i := 13) (oi := { dst := some 112, op := _, type := _, pos := _, after := _, guard := _ }) (v := ?_) rfl (by kernel_rfl) (by kernel_rfl) (by kernel_rfl) (fun _ _ _ h => h) (Or.inl ⟨by rfl, ?_⟩) (by assumption) ?_
        rotate_left 1
        · intro wS hSw
          try dsimp only at hSw
          go_simp
          all_goals with_reducible rfl
        try simp only [Act.put, List.setIfInBounds_toArray, List.set_cons_zero, List.set_cons_succ]
        refine wpAnyH_take (i := 14) (oi := { dst := some 113, op := _, type := _, pos := _, after := _, guard := _ }) (v := ?_) rfl (by kernel_rfl) (by kernel_rfl) (by kernel_rfl) (fun _ _ _ h => h) (Or.inl ⟨by rfl, ?_⟩) (by assumption) ?_
        rotate_left 1
        · intro wS hSw
          try dsimp only at hSw
          go_simp
          all_goals with_reducible rfl
        try simp only [Act.put, List.setIfInBounds_toArray, List.set_cons_zero, List.set_cons_succ]
        refine wpAnyH_take (i := 15) (oi := { dst := some 114, op := _, type := _, pos := _, after := _, guard := _ }) (v := ?_) rfl (by kernel_rfl) (by kernel_rfl) (by kernel_rfl) (fun _ _ _ h => h) (Or.inl ⟨by rfl, ?_⟩) (by assumption) ?_
        rotate_left 1
        · intro wS hSw
          try dsimp only at hSw
          go_simp
          all_goals with_reducible rfl
        try simp only [Act.put, List.setIfInBounds_toArray, List.set_cons_zero, List.set_cons_succ]
        refine wpAnyH_take (i := 16) (oi := { dst := some 115, op := _, type := _, pos := _, after := _, guard := _ }) (v := undef) rfl (by kernel_rfl) (by kernel_rfl) (by kernel_rfl) (fun _ _ _ h => h) (Or.inr ⟨by rfl, rfl⟩) (by assumption) ?_
        try simp only [Act.put, List.setIfInBounds_toArray, List.set_cons_zero, List.set_cons_succ]
        refine wpAnyH_take (i := 17) (oi := { dst := some 116, op := _, type := _, pos := _, after := _, guard := _ }) (v := undef) rfl (by kernel_rfl) (by kernel_rfl) (by kernel_rfl) (fun _ _ _ h => h) (Or.inr ⟨by rfl, rfl⟩) (by assumption) ?_
        try simp only [Act.put, List.setIfInBounds_toArray, List.set_cons_zero, List.set_cons_succ]
        refine wpAnyH_take (i := 18) (oi := { dst := some 117, op := _, type := _, pos := _, after := _, guard := _ }) (v := undef) rfl (by kernel_rfl) (by kernel_rfl) (by kernel_rfl) (fun _ _ _ h => h) (Or.inr ⟨by rfl, rfl⟩) (by assumption) ?_
        try simp only [Act.put, List.setIfInBounds_toArray, List.set_cons_zero, List.set_cons_succ]
        refine wpAnyH_take (i := 19) (oi := { dst := some 118, op := _, type := _, pos := _, after := _, guard := _ }) (v := undef) rfl (by kernel_rfl) (by kernel_rfl) (by kernel_rfl) (fun _ _ _ h => h) (Or.inr ⟨by rfl, rfl⟩) (by assumption) ?_
        try simp only [Act.put, List.setIfInBounds_toArray, List.set_cons_zero, List.set_cons_succ]
        refine wpAnyH_take (i := 20) (oi := { dst := some 119, op := _, type := _, pos := _, after := _, guard := _ }) (v := ?_) rfl (by kernel_rfl) (by kernel_rfl) (by kernel_rfl) (fun _ _ _ h => h) (Or.inl ⟨by rfl, ?_⟩) (by assumption) ?_
        rotate_left 1
        · intro wS hSw
          try dsimp only at hSw
          go_simp
          all_goals with_reducible rfl
        try simp only [Act.put, List.setIfInBounds_toArray, List.set_cons_zero, List.set_cons_succ]
        refine wpAnyH_take (i := 21) (oi := { dst := some 120, op := _, type := _, pos := _, after := _, guard := _ }) (v := ?_) rfl (by kernel_rfl) (by kernel_rfl) (by kernel_rfl) (fun _ _ _ h => h) (Or.inl ⟨by rfl, ?_⟩) (by assumption) ?_
        rotate_left 1
        · intro wS hSw
          try dsimp only at hSw
          go_simp
          all_goals with_reducible rfl
        try simp only [Act.put, List.setIfInBounds_toArray, List.set_cons_zero, List.set_cons_succ]
        refine wpAnyH_take (i := 22) (oi := { dst := some 121, op := _, type := _, pos := _, after := _, guard := _ }) (v := ?_) rfl (by kernel_rfl) (by kernel_rfl) (by kernel_rfl) (fun _ _ _ h => h) (Or.inl ⟨by rfl, ?_⟩) (by assumption) ?_
        rotate_left 1
        · intro wS hSw
          try dsimp only at hSw
          go_simp
          all_goals with_reducible rfl
        try simp only [Act.put, List.setIfInBounds_toArray, List.set_cons_zero, List.set_cons_succ]
        refine wpAnyH_take (i := 23) (oi := { dst := some 122, op := _, type := _, pos := _, after := _, guard := _ }) (v := ?_) rfl (by kernel_rfl) (by kernel_rfl) (by kernel_rfl) (fun _ _ _ h => h) (Or.inl ⟨by rfl, ?_⟩) (by assumption) ?_
        rotate_left 1
        · intro wS hSw
          try dsimp only at hSw
          go_simp
          all_goals with_reducible rfl
        try simp only [Act.put, List.setIfInBounds_toArray, List.set_cons_zero, List.set_cons_succ]
        refine wpAnyH_take (i := 24) (oi := { dst := some 123, op := _, type := _, pos := _, after := _, guard := _ }) (v := ?_) rfl (by kernel_rfl) (by kernel_rfl) (by kernel_rfl) (fun _ _ _ h => h) (Or.inl ⟨by rfl, ?_⟩) (by assumption) ?_
        rotate_left 1
        · intro wS hSw
          try dsimp only at hSw
          go_simp
          all_goals with_reducible rfl
        try simp only [Act.put, List.setIfInBounds_toArray, List.set_cons_zero, List.set_cons_succ]
        refine wpAnyH_take (i := 25) (oi := { dst := some 124, op := _, type := _, pos := _, after := _, guard := _ }) (v := ?_) rfl (by kernel_rfl) (by kernel_rfl) (by kernel_rfl) (fun _ _ _ h => h) (Or.inl ⟨by rfl, ?_⟩) (by assumption) ?_
        rotate_left 1
        · intro wS hSw
          try dsimp only at hSw
          go_simp
          all_goals with_reducible rfl
        try simp only [Act.put, List.setIfInBounds_toArray, List.set_cons_zero, List.set_cons_succ]
        refine wpAnyH_take (i := 26) (oi := { dst := some 6, op := _, type := _, pos := _, after := _, guard := _ }) (v := ?_) rfl (by kernel_rfl) (by kernel_rfl) (by kernel_rfl) (fun _ _ _ h => h) (Or.inl ⟨by rfl, ?_⟩) (by assumption) ?_
        rotate_left 1
        · intro wS hSw
          try dsimp only at hSw
          go_simp
          all_goals with_reducible rfl
        try simp only [Act.put, List.setIfInBounds_toArray, List.set_cons_zero, List.set_cons_succ]
        refine wpAnyH_take (i := 27) (oi := { dst := some 7, op := _, type := _, pos := _, after := _, guard := _ }) (v := ?_) rfl (by kernel_rfl) (by kernel_rfl) (by kernel_rfl) (fun _ _ _ h => h) (Or.inl ⟨by rfl, ?_⟩) (by assumption) ?_
        rotate_left 1
        · intro wS hSw
          try dsimp only at hSw
          go_simp
          all_goals with_reducible rfl
        try simp only [Act.put, List.setIfInBounds_toArray, List.set_cons_zero, List.set_cons_succ]
        refine wpAnyH_take (i := 28) (oi := { dst := some 8, op := _, type := _, pos := _, after := _, guard := _ }) (v := ?_) rfl (by kernel_rfl) (by kernel_rfl) (by kernel_rfl) (fun _ _ _ h => h) (Or.inl ⟨by rfl, ?_⟩) (by assumption) ?_
        rotate_left 1
        · intro wS hSw
          try dsimp only at hSw
          go_simp
          all_goals with_reducible rfl
        try simp only [Act.put, List.setIfInBounds_toArray, List.set_cons_zero, List.set_cons_succ]
        refine wpAnyH_done (by kernel_rfl) ?_ _
        go_wp2
        go_ret3
        obtain ⟨hE', hnc', hn', hb4⟩ := HH.out
        exact ⟨t', A', n', c', rfl, now_put HS.out HKK.out HES.out HZ.out rfl (HT'.out.stay hb4) HMEM.out hE' hnc', by omega, below_then HC2.out hb4⟩
      · exact AllReadyH.nil
    | true =>
      obtain ⟨r, hr, hrv⟩ := h1 rfl
      have hin := has_val HS.out HES.out HZ.out hok.symm hr
      rw [hrv] at hin
      by_cases hvv : v3 = v
      · subst hvv
        have htt : t' = t := HTT.out.2 hin
        clear h1 h0 hr hrv hin
        have hq0 := HQ.out w2 (Below.refl _ _)
        rw [show decide (t' = t) = true by simp [htt]] at hq0
        have HQB := hide (fun W hW => by have := HQ.out W hW; rw [show decide (t' = t) = true by simp [htt]] at this; exact this)
        have hk0 := And.intro (show w2.drew.cell? ⟨w.heap.size, 1, none⟩ = _ from y1) (And.intro (show w2.drew.cell? ⟨w.heap.size, 2, none⟩ = _ from y2) (HQB.out w2.drew (Below.refl _ _).drew))
        clear HQ hok
        clear htt
        go_wp2_with fail
        first
          | go_region_held3 (fun w' => w'.cell? ⟨w.heap.size, 1, none⟩ = some (.slice RA Rn Rc) ∧ w'.cell? ⟨w.heap.size, 2, none⟩ = some (.int .u64 (v3 : Int)) ∧ (binOp .eql 23 (.pointer (some ⟨t', 0, none⟩)) (.pointer (some ⟨t, 0, none⟩))).run Try.prog w' = .ok (.bool true) w')
              (first
                | go_keep
                | exact hk5
                | exact hk0)
              (first
                | (go_at_call 31
                   refine HRP.out.mono ?_
                   rintro e w5 ⟨A', n', c', rfl, hE', hnc', hn', hb5⟩
                   have hd5 : Below w2.heap.size w2 w5 := (Below.refl _ w2).drew.trans hb5
                   have HH := hide (And.intro hE' (And.intro hnc' (And.intro hn' hd5)))
                   have hk5 := And.intro ((hd5.cell (p := ⟨w.heap.size, 1, none⟩) hal).trans y1) (And.intro ((hd5.cell (p := ⟨w.heap.size, 2, none⟩) hal).trans y2) (HQB.out w5 hd5))
                   clear hE' hnc' hn' hb5))
          | fail
        all_goals
          go_wp2
          go_ret3
          obtain ⟨hE', hnc', hn', hb4⟩ := HH.out
          exact ⟨t', A', n', c', rfl, now_put HS.out HKK.out HES.out HZ.out rfl (HT'.out.stay hb4) HMEM.out hE' hnc', by omega, below_then HC2.out hb4⟩
      · have hne : t' ≠ t := fun h => hvv (uniq_val HSO.out hin (HTT.out.1 h))
        have ev : ((v3 : Int) == (v : Int)) = false := by simp; omega
        clear h1 hr hrv hin hvv
        have hq0 := HQ.out w2 (Below.refl _ _)
        rw [show decide (t' = t) = false by simp [hne]] at hq0
        have HQB := hide (fun W hW => by have := HQ.out W hW; rw [show decide (t' = t) = false by simp [hne]] at this; exact this)
        have hk0 := And.intro (show w2.drew.cell? ⟨w.heap.size, 1, none⟩ = _ from y1) (And.intro (show w2.drew.cell? ⟨w.heap.size, 2, none⟩ = _ from y2) (HQB.out w2.drew (Below.refl _ _).drew))
        clear HQ hok
        clear hne
        go_wp2_with fail
        first
          | go_region_held3 (fun w' => w'.cell? ⟨w.heap.size, 1, none⟩ = some (.slice RA Rn Rc) ∧ w'.cell? ⟨w.heap.size, 2, none⟩ = some (.int .u64 (v : Int)) ∧ (binOp .eql 23 (.pointer (some ⟨t', 0, none⟩)) (.pointer (some ⟨t, 0, none⟩))).run Try.prog w' = .ok (.bool false) w')
              (first
                | go_keep
                | exact hk5
                | exact hk0)
              (first
                | (go_at_call 31
                   refine HRP.out.mono ?_
                   rintro e w5 ⟨A', n', c', rfl, hE', hnc', hn', hb5⟩
                   have hd5 : Below w2.heap.size w2 w5 := (Below.refl _ w2).drew.trans hb5
                   have HH := hide (And.intro hE' (And.intro hnc' (And.intro hn' hd5)))
                   have hk5 := And.intro ((hd5.cell (p := ⟨w.heap.size, 1, none⟩) hal).trans y1) (And.intro ((hd5.cell (p := ⟨w.heap.size, 2, none⟩) hal).trans y2) (HQB.out w5 hd5))
                   clear hE' hnc' hn' hb5))
          | fail
        all_goals
          go_wp2
          go_ret3
          obtain ⟨hE', hnc', hn', hb4⟩ := HH.out
          exact ⟨t', A', n', c', rfl, now_put HS.out HKK.out HES.out HZ.out rfl (HT'.out.stay hb4) HMEM.out hE' hnc', by omega, below_then HC2.out hb4⟩
  · have HD := hide (tr_put_dim (Blk.below HTB.out HB1.out) RA Rn Rc (v : Int) hRk)
    have e1 : ((Rn : Int) != (k : Int)) = true := by simp; omega
    clear HK hRk
    go_wp2_with fail
    refine HD.out.mono ?_
    rintro e w2 ⟨rfl, rfl⟩
    go_wp2
    go_ret3
    exact ⟨t, A, n, c, rfl, ⟨rows, es, HT.out.stay HB1.out, HE.out.below HB1.out, HNC.out, HS.out, HKK.out, HES.out⟩, by omega, HB1.out⟩
theorem pt_lit2 (w : World) (a b : Nat) (ha : a < 2 ^ 64) (hb : b < 2 ^ 64) : Pt (w.alloc (.cells #[.int .u64 (a : Int), .int .u64 (b : Int)] 36)) (some ⟨w.heap.size, 0, none⟩) 2 [a, b] := by
  refine ⟨rfl, Rw.of_blk (Blk.new w 36 #[.int .u64 (a : Int), .int .u64 (b : Int)]) rfl ?_, fun x hx => ?_⟩
  · intro j u h
    simpa [u64s] using h
  · simp at hx
    rcases hx with rfl | rfl
    · exact ha
    · exact hb
set_option maxHeartbeats 2000000 in
set_option maxRecDepth 100000 in
theorem heavy7 (A : Option Addr) (n c m : Nat) (acts : List TA) (w : World) (h : ActsAt w A n acts) (hm : m ≤ 1000) :
    Calls Try.prog 13 #[.slice A n c, .int .i64 (m : Int)] w fun e w' => (e = .returned (.bool true) ∨ (e = .returned (.bool false) ∧ n ≤ m)) ∧ Below w.heap.size w w' := by
  have HE := hide h
  clear h
  by_cases hnm : n ≤ m
  · have e1 : ¬ m < n := by omega
    have hn1000 : n ≤ 1000 := by omega
    have HNM := hide hnm
    clear hnm
    go_enter Try.func13, Try.ntmps13
    go_wp2
    go_loop [5] (fun x5 => ∃ (j : Nat), x5 = .int .i64 (j : Int) ∧ j ≤ n) (fun x => n - (intOf x).toNat)
    case atStart => exact ⟨0, rfl, Nat.zero_le _⟩
    case round =>
      obtain ⟨j, rfl, hj⟩ := hrel
      by_cases hjn : j < n
      · obtain ⟨b, o, r, rfl, hbl, hr, hok, k0, k1, k2⟩ := HE.out.at_ hjn
        by_cases h40 : r.n ≤ 40
        · have e2 : decide ((40 : Int) < (r.n : Int)) = false := by simp; omega
          clear hr hok
          go_wp2
          go_round
          case rel => exact ⟨j + 1, by go_num, by omega⟩
          case measure => simp [intOf]; omega
        · have e2 : decide ((40 : Int) < (r.n : Int)) = true := by simp; omega
          clear hr hok
          go_wp2
          go_ret
          exact ⟨.inl rfl, Below.refl _ _⟩
      · have e9 : decide ((j : Int) < (n : Int)) = false := by simp; omega
        go_wp2
        go_ret
        exact ⟨.inr ⟨rfl, HNM.out⟩, Below.refl _ _⟩
  · have e1 : m < n := by omega
    clear hnm
    go_enter Try.func13, Try.ntmps13
    go_wp2
    go_ret
    exact ⟨.inl rfl, Below.refl _ _⟩
theorem done7 {w : World} {k t n c : Nat} {A : Option Addr} (hN : Now w k t A n c) (hn : n ≤ 1000) {r : TA} (hr : r.ok w) :
    Calls Try.prog 15 #[.pointer (some ⟨t, 0, none⟩), .slice A n c, .agg #[.bool r.d, .slice r.A r.n r.c, .int .u64 (r.v : Int)]] w (DoneOut w k n) := by
  obtain ⟨d, RA, Rn, Rc, p, v⟩ := r
  obtain ⟨h1, h2, h3, h4⟩ := hr
  cases d with
  | true => exact done_del hN hn h1 h2 h3 h4
  | false => exact done_put hN hn h1 h2 h3 h4
set_option maxHeartbeats 4000000 in
set_option maxRecDepth 100000 in
theorem grown7 {w : World} {k n c : Nat} {A : Option Addr} {acts : List TA} (hk1 : 1 ≤ k) (hk : k ≤ 16) (hE : ActsAt w A n acts) (hn : n ≤ 100) :
    Calls Try.prog 14 #[.int .i64 (k : Int), .slice A n c] w fun e w' => ∃ (t : Nat) (A' : Option Addr) (n' c' : Nat), e = .returned (.tuple #[.pointer (some ⟨t, 0, none⟩), .slice A' n' c', .bool true]) ∧ Now w' k t A' n' c' ∧ n' ≤ n ∧ Below w.heap.size w w' := by
  have HN := hide (tr_new k w hk1 hk)
  have HE := hide hE
  clear hE
  go_enter Try.func14, Try.ntmps14
  go_wp2_with fail
  refine HN.out.mono ?_
  rintro e w1 ⟨rfl, hT1, hb1⟩
  have hal := (Below.refl w1.heap.size w1).alloc (Nat.le_refl _) (.cells #[] 84)
  have HB2 := hide (below_then hb1 hal)
  have HNW := hide (now_new (A := some ⟨w1.heap.size, 0, none⟩) (c := 0) hk1 hk (Blk.below hT1 hal))
  clear hT1 hb1 hal HN
  go_wp2
  go_loopw [7, 9, 10] (fun x7 x9 x10 wr => ∃ (j t : Nat) (A' : Option Addr) (n' c' : Nat), x7 = .pointer (some ⟨t, 0, none⟩) ∧ x9 = .slice A' n' c' ∧ x10 = .int .i64 (j : Int) ∧ j ≤ n ∧ n' ≤ j ∧ Now wr k t A' n' c' ∧ Below w.heap.size w wr) (fun _ _ x _ => n - (intOf x).toNat)
  case atStart => exact ⟨0, w.heap.size, some ⟨w1.heap.size, 0, none⟩, 0, 0, rfl, rfl, rfl, Nat.zero_le _, Nat.le_refl _, HNW.out, HB2.out⟩
  case round =>
    obtain ⟨j, t, A', n', c', rfl, rfl, rfl, hj, hnj, hNow, hb⟩ := hrel
    have HNow := hide hNow
    have HBr := hide hb
    rename World => wz
    by_cases hjn : j < n
    · obtain ⟨b, o, r, rfl, hbl, hr, hok, k0, k1, k2⟩ := (HE.out.below hb).at_ hjn
      have HD := hide (done7 hNow (by omega) hok)
      clear hNow hb hr hok
      go_wp2_with fail
      refine HD.out.mono ?_
      rintro e w5 ⟨t', A5, n5, c5, rfl, hN5, hn5, hb5⟩
      have HH := hide (And.intro hN5 (below_then HBr.out hb5))
      clear hN5 hb5 HD k0 k1 k2
      go_wp2
      go_roundw
      case rel => exact ⟨j + 1, t', A5, n5, c5, rfl, rfl, by go_num, by omega, by omega, HH.out.1, HH.out.2⟩
      case measure => simp [intOf]; omega
    · have e9 : decide ((j : Int) < (n : Int)) = false := by simp; omega
      clear hNow hb
      go_wp2
      go_ret3
      exact ⟨t, A', n', c', rfl, HNow.out, by omega, HBr.out⟩
end Go.Proofs.Ytfoapkcgdkfggaa
set_option linter.unusedSimpArgs false
set_option linter.unusedVariables false
namespace Go.Proofs.Ytfoapkcgdkfggaa
open Go.RowKit
theorem Rw.uniq {w : World} {sz n : Nat} {A : Option Addr} {vs vs' : List Value} (h : Rw w sz A n vs) (h' : Rw w sz A n vs') : vs = vs' := by
  have hl : vs.length = vs'.length := by rw [h.1, h'.1]
  refine List.ext_getElem? fun j => ?_
  rcases Nat.lt_or_ge j vs.length with hj | hj
  · have hn : 0 < n := by
      rcases Nat.eq_zero_or_pos n with h0 | h0
      · rw [h.1, h0, Nat.zero_mul] at hj
        omega
      · exact h0
    obtain ⟨b, o, h1, -, h2⟩ := h.2 hn
    obtain ⟨b', o', h1', -, h2'⟩ := h'.2 hn
    rw [h1] at h1'
    injection h1' with h1'
    injection h1' with e1 e2
    subst e1 e2
    rw [List.getElem?_eq_getElem hj, List.getElem?_eq_getElem (hl ▸ hj), ← h2 j _ (List.getElem?_eq_getElem hj), ← h2' j _ (List.getElem?_eq_getElem (hl ▸ hj))]
  · rw [List.getElem?_eq_none hj, List.getElem?_eq_none (hl ▸ hj)]
theorem u64s_inj {p q : List Nat} (h : u64s p = u64s q) : p = q := by
  unfold u64s at h
  exact (List.map_inj_right (fun a b hab => by injection hab with _ hab; omega)).1 h
theorem Pt.uniq {w : World} {k : Nat} {A : Option Addr} {p q : List Nat} (h : Pt w A k p) (h' : Pt w A k q) : p = q := u64s_inj (h.2.1.uniq h'.2.1)
theorem clv_inj : ∀ {cs ds : List Cl}, clv cs = clv ds → cs = ds
  | [], [], _ => rfl
  | [], d :: ds, h => by simp [clv, Cl.vals] at h
  | c :: cs, [], h => by simp [clv, Cl.vals] at h
  | c :: cs, d :: ds, h => by
    rw [clv_cons, clv_cons] at h
    simp only [Cl.vals, List.cons_append, List.nil_append, List.cons.injEq, Value.int.injEq, Value.bool.injEq, true_and] at h
    obtain ⟨h1, h2, h3, h4⟩ := h
    obtain ⟨a, x, b⟩ := c
    obtain ⟨a', x', b'⟩ := d
    simp only at h1 h2 h3
    obtain rfl : a = a' := by omega
    subst h2 h3
    rw [clv_inj h4]
theorem SlotsAt_n.uniq {w : World} {g k : Nat} {L L' : Th} (h : SlotsAt_n w g k L) (h' : SlotsAt_n w g k L') : L = L' := by
  obtain ⟨A, m, c, h1, h2, -, -, -, h3, -⟩ := h.cells
  obtain ⟨A', m', c', h1', h2', -, -, -, h3', -⟩ := h'.cells
  have he := (Blk.eq_ h1 h1').2
  simp only [Array.mk.injEq, List.cons.injEq, Value.slice.injEq, and_true, true_and] at he
  obtain ⟨-, e1, e2, e3⟩ := he
  subst e1 e2 e3
  have hc := clv_inj (h2.uniq h2')
  have hm : mkC L = mkC L' := by rw [← h3, ← h3', hc]
  unfold mkC at hm
  exact (List.map_inj_right (fun a b hab => by
    obtain ⟨a1, a2⟩ := a
    obtain ⟨b1, b2⟩ := b
    simpa using hab)).1 hm
theorem kids_uniq {w : World} {k : Nat} : ∀ {ks ks' : List Kid}, (∀ q ∈ ks, ∀ {lv : Int} {pre : List Nat} {es : List Ent}, NodeOf w k q.blk lv pre es → q.lv = lv ∧ q.pre = pre ∧ q.es = es) → (∀ q ∈ ks', NodeOf w k q.blk q.lv q.pre q.es) → kidTh ks = kidTh ks' → kidEs ks = kidEs ks'
  | [], [], _, _, _ => rfl
  | [], d :: ds, _, _, h => by simp [kidTh] at h
  | c :: cs, [], _, _, h => by simp [kidTh] at h
  | c :: cs, d :: ds, h1, h2, h => by
    simp only [kidTh, List.map_cons, List.cons.injEq, Prod.mk.injEq, Value.pointer.injEq, Option.some.injEq, Addr.mk.injEq, and_true] at h
    obtain ⟨⟨h3, h4⟩, h5⟩ := h
    have hd := h2 d (List.mem_cons_self ..)
    rw [← h4] at hd
    have := (h1 c (List.mem_cons_self ..) hd).2.2
    have hr := kids_uniq (fun q hq => h1 q (List.mem_cons_of_mem _ hq)) (fun q hq => h2 q (List.mem_cons_of_mem _ hq)) h5
    unfold kidEs at hr ⊢
    rw [List.flatMap_cons, List.flatMap_cons, this, hr]
/-- What a node's block says: one node. -/
theorem NodeOf.uniq {w : World} {k g : Nat} {lv : Int} {pre : List Nat} {es : List Ent} (h : NodeOf w k g lv pre es) : ∀ {lv' : Int} {pre' : List Nat} {es' : List Ent}, NodeOf w k g lv' pre' es' → lv = lv' ∧ pre = pre' ∧ es = es' := by
  induction h with
  | leaf hv hp hc hB =>
    intro lv' pre' es' h'
    cases h' with
    | leaf hv' hp' hc' hB' =>
      have he := (Blk.eq_ hB hB').2
      simp [nodeCells] at he
      obtain ⟨⟨e1, e2⟩, e3, -⟩ := he
      subst e1
      obtain rfl := hp.uniq hp'
      exact ⟨rfl, rfl, rfl⟩
    | fork ks hlv hp' hc' hz hk hl ha hs h2 hS hB' =>
      have he := (Blk.eq_ hB hB').2
      simp [nodeCells] at he
  | fork ks hlv hp hc hz hk hl ha hs h2 hS hB ih =>
    intro lv' pre' es' h'
    cases h' with
    | leaf hv' hp' hc' hB' =>
      have he := (Blk.eq_ hB hB').2
      simp [nodeCells] at he
    | fork ks' hlv' hp' hc' hz' hk' hl' ha' hs' h2' hS' hB' =>
      have he := (Blk.eq_ hB hB').2
      simp [nodeCells] at he
      obtain ⟨e0, ⟨e1, e2⟩, e3, -⟩ := he
      subst e1 e3
      obtain rfl := hp.uniq hp'
      exact ⟨by omega, rfl, kids_uniq ih hk' (hS.uniq hS')⟩
end Go.Proofs.Ytfoapkcgdkfggaa
set_option linter.unusedSimpArgs false
set_option linter.unusedVariables false
namespace Go.Proofs.Ytfoapkcgdkfggaa
open Go.RowKit
def maxN (l : List Nat) : Nat := l.foldl Nat.max 0
theorem maxN_snoc (l : List Nat) (d : Nat) : maxN (l ++ [d]) = Nat.max (maxN l) d := by simp [maxN]
/-- The blocks of a node and of all below it, the node first; how deep it is. -/
inductive Bel (w : World) (k : Nat) : Nat → List Nat → Nat → List Ent → Prop
  | leaf {g : Nat} {A : Option Addr} {c v : Nat} {p : List Nat} (hv : v < 2 ^ 64) (hc : k ≤ c) (hp : Pt w A k p) (hB : Blk w g 103 (nodeCells (-1) A k c v none ⟨1, v, v, v⟩)) : Bel w k g [g] 1 [(p, v)]
  | fork {g m : Nat} {pre : List Nat} {ks : List Kid} (f : Kid → List Nat) (d : Kid → Nat) (hF : Fork w k g m pre ks) (hk : ∀ q ∈ ks, Bel w k q.blk (f q) (d q) q.es) : Bel w k g (g :: ks.flatMap f) (maxN (ks.map d) + 1) (kidEs ks)
theorem bel_ex {w : World} {k : Nat} : ∀ (n g : Nat) (lv : Int) (pre : List Nat) (es : List Ent), lv + 1 < n → NodeOf w k g lv pre es → ∃ L d, Bel w k g L d es
  | 0, g, lv, pre, es, hn, h => by have := h.info.2.2.1; omega
  | n + 1, g, lv, pre, es, hn, h => by
    rcases h.cases' with ⟨A, c, v, rfl, rfl, hv, hP, hc, hB⟩ | ⟨m, ks, rfl, rfl, hF⟩
    · exact ⟨_, _, .leaf hv hc hP hB⟩
    · have ih : ∀ q : Kid, ∃ L d, q ∈ ks → Bel w k q.blk L d q.es := fun q => by
        by_cases hq : q ∈ ks
        · obtain ⟨h1, h2, -⟩ := hF.kid q hq
          obtain ⟨L, d, h⟩ := bel_ex n q.blk q.lv q.pre q.es (by omega) h1
          exact ⟨L, d, fun _ => h⟩
        · exact ⟨[], 0, fun h => absurd h hq⟩
      have ih2 : ∀ q : Kid, ∃ x : List Nat × Nat, q ∈ ks → Bel w k q.blk x.1 x.2 q.es := fun q => by
        obtain ⟨L, d, h⟩ := ih q
        exact ⟨(L, d), h⟩
      obtain ⟨F, hFn⟩ := Classical.axiomOfChoice ih2
      exact ⟨_, _, .fork (fun q => (F q).1) (fun q => (F q).2) hF fun q hq => hFn q hq⟩
section
variable {w w' : World} {k g d : Nat} {L : List Nat} {es : List Ent}
theorem Bel.stay (h : Bel w k g L d es) (hb : Below w.heap.size w w') : Bel w' k g L d es := by
  induction h with
  | leaf hv hc hp hB => exact .leaf hv hc (hp.below hb) (hB.below hb)
  | fork f d hF hk ih => exact .fork f d (hF.stay hb) ih
theorem Bel.node (h : Bel w k g L d es) : ∃ cs, Blk w g 103 cs := by
  cases h with
  | leaf hv hc hp hB => exact ⟨_, hB⟩
  | fork f d hF hk =>
    obtain ⟨A, c, gs, hp, hS, hB⟩ := hF.head
    exact ⟨_, hB⟩
theorem flat_len {ks : List Kid} {f : Kid → List Nat} (h : ∀ q ∈ ks, (f q).length + 1 ≤ 2 * q.es.length) : (ks.flatMap f).length + ks.length ≤ 2 * (kidEs ks).length := by
  induction ks with
  | nil => simp [kidEs]
  | cons q ks ih =>
    have h1 := h q (List.mem_cons_self ..)
    have h2 := ih fun r hr => h r (List.mem_cons_of_mem _ hr)
    unfold kidEs at h2 ⊢
    simp only [List.flatMap_cons, List.length_append, List.length_cons]
    omega
theorem flat_ge {ks : List Kid} {f : Kid → List Nat} (h : ∀ q ∈ ks, q.es.length ≤ (f q).length) : (kidEs ks).length ≤ (ks.flatMap f).length := by
  induction ks with
  | nil => simp [kidEs]
  | cons q ks ih =>
    have h1 := h q (List.mem_cons_self ..)
    have h2 := ih fun r hr => h r (List.mem_cons_of_mem _ hr)
    unfold kidEs at h2 ⊢
    simp only [List.flatMap_cons, List.length_append, List.length_cons]
    omega
/-- Fewer than twice as many nodes as entries; no fewer than entries. -/
theorem Bel.size (h : Bel w k g L d es) : L.length + 1 ≤ 2 * es.length ∧ es.length ≤ L.length := by
  induction h with
  | leaf hv hc hp hB => simp
  | fork f d hF hk ih =>
    have h1 := flat_len fun q hq => (ih q hq).1
    have h2 := flat_ge fun q hq => (ih q hq).2
    have h3 := hF.two
    simp only [List.length_cons]
    omega
end
theorem Bel.nodeOf {w : World} {k g d : Nat} {L : List Nat} {es : List Ent} (h : Bel w k g L d es) : ∃ lv pre, NodeOf w k g lv pre es := by
  cases h with
  | leaf hv hc hp hB => exact ⟨_, _, .leaf hv hp hc hB⟩
  | fork f d hF hk => exact ⟨_, _, hF.node⟩
theorem Bel.head {w : World} {k g d : Nat} {L : List Nat} {es : List Ent} (h : Bel w k g L d es) : ∃ M, L = g :: M := by
  cases h with
  | leaf hv hc hp hB => exact ⟨_, rfl⟩
  | fork f d hF hk => exact ⟨_, rfl⟩
/-- What lies below has entries of it, and no higher a level. -/
theorem Bel.sub {w : World} {k g d : Nat} {L : List Nat} {es : List Ent} (h : Bel w k g L d es) : ∀ {lv : Int} {pre : List Nat}, NodeOf w k g lv pre es → ∀ x ∈ L, ∃ lv' pre' es', NodeOf w k x lv' pre' es' ∧ es' ≠ [] ∧ (∀ e ∈ es', e ∈ es) ∧ lv' ≤ lv := by
  induction h with
  | leaf hv hc hp hB =>
    intro lv pre hN x hx
    rw [List.mem_singleton] at hx
    subst hx
    exact ⟨lv, pre, _, hN, by simp, fun e he => he, Int.le_refl _⟩
  | fork f d hF hk ih =>
    intro lv pre' hN x hx
    rcases List.mem_cons.1 hx with rfl | hx
    · exact ⟨lv, pre', _, hN, hN.info.2.1, fun e he => he, Int.le_refl _⟩
    · obtain ⟨q, hq, hxq⟩ := List.mem_flatMap.1 hx
      obtain ⟨h1, h2, -⟩ := hF.kid q hq
      obtain ⟨lv2, pre2, es2, h3, h4, h5, h6⟩ := ih q hq h1 x hxq
      have hlv := (hN.uniq hF.node).1
      refine ⟨lv2, pre2, es2, h3, h4, fun e he => ?_, by omega⟩
      unfold kidEs
      exact List.mem_flatMap.2 ⟨q, hq, h5 e he⟩
theorem nodup_flat {α β : Type} {f : α → List β} : ∀ {l : List α}, (∀ a ∈ l, (f a).Nodup) → l.Pairwise (fun a b => ∀ x, x ∈ f a → x ∈ f b → False) → (l.flatMap f).Nodup
  | [], _, _ => by simp
  | a :: l, h, hp => by
    obtain ⟨h1, h2⟩ := List.pairwise_cons.1 hp
    rw [List.flatMap_cons]
    refine List.nodup_append.2 ⟨h a (List.mem_cons_self ..), nodup_flat (fun b hb => h b (List.mem_cons_of_mem _ hb)) h2, fun x hx y hy hxy => ?_⟩
    subst hxy
    obtain ⟨b, hb, hxb⟩ := List.mem_flatMap.1 hy
    exact h1 b hb x hx hxb
theorem Bel.nodup {w : World} {k g d : Nat} {L : List Nat} {es : List Ent} (h : Bel w k g L d es) : L.Nodup := by
  induction h with
  | leaf hv hc hp hB => simp
  | @fork g m pre ks f d hF hk ih =>
    refine List.nodup_cons.2 ⟨fun hg => ?_, ?_⟩
    · obtain ⟨q, hq, hxq⟩ := List.mem_flatMap.1 hg
      obtain ⟨h1, h2, -⟩ := hF.kid q hq
      obtain ⟨lv2, pre2, es2, h3, -, -, h6⟩ := (hk q hq).sub h1 g hxq
      have := (h3.uniq hF.node).1
      omega
    · refine nodup_flat ih ?_
      refine List.Pairwise.imp_of_mem (fun {q r} hq hr hqr => ?_) hF.sorted
      intro x hxq hxr
      obtain ⟨q1, q2, q3, -⟩ := hF.kid q hq
      obtain ⟨r1, r2, r3, -⟩ := hF.kid r hr
      obtain ⟨lv1, p1, e1, a1, a2, a3, -⟩ := (hk q hq).sub q1 x hxq
      obtain ⟨lv2, p2, e2, b1, b2, b3, -⟩ := (hk r hr).sub r1 x hxr
      obtain ⟨-, -, rfl⟩ := a1.uniq b1
      obtain ⟨e, he⟩ := List.exists_mem_of_ne_nil _ a2
      have u1 := (q1.info.2.2.2.2.1 e (a3 e he)).2.2 m q2
      have u2 := (r1.info.2.2.2.2.1 e (b3 e he)).2.2 m r2
      rw [q3] at u1
      rw [r3] at u2
      omega
/-- A node's nodes are laid into a map. -/
def AddOut (w0 w : World) (b : Nat) (S : List Nat) (L : List Nat) (d : Nat) (e : Ending) (w' : World) : Prop :=
  e = .returned (.tuple #[.int .i64 ((L.length : Nat) : Int), .int .i64 (d : Int)]) ∧ (∃ S', MapAt w' b S' ∧ ∀ x, x ∈ S' ↔ x ∈ S ∨ x ∈ L) ∧ Below w0.heap.size w0 w'
def AddOk (w0 : World) (g : Nat) (L : List Nat) (d : Nat) : Prop := ∀ (w : World) (b : Nat) (S : List Nat), MapAt w b S → Below w0.heap.size w0 w → w0.heap.size ≤ b →
  Calls Try.prog 26 #[.map (some b), .pointer (some ⟨g, 0, none⟩)] w (AddOut w0 w b S L d)
set_option maxHeartbeats 4000000 in
set_option maxRecDepth 100000 in
theorem add_nil (w : World) (b : Nat) : Calls Try.prog 26 #[.map (some b), .pointer none] w fun e w' => e = .returned (.tuple #[.int .i64 0, .int .i64 0]) ∧ w = w' := by
  go_enter Try.func26, Try.ntmps26
  go_wp2
  go_ret2
  exact ⟨rfl, rfl⟩
set_option maxHeartbeats 4000000 in
set_option maxRecDepth 100000 in
theorem add_leaf {w0 : World} {k g c v : Nat} {A : Option Addr} (hB : Blk w0 g 103 (nodeCells (-1) A k c v none ⟨1, v, v, v⟩)) : AddOk w0 g [g] 1 := by
  intro w b S hM hb hbb
  have hBw := hB.below hb
  have HM := hide hM
  have HB := hide hb
  have HBW := hide hBw
  have HBB := hide hbb
  clear hM hb hBw hbb hB
  go_enter Try.func26, Try.ntmps26
  go_wp2_with (at_mapUpdate
               refine map_box rfl (.tmp 12) (.tmp 13) _ rfl b S rfl HM.out g _ rfl rfl HBW.out ?_
               intro w1 hM1 hx1)
  have hb1 := HB.out.trans (hx1.to_below HBB.out HB.out.size)
  have HF := hide (nd_from_leaf (blk_exM HBW.out hx1 HM.out.isMap) 0)
  have HM1 := hide hM1
  have HB1 := hide hb1
  clear hx1 hM1 hb1
  go_wp2_with fail
  refine HF.out.mono ?_
  rintro e w2 ⟨rfl, rfl⟩
  go_wp2
  go_loopw [4, 5, 6, 7] (fun x4 x5 x6 x7 wr => x4 = .int .i64 0 ∧ x5 = .int .i64 0 ∧ x6 = .int .i64 0 ∧ x7 = .pointer none ∧ MapAt wr b (addN S g) ∧ Below w0.heap.size w0 wr) (fun _ _ _ _ _ => 0)
  case atStart => exact ⟨rfl, rfl, rfl, rfl, HM1.out, HB1.out⟩
  case round =>
    obtain ⟨rfl, rfl, rfl, rfl, hM2, hb2⟩ := hrel
    have HFI := hide (show AddOut w0 w b S [g] 1 (.returned (.tuple #[.int .i64 1, .int .i64 1])) _ from ⟨rfl, ⟨_, hM2, fun x => by rw [mem_addN, List.mem_singleton]⟩, hb2⟩)
    clear hM2 hb2
    go_wp2
    go_ret2
    exact HFI.out
theorem flat_takeK {ks : List Kid} {f : Kid → List Nat} {j : Nat} {q : Kid} (h : ks[j]? = some q) : (ks.take (j + 1)).flatMap f = (ks.take j).flatMap f ++ f q := by
  rw [List.take_add_one, h]
  simp
theorem map_take' {ks : List Kid} {d : Kid → Nat} {j : Nat} {q : Kid} (h : ks[j]? = some q) : (ks.take (j + 1)).map d = (ks.take j).map d ++ [d q] := by
  rw [List.take_add_one, h]
  simp
theorem flat_take_le {ks : List Kid} (f : Kid → List Nat) (j : Nat) : ((ks.take j).flatMap f).length ≤ (ks.flatMap f).length := by
  conv => rhs; rw [← List.take_append_drop j ks]
  rw [List.flatMap_append, List.length_append]
  omega
theorem mem_flat_le {ks : List Kid} (f : Kid → List Nat) {q : Kid} (h : q ∈ ks) : (f q).length ≤ (ks.flatMap f).length := by
  obtain ⟨a, b, rfl⟩ := List.append_of_mem h
  rw [List.flatMap_append, List.flatMap_cons, List.length_append, List.length_append]
  omega
theorem maxN_le {l : List Nat} {n : Nat} (h : ∀ x ∈ l, x ≤ n) : maxN l ≤ n := by
  unfold maxN
  have : ∀ (l : List Nat) (a : Nat), a ≤ n → (∀ x ∈ l, x ≤ n) → l.foldl Nat.max a ≤ n := by
    intro l
    induction l with
    | nil => intro a ha _; exact ha
    | cons x l ih =>
      intro a ha hl
      exact ih _ (Nat.max_le.2 ⟨ha, hl x (List.mem_cons_self ..)⟩) fun y hy => hl y (List.mem_cons_of_mem _ hy)
  exact this l 0 (Nat.zero_le _) h
theorem Bel.deep {w : World} {k g d : Nat} {L : List Nat} {es : List Ent} (h : Bel w k g L d es) : d ≤ L.length := by
  induction h with
  | leaf hv hc hp hB => simp
  | fork f d hF hk ih =>
    have := maxN_le (l := List.map d _) (n := (List.flatMap f _).length) fun x hx => by
      obtain ⟨q, hq, rfl⟩ := List.mem_map.1 hx
      exact Nat.le_trans (ih q hq) (mem_flat_le f hq)
    simp only [List.length_cons]
    omega
set_option maxHeartbeats 8000000 in
set_option maxRecDepth 100000 in
theorem add_fork {w0 : World} {k g m : Nat} {pre : List Nat} {ks : List Kid} (f : Kid → List Nat) (d : Kid → Nat) (hF : Fork w0 k g m pre ks) (hk : k ≤ 16) (hL : (ks.flatMap f).length ≤ 200000) (hd : ∀ q ∈ ks, d q ≤ (f q).length) (ih : ∀ q ∈ ks, AddOk w0 q.blk (f q) (d q)) : AddOk w0 g (g :: ks.flatMap f) (maxN (ks.map d) + 1) := by
  intro w b S hM hb hbb
  obtain ⟨A, c, gs, hp, hS, hB⟩ := (hF.stay hb).head
  have HM := hide hM
  have HB := hide hb
  have HBW := hide hB
  have HBB := hide hbb
  have HF := hide hF
  have HIH := hide ih
  have HSO := hide hF.sorted
  have HL := hide (And.intro hL hd)
  have HAT := hide (fun q (hq : q ∈ ks) => pow_le_16 (hF.kid q hq).2.2.2.2 hk)
  clear hM hb hbb hB hS hp hF ih hL hd
  go_enter Try.func26, Try.ntmps26
  go_wp2_with (at_mapUpdate
               refine map_box rfl (.tmp 12) (.tmp 13) _ rfl b S rfl HM.out g _ rfl rfl HBW.out ?_
               intro w1 hM1 hx1)
  have hb1 := HB.out.trans (hx1.to_below HBB.out HB.out.size)
  have H0 := hide (nd_from_0 (HF.out.stay hb1))
  have HM1 := hide hM1
  have HB1 := hide hb1
  clear hx1 hM1 hb1
  go_wp2_with fail
  refine H0.out.mono ?_
  rintro e w3 ⟨rfl, hb3⟩
  have HM3 := hide (HM1.out.below hb3)
  have HB3 := hide (HB1.out.trans (hb3.mono HB1.out.size))
  clear hb3 H0
  go_wp2
  go_loopw [4, 5, 6, 7] (fun x4 x5 x6 x7 wr => ∃ (j cnt dm : Nat) (S' : List Nat), x4 = .int .i64 (cnt : Int) ∧ x5 = .int .i64 (dm : Int) ∧ x6 = .int .i64 ((kAt ks j : Nat) : Int) ∧ x7 = kPt ks j ∧ j ≤ ks.length ∧ cnt = ((ks.take j).flatMap f).length ∧ dm = maxN ((ks.take j).map d) ∧ MapAt wr b S' ∧ (∀ x, x ∈ S' ↔ x ∈ S ∨ x = g ∨ x ∈ (ks.take j).flatMap f) ∧ Below w0.heap.size w0 wr) (fun _ _ x6 x7 _ => fromM x6 x7)
  case atStart => exact ⟨0, 0, 0, _, rfl, rfl, rfl, rfl, Nat.zero_le _, rfl, rfl, HM3.out, fun x => by rw [mem_addN]; simp, HB3.out⟩
  case round =>
    obtain ⟨j, cnt, dm, S', rfl, rfl, rfl, rfl, hj, hcnt, hdm, hM, hmem, hb⟩ := hrel
    rename World => wz
    have HMz := hide hM
    have HBz := hide hb
    have HMEM := hide hmem
    have HJ := hide (And.intro hcnt hdm)
    have hcl := flat_take_le (ks := ks) f j
    have hcb : cnt ≤ 200000 := by have := HL.out.1; omega
    have hdb : dm ≤ 200000 := by
      rw [hdm]
      refine maxN_le fun x hx => ?_
      obtain ⟨q, hq, rfl⟩ := List.mem_map.1 hx
      have hq := List.mem_of_mem_take hq
      have h1 := HL.out.2 q hq
      have h2 := mem_flat_le f hq
      have h3 := HL.out.1
      omega
    clear hM hb hmem hcnt hdm hcl HM3 HB3
    by_cases hjn : j < ks.length
    · obtain ⟨q, hq⟩ : ∃ q, ks[j]? = some q := ⟨ks[j], List.getElem?_eq_getElem hjn⟩
      rw [kAt_some hq, kPt_some hq]
      have hqm := List.mem_of_getElem? hq
      have hqa := HAT.out q hqm
      have hqa1 : ((q.at_ : Nat) : Int) ≤ 65535 := by omega
      have HI := hide (HIH.out q hqm wz b S' HMz.out HBz.out HBB.out)
      have hfq := mem_flat_le f hqm
      have hL := HL.out.1
      have hfb : (f q).length ≤ 200000 := by omega
      have hdq : d q ≤ 200000 := by have := HL.out.2 q hqm; omega
      have HQ := hide hq
      obtain ⟨cq, hcq⟩ : ∃ cq, (f q).length = cq := ⟨_, rfl⟩
      obtain ⟨dq, hdq'⟩ : ∃ dq, d q = dq := ⟨_, rfl⟩
      unfold AddOut at HI
      rw [hcq, hdq'] at HI
      rw [hcq] at hfb
      rw [hdq'] at hdq
      have HCD := hide (And.intro hcq hdq')
      have i1 : IntKind.i64.wrap ((cnt : Int) + (cq : Int)) = ((cnt + cq : Nat) : Int) := by
        rw [IntKind.wrap_i64]
        omega
      have i2 : max (dm : Int) (dq : Int) = ((Nat.max dm dq : Nat) : Int) := by
        simp only [Nat.max_def]
        split <;> omega
      clear hq hqm hqa hfq hL hcq hdq'
      go_wp2_with fail
      refine HI.out.mono ?_
      rintro e w5 ⟨rfl, ⟨S5, hM5, hmem5⟩, hb5⟩
      have HN := hide (nd_from_next (HF.out.stay hb5) HQ.out)
      have H5 := hide (And.intro hM5 (And.intro hmem5 hb5))
      clear hM5 hmem5 hb5 HI
      go_wp2_with fail
      refine HN.out.mono ?_
      rintro e w6 ⟨rfl, hb6⟩
      have HB6 := hide hb6
      clear hb6 HN
      go_wp2
      go_roundw
      case rel =>
        obtain ⟨hM5, hmem5, hb5⟩ := H5.out
        refine ⟨j + 1, cnt + cq, Nat.max dm dq, S5, rfl, rfl, rfl, rfl, by omega, ?_, ?_, hM5.below HB6.out, fun x => ?_, hb5.trans (HB6.out.mono hb5.size)⟩
        · rw [flat_takeK HQ.out, List.length_append, HCD.out.1, ← HJ.out.1]
        · rw [map_take' HQ.out, maxN_snoc, HCD.out.2, ← HJ.out.2]
        · rw [hmem5, HMEM.out, flat_takeK HQ.out, List.mem_append]
          simp only [or_assoc]
      case measure => exact fromM_lt HSO.out HAT.out HQ.out
    · rw [kPt_none (show ks.length ≤ j by omega)]
      have htk : ks.take j = ks := List.take_of_length_le (by omega)
      have i1 : IntKind.i64.wrap ((cnt : Int) + 1) = (cnt : Int) + 1 := by rw [IntKind.wrap_i64]; omega
      have i2 : IntKind.i64.wrap ((dm : Int) + 1) = (dm : Int) + 1 := by rw [IntKind.wrap_i64]; omega
      have HFI := hide (show AddOut w0 w b S (g :: ks.flatMap f) (maxN (ks.map d) + 1) (.returned (.tuple #[.int .i64 ((cnt : Int) + 1), .int .i64 ((dm : Int) + 1)])) wz from by
        refine ⟨?_, ⟨S', HMz.out, fun x => ?_⟩, HBz.out⟩
        · have h1 := HJ.out.1
          have h2 := HJ.out.2
          rw [htk] at h1 h2
          rw [← h2, List.length_cons, ← h1]
          rfl
        · rw [HMEM.out, htk, List.mem_cons])
      clear htk
      go_wp2
      go_ret2
      exact HFI.out
theorem add_ok {w0 : World} {k g d : Nat} {L : List Nat} {es : List Ent} (h : Bel w0 k g L d es) (hk : k ≤ 16) (hL : L.length ≤ 200000) : AddOk w0 g L d := by
  induction h with
  | leaf hv hc hp hB => exact add_leaf hB
  | fork f d hF hb ih =>
    simp only [List.length_cons] at hL
    exact add_fork f d hF hk (by omega) (fun q hq => (hb q hq).deep) fun q hq => ih q hq (by have := mem_flat_le f hq; omega)
end Go.Proofs.Ytfoapkcgdkfggaa
set_option linter.unusedSimpArgs false
set_option linter.unusedVariables false
namespace Go.Proofs.Ytfoapkcgdkfggaa
open Go.RowKit
/-- A tree's nodes: none, or a node and all below it. -/
def TBel (w : World) (k : Nat) (root : Option Addr) (L : List Nat) (d : Nat) (es : List Ent) : Prop := (root = none ∧ L = [] ∧ d = 0 ∧ es = []) ∨ ∃ g, root = some ⟨g, 0, none⟩ ∧ Bel w k g L d es
theorem TBel.stay {w w' : World} {k d : Nat} {root : Option Addr} {L : List Nat} {es : List Ent} (h : TBel w k root L d es) (hb : Below w.heap.size w w') : TBel w' k root L d es := by
  rcases h with h | ⟨g, h1, h2⟩
  · exact .inl h
  · exact .inr ⟨g, h1, h2.stay hb⟩
theorem TreeOf.bel {w : World} {k t : Nat} {es : List Ent} (h : TreeOf w k t es) : ∃ root L d, TreeBlk w t k root ∧ TBel w k root L d es ∧ k ≤ 16 ∧ L.length ≤ 2 * es.length ∧ es.length ≤ L.length ∧ (es ≠ [] → L.length < 2 * es.length) := by
  obtain ⟨h1, h2, ⟨h3, rfl⟩ | ⟨g, lv, pre, h3, h4⟩⟩ := h
  · exact ⟨none, [], 0, h3, .inl ⟨rfl, rfl, rfl, rfl⟩, h2, by simp, by simp, fun h => absurd rfl h⟩
  · obtain ⟨L, d, hB⟩ := bel_ex ((lv + 1).toNat + 1) g lv pre es (by have := h4.info.2.2.1; omega) h4
    have hs := hB.size
    exact ⟨_, L, d, h3, .inr ⟨g, rfl, hB⟩, h2, by omega, hs.2, fun _ => by omega⟩
set_option maxHeartbeats 4000000 in
set_option maxRecDepth 100000 in
theorem share_add {w0 w : World} {k d b : Nat} {root : Option Addr} {L S : List Nat} {es : List Ent} (h : TBel w0 k root L d es) (hk : k ≤ 16) (hL : L.length ≤ 200000) (hM : MapAt w b S) (hb : Below w0.heap.size w0 w) (hbb : w0.heap.size ≤ b) :
    Calls Try.prog 26 #[.map (some b), .pointer root] w (AddOut w0 w b S L d) := by
  rcases h with ⟨rfl, rfl, rfl, rfl⟩ | ⟨g, rfl, h⟩
  · refine (add_nil w b).mono fun e w' ⟨h1, h2⟩ => ?_
    subst h2
    exact ⟨h1, ⟨S, hM, by simp⟩, hb⟩
  · exact add_ok h hk hL w b S hM hb hbb
/-- A new map of a tree's nodes. -/
def NodesOut (w : World) (L : List Nat) (e : Ending) (w' : World) : Prop := ∃ b S, e = .returned (.map (some b)) ∧ MapAt w' b S ∧ (∀ x, x ∈ S ↔ x ∈ L) ∧ w.heap.size ≤ b ∧ Below w.heap.size w w'
set_option maxHeartbeats 4000000 in
set_option maxRecDepth 100000 in
theorem sh_nodes_of {w : World} {k d : Nat} {t root : Option Addr} {L : List Nat} {es : List Ent} (hR : ∀ W, Below w.heap.size w W → Calls Try.prog 19 #[.pointer t] W fun e w' => e = .returned (.pointer root) ∧ W = w') (h : TBel w k root L d es) (hk : k ≤ 16) (hL : L.length ≤ 200000) :
    Calls Try.prog 25 #[.pointer t] w (NodesOut w L) := by
  have hmm := @run_makeMap Try.prog
  have hb1 := (Below.refl w.heap.size w).alloc (Nat.le_refl _) (.map #[] 0)
  have HR := hide (hR _ hb1)
  have HA := hide (share_add h hk hL (map_new w) hb1 (Nat.le_refl _))
  clear hR h hb1
  go_enter Try.func25, Try.ntmps25
  go_wp2_with fail
  refine HR.out.mono ?_
  rintro e w2 ⟨rfl, rfl⟩
  go_wp2_with fail
  refine HA.out.mono ?_
  rintro e w3 ⟨rfl, ⟨S', hM, hm⟩, hb⟩
  have HF := hide (show NodesOut w L (.returned (.map (some w.heap.size))) w3 from ⟨_, S', rfl, hM, fun x => by rw [hm]; simp, Nat.le_refl _, hb⟩)
  clear hM hm hb
  go_wp2
  go_ret
  exact HF.out
set_option maxHeartbeats 4000000 in
set_option maxRecDepth 100000 in
theorem sh_depth_of {w : World} {k d : Nat} {t root : Option Addr} {L : List Nat} {es : List Ent} (hR : ∀ W, Below w.heap.size w W → Calls Try.prog 19 #[.pointer t] W fun e w' => e = .returned (.pointer root) ∧ W = w') (h : TBel w k root L d es) (hk : k ≤ 16) (hL : L.length ≤ 200000) :
    Calls Try.prog 12 #[.pointer t] w fun e w' => e = .returned (.int .i64 (d : Int)) ∧ Below w.heap.size w w' := by
  have hmm := @run_makeMap Try.prog
  have hb1 := (Below.refl w.heap.size w).alloc (Nat.le_refl _) (.map #[] 0)
  have HR := hide (hR _ hb1)
  have HA := hide (share_add h hk hL (map_new w) hb1 (Nat.le_refl _))
  clear hR h hb1
  go_enter Try.func12, Try.ntmps12
  go_wp2_with fail
  refine HR.out.mono ?_
  rintro e w2 ⟨rfl, rfl⟩
  go_wp2_with fail
  refine HA.out.mono ?_
  rintro e w3 ⟨rfl, -, hb⟩
  have HF := hide hb
  clear hb
  go_wp2
  go_ret
  exact ⟨rfl, HF.out⟩
theorem perm_len {S L : List Nat} (hS : S.Nodup) (hL : L.Nodup) (h : ∀ x, x ∈ S ↔ x ∈ L) : S.length = L.length := ((List.perm_ext_iff_of_nodup hS hL).2 h).length_eq
theorem MapAt.nodup {w : World} {b : Nat} {S : List Nat} (h : MapAt w b S) : S.Nodup := by
  obtain ⟨es, clock, -, hE⟩ := h
  exact hE.nodup
set_option maxHeartbeats 4000000 in
set_option maxRecDepth 100000 in
theorem sh_Nodes_of {w : World} {k d : Nat} {t root : Option Addr} {L : List Nat} {es : List Ent} (hR : ∀ W, Below w.heap.size w W → Calls Try.prog 19 #[.pointer t] W fun e w' => e = .returned (.pointer root) ∧ W = w') (h : TBel w k root L d es) (hk : k ≤ 16) (hL : L.length ≤ 200000) (hN : L.Nodup) :
    Calls Try.prog 11 #[.pointer t] w fun e w' => e = .returned (.int .i64 ((L.length : Nat) : Int)) ∧ Below w.heap.size w w' := by
  have HN := hide (sh_nodes_of hR h hk hL)
  clear hR h
  go_enter Try.func11, Try.ntmps11
  go_wp2_with fail
  refine HN.out.mono ?_
  rintro e w3 ⟨b, S, rfl, hM, hm, -, hb⟩
  have hl := perm_len hM.nodup hN hm
  have hln := map_len hM
  rw [hl] at hln
  have HF := hide hb
  clear hb hl hm hM
  go_wp2
  go_ret
  exact ⟨rfl, HF.out⟩
theorem TBel.nodup {w : World} {k d : Nat} {root : Option Addr} {L : List Nat} {es : List Ent} (h : TBel w k root L d es) : L.Nodup := by
  rcases h with ⟨-, rfl, -, -⟩ | ⟨g, -, h⟩
  · simp
  · exact h.nodup
theorem TBel.blk {w : World} {k d : Nat} {root : Option Addr} {L : List Nat} {es : List Ent} (h : TBel w k root L d es) : ∀ x ∈ L, ∃ cs, Blk w x 103 cs := by
  rcases h with ⟨-, rfl, -, -⟩ | ⟨g, -, h⟩
  · intro x hx; cases hx
  · intro x hx
    obtain ⟨lv, pre, hN⟩ := h.nodeOf
    obtain ⟨lv', pre', es', h1, -⟩ := h.sub hN x hx
    cases h1 with
    | leaf _ _ _ hB => exact ⟨_, hB⟩
    | fork _ _ _ _ _ _ _ _ _ _ _ hB => exact ⟨_, hB⟩
/-- How many of the second list are in the first. -/
def comN (A B : List Nat) : Nat := (B.filter (fun x => decide (x ∈ A))).length
theorem comN_perm {A A' B B' : List Nat} (h : ∀ x, x ∈ A ↔ x ∈ A') (hB : B.Perm B') : comN A B = comN A' B' := by
  unfold comN
  have h1 : B.filter (fun x => decide (x ∈ A)) = B.filter (fun x => decide (x ∈ A')) := List.filter_congr fun x _ => by simp [h x]
  rw [h1]
  exact (hB.filter _).length_eq
theorem comN_le (A B : List Nat) : comN A B ≤ B.length := List.length_filter_le ..
set_option maxHeartbeats 4000000 in
set_option maxRecDepth 100000 in
theorem sh_shared {w : World} {k k' d d' a b : Nat} {ra rb : Option Addr} {LA LB : List Nat} {ea eb : List Ent} (hA : TreeBlk w a k ra) (hB : TreeBlk w b k' rb) (h : TBel w k ra LA d ea) (h' : TBel w k' rb LB d' eb) (hk : k ≤ 16) (hk' : k' ≤ 16) (hL : LA.length ≤ 200000) (hL' : LB.length ≤ 200000) :
    Calls Try.prog 8 #[.pointer (some ⟨a, 0, none⟩), .pointer (some ⟨b, 0, none⟩)] w fun e w' => e = .returned (.tuple #[.int .i64 ((comN LA LB : Nat) : Int), .int .i64 0]) ∧ Below w.heap.size w w' := by
  have HA := hide (sh_nodes_of (fun W hW => tr_root (hA.below hW)) h hk hL)
  have HB := hide (fun W (hW : Below w.heap.size w W) => sh_nodes_of (w := W) (fun X hX => tr_root (hB.below (below_then hW hX))) (h'.stay hW) hk' hL')
  have HD := hide (And.intro h.nodup (And.intro h'.nodup (And.intro (fun x hx => h.blk x hx) (fun x hx => h'.blk x hx))))
  have HLL := hide (And.intro hL hL')
  clear hA hB h h'
  go_enter Try.func8, Try.ntmps8
  go_wp2_with fail
  refine HA.out.mono ?_
  rintro e w1 ⟨ba, SA, rfl, hMA, hma, hla, hb1⟩
  have HB1 := hide (HB.out w1 hb1)
  have HMA := hide hMA
  have HQ1 := hide hb1
  clear hMA hb1 HA
  go_wp2_with fail
  refine HB1.out.mono ?_
  rintro e w2 ⟨bb, SB, rfl, hMB, hmb, hlb, hb2⟩
  obtain ⟨ob, hr, hI⟩ := map_go hMB
  have hal := fun (o : Obj) => (Below.refl w2.heap.size w2).alloc (Nat.le_refl _) o
  have hMA2 := HMA.out.below hb2
  have hne : ba ≠ bb := by have := HMA.out.lt; omega
  have hltA := hMA2.lt
  have hltB := hMB.lt
  have hbt := below_then HQ1.out hb2
  have HI := hide hI
  have HM3 := hide (hMA2.below (hal ob))
  have HQ3 := hide (below_then hbt (hal ob))
  have HS := hide (And.intro hma (And.intro hmb hMB.nodup))
  have HLO := hide (And.intro hla (And.intro (show w.heap.size ≤ w2.heap.size from hbt.size) (And.intro hltA (And.intro hltB hne))))
  clear hI hal hMA2 hbt hMB hb2 HB1 HB hma hmb hla hlb hltA hltB hne
  go_wp2
  go_loopw [6] (fun x6 wr => ∃ (n : Nat) (left : List Nat), x6 = .int .i64 (n : Int) ∧ n + comN LA left = comN LA SB ∧ IterAt wr w2.heap.size bb SB left ∧ MapAt wr ba SA ∧ Below w.heap.size w wr) (fun _ wr => wr.rangeLeft bb w2.heap.size)
  case atStart => exact ⟨0, SB, rfl, by omega, HI.out, HM3.out, HQ3.out⟩
  case round =>
    obtain ⟨n, left, rfl, hn, hI, hMA, hb⟩ := hrel
    rename World => wz
    have HIz := hide hI
    have HMz := hide hMA
    have HBz := hide hb
    have HN := hide hn
    have hnb : n ≤ 400000 := by
      have h1 := comN_le LA SB
      have h2 : SB.length = LB.length := perm_len HS.out.2.2 HD.out.2.1 HS.out.2.1
      have h3 := HLL.out.2
      omega
    clear hI hMA hb hn HI HM3 HQ3
    go_wp2_with (first
      | (at_next; refine iter_next rfl (.tmp 19) rfl bb SB rfl HIz.out ?_ ?_)
      | go_in)
    · intro hl0
      have HF := hide (show n = comN LA LB from by
        have h1 := HN.out
        rw [hl0] at h1
        have h2 : comN LA SB = comN LA LB := comN_perm (fun x => Iff.rfl) ((List.perm_ext_iff_of_nodup HS.out.2.2 HD.out.2.1).2 HS.out.2.1)
        rw [← h2, ← h1]
        simp [comN])
      clear hl0
      go_wp2
      go_ret2
      exact ⟨by rw [HF.out]; rfl, HBz.out⟩
    · intro g left' w4 hp hgS hI4 hen hx4
      have hMA4 := HMz.out.exO hx4 (by have := HLO.out.2.2.1; omega) HIz.out.iter
      have hb4 := HBz.out.trans (hx4.to_below HLO.out.2.1 HBz.out.size)
      obtain ⟨cx, hcx⟩ : ∃ cs, Blk w4 g 103 cs := by
        obtain ⟨es, clock, -, hE⟩ := hI4.map
        exact hE.node g hgS
      have hlk := map_lookup hMA4 hcx
      have HR := hide (And.intro hI4 (And.intro hMA4 hb4))
      have HNE := hide (show comN LA left = comN LA (g :: left') from comN_perm (fun x => Iff.rfl) hp)
      have hlen := hp.length_eq
      have HLE := hide hlen
      have hga : g ∈ SA ↔ g ∈ LA := HS.out.1 g
      have HGA := hide hga
      clear hp hI4 hMA4 hb4 hcx hlen hga hx4 hgS
      by_cases hg : g ∈ SA
      · rw [decide_eq_true hg] at hlk
        have HG := hide hg
        have i1 : IntKind.i64.wrap ((n : Int) + 1) = (n : Int) + 1 := by rw [IntKind.wrap_i64]; omega
        clear hg
        go_wp2
        go_roundw
        case rel =>
          refine ⟨n + 1, left', by go_num, ?_, HR.out.1, HR.out.2.1, HR.out.2.2⟩
          have h1 := HN.out
          rw [HNE.out] at h1
          have h2 : comN LA (g :: left') = comN LA left' + 1 := by
            unfold comN
            rw [List.filter_cons_of_pos (by simpa using HGA.out.1 HG.out), List.length_cons]
          omega
        case measure =>
          rw [HR.out.1.left_eq, HIz.out.left_eq, HLE.out, List.length_cons]
          omega
      · rw [decide_eq_false hg] at hlk
        have HG := hide hg
        clear hg
        go_wp2
        go_roundw
        case rel =>
          refine ⟨n, left', rfl, ?_, HR.out.1, HR.out.2.1, HR.out.2.2⟩
          have h1 := HN.out
          rw [HNE.out] at h1
          have h2 : comN LA (g :: left') = comN LA left' := by
            unfold comN
            rw [List.filter_cons_of_neg (by simpa using fun h => HG.out (HGA.out.2 h))]
          omega
        case measure =>
          rw [HR.out.1.left_eq, HIz.out.left_eq, HLE.out, List.length_cons]
          omega
end Go.Proofs.Ytfoapkcgdkfggaa
set_option linter.unusedSimpArgs false
set_option linter.unusedVariables false
namespace Go.Proofs.Ytfoapkcgdkfggaa
open Go.RowKit
section
set_option maxHeartbeats 4000000
set_option maxRecDepth 100000
theorem sh_fresh {w : World} {k k' d d' a b : Nat} {ra rb : Option Addr} {LA LB : List Nat} {ea eb : List Ent} (hA : TreeBlk w a k ra) (hB : TreeBlk w b k' rb) (h : TBel w k ra LA d ea) (h' : TBel w k' rb LB d' eb) (hk : k ≤ 16) (hk' : k' ≤ 16) (hL : LA.length ≤ 200000) (hL' : LB.length ≤ 200000) :
    Calls Try.prog 9 #[.pointer (some ⟨a, 0, none⟩), .pointer (some ⟨b, 0, none⟩)] w fun e w' => e = .returned (.tuple #[.int .i64 (((LB.length - comN LA LB : Nat) : Nat) : Int), .int .i64 0]) ∧ Below w.heap.size w w' := by
  have HS := hide (sh_shared hA hB h h' hk hk' hL hL')
  have HN := hide (fun W (hW : Below w.heap.size w W) => sh_Nodes_of (w := W) (fun X hX => tr_root (hB.below (below_then hW hX))) (h'.stay hW) hk' hL' h'.nodup)
  have hc := comN_le LA LB
  have i1 : IntKind.i64.wrap (((LB.length : Nat) : Int) - ((comN LA LB : Nat) : Int)) = ((LB.length - comN LA LB : Nat) : Int) := by
    rw [IntKind.wrap_i64]
    omega
  clear hA hB h h' hc
  generalize comN LA LB = cc at *
  generalize LB.length = lb at *
  go_enter Try.func9, Try.ntmps9
  go_wp2_with fail
  refine HS.out.mono ?_
  rintro e w1 ⟨rfl, hb1⟩
  have HN1 := hide (HN.out w1 hb1)
  have HB1 := hide hb1
  clear hb1 HS
  go_wp2_with fail
  refine HN1.out.mono ?_
  rintro e w2 ⟨rfl, hb2⟩
  have HF := hide (below_then HB1.out hb2)
  clear hb2
  go_wp2
  go_ret2
  exact ⟨rfl, HF.out⟩
end
/-- A tree, or none, as one of a list. -/
structure TI where
  t : Option Addr
  k : Nat
  root : Option Addr
  L : List Nat
  d : Nat
  es : List Ent
def TI.ok (w : World) (i : TI) : Prop := (∀ W, Below w.heap.size w W → Calls Try.prog 19 #[.pointer i.t] W fun e w' => e = .returned (.pointer i.root) ∧ W = w') ∧ TBel w i.k i.root i.L i.d i.es ∧ i.k ≤ 16 ∧ i.L.length ≤ 200000
theorem TI.ok.below {w w' : World} {i : TI} (h : i.ok w) (hb : Below w.heap.size w w') : i.ok w' := ⟨fun W hW => h.1 W (below_then hb hW), h.2.1.stay hb, h.2.2⟩
def TI.of (t k : Nat) (root : Option Addr) (L : List Nat) (d : Nat) (es : List Ent) : TI := ⟨some ⟨t, 0, none⟩, k, root, L, d, es⟩
theorem TI.of_ok {w : World} {t k d : Nat} {root : Option Addr} {L : List Nat} {es : List Ent} (h : TreeBlk w t k root) (hT : TBel w k root L d es) (hk : k ≤ 16) (hL : L.length ≤ 200000) : (TI.of t k root L d es).ok w := ⟨fun W hW => tr_root (h.below hW), hT, hk, hL⟩
theorem TI.none_ok (w : World) : TI.ok w ⟨none, 0, none, [], 0, []⟩ := ⟨fun W hW => tr_root_nil W, .inl ⟨rfl, rfl, rfl, rfl⟩, Nat.zero_le _, Nat.zero_le _⟩
def sumL (I : List TI) : Nat := (I.map (fun i => i.L.length)).sum
theorem sumL_take {I : List TI} {j : Nat} {i : TI} (h : I[j]? = some i) : sumL (I.take (j + 1)) = sumL (I.take j) + i.L.length := by
  unfold sumL
  rw [List.take_add_one, h]
  simp
theorem sumL_le {I : List TI} (j : Nat) : sumL (I.take j) ≤ sumL I := by
  conv => rhs; rw [← List.take_append_drop j I]
  unfold sumL
  rw [List.map_append, List.sum_append]
  omega
set_option maxHeartbeats 4000000 in
set_option maxRecDepth 100000 in
theorem sh_all {w : World} {A : Option Addr} {c : Nat} (I : List TI) (hR : Rw w 1 A I.length (I.map (fun i => .pointer i.t))) (hI : ∀ i ∈ I, i.ok w) (hs : sumL I ≤ 1000000) (hn : I.length ≤ 1000) :
    Calls Try.prog 10 #[.slice A I.length c] w fun e w' => (∃ U : List Nat, e = .returned (.tuple #[.int .i64 ((U.length : Nat) : Int), .int .i64 ((sumL I : Nat) : Int)]) ∧ U.Nodup ∧ ∀ x, x ∈ U ↔ ∃ i ∈ I, x ∈ i.L) ∧ Below w.heap.size w w' := by
  have hmm := @run_makeMap Try.prog
  have hb1 := (Below.refl w.heap.size w).alloc (Nat.le_refl _) (.map #[] 0)
  have HM := hide (map_new w)
  have HB1 := hide hb1
  have HR := hide hR
  have HI := hide hI
  have HSL := hide hs
  obtain ⟨n, hnl⟩ : ∃ n, I.length = n := ⟨_, rfl⟩
  rw [hnl] at hn HR ⊢
  have HNL := hide hnl
  clear hR hI hb1 hnl hs
  go_enter Try.func10, Try.ntmps10
  go_wp2
  go_loopw [5, 13] (fun x5 x13 wr => ∃ (j s : Nat) (S : List Nat), x5 = .int .i64 (s : Int) ∧ x13 = .int .i64 (j : Int) ∧ j ≤ n ∧ s = sumL (I.take j) ∧ MapAt wr w.heap.size S ∧ (∀ x, x ∈ S ↔ ∃ i ∈ I.take j, x ∈ i.L) ∧ Below w.heap.size w wr) (fun _ x _ => n - (intOf x).toNat)
  case atStart => exact ⟨0, 0, [], rfl, rfl, Nat.zero_le _, rfl, HM.out, by simp, HB1.out⟩
  case round =>
    obtain ⟨j, s, S, rfl, rfl, hj, hss, hM, hmem, hb⟩ := hrel
    rename World => wz
    have HMz := hide hM
    have HBz := hide hb
    have HMEM := hide hmem
    have HSS := hide hss
    have hs6 : s ≤ 1000000 := by
      have h1 := sumL_le (I := I) j
      have h2 := HSL.out
      omega
    have hln := map_len hM
    clear hM hb hmem hss HM HB1
    by_cases hjn : j < n
    · obtain ⟨it, hit⟩ : ∃ it, I[j]? = some it := ⟨I[j]'(by have := HNL.out; omega), List.getElem?_eq_getElem _⟩
      obtain ⟨ab, ao, rfl, hbl, hcc⟩ := (HR.out.below HBz.out).2 (by omega)
      have hcell := hcc j _ (by rw [List.getElem?_map, hit]; rfl)
      have hok := (HI.out it (List.mem_of_getElem? hit))
      have HRT := hide (hok.1 wz HBz.out)
      have HAD := hide (share_add hok.2.1 hok.2.2.1 hok.2.2.2 HMz.out HBz.out (Nat.le_refl _))
      have hil := hok.2.2.2
      obtain ⟨il, hill⟩ : ∃ il, it.L.length = il := ⟨_, rfl⟩
      unfold AddOut at HAD
      rw [hill] at hil HAD
      have i1 : IntKind.i64.wrap ((s : Int) + (il : Int)) = ((s + il : Nat) : Int) := by rw [IntKind.wrap_i64]; omega
      have i0 : (0 : Int) ≤ (j : Int) := by omega
      have i2 : (j : Int) < (n : Int) := by omega
      have HIT := hide (And.intro hit hill)
      clear hcc hok hit hill hln
      go_wp2_with fail
      refine HRT.out.mono ?_
      rintro e w3 ⟨rfl, rfl⟩
      go_wp2_with fail
      refine HAD.out.mono ?_
      rintro e w4 ⟨rfl, ⟨S4, hM4, hm4⟩, hb4⟩
      have H4 := hide (And.intro hM4 (And.intro hm4 hb4))
      clear hM4 hm4 hb4 HAD HRT
      go_wp2
      go_roundw
      case rel =>
        refine ⟨j + 1, s + il, S4, rfl, by go_num, by omega, ?_, H4.out.1, fun x => ?_, H4.out.2.2⟩
        · rw [sumL_take HIT.out.1, HIT.out.2, ← HSS.out]
        · rw [H4.out.2.1, HMEM.out, List.take_add_one, HIT.out.1]
          simp only [Option.toList_some, List.mem_append, List.mem_singleton]
          constructor
          · rintro (⟨i, h1, h2⟩ | h)
            · exact ⟨i, .inl h1, h2⟩
            · exact ⟨_, .inr rfl, h⟩
          · rintro ⟨i, h1 | rfl, h2⟩
            · exact .inl ⟨i, h1, h2⟩
            · exact .inr h2
      case measure => simp [intOf]; omega
    · obtain rfl : j = n := by omega
      have e1 : decide ((j : Int) < (j : Int)) = false := by simp
      have HF := hide (show (∃ U : List Nat, Ending.returned (.tuple #[.int .i64 ((S.length : Nat) : Int), .int .i64 (s : Int)]) = .returned (.tuple #[.int .i64 ((U.length : Nat) : Int), .int .i64 ((sumL I : Nat) : Int)]) ∧ U.Nodup ∧ ∀ x, x ∈ U ↔ ∃ i ∈ I, x ∈ i.L) ∧ Below w.heap.size w wz from by
        have ht : I.take j = I := List.take_of_length_le (by rw [HNL.out]; omega)
        have h1 := HSS.out
        have h2 := HMEM.out
        rw [ht] at h1 h2
        exact ⟨⟨S, by rw [h1], HMz.out.nodup, h2⟩, HBz.out⟩)
      go_wp2
      go_ret2
      exact HF.out
end Go.Proofs.Ytfoapkcgdkfggaa
set_option linter.unusedSimpArgs false
set_option linter.unusedVariables false
namespace Go.Proofs.Ytfoapkcgdkfggaa
section
open Go.RowKit
/-- A slice of entries. -/
structure EV where
  A : Option Addr
  n : Nat
  c : Nat
def EV.val (s : EV) : Value := .slice s.A s.n s.c
def EV.ok (w : World) (k : Nat) (s : EV) (es : List Ent) : Prop := ∃ rows, EntsAt w s.A s.n rows ∧ s.n ≤ s.c ∧ s.n ≤ 30000 ∧ (∀ r ∈ rows, r.n = k) ∧ ents rows = es
theorem EV.ok.below {w w' : World} {k : Nat} {s : EV} {es : List Ent} (h : s.ok w k es) (hb : Below w.heap.size w w') : s.ok w' k es := by
  obtain ⟨rows, h1, h2, h3, h4, h5⟩ := h
  exact ⟨rows, h1.below hb, h2, h3, h4, h5⟩
def tailEs (p : List Nat) : Option (Nat × NT) → List (List Ent)
  | none => []
  | some x => if part x.2.pre p ≤ x.2.lv then [x.2.es] else []
def pathEs (p : List Nat) (fs : List PF) (bot : Option (Nat × NT)) : List (List Ent) := fs.map (fun f => kidEs f.ks) ++ tailEs p bot
theorem Way.drop_ {p : List Nat} {fs : List PF} {i : Nat} {cur bot : Option (Nat × NT)} {f : PF} (h : Way p (fs.drop i) cur bot) (hf : fs[i]? = some f) : cur = some (f.g, f.nt) ∧ part f.pre p ≤ (f.lv : Int) ∧ Way p (fs.drop (i + 1)) (kidAt f.ks (addrOf p f.lv)) bot := by
  have hl := (List.getElem?_eq_some_iff.1 hf).1
  have hv := (List.getElem?_eq_some_iff.1 hf).2
  rw [List.drop_eq_getElem_cons hl, hv] at h
  exact h
end
section
open Go.RowKit
section
variable {w : World} {k : Nat} {p : List Nat} {fs : List PF} {top bot below : Option (Nat × NT)} {gs : List Nat}
theorem PathEnd.len (h : PathEnd w k p fs bot gs below) (hp : Zp k p) : gs.length = (pathEs p fs bot).length ∧ fs.length ≤ gs.length ∧ gs.length ≤ fs.length + 1 := by
  unfold pathEs
  cases h with
  | none => simp [tailEs]
  | leaf g v hn => simp [tailEs, part_self hp]
  | miss x hn hm => simp [tailEs, show ¬ part x.2.pre p ≤ x.2.lv by omega]
theorem PathEnd.node (h : PathEnd w k p fs bot gs below) (hF : ∀ f ∈ fs, Fork w k f.g f.lv f.pre f.ks) (hp : Zp k p) {i g : Nat} {es : List Ent} (hg : gs[i]? = some g) (he : (pathEs p fs bot)[i]? = some es) : ∃ lv pre, NodeOf w k g lv pre es := by
  have key : ∀ (i g : Nat) (es : List Ent), (fs.map (·.g))[i]? = some g → (fs.map fun f => kidEs f.ks)[i]? = some es → ∃ lv pre, NodeOf w k g lv pre es := by
    intro i g es h1 h2
    rw [List.getElem?_map] at h1 h2
    obtain ⟨f, hf, rfl⟩ := Option.map_eq_some_iff.1 h1
    rw [hf] at h2
    injection h2 with h2
    rw [← h2]
    exact ⟨_, _, (hF f (List.mem_of_getElem? hf)).node⟩
  unfold pathEs at he
  cases h with
  | none =>
    rw [show tailEs p Option.none = [] from rfl, List.append_nil] at he
    exact key i g es hg he
  | leaf g' v hn =>
    rw [show tailEs p (some (g', ⟨-1, p, [(p, v)]⟩)) = [[(p, v)]] from if_pos (by rw [part_self hp]; exact Int.le_refl _)] at he
    rcases Nat.lt_or_ge i fs.length with hi | hi
    · rw [List.getElem?_append_left (by simpa using hi)] at hg he
      exact key i g es hg he
    · rw [List.getElem?_append_right (by simpa using hi)] at hg he
      have h1 := (List.getElem?_eq_some_iff.1 hg).1
      simp at h1
      rw [show i - (fs.map (·.g)).length = 0 by simp; omega] at hg
      rw [show i - (fs.map fun f => kidEs f.ks).length = 0 by simp; omega] at he
      simp at hg he
      rw [← hg, ← he]
      exact ⟨_, _, hn⟩
  | miss x hn hm =>
    rw [show tailEs p (some x) = [] from if_neg (by omega), List.append_nil] at he
    exact key i g es hg he
/-- The first one is the root. -/
theorem PathEnd.first (h : PathEnd w k p fs bot gs below) (hW : Way p fs top bot) {g : Nat} (hg : gs[0]? = some g) : ∃ nt, top = some (g, nt) := by
  cases fs with
  | nil =>
    have hb : top = bot := hW
    subst hb
    cases h with
    | none => simp at hg
    | leaf g' v hn => simp at hg; subst hg; exact ⟨_, rfl⟩
    | miss x hn hm => simp at hg
  | cons f fs =>
    have ht := hW.1
    have : g = f.g := by
      cases h with
      | none => simp at hg; exact hg.symm
      | leaf g' v hn => simp at hg; exact hg.symm
      | miss x hn hm => simp at hg; exact hg.symm
    rw [this]
    exact ⟨_, ht⟩
theorem Way.at_drop : ∀ {fs : List PF} {top : Option (Nat × NT)} (i : Nat), Way p fs top bot → i < fs.length → ∃ cur, Way p (fs.drop i) cur bot
  | fs, top, 0, h, _ => ⟨top, by simpa using h⟩
  | [], top, i + 1, h, hi => by simp at hi
  | f :: fs, top, i + 1, h, hi => by
    obtain ⟨cur, hc⟩ := Way.at_drop i h.2.2 (by
      rcases Nat.lt_or_ge i fs.length with h1 | h1
      · exact h1
      · simp at hi; omega)
    exact ⟨cur, by simpa using hc⟩
/-- Each later one is the kid of the one ahead of it. -/
theorem PathEnd.kid (h : PathEnd w k p fs bot gs below) (hW : Way p fs top bot) {i g : Nat} (hg : gs[i + 1]? = some g) : ∃ f, fs[i]? = some f ∧ gs[i]? = some f.g ∧ ∃ nt, kidAt f.ks (addrOf p f.lv) = some (g, nt) := by
  have hlen : gs.length ≤ fs.length + 1 := by cases h <;> simp
  have hgl := (List.getElem?_eq_some_iff.1 hg).1
  have hif : i < fs.length := by omega
  obtain ⟨f, hf⟩ : ∃ f, fs[i]? = some f := ⟨fs[i], List.getElem?_eq_getElem hif⟩
  obtain ⟨cur, hc⟩ := hW.at_drop i hif
  obtain ⟨-, -, hn⟩ := hc.drop_ hf
  refine ⟨f, hf, ?_, ?_⟩
  · cases h with
    | none => rw [List.getElem?_map, hf]; rfl
    | leaf g' v hn => rw [List.getElem?_append_left (by simpa using hif), List.getElem?_map, hf]; rfl
    | miss x hn hm => rw [List.getElem?_map, hf]; rfl
  · rcases Nat.lt_or_ge (i + 1) fs.length with hi1 | hi1
    · obtain ⟨f', hf'⟩ : ∃ f', fs[i + 1]? = some f' := ⟨fs[i + 1], List.getElem?_eq_getElem hi1⟩
      obtain ⟨h1, -, -⟩ := hn.drop_ hf'
      have : g = f'.g := by
        cases h with
        | none => rw [List.getElem?_map, hf'] at hg; injection hg with hg; exact hg.symm
        | leaf g' v hn => rw [List.getElem?_append_left (by simpa using hi1), List.getElem?_map, hf'] at hg; injection hg with hg; exact hg.symm
        | miss x hn hm => rw [List.getElem?_map, hf'] at hg; injection hg with hg; exact hg.symm
      rw [this]
      exact ⟨_, h1⟩
    · rw [List.drop_of_length_le hi1] at hn
      have hn' : kidAt f.ks (addrOf p f.lv) = bot := hn
      rw [hn']
      cases h with
      | none => rw [List.getElem?_eq_none (by simpa using hi1)] at hg; cases hg
      | leaf g' v hn =>
        rw [List.getElem?_append_right (by simpa using hi1)] at hg
        rw [show i + 1 - (fs.map (·.g)).length = 0 by simp; omega] at hg
        simp at hg
        rw [← hg]
        exact ⟨_, rfl⟩
      | miss x hn hm => rw [List.getElem?_eq_none (by simpa using hi1)] at hg; cases hg
end
end
end Go.Proofs.Ytfoapkcgdkfggaa
set_option linter.unusedSimpArgs false
set_option linter.unusedVariables false
namespace Go.Proofs.Ytfoapkcgdkfggaa
section
open Go.RowKit
theorem PathEnd.cons {w : World} {k : Nat} {p : List Nat} {fs : List PF} {bot below : Option (Nat × NT)} {gs : List Nat} (h : PathEnd w k p fs bot gs below) (f : PF) : PathEnd w k p (f :: fs) bot (f.g :: gs) below := by
  cases h with
  | none => exact .none
  | leaf g v hn => exact .leaf g v hn
  | miss x hn hm => exact .miss x hn hm
/-- Each tree has a point's path. -/
theorem way_node {w : World} {k g : Nat} {lv : Int} {pre : List Nat} {es : List Ent} {p : List Nat} (h : NodeOf w k g lv pre es) (hp : Zp k p) :
    ∃ (fs : List PF) (bot : Option (Nat × NT)) (gs : List Nat) (below : Option (Nat × NT)), Way p fs (some (g, ⟨lv, pre, es⟩)) bot ∧ (∀ f ∈ fs, Fork w k f.g f.lv f.pre f.ks) ∧ PathEnd w k p fs bot gs below := by
  induction h with
  | @leaf g A c q v hv hq hc hB =>
    have hN : NodeOf w k g (-1) q [(q, v)] := .leaf hv hq hc hB
    by_cases hpq : part q p ≤ (-1 : Int)
    · obtain rfl : q = p := part_neg hq.zp hp (by omega)
      exact ⟨[], _, _, _, rfl, fun f hf => (by cases hf), .leaf g v hN⟩
    · exact ⟨[], _, _, _, rfl, fun f hf => (by cases hf), .miss (g, ⟨-1, q, [(q, v)]⟩) hN (by show (-1 : Int) < part q p; omega)⟩
  | @fork g A c lv pre gs ks hlv hq hc hz hkid hl ha hs h2 hS hB ih =>
    have hF : Fork w k g lv pre ks := ⟨A, c, gs, hlv, hq, hc, hz, hkid, hl, ha, hs, h2, hS, hB⟩
    by_cases hpq : part pre p ≤ (lv : Int)
    · cases hk : kidAt ks (addrOf p lv) with
      | none =>
        refine ⟨[⟨g, lv, pre, ks⟩], none, _, _, ⟨rfl, hpq, hk⟩, fun f hf => ?_, .none⟩
        rw [List.mem_singleton] at hf
        subst hf
        exact hF
      | some x =>
        obtain ⟨q, hq', hqa, rfl⟩ := kidAt_some hk
        obtain ⟨fs, bot, gs', below, h3, h4, h5⟩ := ih q hq'
        refine ⟨⟨g, lv, pre, ks⟩ :: fs, bot, _, below, ⟨rfl, hpq, by rw [hk]; exact h3⟩, fun f hf => ?_, h5.cons ⟨g, lv, pre, ks⟩⟩
        rcases List.mem_cons.1 hf with rfl | hf
        · exact hF
        · exact h4 f hf
    · exact ⟨[], _, _, _, rfl, fun f hf => (by cases hf), .miss (g, ⟨(lv : Int), pre, kidEs ks⟩) hF.node (by show (lv : Int) < part pre p; omega)⟩
theorem way_any {w : World} {k : Nat} {top : Option (Nat × NT)} {p : List Nat} (h : TopOk w k top) (hp : Zp k p) :
    ∃ (fs : List PF) (bot : Option (Nat × NT)) (gs : List Nat) (below : Option (Nat × NT)), Way p fs top bot ∧ (∀ f ∈ fs, Fork w k f.g f.lv f.pre f.ks) ∧ fs.length ≤ 64 ∧ PathEnd w k p fs bot gs below := by
  cases top with
  | none => exact ⟨[], none, _, _, rfl, fun f hf => (by cases hf), by simp, .none⟩
  | some x =>
    obtain ⟨fs, bot, gs, below, h1, h2, h3⟩ := way_node (h x rfl) hp
    have h1' : Way p fs (some x) bot := h1
    refine ⟨fs, bot, gs, below, h1', h2, ?_, h3⟩
    have hi := (h x rfl).info
    have := Way.len (fun f hf => (h2 f hf).fk) hi.2.2.1 h1'
    have := hi.2.2.2.1
    omega
theorem take_ptrs {fs : List PF} {i : Nat} {f : PF} (hf : fs[i]? = some f) : ptrs ((fs.take (i + 1)).map (·.g)) = ptrs ((fs.take i).map (·.g)) ++ [.pointer (some ⟨f.g, 0, none⟩)] := by
  rw [List.take_add_one, hf]
  simp [ptrs]
set_option maxHeartbeats 4000000 in
set_option maxRecDepth 100000 in
/-- path goes the given way. -/
theorem tr_path_on {w : World} {t k : Nat} {fs : List PF} {top bot below : Option (Nat × NT)} {gs : List Nat} (hT : TreeBlk w t k (top.map fun y => ⟨y.1, 0, none⟩)) (hk1 : 1 ≤ k) (hk : k ≤ 16) {A : Option Addr} {c : Nat} {p : List Nat} (hp : Pt w A k p) (hW : Way p fs top bot) (hF : ∀ f ∈ fs, Fork w k f.g f.lv f.pre f.ks) (hl : fs.length ≤ 64) (hend : PathEnd w k p fs bot gs below) :
    Calls Try.prog 33 #[.pointer (some ⟨t, 0, none⟩), .slice A k c] w fun e w' => ∃ (B : Option Addr) (d : Nat), e = .returned (.tuple #[.slice B gs.length d, ptrOf below]) ∧ w'.ownsRow w.heap.size 51 1 (.slice B gs.length d) gs.length (ptrs gs) ∧ Below w.heap.size w w' := by
  have c1 := Blk.cell hT 1
  simp at c1
  have HP := hide hp
  have HW := hide hW
  have HF := hide hF
  have HEND := hide hend
  clear hT hp hW hF hend
  go_enter Try.func33, Try.ntmps33
  go_wp2
  refine wp_scope_goto2 0 (fun a' wr => ∃ (i : Nat) (cur : Option (Nat × NT)) (B : Option Addr) (d : Nat) (u2 u3 u8 u9 u10 u11 u12 u13 u14 u15 u16 u17 u18 u19 u20 u21 u22 u23 u24 u25 u26 u27 u28 : Value), a' = { tmps := #[.pointer (some ⟨t, 0, none⟩), .slice A k c, u2, u3, .slice none 0 0, .pointer none, .slice B i d, ptrOf cur, u8, u9, u10, u11, u12, u13, u14, u15, u16, u17, u18, u19, u20, u21, u22, u23, u24, u25, u26, u27, u28], defers := [] } ∧ i ≤ fs.length ∧ Way p (fs.drop i) cur bot ∧ wr.ownsRow w.heap.size 51 1 (.slice B i d) i (ptrs ((fs.take i).map (·.g))) ∧ Below w.heap.size w wr) (fun a' _ => 65 - sliceLen (a'.tmps.getD 6 undef)) (by rfl) (by rfl) (by rfl) ?_ ?_
  · go_wp2
    exact ⟨0, top, none, 0, _, _, _, _, _, _, _, _, _, _, _, _, _, _, _, _, _, _, _, _, _, _, _, rfl, Nat.zero_le _, HW.out, World.ownsRow_nil _ _ _ _, Below.refl _ _⟩
  · rintro a' wr ⟨i, cur, B, d, u2, u3, u8, u9, u10, u11, u12, u13, u14, u15, u16, u17, u18, u19, u20, u21, u22, u23, u24, u25, u26, u27, u28, rfl, hi, hWy, hO, hb⟩
    have HO := hide hO
    have HB := hide hb
    have hi64 : i ≤ 64 := by omega
    rcases Nat.lt_or_ge i fs.length with hif | hif
    · obtain ⟨f, hf⟩ : ∃ f, fs[i]? = some f := ⟨fs[i], List.getElem?_eq_getElem hif⟩
      obtain ⟨rfl, hcv, hWn⟩ := hWy.drop_ hf
      have hFk := HF.out f (List.mem_of_getElem? hf)
      have HC := hide (nd_covers (d := c) (hFk.node.stay hb) hk1 hk (HP.out.below hb))
      rw [show decide (part f.pre p ≤ (f.lv : Int)) = true by simpa using hcv] at HC
      have HFK := hide hFk
      have HWN := hide hWn
      have HFI := hide hf
      unfold ptrOf
      simp only [Option.map_some]
      clear hWy hO hb hcv hWn hFk hf
      go_wp2_with fail
      refine HC.out.mono ?_
      rintro e w1 ⟨rfl, rfl⟩
      have hb4 := below_alloc HB.out (Nat.le_refl _) (.cells #[.pointer (some ⟨f.g, 0, none⟩)] 51)
      go_wp2_with (first
        | (at_builtin
           refine app_b _ rfl (.tmp 18) (.tmp 20) _ rfl w.heap.size 51 _ 1 8 Try.underlying44 info_n rfl (by omega) _ i _ rfl (HO.out.alloc _) (some ⟨wr.heap.size, 0, none⟩) 1 1 [.pointer (some ⟨f.g, 0, none⟩)] rfl w hb4 (Nat.le_refl _) (Rw.new1 wr 51 #[.pointer (some ⟨f.g, 0, none⟩)] rfl) ?h2 (by unfold maxLen; omega) (by omega) ?_
           case h2 =>
             intro u hu
             rw [List.mem_singleton] at hu
             rw [hu]
             rfl
           intro v5 w5 ho5 hb5 _
           have HO5 := hide ho5
           have HB5 := hide hb5
           obtain ⟨B5, d5, rfl, -, hR5⟩ := Rw.of_own ho5
           have HL5 := hide (nd_level ((HFK.out.stay hb5).node))
           have HD5 := hide (tr_down (c := c) (HFK.out.stay hb5) hk1 hk (HP.out.below hb5))
           rw [kid_ptr HFK.out] at HD5
           unfold ptrOf at HD5
           clear ho5 hb5 hR5)
        | fail)
      go_wp2_with fail
      refine HL5.out.mono ?_
      rintro e w6 ⟨rfl, rfl⟩
      have em : decide ((f.lv : Int) < 0) = false := by simp
      go_wp2_with fail
      refine HD5.out.mono ?_
      rintro e w7 ⟨rfl, hb7⟩
      go_wp2
      go_step3
      refine ⟨rfl, ⟨i + 1, kidAt f.ks (addrOf p f.lv), B5, d5, _, _, _, _, _, _, _, _, _, _, _, _, _, _, _, _, _, _, _, _, _, _, _, rfl, by omega, HWN.out, ?_, below_then HB5.out hb7⟩, ?_⟩
      · rw [take_ptrs HFI.out]
        exact own_below HO5.out hb7
      · simp [sliceLen]
        omega
    · have hcb : cur = bot := by rw [List.drop_of_length_le hif] at hWy; exact hWy
      subst hcb
      have hie : i = fs.length := by omega
      have htk : fs.take i = fs := List.take_of_length_le hif
      rw [htk] at HO
      have HIE := hide hie
      have hend := HEND.out
      clear hWy hO hb hie htk HEND HW
      cases hend with
      | none =>
        unfold ptrOf
        simp only [Option.map_none]
        go_wp2_with fail
        refine (nd_covers_nil _ _ _ _).mono ?_
        rintro e w1 ⟨rfl, rfl⟩
        go_wp2
        simp only [Exit.jump]
        go_ret2
        refine ⟨B, d, by rw [List.length_map, ← HIE.out]; rfl, by rw [List.length_map, ← HIE.out]; exact HO.out, HB.out⟩
      | leaf g v hn =>
        have HC := hide (nd_covers (d := c) (hn.stay HB.out) hk1 hk (HP.out.below HB.out))
        rw [show decide (part p p ≤ (-1 : Int)) = true by rw [part_self HP.out.zp]; rfl] at HC
        have HX := hide hn
        unfold ptrOf
        simp only [Option.map_some]
        clear hn
        go_wp2_with fail
        refine HC.out.mono ?_
        rintro e w1 ⟨rfl, rfl⟩
        have hb4 := below_alloc HB.out (Nat.le_refl _) (.cells #[.pointer (some ⟨g, 0, none⟩)] 51)
        go_wp2_with (first
          | (at_builtin
             refine app_b _ rfl (.tmp 18) (.tmp 20) _ rfl w.heap.size 51 _ 1 8 Try.underlying44 info_n rfl (by omega) _ i _ rfl (HO.out.alloc _) (some ⟨wr.heap.size, 0, none⟩) 1 1 [.pointer (some ⟨g, 0, none⟩)] rfl w hb4 (Nat.le_refl _) (Rw.new1 wr 51 #[.pointer (some ⟨g, 0, none⟩)] rfl) ?h2 (by unfold maxLen; omega) (by omega) ?_
             case h2 =>
               intro u hu
               rw [List.mem_singleton] at hu
               rw [hu]
               rfl
             intro v5 w5 ho5 hb5 _
             have HO5 := hide ho5
             have HB5 := hide hb5
             obtain ⟨B5, d5, rfl, -, hR5⟩ := Rw.of_own ho5
             have HL5 := hide (nd_level (HX.out.stay hb5))
             clear ho5 hb5 hR5)
          | fail)
        go_wp2_with fail
        refine HL5.out.mono ?_
        rintro e w6 ⟨rfl, rfl⟩
        go_wp2
        simp only [Exit.jump]
        go_ret2
        refine ⟨B5, d5, by rw [List.length_append, List.length_map, ← HIE.out]; rfl, ?_, HB5.out⟩
        rw [List.length_append, List.length_map, ← HIE.out, ptrs_snoc]
        exact HO5.out
      | miss x hn hm =>
        have HC := hide (nd_covers (d := c) (hn.stay HB.out) hk1 hk (HP.out.below HB.out))
        rw [show decide (part x.2.pre p ≤ x.2.lv) = false by simpa using hm] at HC
        unfold ptrOf
        simp only [Option.map_some]
        clear hn hm
        go_wp2_with fail
        refine HC.out.mono ?_
        rintro e w1 ⟨rfl, rfl⟩
        go_wp2
        simp only [Exit.jump]
        go_ret2
        refine ⟨B, d, by rw [List.length_map, ← HIE.out]; rfl, by rw [List.length_map, ← HIE.out]; exact HO.out, HB.out⟩
end
section
open Go.RowKit
/-- What hangs at the head of a path. -/
def pTop : List PF → Nat × NT → Nat × NT
  | [], x => x
  | f :: _, _ => (f.g, f.nt)
/-- The new forks along a path: each is the old one with the new one below it. -/
def UpRel (p : List Nat) : List PF → List PF → Nat × NT → Prop
  | [], [], _ => True
  | f :: fs, f' :: fs', x => f'.lv = f.lv ∧ f'.pre = f.pre ∧ f'.ks = insK f.ks ⟨addrOf p f.lv, (pTop fs' x).1, (pTop fs' x).2.lv, (pTop fs' x).2.pre, (pTop fs' x).2.es⟩ ∧ UpRel p fs fs' x
  | _, _, _ => False
theorem UpRel.len {p : List Nat} : ∀ {fs fs' : List PF} {x : Nat × NT}, UpRel p fs fs' x → fs'.length = fs.length
  | [], [], _, _ => rfl
  | f :: fs, f' :: fs', x, h => by simp [UpRel.len h.2.2.2]
  | [], _ :: _, _, h => h.elim
  | _ :: _, [], _, h => h.elim
theorem UpRel.at_ {p : List Nat} : ∀ {fs fs' : List PF} {x : Nat × NT} {i : Nat} {f f' : PF}, UpRel p fs fs' x → fs[i]? = some f → fs'[i]? = some f' → f'.lv = f.lv ∧ f'.pre = f.pre ∧ ∃ q : Kid, q.at_ = addrOf p f.lv ∧ f'.ks = insK f.ks q
  | [], [], _, i, f, f', _, h1, _ => by simp at h1
  | g :: fs, g' :: fs', x, 0, f, f', h, h1, h2 => by
    simp at h1 h2
    subst h1 h2
    exact ⟨h.1, h.2.1, _, rfl, h.2.2.1⟩
  | g :: fs, g' :: fs', x, i + 1, f, f', h, h1, h2 => UpRel.at_ h.2.2.2 (by simpa using h1) (by simpa using h2)
  | [], _ :: _, _, _, _, _, h, _, _ => h.elim
  | _ :: _, [], _, _, _, _, h, _, _ => h.elim
theorem kidAt_insK {ks : List Kid} {q : Kid} : kidAt (insK ks q) q.at_ = some (q.blk, ⟨q.lv, q.pre, q.es⟩) := by
  unfold kidAt insK
  rw [List.append_assoc, List.find?_append]
  have h1 : (ks.filter fun r => decide (r.at_ < q.at_)).find? (fun r => decide (r.at_ = q.at_)) = none := by
    rw [List.find?_eq_none]
    intro r hr
    have := (List.mem_filter.1 hr).2
    simp at this ⊢
    omega
  rw [h1]
  simp
/-- The new forks are on the point's way. -/
theorem UpRel.way {p : List Nat} : ∀ {fs fs' : List PF} {x : Nat × NT}, UpRel p fs fs' x → (∀ f ∈ fs, part f.pre p ≤ (f.lv : Int)) → Way p fs' (some (pTop fs' x)) (some x)
  | [], [], x, _, _ => rfl
  | f :: fs, f' :: fs', x, h, hc => by
    refine ⟨rfl, ?_, ?_⟩
    · rw [h.2.1, h.1]; exact hc f List.mem_cons_self
    · rw [h.1, h.2.2.1]
      rw [show addrOf p f.lv = (⟨addrOf p f.lv, (pTop fs' x).1, (pTop fs' x).2.lv, (pTop fs' x).2.pre, (pTop fs' x).2.es⟩ : Kid).at_ from rfl, kidAt_insK]
      exact UpRel.way h.2.2.2 fun f hf => hc f (List.mem_cons_of_mem _ hf)
  | [], _ :: _, _, h, _ => h.elim
  | _ :: _, [], _, h, _ => h.elim
theorem Way.covers {p : List Nat} : ∀ {fs : List PF} {top bot : Option (Nat × NT)}, Way p fs top bot → ∀ f ∈ fs, part f.pre p ≤ (f.lv : Int)
  | [], _, _, _, f, hf => by cases hf
  | f :: fs, top, bot, h, f', hf => by
    rcases List.mem_cons.1 hf with rfl | hf
    · exact h.2.1
    · exact Way.covers h.2.2 f' hf
/-- Each fork on the way fits at the one ahead of it. -/
theorem Way.fits {k : Nat} {p : List Nat} (hp : Zp k p) : ∀ {fs : List PF} {top bot : Option (Nat × NT)} {i : Nat} {f f2 : PF}, (∀ f ∈ fs, FK k f) → Way p fs top bot → fs[i]? = some f → fs[i + 1]? = some f2 → FitsAt p f f2.nt
  | [], _, _, _, _, _, _, _, h1, _ => by simp at h1
  | g :: fs, top, bot, 0, f, f2, hF, h, h1, h2 => by
    simp at h1 h2
    subst h1
    cases fs with
    | nil => simp at h2
    | cons f3 fs =>
      simp at h2
      subst h2
      exact ((hF g List.mem_cons_self).below hp h.2.1 h.2.2.1).2.2.1
  | g :: fs, top, bot, i + 1, f, f2, hF, h, h1, h2 => Way.fits hp (fun f hf => hF f (List.mem_cons_of_mem _ hf)) h.2.2 (by simpa using h1) (by simpa using h2)
set_option maxHeartbeats 2000000 in
set_option maxRecDepth 100000 in
/-- up, with the new forks told. -/
theorem tr_up_on {w : World} {t k : Nat} {root : Option Addr} {p : List Nat} (fs : List PF) (x : Nat × NT) (A : Option Addr) (m c : Nat) (hT : TreeBlk w t k root) (hk1 : 1 ≤ k) (hk : k ≤ 16) (hA : Rw w 1 A m (ptrs (fs.map (·.g)))) (hm : fs.length = m) (hm100 : m ≤ 1000)
    (hF : ∀ f ∈ fs, Fork w k f.g f.lv f.pre f.ks) (hn : NodeOf w k x.1 x.2.lv x.2.pre x.2.es) (hfit : ∀ (i : Nat) (f f2 : PF), fs[i]? = some f → fs[i + 1]? = some f2 → FitsAt p f f2.nt) (hlast : ∀ f ∈ fs.getLast?, FitsAt p f x.2) :
    Calls Try.prog 41 #[.pointer (some ⟨t, 0, none⟩), .slice A m c, .pointer (some ⟨x.1, 0, none⟩)] w fun e w' => ∃ t' fs', e = .returned (.pointer (some ⟨t', 0, none⟩)) ∧ w.heap.size ≤ t' ∧ TreeBlk w' t' k (some ⟨(pTop fs' x).1, 0, none⟩) ∧ UpRel p fs fs' x ∧ (∀ f ∈ fs', Fork w' k f.g f.lv f.pre f.ks) ∧ Below w.heap.size w w' := by
  have HT := hide hT
  have HA := hide hA
  have HF := hide hF
  have HN := hide hn
  have HFIT := hide hfit
  have HLAST := hide hlast
  have HM := hide hm
  have ew : IntKind.i64.wrap ((m : Int) - 1) = (m : Int) - 1 := by rw [IntKind.wrap_i64]; omega
  clear hT hA hF hn hfit hlast hm
  go_enter Try.func41, Try.ntmps41
  go_wp2
  go_loopw [2, 7] (fun x2 x7 wr => ∃ (i : Nat) (fs' : List PF), x7 = .int .i64 ((i : Int) - 1) ∧ i ≤ m ∧ x2 = .pointer (some ⟨(pTop fs' x).1, 0, none⟩) ∧ UpRel p (fs.drop i) fs' x ∧ (∀ f ∈ fs', Fork wr k f.g f.lv f.pre f.ks) ∧ Below w.heap.size w wr) (fun _ x _ => (intOf x + 1).toNat)
  case atStart =>
    refine ⟨m, [], rfl, Nat.le_refl _, rfl, ?_, fun f hf => (by cases hf), Below.refl _ _⟩
    rw [List.drop_of_length_le (by have := HM.out; omega)]
    trivial
  case round =>
    obtain ⟨i, fs', rfl, hi, rfl, hU, hFn, hb⟩ := hrel
    rename World => wz
    have HU := hide hU
    have HFn := hide hFn
    rcases Nat.eq_zero_or_pos i with rfl | hi0
    · have t0 := Blk.cell (Blk.below HT.out hb) 0
      simp at t0
      clear hU hFn
      go_wp2
      go_ret
      have hal := (Below.refl wz.heap.size wz).alloc (Nat.le_refl _) (.cells #[.int .i64 (k : Int), .pointer (some ⟨(pTop fs' x).1, 0, none⟩)] 79)
      exact ⟨_, fs', rfl, hb.size, Blk.new _ _ _, by simpa using HU.out, fun f hf => (HFn.out f hf).stay hal, below_alloc hb (Nat.le_refl _) _⟩
    · obtain ⟨j, rfl⟩ : ∃ j, i = j + 1 := ⟨i - 1, by omega⟩
      have hjl : j < fs.length := by have := HM.out; omega
      obtain ⟨b, o, rfl, hbl, u, hu, k0⟩ := (HA.out.below hb).one (i := j) (by omega)
      have hfj : fs[j]? = some fs[j] := List.getElem?_eq_getElem hjl
      have hd : fs.drop j = fs[j] :: fs.drop (j + 1) := List.drop_eq_getElem_cons hjl
      generalize fs[j] = f at *
      unfold ptrs at hu
      rw [List.getElem?_map, List.getElem?_map, hfj] at hu
      simp at hu
      rw [← hu] at k0
      have hcur : NodeOf wz k (pTop fs' x).1 (pTop fs' x).2.lv (pTop fs' x).2.pre (pTop fs' x).2.es ∧ FitsAt p f (pTop fs' x).2 := by
        cases fs' with
        | nil =>
          have hl := hU.len
          simp at hl
          refine ⟨HN.out.stay hb, HLAST.out f ?_⟩
          rw [List.getLast?_eq_getElem?, show fs.length - 1 = j by omega, hfj]
          rfl
        | cons f' fs' =>
          have hl := hU.len
          have hj1 : j + 1 < fs.length := by simp at hl; omega
          have hd1 : fs.drop (j + 1) = fs[j + 1] :: fs.drop (j + 1 + 1) := List.drop_eq_getElem_cons hj1
          have hf1 : fs[j + 1]? = some fs[j + 1] := List.getElem?_eq_getElem hj1
          generalize fs[j + 1] = f1 at hd1 hf1
          rw [hd1] at hU
          have hfit := HFIT.out j f f1 hfj hf1
          refine ⟨(hFn f' List.mem_cons_self).node, ?_⟩
          unfold FitsAt at hfit ⊢
          simp only [pTop, PF.nt] at hfit ⊢
          rw [hU.1, hU.2.1]
          exact hfit
      have hW := nd_with ((HF.out f (List.mem_of_getElem? hfj)).stay hb) hcur.1 hk1 hk hcur.2.1 hcur.2.2.1
      have hadr := hcur.2.2.2
      have HADR := hide hadr
      have HW := hide hW
      have HD := hide hd
      have e0 : ((j + 1 : Nat) : Int) - 1 = (j : Int) := by omega
      rw [e0]
      have ej : (0 : Int) ≤ (j : Int) := by omega
      have ejm : (j : Int) < (m : Int) := by omega
      have ejn : j < m := by omega
      clear hu hfj hd hcur hW e0 hU hFn hadr
      go_wp2_with fail
      refine HW.out.mono ?_
      rintro e w2 ⟨gn, rfl, hFk, hgn, hb2⟩
      have HFk := hide hFk
      have HB2 := hide hb2
      clear hFk HW hb2
      go_wp2
      go_roundw
      case rel =>
        refine ⟨j, ⟨gn, f.lv, f.pre, insK f.ks ⟨addrOf p f.lv, (pTop fs' x).1, (pTop fs' x).2.lv, (pTop fs' x).2.pre, (pTop fs' x).2.es⟩⟩ :: fs', by go_num, by omega, rfl, ?_, fun f2 hf2 => ?_, below_then hb HB2.out⟩
        · rw [HD.out]
          exact ⟨rfl, rfl, rfl, HU.out⟩
        · rcases List.mem_cons.1 hf2 with rfl | hf2
          · have := HFk.out
            rw [HADR.out] at this
            exact this
          · exact (HFn.out f2 hf2).stay HB2.out
      case measure => simp [intOf]
end
section
open Go.RowKit
theorem fits_leaf {p : List Nat} {v : Nat} {fs : List PF} {top bot : Option (Nat × NT)} (hW : Way p fs top bot) : ∀ f ∈ fs.getLast?, FitsAt p f ⟨-1, p, [(p, v)]⟩ :=
  fun f hf => ⟨(hW.last hf).1, by show (-1 : Int) < _; omega, rfl⟩
theorem fits_pair {k m : Nat} {p : List Nat} {g : Nat} {nt : NT} {es : List Ent} (hp : Zp k p) {fs : List PF} {top : Option (Nat × NT)} (hF : ∀ f ∈ fs, FK k f) (hW : Way p fs top (some (g, nt))) (hm : part nt.pre p = (m : Int)) (hz : Zp k nt.pre) : ∀ f ∈ fs.getLast?, FitsAt p f ⟨m, cut (m + 1) nt.pre, es⟩ := by
  intro f hf
  obtain ⟨h1, h2⟩ := hW.last hf
  have hf' := hF f (last_mem hf)
  obtain ⟨g1, g2, g3, g4⟩ := hf'.below hp h1 h2.symm
  simp only at g1 g2 g3 g4
  rw [hm] at g1
  have hm2 : m < f.lv := by omega
  refine ⟨?_, by show (m : Int) < _; omega, ?_⟩
  · refine (part_le_iff hf'.pre (zp_cut hz) _ (by omega)).2 fun b hb => ?_
    rw [addr_cut_hi _ (by omega)]
    exact (part_le_iff hf'.pre hz _ (by omega)).1 g3.1 b hb
  · show addrOf (cut (m + 1) nt.pre) f.lv = _
    rw [addr_cut_hi _ (by omega)]
    exact g4 _ (Nat.le_refl _)
theorem UpRel.nt {p : List Nat} {x : Nat × NT} : ∀ {fs fs' : List PF}, UpRel p fs fs' x → (∀ (i : Nat) (f f2 : PF), fs[i]? = some f → fs[i + 1]? = some f2 → FitsAt p f f2.nt) → (∀ f ∈ fs.getLast?, FitsAt p f x.2) → (pTop fs' x).2 = upN fs x.2
  | [], [], _, _, _ => rfl
  | f :: fs, f' :: fs', h, hfit, hlast => by
    have ih := UpRel.nt h.2.2.2 (fun i a b h1 h2 => hfit (i + 1) a b (by simpa using h1) (by simpa using h2)) (by
      intro f2 hf2
      refine hlast f2 ?_
      cases fs with
      | nil => simp at hf2
      | cons f3 fs => rwa [List.getLast?_cons_cons])
    have ha : addrOf (upN fs x.2).pre f.lv = addrOf p f.lv := by
      cases fs with
      | nil => exact (hlast f (by simp)).2.2
      | cons f2 fs => exact (hfit 0 f f2 rfl rfl).2.2
    show f'.nt = _
    unfold PF.nt
    rw [h.1, h.2.1, h.2.2.1, ih]
    show _ = (⟨f.lv, f.pre, kidEs (insK f.ks ⟨addrOf (upN fs x.2).pre f.lv, 0, (upN fs x.2).lv, (upN fs x.2).pre, (upN fs x.2).es⟩)⟩ : NT)
    rw [ha, kidEs_blk f.ks (addrOf p f.lv) (pTop fs' x).1 0]
  | [], _ :: _, h, _, _ => h.elim
  | _ :: _, [], h, _, _ => h.elim
theorem pTop_node {w : World} {k : Nat} {fs' : List PF} {x : Nat × NT} (hF : ∀ f ∈ fs', Fork w k f.g f.lv f.pre f.ks) (hx : NodeOf w k x.1 x.2.lv x.2.pre x.2.es) : NodeOf w k (pTop fs' x).1 (pTop fs' x).2.lv (pTop fs' x).2.pre (pTop fs' x).2.es := by
  cases fs' with
  | nil => exact hx
  | cons f fs => exact (hF f List.mem_cons_self).node
/-- What is shared behind a Put: the new forks on the way, and what hangs at its end. -/
def PutSh (k : Nat) (p : List Nat) (v : Nat) (fs : List PF) (bot below : Option (Nat × NT)) (t t' : Nat) (w' : World) : Prop :=
  t' = t ∨ ∃ fs' x, TreeBlk w' t' k (some ⟨(pTop fs' x).1, 0, none⟩) ∧ UpRel p fs fs' x ∧ (∀ f ∈ fs', Fork w' k f.g f.lv f.pre f.ks) ∧ NodeOf w' k x.1 x.2.lv x.2.pre x.2.es ∧
    ((x.2 = ⟨-1, p, [(p, v)]⟩ ∧ below = none) ∨ ∃ (y : Nat × NT) (mm g4 : Nat), below = some y ∧ bot = some y ∧ y.2.lv < (mm : Int) ∧ part y.2.pre p = (mm : Int) ∧ Zp k y.2.pre ∧ NodeOf w' k g4 (-1) p [(p, v)] ∧
      Fork w' k x.1 mm (cut (mm + 1) y.2.pre) (pairK y.1 g4 y.2.lv (-1) y.2.pre p y.2.es [(p, v)] mm) ∧ x.2 = ⟨mm, cut (mm + 1) y.2.pre, kidEs (pairK y.1 g4 y.2.lv (-1) y.2.pre p y.2.es [(p, v)] mm)⟩)
theorem PutSh.stay {k v t t' : Nat} {p : List Nat} {fs : List PF} {bot below : Option (Nat × NT)} {w w' : World} (h : PutSh k p v fs bot below t t' w) (hb : Below w.heap.size w w') : PutSh k p v fs bot below t t' w' := by
  rcases h with h | ⟨fs', x, h1, h2, h3, h4, h5⟩
  · exact .inl h
  · refine .inr ⟨fs', x, Blk.below h1 hb, h2, fun f hf => (h3 f hf).stay hb, h4.stay hb, ?_⟩
    rcases h5 with h5 | ⟨y, mm, g4, a1, a2, a3, a4, a5, a6, a7, a8⟩
    · exact .inl h5
    · exact .inr ⟨y, mm, g4, a1, a2, a3, a4, a5, a6.stay hb, a7.stay hb, a8⟩
def PutOutX (w : World) (t k : Nat) (p : List Nat) (v : Nat) (es : List Ent) (X : Nat → World → Prop) (e : Ending) (w' : World) : Prop :=
  ∃ t' es', e = .returned (.tuple #[.pointer (some ⟨t', 0, none⟩), .int .i64 0]) ∧ TreeOf w' k t' es' ∧ (∀ x, x ∈ es' ↔ x = (p, v) ∨ (x ∈ es ∧ x.1 ≠ p)) ∧ (t' = t ↔ (p, v) ∈ es) ∧ Below w.heap.size w w' ∧ X t' w'
set_option maxHeartbeats 4000000 in
set_option maxRecDepth 100000 in
theorem tr_put_on {w : World} {t k v : Nat} {es : List Ent} {fs : List PF} {top bot below : Option (Nat × NT)} {gs : List Nat} (hT : TreeOf w k t es) (hB : TreeBlk w t k (top.map fun y => ⟨y.1, 0, none⟩)) (hes : esOf top = es) {A : Option Addr} {c : Nat} {p : List Nat} (hp : Pt w A k p) (hv : v < 2 ^ 64)
    (hW0 : Way p fs top bot) (hF0 : ∀ f ∈ fs, Fork w k f.g f.lv f.pre f.ks) (hl : fs.length ≤ 64) (hE0 : PathEnd w k p fs bot gs below) :
    Calls Try.prog 23 #[.pointer (some ⟨t, 0, none⟩), .slice A k c, .int .u64 (v : Int)] w (PutOutX w t k p v es (PutSh k p v fs bot below t)) := by
  have hk1 : 1 ≤ k := hT.1
  have hk : k ≤ 16 := hT.2.1
  have HC := hide (tr_check hB A c)
  have HP := hide (tr_path_on (c := c) hB hk1 hk hp hW0 hF0 hl hE0)
  have HZ := hide hp.zp
  have HES := hide hes
  have HT := hide hT
  have HTB := hide hB
  have HPT := hide hp
  have htlt : t < w.heap.size := hB.lt
  have HLT := hide htlt
  have HLF := hide (fun (W : World) (hW : Below w.heap.size w W) => nd_leaf A k c p v W (hp.below hW) hv hk1 hk)
  have HW0 := hide hW0
  have HF0 := hide hF0
  have HE0 := hide hE0
  have HFIT := hide (fun (i : Nat) (f f2 : PF) (h1 : fs[i]? = some f) (h2 : fs[i + 1]? = some f2) => Way.fits hp.zp (fun f hf => (hF0 f hf).fk) hW0 h1 h2)
  clear hT hB hp hes htlt hW0 hF0 hE0
  go_enter Try.func23, Try.ntmps23
  go_wp2_with fail
  refine HC.out.mono ?_
  rintro e w1 ⟨rfl, rfl⟩
  go_wp2_with fail
  refine HP.out.mono ?_
  rintro e w1 ⟨B, d, rfl, hO, hb⟩
  have hW := HW0.out
  have hF := HF0.out
  have hE := HE0.out
  have HW := hide hW
  have HF := hide hF
  have HB := hide hb
  obtain ⟨hcap, hR⟩ := own_rw hO
  have HE := hide hE
  have HR := hide hR
  rcases hE.cases_ with hgs | ⟨g, v0, hgs, hbe, hbot, hNl⟩
  · have hno := hE.no HZ.out hgs
    have HNO := hide hno
    have HFO := hide (tr_found_fork (n := gs.length) (d := d) (by rw [hgs]; simp) (fun f hf => (hF f hf).stay hb) hl (by rw [hgs] at hR ⊢; exact hR))
    have hnt : ∀ x, (p, x) ∉ es := fun x hx => by
      rw [← HES.out, Way.mem (fun f hf => (HF.out f hf).fk) HW.out] at hx
      exact hno x hx
    have HNT := hide hnt
    have HGS := hide hgs
    have hgl : gs.length = fs.length := by rw [hgs]; simp
    have HGL := hide hgl
    rw [hgs] at HR
    have HNT := hide (HNT.out v)
    cases hE with
    | leaf g v' hn => simp at hgs
    | none =>
      unfold ptrOf
      simp only [Option.map_none]
      clear hW hF hO hb hR hgs hno hnt hcap
      rw [hgl] at HFO HR ⊢
      clear hgl
      go_wp2_with fail
      refine HFO.out.mono ?_
      rintro e w2 ⟨⟨C, m, cc, rfl⟩, hb2⟩
      have t1 := (Blk.new w2 84 #[.slice C m cc, .int .u64 ((0 : Nat) : Int)]).cell 1
      simp at t1
      have hb3 := below_alloc (below_then HB.out hb2) (Nat.le_refl _) (.cells #[.slice C m cc, .int .u64 ((0 : Nat) : Int)] 84)
      have hq3 := below_alloc hb2 (Nat.le_refl _) (.cells #[.slice C m cc, .int .u64 ((0 : Nat) : Int)] 84)
      have HL := hide (HLF.out _ hb3)
      have HB3 := hide hb3
      have HQ3 := hide hq3
      clear hb2 hb3 hq3 HFO
      go_wp2_with fail
      refine HL.out.mono ?_
      rintro e w4 ⟨g4, rfl, hN4, -, hb4⟩
      have hb4' := below_then HB3.out hb4
      have hq4 := below_then HQ3.out hb4
      have hPL := put_leaf (v := v) HZ.out (fun f hf => (HF.out f hf).fk) HW.out (fun e he => by cases he)
      have HME := hide hPL.2
      have hla : ∀ f ∈ fs.getLast?, FitsAt p f ⟨-1, p, [(p, v)]⟩ := (fits_leaf HW.out)
      have HLA := hide hla
      have HUP := hide (tr_up_on (p := p) fs (g4, ⟨-1, p, [(p, v)]⟩) B fs.length d (HTB.out.below hb4') hk1 hk (HR.out.below hq4) rfl (by omega) (fun f hf => (HF.out f hf).stay hb4') hN4 HFIT.out hla)
      have HB4 := hide hb4'
      have HN4 := hide hN4
      clear hla hN4 hb4 hb4' hq4 hPL HL t1
      go_wp2_with fail
      refine HUP.out.mono ?_
      rintro e w5 ⟨t', fs', rfl, ht', hT5, hU5, hF5, hb5⟩
      have HH := hide (And.intro ht' (And.intro hT5 (And.intro hU5 (And.intro hF5 hb5))))
      clear ht' hT5 hU5 hF5 hb5
      go_wp2
      go_ret2
      obtain ⟨ht', hT5, hU5, hF5, hb5⟩ := HH.out
      have hnt := hU5.nt HFIT.out HLA.out
      have hNT := pTop_node (x := (g4, ⟨-1, p, [(p, v)]⟩)) hF5 (HN4.out.stay hb5)
      refine ⟨t', (pTop fs' (g4, ⟨-1, p, [(p, v)]⟩)).2.es, rfl, ⟨hk1, hk, .inr ⟨_, _, _, hT5, hNT⟩⟩, ?_, ?_, below_then HB4.out hb5, .inr ⟨fs', _, hT5, hU5, hF5, HN4.out.stay hb5, .inl ⟨rfl, rfl⟩⟩⟩
      · rw [hnt, ← HES.out]; exact HME.out
      · constructor
        · intro h
          have := HB4.out.size
          have := HLT.out
          omega
        · intro h
          exact absurd h (HNT.out)
    | miss x hn hm =>
      have HN := hide hn
      have HM := hide hm
      unfold ptrOf
      simp only [Option.map_some]
      clear hW hF hO hb hR hgs hno hnt hcap hn hm
      rw [hgl] at HFO HR ⊢
      clear hgl
      go_wp2_with fail
      refine HFO.out.mono ?_
      rintro e w2 ⟨⟨C, m, cc, rfl⟩, hb2⟩
      have t1 := (Blk.new w2 84 #[.slice C m cc, .int .u64 ((0 : Nat) : Int)]).cell 1
      simp at t1
      have hb3 := below_alloc (below_then HB.out hb2) (Nat.le_refl _) (.cells #[.slice C m cc, .int .u64 ((0 : Nat) : Int)] 84)
      have hq3 := below_alloc hb2 (Nat.le_refl _) (.cells #[.slice C m cc, .int .u64 ((0 : Nat) : Int)] 84)
      have HL := hide (HLF.out _ hb3)
      have HB3 := hide hb3
      have HQ3 := hide hq3
      clear hb2 hb3 hq3 HFO
      go_wp2_with fail
      refine HL.out.mono ?_
      rintro e w4 ⟨g4, rfl, hN4, -, hb4⟩
      have hb4' := below_then HB3.out hb4
      have hq4 := below_then HQ3.out hb4
      obtain ⟨i1, i2, i3, i4, i5, i6, i7⟩ := HN.out.info
      obtain ⟨mm, hmm⟩ : ∃ mm : Nat, part x.2.pre p = (mm : Int) := ⟨(part x.2.pre p).toNat, by have := HM.out; omega⟩
      have hlm : x.2.lv < (mm : Int) := by rw [← hmm]; exact HM.out
      have HPR := hide (nd_pair (HN.out.stay hb4') hN4 hk1 hk hmm hlm (by omega))
      have hPP := fun g' => put_pair (v := v) (g' := g') HZ.out (fun f hf => (HF.out f hf).fk) HW.out hmm hlm i1 (fun e he => ⟨(i5 e he).1, (i5 e he).2.2⟩)
      have HPP := hide hPP
      have HB4 := hide hb4'
      have HQ4 := hide hq4
      have HMM := hide hmm
      have HLM := hide hlm
      have HZX := hide i1
      have HN44 := hide hN4
      clear i1 i2 i3 i4 i5 i6 i7 hmm hlm hPP hN4 hb4 hb4' hq4 HL t1
      go_wp2_with fail
      refine HPR.out.mono ?_
      rintro e w6 ⟨g6, rfl, hF6, -, hb6⟩
      have hN4 := hF6.node
      have HF6 := hide hF6
      have HQ6 := hide hb6
      have hb4' := below_then HB4.out hb6
      have hq4 := below_then HQ4.out hb6
      have hPL := HPP.out g4
      have t1 := trivial
      have HL := trivial
      have hb4 := trivial
      clear HB4 HPR hF6 hb6
      have HME := hide hPL.2
      have hla : ∀ f ∈ fs.getLast?, FitsAt p f ⟨mm, cut (mm + 1) x.2.pre, kidEs (pairK x.1 g4 x.2.lv (-1) x.2.pre p x.2.es [(p, v)] mm)⟩ := (fits_pair HZ.out (fun f hf => (HF.out f hf).fk) HW.out HMM.out HZX.out)
      have HLA := hide hla
      have HUP := hide (tr_up_on (p := p) fs (g6, ⟨mm, cut (mm + 1) x.2.pre, kidEs (pairK x.1 g4 x.2.lv (-1) x.2.pre p x.2.es [(p, v)] mm)⟩) B fs.length d (HTB.out.below hb4') hk1 hk (HR.out.below hq4) rfl (by omega) (fun f hf => (HF.out f hf).stay hb4') hN4 HFIT.out hla)
      have HB4 := hide hb4'
      have HN4 := hide hN4
      clear hla hN4 hb4 hb4' hq4 hPL HL t1
      go_wp2_with fail
      refine HUP.out.mono ?_
      rintro e w5 ⟨t', fs', rfl, ht', hT5, hU5, hF5, hb5⟩
      have HH := hide (And.intro ht' (And.intro hT5 (And.intro hU5 (And.intro hF5 hb5))))
      clear ht' hT5 hU5 hF5 hb5
      go_wp2
      go_ret2
      obtain ⟨ht', hT5, hU5, hF5, hb5⟩ := HH.out
      have hnt := hU5.nt HFIT.out HLA.out
      have hNT := pTop_node (x := (g6, ⟨mm, cut (mm + 1) x.2.pre, kidEs (pairK x.1 g4 x.2.lv (-1) x.2.pre p x.2.es [(p, v)] mm)⟩)) hF5 (HN4.out.stay hb5)
      refine ⟨t', (pTop fs' (g6, ⟨mm, cut (mm + 1) x.2.pre, kidEs (pairK x.1 g4 x.2.lv (-1) x.2.pre p x.2.es [(p, v)] mm)⟩)).2.es, rfl, ⟨hk1, hk, .inr ⟨_, _, _, hT5, hNT⟩⟩, ?_, ?_, below_then HB4.out hb5, .inr ⟨fs', _, hT5, hU5, hF5, HN4.out.stay hb5, .inr ⟨x, mm, g4, rfl, rfl, HLM.out, HMM.out, HZX.out, HN44.out.stay (below_then HQ6.out hb5), HF6.out.stay hb5, rfl⟩⟩⟩
      · rw [hnt, ← HES.out]; exact HME.out
      · constructor
        · intro h
          have := HB4.out.size
          have := HLT.out
          omega
        · intro h
          exact absurd h (HNT.out)
  · have HBO := hide hbot
    have HFO := hide (tr_found_leaf (n := gs.length) (d := d) (fs := fs) (by rw [hgs]) (hNl.stay hb) hk hl (by rw [hgs] at hR ⊢; exact hR))
    have hgl : gs.length = fs.length + 1 := by rw [hgs]; simp
    have hin : (p, v0) ∈ es := by
      rw [← HES.out, Way.mem (fun f hf => (HF.out f hf).fk) HW.out, hbot]
      exact List.mem_singleton.2 rfl
    have hun : ∀ x, (p, x) ∈ es → x = v0 := fun x hx => by
      rw [← HES.out, Way.mem (fun f hf => (HF.out f hf).fk) HW.out, hbot] at hx
      injection List.mem_singleton.1 hx
    have HIN := hide hin
    have HUN := hide hun
    rw [hgs, ptrs_snoc] at HR
    have HBE := hide hbe
    rw [hbe]
    unfold ptrOf
    simp only [Option.map_none]
    clear hW hF hO hb hR hgs hE HE hNl hbot hin hun hbe
    rw [show (List.map (fun x => x.g) fs ++ [g]).length = fs.length + 1 by simp] at HR
    rw [hgl] at HFO hcap ⊢
    clear hgl
    by_cases hvv : v0 = v
    · subst hvv
      go_wp2_with fail
      refine HFO.out.mono ?_
      rintro e w2 ⟨⟨C, m, cc, rfl⟩, hb2⟩
      have t1 := (Blk.new w2 84 #[.slice C m cc, .int .u64 (v0 : Int)]).cell 1
      simp at t1
      have hb3 := below_alloc (below_then HB.out hb2) (Nat.le_refl _) (.cells #[.slice C m cc, .int .u64 (v0 : Int)] 84)
      have hq3 := below_alloc hb2 (Nat.le_refl _) (.cells #[.slice C m cc, .int .u64 (v0 : Int)] 84)
      have HL := hide (HLF.out _ hb3)
      have HB3 := hide hb3
      have HQ3 := hide hq3
      clear hb2 hb3 hq3 HFO
      go_wp2
      go_ret2
      refine ⟨t, es, rfl, HT.out.stay HB3.out, fun x => ?_, ?_, HB3.out, .inl rfl⟩
      · constructor
        · intro hx
          by_cases hxp : x.1 = p
          · left
            obtain ⟨xp, xv⟩ := x
            simp only at hxp
            subst hxp
            rw [HUN.out xv hx]
          · exact .inr ⟨hx, hxp⟩
        · rintro (rfl | h)
          · exact HIN.out
          · exact h.1
      · exact ⟨fun _ => HIN.out, fun _ => rfl⟩
    · have evv : ((v0 : Int) == (v : Int)) = false := by simp; omega
      have HNT : Hid ((p, v) ∉ es) := hide fun h => hvv (HUN.out v h).symm
      have r2s := fun W => run_slice_to (P := Try.prog) (w := W) Try.underlying44 (sz := 1) Try.sizeOf51 B (fs.length + 1) d fs.length (by omega)
      clear hvv hcap
      go_wp2_with fail
      refine HFO.out.mono ?_
      rintro e w2 ⟨⟨C, m, cc, rfl⟩, hb2⟩
      have t1 := (Blk.new w2 84 #[.slice C m cc, .int .u64 (v0 : Int)]).cell 1
      simp at t1
      have hb3 := below_alloc (below_then HB.out hb2) (Nat.le_refl _) (.cells #[.slice C m cc, .int .u64 (v0 : Int)] 84)
      have hq3 := below_alloc hb2 (Nat.le_refl _) (.cells #[.slice C m cc, .int .u64 (v0 : Int)] 84)
      have HL := hide (HLF.out _ hb3)
      have HB3 := hide hb3
      have HQ3 := hide hq3
      clear hb2 hb3 hq3 HFO
      go_wp2_with fail
      refine HL.out.mono ?_
      rintro e w4 ⟨g4, rfl, hN4, -, hb4⟩
      have hb4' := below_then HB3.out hb4
      have hq4 := below_then HQ3.out hb4
      have hPL := put_leaf (v := v) HZ.out (fun f hf => (HF.out f hf).fk) HW.out (fun e he => by rw [HBO.out] at he; rw [List.mem_singleton.1 he])
      replace HR := hide HR.out.init
      have HME := hide hPL.2
      have hla : ∀ f ∈ fs.getLast?, FitsAt p f ⟨-1, p, [(p, v)]⟩ := (fits_leaf HW.out)
      have HLA := hide hla
      have HUP := hide (tr_up_on (p := p) fs (g4, ⟨-1, p, [(p, v)]⟩) B fs.length d (HTB.out.below hb4') hk1 hk (HR.out.below hq4) rfl (by omega) (fun f hf => (HF.out f hf).stay hb4') hN4 HFIT.out hla)
      have HB4 := hide hb4'
      have HN4 := hide hN4
      clear hla hN4 hb4 hb4' hq4 hPL HL t1
      go_wp2_with fail
      refine HUP.out.mono ?_
      rintro e w5 ⟨t', fs', rfl, ht', hT5, hU5, hF5, hb5⟩
      have HH := hide (And.intro ht' (And.intro hT5 (And.intro hU5 (And.intro hF5 hb5))))
      clear ht' hT5 hU5 hF5 hb5
      go_wp2
      go_ret2
      obtain ⟨ht', hT5, hU5, hF5, hb5⟩ := HH.out
      have hnt := hU5.nt HFIT.out HLA.out
      have hNT := pTop_node (x := (g4, ⟨-1, p, [(p, v)]⟩)) hF5 (HN4.out.stay hb5)
      refine ⟨t', (pTop fs' (g4, ⟨-1, p, [(p, v)]⟩)).2.es, rfl, ⟨hk1, hk, .inr ⟨_, _, _, hT5, hNT⟩⟩, ?_, ?_, below_then HB4.out hb5, .inr ⟨fs', _, hT5, hU5, hF5, HN4.out.stay hb5, .inl ⟨rfl, HBE.out⟩⟩⟩
      · rw [hnt, ← HES.out]; exact HME.out
      · constructor
        · intro h
          have := HB4.out.size
          have := HLT.out
          omega
        · intro h
          exact absurd h (HNT.out)
end
section
open Go.RowKit
/-- A fork with one kid less, and which one it is. -/
def LessIs (w' : World) (k : Nat) (p : List Nat) (f : PF) (x : Nat × NT) : Prop :=
  (∃ r, delK f.ks (addrOf p f.lv) = [r] ∧ x = (r.blk, ⟨r.lv, r.pre, r.es⟩)) ∨ (Fork w' k x.1 f.lv f.pre (delK f.ks (addrOf p f.lv)) ∧ x.2 = ⟨f.lv, f.pre, kidEs (delK f.ks (addrOf p f.lv))⟩)
theorem LessIs.stay {w w' : World} {k : Nat} {p : List Nat} {f : PF} {x : Nat × NT} (h : LessIs w k p f x) (hb : Below w.heap.size w w') : LessIs w' k p f x := by
  rcases h with h | ⟨h1, h2⟩
  · exact .inl h
  · exact .inr ⟨h1.stay hb, h2⟩
/-- What is shared behind a Del: nothing is left, or the new forks on the way, and what hangs at its end. -/
def DelSh (k : Nat) (p : List Nat) (fs : List PF) (t' : Nat) (w' : World) : Prop :=
  (fs = [] ∧ TreeBlk w' t' k none) ∨ ∃ fs0 f fs' x, fs = fs0 ++ [f] ∧ TreeBlk w' t' k (some ⟨(pTop fs' x).1, 0, none⟩) ∧ UpRel p fs0 fs' x ∧ (∀ f ∈ fs', Fork w' k f.g f.lv f.pre f.ks) ∧ NodeOf w' k x.1 x.2.lv x.2.pre x.2.es ∧ LessIs w' k p f x
theorem DelSh.stay {k t' : Nat} {p : List Nat} {fs : List PF} {w w' : World} (h : DelSh k p fs t' w) (hb : Below w.heap.size w w') : DelSh k p fs t' w' := by
  rcases h with ⟨h1, h2⟩ | ⟨fs0, f, fs', x, h0, h1, h2, h3, h4, h5⟩
  · exact .inl ⟨h1, Blk.below h2 hb⟩
  · exact .inr ⟨fs0, f, fs', x, h0, Blk.below h1 hb, h2, fun f hf => (h3 f hf).stay hb, h4.stay hb, h5.stay hb⟩
end
section
open Go.RowKit
end
section
open Go.RowKit
end
section
open Go.RowKit
end
section
open Go.RowKit
theorem Way.app {p : List Nat} : ∀ {fs : List PF} {top bot : Option (Nat × NT)} {f : PF}, Way p fs top bot → bot = some (f.g, f.nt) → part f.pre p ≤ (f.lv : Int) → Way p (fs ++ [f]) top (kidAt f.ks (addrOf p f.lv)) := fun h hb hc => Way.snoc h hb hc
/-- The path behind an act. -/
structure After (w' : World) (k : Nat) (p : List Nat) (fs : List PF) (t' : Nat) (top2 : Option (Nat × NT)) (fs2 : List PF) (bot2 : Option (Nat × NT)) (gs2 : List Nat) (below2 : Option (Nat × NT)) : Prop where
  tree : TreeBlk w' t' k (top2.map fun y => ⟨y.1, 0, none⟩)
  way : Way p fs2 top2 bot2
  forks : ∀ f ∈ fs2, Fork w' k f.g f.lv f.pre f.ks
  end_ : PathEnd w' k p fs2 bot2 gs2 below2
end
section
open Go.RowKit
theorem PathEnd.stay {w w' : World} {k : Nat} {p : List Nat} {fs : List PF} {bot below : Option (Nat × NT)} {gs : List Nat} (h : PathEnd w k p fs bot gs below) (hb : Below w.heap.size w w') : PathEnd w' k p fs bot gs below := by
  cases h with
  | none => exact .none
  | leaf g v hn => exact .leaf g v (hn.stay hb)
  | miss x hn hm => exact .miss x (hn.stay hb) hm
theorem After.stay {w w' : World} {k t' : Nat} {p : List Nat} {fs fs2 : List PF} {top2 bot2 below2 : Option (Nat × NT)} {gs2 : List Nat} (h : After w k p fs t' top2 fs2 bot2 gs2 below2) (hb : Below w.heap.size w w') : After w' k p fs t' top2 fs2 bot2 gs2 below2 :=
  ⟨Blk.below h.tree hb, h.way, fun f hf => (h.forks f hf).stay hb, h.end_.stay hb⟩
/-- The new path is not longer than it may be. -/
theorem After.len {w : World} {k t' : Nat} {p : List Nat} {fs fs2 : List PF} {top2 bot2 below2 : Option (Nat × NT)} {gs2 : List Nat} (h : After w k p fs t' top2 fs2 bot2 gs2 below2) (hT : TopOk w k top2) : fs2.length ≤ 64 := by
  cases fs2 with
  | nil => simp
  | cons f fs2 =>
    have h0 := h.way.1
    have hW := h.way
    rw [h0] at hW
    have hi := (hT _ h0).info
    have := Way.len (fun f hf => (h.forks f hf).fk) hi.2.2.1 hW
    have := hi.2.2.2.1
    omega
end
section
open Go.RowKit
theorem After.len2 {w : World} {k t' : Nat} {p : List Nat} {fs fs2 : List PF} {top2 bot2 below2 : Option (Nat × NT)} {gs2 : List Nat} (h : After w k p fs t' top2 fs2 bot2 gs2 below2) : fs2.length ≤ 64 := by
  cases fs2 with
  | nil => simp
  | cons f fs2 =>
    have h0 := h.way.1
    have hW := h.way
    rw [h0] at hW
    have hi := (h.forks f List.mem_cons_self).node.info
    have := Way.len (x := (f.g, f.nt)) (fun f hf => (h.forks f hf).fk) hi.2.2.1 hW
    have := hi.2.2.2.1
    simp only [PF.nt] at *
    omega
end
end Go.Proofs.Ytfoapkcgdkfggaa
set_option linter.unusedSimpArgs false
set_option linter.unusedVariables false
namespace Go.Proofs.Ytfoapkcgdkfggaa
open Go.RowKit
theorem kids_same {w : World} {k : Nat} : ∀ {ks ks' : List Kid}, (∀ q ∈ ks, NodeOf w k q.blk q.lv q.pre q.es) → (∀ q ∈ ks', NodeOf w k q.blk q.lv q.pre q.es) → kidTh ks = kidTh ks' → ks = ks'
  | [], [], _, _, _ => rfl
  | [], d :: ds, _, _, h => by simp [kidTh] at h
  | c :: cs, [], _, _, h => by simp [kidTh] at h
  | c :: cs, d :: ds, h1, h2, h => by
    simp only [kidTh, List.map_cons, List.cons.injEq, Prod.mk.injEq, Value.pointer.injEq, Option.some.injEq, Addr.mk.injEq, and_true] at h
    obtain ⟨⟨h3, h4⟩, h5⟩ := h
    have hc := h1 c (List.mem_cons_self ..)
    have hd := h2 d (List.mem_cons_self ..)
    rw [← h4] at hd
    obtain ⟨e1, e2, e3⟩ := hc.uniq hd
    have hr := kids_same (fun q hq => h1 q (List.mem_cons_of_mem _ hq)) (fun q hq => h2 q (List.mem_cons_of_mem _ hq)) h5
    obtain ⟨a, b, l, p, e⟩ := c
    obtain ⟨a', b', l', p', e'⟩ := d
    simp only at h3 h4 e1 e2 e3
    subst h3 h4 e1 e2 e3
    rw [hr]
theorem Fork.uniq {w : World} {k g m m' : Nat} {pre pre' : List Nat} {ks ks' : List Kid} (h : Fork w k g m pre ks) (h' : Fork w k g m' pre' ks') : m = m' ∧ ks = ks' := by
  obtain ⟨A, c, gs, hp, hS, hB⟩ := h.head
  obtain ⟨A', c', gs', hp', hS', hB'⟩ := h'.head
  have he := (Blk.eq_ hB hB').2
  simp [nodeCells] at he
  obtain ⟨e0, ⟨e1, e2⟩, e3, -⟩ := he
  subst e3
  exact ⟨by omega, kids_same (fun q hq => (h.kid q hq).1) (fun q hq => (h'.kid q hq).1) (hS.uniq hS')⟩
theorem flatMap_same {α β : Type} {f g : α → List β} : ∀ {l : List α}, (∀ a ∈ l, f a = g a) → l.flatMap f = l.flatMap g
  | [], _ => rfl
  | a :: l, h => by rw [List.flatMap_cons, List.flatMap_cons, h a (List.mem_cons_self ..), flatMap_same fun b hb => h b (List.mem_cons_of_mem _ hb)]
theorem filter_two {α : Type} (p : α → Bool) : ∀ l : List α, l.length = (l.filter p).length + (l.filter (fun x => !p x)).length
  | [] => rfl
  | a :: l => by
    have := filter_two p l
    cases h : p a <;> simp [h] <;> omega
theorem Bel.uniq {w : World} {k g d : Nat} {L : List Nat} {es : List Ent} (h : Bel w k g L d es) : ∀ {L' : List Nat} {d' : Nat} {es' : List Ent}, Bel w k g L' d' es' → L = L' ∧ d = d' ∧ es = es' := by
  induction h with
  | leaf hv hc hp hB =>
    intro L' d' es' h'
    cases h' with
    | leaf hv' hc' hp' hB' =>
      refine ⟨rfl, rfl, ?_⟩
      exact ((NodeOf.leaf hv hp hc hB).uniq (NodeOf.leaf hv' hp' hc' hB')).2.2
    | fork f d hF hk =>
      have := ((NodeOf.leaf hv hp hc hB).uniq hF.node).1
      omega
  | @fork g m pre ks f d hF hk ih =>
    intro L' d' es' h'
    cases h' with
    | leaf hv' hc' hp' hB' =>
      have := (hF.node.uniq (NodeOf.leaf hv' hp' hc' hB')).1
      omega
    | fork f' d2 hF' hk' =>
      obtain ⟨-, rfl⟩ := hF.uniq hF'
      refine ⟨?_, ?_, rfl⟩
      · congr 1
        exact flatMap_same fun q hq => (ih q hq (hk' q hq)).1
      · congr 2
        exact List.map_congr_left fun q hq => (ih q hq (hk' q hq)).2.1
theorem Bel.inv {w : World} {k g m d : Nat} {pre : List Nat} {ks : List Kid} {L : List Nat} {es : List Ent} (hF : Fork w k g m pre ks) (h : Bel w k g L d es) : ∃ (f : Kid → List Nat) (dd : Kid → Nat), L = g :: ks.flatMap f ∧ d = maxN (ks.map dd) + 1 ∧ ∀ q ∈ ks, Bel w k q.blk (f q) (dd q) q.es := by
  cases h with
  | leaf hv hc hp hB =>
    have := (hF.node.uniq (NodeOf.leaf hv hp hc hB)).1
    omega
  | fork f d hF2 hk =>
    obtain ⟨-, rfl⟩ := hF.uniq hF2
    exact ⟨f, d, rfl, rfl, hk⟩
theorem Bel.leaf_inv {w : World} {k g v : Nat} {p : List Nat} (h : NodeOf w k g (-1) p [(p, v)]) : Bel w k g [g] 1 [(p, v)] := by
  rcases h.cases' with ⟨A, c, v', -, he, hv, hP, hc, hB⟩ | ⟨m, ks, hm, -⟩
  · simp only [List.cons.injEq, Prod.mk.injEq, true_and, and_true] at he
    subst he
    exact .leaf hv hc hP hB
  · omega
/-- All that lies below it is in a list. -/
def In (w : World) (k : Nat) (LT : List Nat) (g : Nat) : Prop := ∃ L d es, Bel w k g L d es ∧ ∀ y ∈ L, y ∈ LT
theorem In.of {w : World} {k g d : Nat} {LT L : List Nat} {es : List Ent} (h : In w k LT g) (hB : Bel w k g L d es) : ∀ y ∈ L, y ∈ LT := by
  obtain ⟨L', d', es', h1, h2⟩ := h
  obtain ⟨rfl, -⟩ := hB.uniq h1
  exact h2
theorem In.kid {w : World} {k g m : Nat} {LT : List Nat} {pre : List Nat} {ks : List Kid} (h : In w k LT g) (hF : Fork w k g m pre ks) {q : Kid} (hq : q ∈ ks) : In w k LT q.blk := by
  obtain ⟨L, d, es, h1, h2⟩ := h
  cases h1 with
  | leaf hv hc hp hB =>
    have := (hF.node.uniq (NodeOf.leaf hv hp hc hB)).1
    omega
  | fork f d hF' hk =>
    obtain ⟨-, rfl⟩ := hF.uniq hF'
    exact ⟨f q, d q, q.es, hk q hq, fun y hy => h2 y (List.mem_cons_of_mem _ (List.mem_flatMap.2 ⟨q, hq, hy⟩))⟩
theorem In.way {w : World} {k : Nat} {LT p : List Nat} : ∀ {fs : List PF} {top bot : Option (Nat × NT)}, Way p fs top bot → (∀ f ∈ fs, Fork w k f.g f.lv f.pre f.ks) → (∀ y, top = some y → In w k LT y.1) → ∀ y, bot = some y → In w k LT y.1
  | [], top, bot, hW, _, hT => by
    rw [show top = bot from hW] at hT
    exact hT
  | f :: fs, top, bot, hW, hF, hT => by
    refine In.way hW.2.2 (fun f' hf' => hF f' (List.mem_cons_of_mem _ hf')) fun y hy => ?_
    obtain ⟨q, hq, -, rfl⟩ := kidAt_some hy
    exact (hT _ hW.1).kid (hF f (List.mem_cons_self ..)) hq
/-- The nodes of a tree behind an act: old ones, the new forks, what hangs at their end. -/
theorem up_in {w : World} {k : Nat} {LT p : List Nat} {x : Nat × NT} {Lx : List Nat} {dx : Nat} {ex : List Ent} (hx : Bel w k x.1 Lx dx ex) : ∀ {fs fs' : List PF} {top bot : Option (Nat × NT)} {L' : List Nat} {d' : Nat} {es' : List Ent}, UpRel p fs fs' x → Way p fs top bot →
    (∀ f ∈ fs, Fork w k f.g f.lv f.pre f.ks) → (∀ f ∈ fs', Fork w k f.g f.lv f.pre f.ks) → (∀ y, top = some y → In w k LT y.1) → Bel w k (pTop fs' x).1 L' d' es' → ∀ y ∈ L', y ∈ LT ∨ y ∈ fs'.map (·.g) ∨ y ∈ Lx
  | [], [], top, bot, L', d', es', hU, hW, hF, hF', hT, hB => by
    intro y hy
    obtain ⟨rfl, -⟩ := hx.uniq hB
    exact .inr (.inr hy)
  | [], f' :: fs', top, bot, L', d', es', hU, hW, hF, hF', hT, hB => False.elim hU
  | f :: fs, [], top, bot, L', d', es', hU, hW, hF, hF', hT, hB => False.elim hU
  | f :: fs, f' :: fs', top, bot, L', d', es', hU, hW, hF, hF', hT, hB => by
    obtain ⟨h1, h2, h3, h4⟩ := hU
    have hf := hF f (List.mem_cons_self ..)
    have hf' := hF' f' (List.mem_cons_self ..)
    have hIn := hT _ hW.1
    change Bel w k f'.g L' d' es' at hB
    cases hB with
    | leaf hv hc hp hB =>
      have := (hf'.node.uniq (NodeOf.leaf hv hp hc hB)).1
      omega
    | fork F d hF2 hk =>
      obtain ⟨-, rfl⟩ := hf'.uniq hF2
      intro y hy
      rcases List.mem_cons.1 hy with rfl | hy
      · exact .inr (.inl (by simp))
      obtain ⟨q, hq, hyq⟩ := List.mem_flatMap.1 hy
      rw [h3] at hq
      rcases mem_insK hq with rfl | hqk
      · have hk' := hk _ (by rw [h3]; exact hq)
        have := up_in hx h4 hW.2.2 (fun g hg => hF g (List.mem_cons_of_mem _ hg)) (fun g hg => hF' g (List.mem_cons_of_mem _ hg)) (fun z hz => by
          obtain ⟨r, hr, -, rfl⟩ := kidAt_some hz
          exact hIn.kid hf hr) hk' y hyq
        rcases this with h | h | h
        · exact .inl h
        · exact .inr (.inl (by simp only [List.map_cons]; exact List.mem_cons_of_mem _ h))
        · exact .inr (.inr h)
      · have hq2 := hk q (by rw [h3]; exact hq)
        exact .inl ((hIn.kid hf hqk).of hq2 y hyq)
theorem nodup_le : ∀ {L M : List Nat}, L.Nodup → (∀ y ∈ L, y ∈ M) → L.length ≤ M.length
  | [], M, _, _ => Nat.zero_le _
  | x :: L, M, h, hs => by
    obtain ⟨h1, h2⟩ := List.nodup_cons.1 h
    have hx := hs x (List.mem_cons_self ..)
    have := nodup_le (L := L) (M := M.erase x) h2 fun y hy => (List.mem_erase_of_ne (by rintro rfl; exact h1 hy)).2 (hs y (List.mem_cons_of_mem _ hy))
    rw [List.length_erase_of_mem hx] at this
    have hp := List.length_pos_of_mem hx
    simp only [List.length_cons]
    omega
theorem fresh_le {LT L' M : List Nat} (hN : L'.Nodup) (h : ∀ y ∈ L', y ∈ LT ∨ y ∈ M) : L'.length - comN LT L' ≤ M.length := by
  have h1 : (L'.filter (fun x => !decide (x ∈ LT))).length ≤ M.length := by
    refine nodup_le (hN.sublist List.filter_sublist) fun y hy => ?_
    obtain ⟨h2, h3⟩ := List.mem_filter.1 hy
    exact (h y h2).resolve_left (by simpa using h3)
  have h2 := filter_two (fun x => decide (x ∈ LT)) L'
  unfold comN
  omega
/-- How long the path of a point is, as Path tells it. -/
def PathIs (w : World) (k : Nat) (p : List Nat) (t' n : Nat) : Prop := ∃ (top : Option (Nat × NT)) (fs : List PF) (bot : Option (Nat × NT)) (gs : List Nat) (below : Option (Nat × NT)), TreeBlk w t' k (top.map fun y => ⟨y.1, 0, none⟩) ∧ Way p fs top bot ∧ (∀ f ∈ fs, Fork w k f.g f.lv f.pre f.ks) ∧ PathEnd w k p fs bot gs below ∧ gs.length = n
theorem Way.append {p : List Nat} : ∀ {fs fs2 : List PF} {top mid bot : Option (Nat × NT)}, Way p fs top mid → Way p fs2 mid bot → Way p (fs ++ fs2) top bot
  | [], fs2, top, mid, bot, h, h2 => by
    rw [show top = mid from h]
    exact h2
  | f :: fs, fs2, top, mid, bot, h, h2 => ⟨h.1, h.2.1, Way.append h.2.2 h2⟩
theorem PathEnd.append {w : World} {k : Nat} {p : List Nat} {fs : List PF} {bot below : Option (Nat × NT)} {gs : List Nat} (h : PathEnd w k p fs bot gs below) : ∀ fs0 : List PF, PathEnd w k p (fs0 ++ fs) bot (fs0.map (·.g) ++ gs) below
  | [] => h
  | f :: fs0 => (PathEnd.append h fs0).cons f
theorem top_bel {w : World} {k t d : Nat} {root : Option Addr} {top : Option (Nat × NT)} {L : List Nat} {es : List Ent} (hT : TreeBlk w t k root) (hT' : TreeBlk w t k (top.map fun y => ⟨y.1, 0, none⟩)) (hB : TBel w k root L d es) : ∀ y, top = some y → Bel w k y.1 L d es := by
  intro y hy
  subst hy
  have he := (Blk.eq_ hT hT').2
  simp at he
  subst he
  rcases hB with ⟨h, -⟩ | ⟨g, h, hB⟩
  · cases h
  · injection h with h
    injection h with h
    subst h
    exact hB
/-- Behind a put: no more fresh nodes than the new path has. -/
theorem put_fresh {w : World} {k v t t' d d' : Nat} {p : List Nat} {fs : List PF} {top bot below : Option (Nat × NT)} {LT L' : List Nat} {es es' : List Ent} {root root' : Option Addr} (hp : Zp k p) (hW : Way p fs top bot) (hF : ∀ f ∈ fs, Fork w k f.g f.lv f.pre f.ks) (hl : fs.length ≤ 64)
    (hT : TreeBlk w t k (top.map fun y => ⟨y.1, 0, none⟩)) (hTb : TreeBlk w t k root) (hB : TBel w k root LT d es) (h : PutSh k p v fs bot below t t' w) (hne : t' ≠ t) (hTb' : TreeBlk w t' k root') (hB' : TBel w k root' L' d' es') :
    ∃ n, PathIs w k p t' n ∧ L'.length - comN LT L' ≤ n ∧ L'.length - comN LT L' ≤ 66 := by
  rcases h with h | ⟨fs', x, g1, g2, g3, g4, g5⟩
  · exact absurd h hne
  have hin : ∀ y, top = some y → In w k LT y.1 := fun y hy => ⟨LT, d, es, top_bel hTb hT hB y hy, fun z hz => hz⟩
  have hbot := In.way hW hF hin
  have hBt := top_bel (top := some (pTop fs' x)) hTb' g1 hB' _ rfl
  have hlen := g2.len
  have hway : Way p fs' (some (pTop fs' x)) (some x) := g2.way (hW.covers)
  rcases g5 with ⟨hx, -⟩ | ⟨y, mm, gl, hbl, hb, h1, h2, h3, h4, h5, h6⟩
  · rw [hx] at g4
    obtain ⟨x1, x2⟩ := x
    simp only at hx g4
    subst hx
    have hBx : Bel w k x1 [x1] 1 [(p, v)] := Bel.leaf_inv g4
    refine ⟨fs'.length + 1, ⟨some (pTop fs' _), fs', _, _, _, g1, hway, g3, .leaf x1 v g4, by simp⟩, ?_⟩
    have := fresh_le (LT := LT) (M := fs'.map (·.g) ++ [x1]) hB'.nodup fun z hz => by
      rcases up_in hBx g2 hW hF g3 hin hBt z hz with h | h | h
      · exact .inl h
      · exact .inr (List.mem_append_left _ h)
      · exact .inr (List.mem_append_right _ h)
    simp only [List.length_append, List.length_map, List.length_singleton] at this
    omega
  · obtain ⟨x1, x2⟩ := x
    simp only at g1 g2 g4 h5 h6 hway hBt
    subst h6
    have hBg : Bel w k gl [gl] 1 [(p, v)] := Bel.leaf_inv h4
    obtain ⟨Lx, dx, hBx⟩ := bel_ex (mm + 2) x1 (mm : Int) _ _ (by omega) g4
    obtain ⟨F, dd, hL, -, hk⟩ := hBx.inv h5
    have hpk : pairK y.1 gl y.2.lv (-1) y.2.pre p y.2.es [(p, v)] mm = insK (insK [] ⟨addrOf y.2.pre mm, y.1, y.2.lv, y.2.pre, y.2.es⟩) ⟨addrOf p mm, gl, -1, p, [(p, v)]⟩ := rfl
    have hLx : ∀ z ∈ Lx, z ∈ LT ∨ z = x1 ∨ z = gl := by
      intro z hz
      rw [hL] at hz
      rcases List.mem_cons.1 hz with rfl | hz
      · exact .inr (.inl rfl)
      obtain ⟨q, hq, hzq⟩ := List.mem_flatMap.1 hz
      have hbq := hk q hq
      have hq2 : q.blk = y.1 ∨ q.blk = gl := by
        rw [hpk] at hq
        rcases mem_insK hq with rfl | hq
        · exact .inr rfl
        · rcases mem_insK hq with rfl | hq
          · exact .inl rfl
          · cases hq
      rcases hq2 with h | h
      · rw [h] at hbq
        exact .inl ((hbot _ hb).of hbq z hzq)
      · rw [h] at hbq
        obtain ⟨he, -⟩ := hBg.uniq hbq
        rw [← he] at hzq
        exact .inr (.inr (by simpa using hzq))
    have hcov : part (cut (mm + 1) y.2.pre) p ≤ (mm : Int) := by
      refine (part_le_iff (zp_cut h3) hp _ (by omega)).2 fun b hb => ?_
      rw [addr_cut_hi _ (by omega)]
      have := (part_spec y.2.pre p (by rw [h3.1, hp.1]) h3.2 hp.2).2.2.1
      rw [h2] at this
      exact this b hb
    have hk2 : kidAt (pairK y.1 gl y.2.lv (-1) y.2.pre p y.2.es [(p, v)] mm) (addrOf p mm) = some (gl, ⟨-1, p, [(p, v)]⟩) := by
      rw [hpk]
      exact kidAt_insK (q := ⟨addrOf p mm, gl, -1, p, [(p, v)]⟩)
    have hway2 := hway.app (f := ⟨x1, mm, cut (mm + 1) y.2.pre, pairK y.1 gl y.2.lv (-1) y.2.pre p y.2.es [(p, v)] mm⟩) rfl hcov
    simp only [hk2] at hway2
    refine ⟨fs'.length + 2, ⟨some (pTop fs' _), _, _, _, _, g1, hway2, fun f hf => ?_, .leaf gl v h4, by simp⟩, ?_⟩
    · rcases List.mem_append.1 hf with hf | hf
      · exact g3 f hf
      · rw [List.mem_singleton] at hf
        subst hf
        exact h5
    have := fresh_le (LT := LT) (M := fs'.map (·.g) ++ [x1, gl]) hB'.nodup fun z hz => by
      rcases up_in hBx g2 hW hF g3 hin hBt z hz with h | h | h
      · exact .inl h
      · exact .inr (List.mem_append_left _ h)
      · rcases hLx z h with h | rfl | rfl
        · exact .inl h
        · exact .inr (by simp)
        · exact .inr (by simp)
    simp only [List.length_append, List.length_map, List.length_cons, List.length_nil] at this
    omega
end Go.Proofs.Ytfoapkcgdkfggaa
