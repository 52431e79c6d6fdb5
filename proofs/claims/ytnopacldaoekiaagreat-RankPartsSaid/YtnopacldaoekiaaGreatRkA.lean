/- rank: what is checked, counted; a point's rank. -/
import Derived.Test.YtnopacldaoekiaaGreatWkS
import Derived.Test.YtnopacldaoekiaaGreatWkB
import Derived.Test.YtnopacldaoekiaaGreatTrD
set_option linter.unusedSimpArgs false
set_option linter.unusedVariables false
namespace Go.Proofs.YtnopacldaoekiaaGreat
open Go.RowKit
set_option maxHeartbeats 1000000 in
set_option maxRecDepth 100000 in
theorem rk_check_nil (A : Option Addr) (n c : Nat) (w : World) : Calls Tryz.prog 65 #[.pointer none, .slice A n c] w fun e w' => e = .returned (.int .i64 1) ∧ w = w' := by
  go_enter Tryz.func65, Tryz.ntmps65
  go_wp2
  go_ret
  exact ⟨rfl, rfl⟩
set_option maxHeartbeats 1000000 in
set_option maxRecDepth 100000 in
theorem rk_check_dim {w : World} {t k : Nat} {root : Option Addr} (h : TreeBlk w t k root) (A : Option Addr) (n c : Nat) (hn : n ≠ k) : Calls Tryz.prog 65 #[.pointer (some ⟨t, 0, none⟩), .slice A n c] w fun e w' => e = .returned (.int .i64 2) ∧ w = w' := by
  have HC0 := hide (tr_k h)
  have e1 : ((n : Int) != (k : Int)) = true := by simp; omega
  clear h hn
  go_enter Tryz.func65, Tryz.ntmps65
  go_wp2_with fail
  refine HC0.out.mono ?_
  rintro e w1 ⟨rfl, rfl⟩
  go_wp2
  go_ret
  exact ⟨rfl, rfl⟩
set_option maxHeartbeats 1000000 in
set_option maxRecDepth 100000 in
theorem rk_check {w : World} {t k : Nat} {root : Option Addr} (h : TreeBlk w t k root) (A : Option Addr) (c : Nat) : Calls Tryz.prog 65 #[.pointer (some ⟨t, 0, none⟩), .slice A k c] w fun e w' => e = .returned (.int .i64 0) ∧ w = w' := by
  have HC0 := hide (tr_k h)
  have e1 : ((k : Int) != (k : Int)) = false := by simp
  clear h
  go_enter Tryz.func65, Tryz.ntmps65
  go_wp2_with fail
  refine HC0.out.mono ?_
  rintro e w1 ⟨rfl, rfl⟩
  go_wp2
  go_ret
  exact ⟨rfl, rfl⟩
set_option maxHeartbeats 1000000 in
set_option maxRecDepth 100000 in
theorem rk_count_of {w : World} {n : Option Addr} {c s mn mx : Nat} (hS : Calls Tryz.prog 83 #[.pointer n] w fun e w' => e = .returned (Sum4.val ⟨c, s, mn, mx⟩) ∧ Below w.heap.size w w') (hc : c ≤ 65536) :
    Calls Tryz.prog 110 #[.pointer n] w fun e w' => e = .returned (.int .i64 (c : Int)) ∧ Below w.heap.size w w' := by
  have HS := hide hS
  have q0 := sums_fld0 (.int .u64 (c : Int)) (.int .u64 (s : Int)) (.int .u64 (mn : Int)) (.int .u64 (mx : Int))
  have ew : IntKind.i64.wrap (c : Int) = (c : Int) := by rw [IntKind.wrap_i64]; omega
  have ew2 : wrap64 (c : Int) = (c : Int) := by unfold wrap64; omega
  clear hS
  unfold Sum4.val at HS
  go_enter Tryz.func110, Tryz.ntmps110
  go_wp2_with fail
  refine HS.out.mono ?_
  rintro e w1 ⟨rfl, hb1⟩
  have HB := hide hb1
  clear hb1
  go_wp2
  go_ret
  exact ⟨rfl, HB.out⟩
theorem rk_count {w : World} {k g : Nat} {lv : Int} {pre : List Nat} {es : List Ent} (h : NodeOf w k g lv pre es) (hes : es.length ≤ 65536) : Calls Tryz.prog 110 #[.pointer (some ⟨g, 0, none⟩)] w fun e w' => e = .returned (.int .i64 ((es.length : Nat) : Int)) ∧ Below w.heap.size w w' := by
  obtain ⟨A, c, v, kids, hB, -⟩ := h.head
  have hS := nd_sums hB
  have hl : es.length % 2 ^ 64 = es.length := Nat.mod_eq_of_lt (by omega)
  have he : sumsOf es = ⟨es.length, (es.map (·.2)).sum % 2 ^ 64, minL (es.map (·.2)), maxL (es.map (·.2))⟩ := by unfold sumsOf; rw [hl]
  rw [he] at hS
  exact rk_count_of hS hes
set_option maxHeartbeats 1000000 in
set_option maxRecDepth 100000 in
theorem rk_ahead {w : World} {k g c : Nat} {lv : Int} {pre : List Nat} {es : List Ent} (h : NodeOf w k g lv pre es) (hk1 : 1 ≤ k) (hk : k ≤ 16) {A : Option Addr} {p : List Nat} (hp : Pt w A k p) {cc : Int} (hcc : cmp pre p = cc) {b : Bool} (hb : decide (cc < 0) = b) :
    Calls Tryz.prog 109 #[.pointer (some ⟨g, 0, none⟩), .slice A k c] w fun e w' => e = .returned (.bool b) ∧ Below w.heap.size w w' := by
  have HPR := hide (nd_prefix h hk)
  have HP := hide hp
  have HZ := hide h.info.1
  have HCC := hide hcc
  clear h hp hcc
  go_enter Tryz.func109, Tryz.ntmps109
  go_wp2_with fail
  refine HPR.out.mono ?_
  rintro e w2 ⟨v, rfl, ho, hb2⟩
  obtain ⟨B, d, rfl, hPB⟩ := Pt.of_own ho HZ.out.1 HZ.out.2
  have hcm := zb_cmp B A k d c pre p w2 hPB (HP.out.below hb2) hk1 hk
  rw [HCC.out] at hcm
  have HCM := hide hcm
  have HB := hide hb2
  clear ho hb2 hPB hcm
  go_wp2_with fail
  refine HCM.out.mono ?_
  rintro e w3 ⟨rfl, rfl⟩
  go_wp2
  go_ret
  exact ⟨rfl, HB.out⟩
/-- The kid at an address, known by its place. -/
theorem kid_split_at {ks : List Kid} (hs : ks.Pairwise fun q r => q.at_ < r.at_) {a j : Nat} (hj : j ≤ ks.length) (hlo : ∀ (i : Nat) (q : Kid), ks[i]? = some q → i < j → q.at_ < a) (hhi : ∀ q, ks[j]? = some q → a ≤ q.at_) :
    (∃ q, ks[j]? = some q ∧ q.at_ = a ∧ kidAt ks a = some (q.blk, ⟨q.lv, q.pre, q.es⟩) ∧ (∀ r ∈ ks.take j, r.at_ < a) ∧ (∀ r ∈ ks.drop (j + 1), a < r.at_)) ∨
    (kidAt ks a = none ∧ (∀ r ∈ ks.take j, r.at_ < a) ∧ (∀ r ∈ ks.drop j, a < r.at_)) := by
  have ht : ∀ r ∈ ks.take j, r.at_ < a := by
    intro r hr
    obtain ⟨i, hi, hr⟩ := mem_take_idx hr
    exact hlo i r hr hi
  cases hjq : ks[j]? with
  | none =>
    have hlen : ks.length ≤ j := by simpa using hjq
    refine .inr ⟨kidAt_no fun i q hq e => ?_, ht, fun r hr => ?_⟩
    · have h1 := (List.getElem?_eq_some_iff.1 hq).1
      have := hlo i q hq (by omega)
      omega
    · rw [List.drop_eq_nil_of_le hlen] at hr
      cases hr
  | some q =>
    have hq := hhi q hjq
    by_cases he : q.at_ = a
    · subst he
      refine .inl ⟨q, rfl, rfl, kidAt_of hs hjq, ht, fun r hr => ?_⟩
      obtain ⟨i, hi, hr⟩ := mem_drop_idx hr
      exact kids_lt hs hjq hr (by omega)
    · refine .inr ⟨kidAt_no fun i r hr e => ?_, ht, fun r hr => ?_⟩
      · rcases Nat.lt_trichotomy i j with h | h | h
        · have := hlo i r hr h; omega
        · subst h; rw [hjq] at hr; injection hr with hr; subst hr; exact he e
        · have := kids_lt hs hjq hr h; omega
      · obtain ⟨i, hi, hr⟩ := mem_drop_idx hr
        rcases Nat.eq_or_lt_of_le hi with h | h
        · subst h; rw [hjq] at hr; injection hr with hr; subst hr; omega
        · have := kids_lt hs hjq hr h; omega
theorem rk_of_nil (A : Option Addr) (n c : Nat) (w : World) : Calls Tryz.prog 64 #[.pointer none, .slice A n c] w fun e w' => e = .returned (.tuple #[.int .i64 0, .int .i64 1]) ∧ w = w' := by
  have HC := hide (rk_check_nil A n c w)
  go_enter Tryz.func64, Tryz.ntmps64
  go_wp2
  go_step3
  go_wp2_with fail
  refine HC.out.mono ?_
  rintro e w1 ⟨rfl, rfl⟩
  go_wp2
  rw [Exit.noGoto_ret]
  go_ret2
  exact ⟨rfl, rfl⟩
theorem rk_of_dim {w : World} {t k : Nat} {root : Option Addr} (h : TreeBlk w t k root) (A : Option Addr) (n c : Nat) (hn : n ≠ k) : Calls Tryz.prog 64 #[.pointer (some ⟨t, 0, none⟩), .slice A n c] w fun e w' => e = .returned (.tuple #[.int .i64 0, .int .i64 2]) ∧ w = w' := by
  have HC := hide (rk_check_dim h A n c hn)
  clear h hn
  go_enter Tryz.func64, Tryz.ntmps64
  go_wp2
  go_step3
  go_wp2_with fail
  refine HC.out.mono ?_
  rintro e w1 ⟨rfl, rfl⟩
  go_wp2
  rw [Exit.noGoto_ret]
  go_ret2
  exact ⟨rfl, rfl⟩
/-- A point's rank: how many entries are ahead of it. -/
def RankOut (w : World) (p : List Nat) (es : List Ent) (e : Ending) (w' : World) : Prop := ∃ (A B : List Ent), Cut2 p es A B ∧ e = .returned (.tuple #[.int .i64 ((A.length : Nat) : Int), .int .i64 0]) ∧ Below w.heap.size w w'
set_option maxHeartbeats 8000000 in
set_option maxRecDepth 100000 in
theorem rk_of {w : World} {t k : Nat} {top : Option (Nat × NT)} (hT : TreeBlk w t k (top.map fun y => ⟨y.1, 0, none⟩)) (hTop : TopOk w k top) (hk1 : 1 ≤ k) (hk : k ≤ 16) (hl : (esOf top).length ≤ 60000) {PA : Option Addr} {pc : Nat} {p : List Nat} (hp : Pt w PA k p) :
    Calls Tryz.prog 64 #[.pointer (some ⟨t, 0, none⟩), .slice PA k pc] w (RankOut w p (esOf top)) := by
  have HC := hide (rk_check hT PA pc)
  have HR : Hid (Calls Tryz.prog 50 #[.pointer (some ⟨t, 0, none⟩)] w fun e w' => e = .returned (ptrOf top) ∧ w = w') := hide (tr_root hT)
  have HTOP := hide hTop
  have HP := hide hp
  have HZ := hide hp.zp
  generalize hes : esOf top = es at *
  have HES := hide hes
  clear hT hTop hp hes
  go_enter Tryz.func64, Tryz.ntmps64
  go_wp2
  refine wp_scope_goto2 0 (fun a' wr => ∃ (tp : Option (Nat × NT)) (A B : List Ent) (u2 u3 u6 u9 u10 u11 u12 u13 u14 u15 u16 u17 u18 u19 u20 u21 u22 u23 u24 u25 u26 u27 u28 u29 u30 u31 u32 u33 u34 u35 u36 u37 u38 u39 u40 u41 u42 u43 u44 u45 u46 u47 u48 u49 u50 u51 u52 u53 u54 u55 u56 u57 u58 u59 u60 u61 u62 u63 u64 u65 u66 u67 u68 u69 u70 u71 u72 u73 u74 u75 : Value), a' = { tmps := #[.pointer (some ⟨t, 0, none⟩), .slice PA k pc, u2, u3, .int .i64 0, .int .i64 0, u6, .int .i64 ((A.length : Nat) : Int), ptrOf tp, u9, u10, u11, u12, u13, u14, u15, u16, u17, u18, u19, u20, u21, u22, u23, u24, u25, u26, u27, u28, u29, u30, u31, u32, u33, u34, u35, u36, u37, u38, u39, u40, u41, u42, u43, u44, u45, u46, u47, u48, u49, u50, u51, u52, u53, u54, u55, u56, u57, u58, u59, u60, u61, u62, u63, u64, u65, u66, u67, u68, u69, u70, u71, u72, u73, u74, u75], defers := [] } ∧ TopOk w k tp ∧ Mid p es A (esOf tp) B ∧ Below w.heap.size w wr) (fun a' _ => nlv w (a'.tmps.getD 8 undef)) (by rfl) (by rfl) (by rfl) ?_ ?_
  · go_wp2_with fail
    refine HC.out.mono ?_
    rintro e w1 ⟨rfl, rfl⟩
    go_wp2_with fail
    refine HR.out.mono ?_
    rintro e w1 ⟨rfl, rfl⟩
    go_wp2
    exact ⟨top, [], [], _, _, _, _, _, _, _, _, _, _, _, _, _, _, _, _, _, _, _, _, _, _, _, _, _, _, _, _, _, _, _, _, _, _, _, _, _, _, _, _, _, _, _, _, _, _, _, _, _, _, _, _, _, _, _, _, _, _, _, _, _, _, _, _, _, _, _, _, _, _, rfl, HTOP.out, by rw [HES.out]; exact Mid.start p es, Below.refl _ _⟩
  · rintro a' wr ⟨tp, A, B, u2, u3, u6, u9, u10, u11, u12, u13, u14, u15, u16, u17, u18, u19, u20, u21, u22, u23, u24, u25, u26, u27, u28, u29, u30, u31, u32, u33, u34, u35, u36, u37, u38, u39, u40, u41, u42, u43, u44, u45, u46, u47, u48, u49, u50, u51, u52, u53, u54, u55, u56, u57, u58, u59, u60, u61, u62, u63, u64, u65, u66, u67, u68, u69, u70, u71, u72, u73, u74, u75, rfl, htp, hm, hb⟩
    have hlA : A.length + (esOf tp).length ≤ 60000 := by
      have := congrArg List.length hm.eq
      simp only [List.length_append] at this
      omega
    have HMID := hide hm
    have HB := hide hb
    cases tp with
    | none =>
      have HF := hide (show RankOut w p es (.returned (.tuple #[.int .i64 ((A.length : Nat) : Int), .int .i64 0])) wr from ⟨A, B, hm.cut2, rfl, hb⟩)
      unfold ptrOf
      simp only [Option.map_none]
      clear hm hb htp
      go_wp2
      simp only [Exit.jump]
      go_ret2
      exact HF.out
    | some x =>
      obtain ⟨g', lv', pre', es'⟩ := x
      have hn := htp _ rfl
      simp only at hn
      simp only [esOf] at hlA hm HMID
      unfold ptrOf
      simp only [Option.map_some]
      have HLV := hide (nlv_node hn)
      have HND := hide hn
      obtain ⟨i1, i2, i3, i4, i5, i6, i7⟩ := hn.info
      have hpw := HP.out.below hb
      by_cases hcv : part pre' p ≤ lv'
      case neg =>
        have hcvr := nd_covers (d := pc) (hn.stay hb) hk1 hk hpw
        rw [decide_eq_false hcv] at hcvr
        have HCV := hide hcvr
        rcases miss_side i1 HZ.out i3 (by omega) (fun e he => (i5 e he).2.2) with ⟨hc, hall⟩ | ⟨hc, hall⟩
        · have HAH := hide (rk_ahead (c := pc) (hn.stay hb) hk1 hk hpw hc rfl)
          have HALL := hide hall
          clear hn hm htp hb i1 i2 i3 i4 i5 i6 i7 hpw hcvr hc hall hcv
          go_wp2_with fail
          refine HCV.out.mono ?_
          rintro e w2 ⟨rfl, rfl⟩
          go_wp2_with fail
          refine HAH.out.mono ?_
          rintro e w2 ⟨rfl, hb2⟩
          simp only [show decide ((-1 : Int) < 0) = true from rfl]
          replace HB := hide (below_then HB.out hb2)
          have HCO := hide (rk_count (HND.out.stay HB.out) (by omega))
          clear hb2 HAH
          have hA0 : ((A.length : Nat) : Int) ≤ 60000 := by omega
          have hE0 : ((es'.length : Nat) : Int) ≤ 60000 := by omega
          go_wp2_with fail
          refine HCO.out.mono ?_
          rintro e w3 ⟨rfl, hb3⟩
          have HF := hide (show RankOut w p es (.returned (.tuple #[.int .i64 (((A ++ es').length : Nat) : Int), .int .i64 0])) w3 from ⟨A ++ es', B, (HMID.out.lt HALL.out).cut2, rfl, below_then HB.out hb3⟩)
          rw [List.length_append, Int.natCast_add] at HF
          clear hb3
          go_wp2
          simp only [Exit.jump]
          go_ret2
          exact HF.out
        · have HAH := hide (rk_ahead (c := pc) (hn.stay hb) hk1 hk hpw hc rfl)
          have HALL := hide hall
          clear hn hm htp hb i1 i2 i3 i4 i5 i6 i7 hpw hcvr hc hall hcv
          go_wp2_with fail
          refine HCV.out.mono ?_
          rintro e w2 ⟨rfl, rfl⟩
          go_wp2_with fail
          refine HAH.out.mono ?_
          rintro e w2 ⟨rfl, hb2⟩
          simp only [show decide ((1 : Int) < 0) = false from rfl]
          have HF := hide (show RankOut w p es (.returned (.tuple #[.int .i64 ((A.length : Nat) : Int), .int .i64 0])) w2 from ⟨A, _, (HMID.out.gt HALL.out).cut2, rfl, below_then HB.out hb2⟩)
          clear hb2
          go_wp2
          simp only [Exit.jump]
          go_ret2
          exact HF.out
      have hcvr := nd_covers (d := pc) (hn.stay hb) hk1 hk hpw
      rw [decide_eq_true hcv] at hcvr
      have HCV := hide hcvr
      have HLE := hide (nd_level (hn.stay hb))
      rcases hn.cases' with ⟨A', c', v, hlv, hes', hv, hP', hc', hB'⟩ | ⟨m, ks, hlv, hes', hF⟩
      · obtain rfl : pre' = p := part_neg i1 HZ.out (by omega)
        subst hlv hes'
        have HF := hide (show RankOut w pre' es (.returned (.tuple #[.int .i64 ((A.length : Nat) : Int), .int .i64 0])) wr from ⟨A, _, HMID.out.one2, rfl, hb⟩)
        clear hn hm htp hb i1 i2 i3 i4 i5 i6 i7 hpw hcvr hcv hv hP' hc' hB'
        go_wp2_with fail
        refine HCV.out.mono ?_
        rintro e w2 ⟨rfl, rfl⟩
        go_wp2_with fail
        refine HLE.out.mono ?_
        rintro e w2 ⟨rfl, rfl⟩
        go_wp2
        simp only [Exit.jump]
        go_ret2
        exact HF.out
      · subst hlv hes'
        have hfk : FK k ⟨g', m, pre', ks⟩ := Fork.fk (f := ⟨g', m, pre', ks⟩) hF
        have hm64 := hF.lv
        have ha16 : ((addrOf p m : Nat) : Int) ≤ 65535 := by
          have := pow_le_16 (addr_lt_pow HZ.out m) hk
          omega
        have ha0 : (0 : Int) ≤ ((addrOf p m : Nat) : Int) := by omega
        have hm0 : decide ((m : Int) < 0) = false := by simp
        have HF := hide hF
        have HFK := hide hfk
        have HCVP := hide hcv
        have HSO := hide hF.sorted
        have HAT := hide (fun q (hq : q ∈ ks) => pow_le_16 (hF.kid q hq).2.2.2.2 hk)
        have HAD := hide (zb_addr PA k p pc m wr hpw hk1 hk hm64)
        have H0 := hide (nd_from_0 (hF.stay hb))
        clear hn hm htp hb i1 i2 i3 i4 i5 i6 i7 hpw hcvr hcv hfk hF
        go_wp2_with fail
        refine HCV.out.mono ?_
        rintro e w2 ⟨rfl, rfl⟩
        go_wp2_with fail
        refine HLE.out.mono ?_
        rintro e w2 ⟨rfl, rfl⟩
        go_wp2_with fail
        refine HLE.out.mono ?_
        rintro e w2 ⟨rfl, rfl⟩
        go_wp2_with fail
        refine HAD.out.mono ?_
        rintro e w2 ⟨rfl, rfl⟩
        go_wp2_with fail
        refine H0.out.mono ?_
        rintro e w3 ⟨rfl, hb3⟩
        replace HB := hide (below_then HB.out hb3)
        clear hb3 H0
        rename World => wA
        go_wp2
        go_loopw [7, 11, 12] (fun x7 x11 x12 wr => ∃ (j : Nat), x7 = .int .i64 (((A ++ kidEs (ks.take j)).length : Nat) : Int) ∧ x11 = .int .i64 ((kAt ks j : Nat) : Int) ∧ x12 = kPt ks j ∧ j ≤ ks.length ∧ (∀ (i : Nat) (q : Kid), ks[i]? = some q → i < j → q.at_ < addrOf p m) ∧ Below w.heap.size w wr) (fun _ x11 x12 _ => fromM x11 x12)
        case atStart => exact ⟨0, by simp [kidEs], rfl, rfl, Nat.zero_le _, fun i q _ hi => absurd hi (by omega), HB.out⟩
        case round =>
          obtain ⟨j, rfl, rfl, rfl, hj, hlo, hb⟩ := hrel
          have HLO := hide hlo
          have HBr := hide hb
          rename World => wz
          clear hlo hb
          by_cases hin : ∃ q, ks[j]? = some q ∧ q.at_ < addrOf p m
          · obtain ⟨q, hq, hqa⟩ := hin
            rw [kAt_some hq, kPt_some hq]
            have hqm := List.mem_of_getElem? hq
            have hqa1 : ((q.at_ : Nat) : Int) ≤ 65535 := by have := HAT.out q hqm; omega
            have e5 : decide (q.at_ < addrOf p m) = true := by simpa using hqa
            have hk2 := HF.out.kid q hqm
            have hlq : (A ++ kidEs (ks.take j)).length + q.es.length ≤ 60000 := by
              have h2 := congrArg List.length (kidEs_at hq)
              simp only [List.length_append] at h2 ⊢
              omega
            have HCO := hide (rk_count (hk2.1.stay HBr.out) (by omega))
            have HQ := hide hq
            have HQA := hide hqa
            have hl1 : (((A ++ kidEs (ks.take j)).length : Nat) : Int) ≤ 60000 := by omega
            have hl2 : ((q.es.length : Nat) : Int) ≤ 60000 := by omega
            have hsum := kidEs_take hq
            have HSUM := hide (show (((A ++ kidEs (ks.take (j + 1))).length : Nat) : Int) = (((A ++ kidEs (ks.take j)).length : Nat) : Int) + ((q.es.length : Nat) : Int) by rw [hsum]; simp only [List.length_append]; omega)
            generalize hLL : (A ++ kidEs (ks.take j)).length = LL at *
            have HLL := hide hLL
            clear hq hqm hqa hk2 hlq hsum hLL
            go_wp2_with fail
            refine HCO.out.mono ?_
            rintro e w5 ⟨rfl, hb5⟩
            have HN := hide (nd_from_next ((HF.out.stay (below_then HBr.out hb5))) HQ.out)
            have HB5 := hide (below_then HBr.out hb5)
            clear hb5 HCO
            go_wp2_with fail
            refine HN.out.mono ?_
            rintro e w6 ⟨rfl, hb6⟩
            have HB6 := hide (below_then HB5.out hb6)
            clear hb6 HN
            go_wp2
            go_roundw
            case rel =>
              refine ⟨j + 1, by rw [HSUM.out], rfl, rfl, by have := (List.getElem?_eq_some_iff.1 HQ.out).1; omega, fun i r hr hi => ?_, HB6.out⟩
              rcases Nat.eq_or_lt_of_le (Nat.le_of_lt_succ hi) with h1 | h1
              · subst h1
                rw [HQ.out] at hr
                injection hr with hr
                subst hr
                exact HQA.out
              · exact HLO.out i r hr h1
            case measure => exact fromM_lt HSO.out HAT.out HQ.out
          · have hhi : ∀ q, ks[j]? = some q → addrOf p m ≤ q.at_ := fun q hq => Nat.le_of_not_lt fun h => hin ⟨q, hq, h⟩
            have hkd := nd_kid_at (HF.out.stay HBr.out) (addrOf p m)
            have hspl := kid_split_at HSO.out hj HLO.out hhi
            have hjx : (∃ q, ks[j]? = some q ∧ decide (q.at_ < addrOf p m) = false) ∨ ks.length ≤ j := by
              rcases Nat.lt_or_ge j ks.length with h | h
              · exact .inl ⟨ks[j], List.getElem?_eq_getElem h, by have := hhi _ (List.getElem?_eq_getElem h); simpa using this⟩
              · exact .inr h
            have HHX := hide hjx
            clear hin hhi
            obtain ⟨LL, hLL⟩ : ∃ LL, (A ++ kidEs (ks.take j)).length = LL := ⟨_, rfl⟩
            rw [hLL]
            have HLL := hide hLL
            clear hLL
            rcases hspl with ⟨q, hq, hqa, hka, hlo2, hhi2⟩ | ⟨hka, hlo2, hhi2⟩
            · rw [hka] at hkd
              have HKD := hide hkd
              have HMK := hide (HMID.out.kid HFK.out HZ.out HCVP.out rfl hq hlo2 hhi2)
              have HKQ := hide (HF.out.kid q (List.mem_of_getElem? hq))
              rw [kAt_some hq, kPt_some hq]
              have e5 : decide (q.at_ < addrOf p m) = false := by simp; omega
              clear hq hqa hka hlo2 hhi2 hkd hjx
              go_wp2_with fail
              refine HKD.out.mono ?_
              rintro e w5 ⟨rfl, hb5⟩
              have HB5 := hide (below_then HBr.out hb5)
              unfold ptrOf
              simp only [Option.map_some]
              clear hb5
              go_wp2
              go_step3
              refine ⟨rfl, ⟨some (q.blk, ⟨q.lv, q.pre, q.es⟩), A ++ kidEs (ks.take j), _, _, _, _, _, _, _, _, _, _, _, _, _, _, _, _, _, _, _, _, _, _, _, _, _, _, _, _, _, _, _, _, _, _, _, _, _, _, _, _, _, _, _, _, _, _, _, _, _, _, _, _, _, _, _, _, _, _, _, _, _, _, _, _, _, _, _, _, _, _, _, by rw [HLL.out]; rfl, fun x hx => (by injection hx with hx; subst hx; exact HKQ.out.1), HMK.out, HB5.out⟩, ?_⟩
              show nlv w (.pointer (some ⟨q.blk, 0, none⟩)) < nlv w (.pointer (some ⟨g', 0, none⟩))
              rw [nlv_node HKQ.out.1, HLV.out]
              have h1 := HKQ.out.2.1
              have h2 := HKQ.out.1.info.2.2.1
              omega
            · rw [hka] at hkd
              have HKD := hide hkd
              have HMK := hide (HMID.out.gap HFK.out HZ.out HCVP.out rfl hlo2 hhi2)
              clear hka hlo2 hhi2 hkd hjx
              have hg0 : nlv w (.pointer none) < nlv w (.pointer (some ⟨g', 0, none⟩)) := by
                rw [HLV.out]
                show 0 < _
                omega
              have HG0 := hide hg0
              clear hg0
              rcases HHX.out with ⟨q, hq, he5⟩ | hlen
              · rw [kAt_some hq, kPt_some hq]
                clear hq
                go_wp2_with fail
                refine HKD.out.mono ?_
                rintro e w5 ⟨rfl, hb5⟩
                have HB5 := hide (below_then HBr.out hb5)
                unfold ptrOf
                simp only [Option.map_none]
                clear hb5
                go_wp2
                go_step3
                exact ⟨rfl, ⟨none, A ++ kidEs (ks.take j), _, _, _, _, _, _, _, _, _, _, _, _, _, _, _, _, _, _, _, _, _, _, _, _, _, _, _, _, _, _, _, _, _, _, _, _, _, _, _, _, _, _, _, _, _, _, _, _, _, _, _, _, _, _, _, _, _, _, _, _, _, _, _, _, _, _, _, _, _, _, _, by rw [HLL.out]; rfl, fun x hx => (by cases hx), HMK.out, HB5.out⟩, HG0.out⟩
              · rw [kAt_none hlen, kPt_none hlen]
                clear hlen
                go_wp2_with fail
                refine HKD.out.mono ?_
                rintro e w5 ⟨rfl, hb5⟩
                have HB5 := hide (below_then HBr.out hb5)
                unfold ptrOf
                simp only [Option.map_none]
                clear hb5
                go_wp2
                go_step3
                exact ⟨rfl, ⟨none, A ++ kidEs (ks.take j), _, _, _, _, _, _, _, _, _, _, _, _, _, _, _, _, _, _, _, _, _, _, _, _, _, _, _, _, _, _, _, _, _, _, _, _, _, _, _, _, _, _, _, _, _, _, _, _, _, _, _, _, _, _, _, _, _, _, _, _, _, _, _, _, _, _, _, _, _, _, _, by rw [HLL.out]; rfl, fun x hx => (by cases hx), HMK.out, HB5.out⟩, HG0.out⟩
end Go.Proofs.YtnopacldaoekiaaGreat
