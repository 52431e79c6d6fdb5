/- walk: the last entry ahead of a point. -/
import Derived.Test.YtnopacldaoekiaaWkE
import Derived.Test.YtnopacldaoekiaaWkF
import Derived.Test.YtnopacldaoekiaaWkS
import Derived.Test.YtnopacldaoekiaaRkA
set_option linter.unusedSimpArgs false
set_option linter.unusedVariables false
namespace Go.Proofs.Ytnopacldaoekiaa
open Go.RowKit
def AheadOut (w : World) (k : Nat) (p : List Nat) (v : Nat) (es : List Ent) (e : Ending) (w' : World) : Prop := ∃ (A B : List Ent), Mid p es A [(p, v)] B ∧ EntOut w k A.getLast? e w'
set_option maxHeartbeats 8000000 in
set_option maxRecDepth 100000 in
theorem walk_ahead {w : World} {k g : Nat} {lv : Int} {pre : List Nat} {es : List Ent} (h : NodeOf w k g lv pre es) (hk1 : 1 ≤ k) (hk : k ≤ 16) {PA : Option Addr} {pc v0 : Nat} {p : List Nat} (hp : Pt w PA k p) (hv : (p, v0) ∈ es) : Calls Try.prog 77 #[.pointer (some ⟨g, 0, none⟩), .slice PA k pc] w (AheadOut w k p v0 es) := by
  have b1 := (Below.refl w.heap.size w).alloc (Nat.le_refl _) (.cells #[.slice none 0 0, .int .u64 0] 27)
  have hN := Blk.new w 27 #[.slice none 0 0, .int .u64 0]
  have HB0 := hide b1
  have HN0 := hide hN
  have H := hide h
  have HP := hide hp
  have HZ := hide hp.zp
  have HV0 := hide hv
  clear b1 hN h hp hv
  go_enter Try.func77, Try.ntmps77
  go_wp2
  refine wp_scope_goto 0 (fun a' wr => ∃ (g' : Nat) (lv' : Int) (pre' : List Nat) (es' A B : List Ent) (top : Option (Nat × NT)) (u2 u3 u7 u8 u9 u10 u11 u12 u13 u14 u15 u16 u17 u18 u19 u20 u21 u22 u23 u24 u25 u26 u27 u28 u29 u30 u31 u32 u33 u34 u35 u36 u37 u38 u39 u40 u41 u42 : Value), a' = { tmps := #[.pointer (some ⟨g', 0, none⟩), .slice PA k pc, u2, u3, .pointer (some ⟨w.heap.size, 0, none⟩), .bool false, ptrOf top, u7, u8, u9, u10, u11, u12, u13, u14, u15, u16, u17, u18, u19, u20, u21, u22, u23, u24, u25, u26, u27, u28, u29, u30, u31, u32, u33, u34, u35, u36, u37, u38, u39, u40, u41, u42], defers := [] } ∧ NodeOf w k g' lv' pre' es' ∧ Mid p es A es' B ∧ TopOk w k top ∧ (esOf top).getLast? = A.getLast? ∧ Blk wr w.heap.size 27 #[.slice none 0 0, .int .u64 0] ∧ Below w.heap.size w wr) (fun a' _ => nlv w (a'.tmps.getD 0 undef)) (by rfl) (by rfl) ?_ ?_
  · go_wp2
    exact ⟨g, lv, pre, es, [], [], none, _, _, _, _, _, _, _, _, _, _, _, _, _, _, _, _, _, _, _, _, _, _, _, _, _, _, _, _, _, _, _, _, _, _, _, _, _, _, rfl, H.out, Mid.start p es, fun x hx => (by cases hx), rfl, HN0.out, HB0.out⟩
  · rintro a' wr ⟨g', lv', pre', es', A, B, top, u2, u3, u7, u8, u9, u10, u11, u12, u13, u14, u15, u16, u17, u18, u19, u20, u21, u22, u23, u24, u25, u26, u27, u28, u29, u30, u31, u32, u33, u34, u35, u36, u37, u38, u39, u40, u41, u42, rfl, hn, hm, htop, hte, hN, hb⟩
    have hvv := Mid.has (k := k) hm HV0.out
    have HMID := hide hm
    have HTE := hide hte
    have HTK := hide htop
    have HN := hide hN
    have HB := hide hb
    have HLV := hide (nlv_node hn)
    have hi := hn.info
    rcases hn.cases' with ⟨A', c', v, hlv', hes', hvl, hP', hc', hB'⟩ | ⟨m, ks, hlv', hes', hFk⟩
    · subst hlv' hes'
      obtain ⟨rfl, rfl⟩ : p = pre' ∧ v0 = v := by
        rw [List.mem_singleton] at hvv
        injection hvv with h1 h2
        exact ⟨h1, h2⟩
      have HE := hide (nd_entry_leaf (hB'.below hb) (hP'.below hb) hk)
      clear hn hm htop hte hN hb hvv hi hvl hP' hc' hB'
      go_wp2_with fail
      refine HE.out.mono ?_
      rintro e w1 ⟨BB, d, rfl, ho, hb1⟩
      have hal := (Below.refl w1.heap.size w1).alloc (Nat.le_refl _) (.cells #[.slice BB k d, .int .u64 (v0 : Int)] 27)
      have hb2 := below_then hb1 hal
      replace HN := hide (HN.out.below hb2)
      replace HB := hide (below_then HB.out hb2)
      clear ho hb1 hal hb2 HE
      go_upto_region 3 with fail
      generalize w1.alloc (.cells #[.slice BB k d, .int .u64 (v0 : Int)] 27) = wq at *
      have HFT := hide (walk_upto_none hk (HTK.out.stay HB.out))
      go_wp2_with fail
      refine HFT.out.mono ?_
      rintro e w9 ⟨r, ok, rfl, hi9, hb9⟩
      have hN9 := HN.out.below hb9
      have z0 := hN9.frozen 0
      have z1 := hN9.frozen 1
      have y0 := hN9.cell 0
      have y1 := hN9.cell 1
      simp at y0 y1
      have e4 := hN9.set1 (i := 0) (.slice r.A r.n r.c)
      have e3 := e4.set1 (i := 1) (.int .u64 (r.v : Int))
      have hi3 := (hi9.keep (Keep.set hN9 (i := 0) (by decide) (.slice r.A r.n r.c))).keep (Keep.set e4 (i := 1) (by decide) (.int .u64 (r.v : Int)))
      have b3 := (((below_then HB.out hb9).setCell (p := ⟨w.heap.size, 0, none⟩) (Nat.le_refl _) (.slice r.A r.n r.c)).setCell (p := ⟨w.heap.size, 1, none⟩) (Nat.le_refl _) (.int .u64 (r.v : Int)))
      have g0 := e3.cell 0
      have g1 := e3.cell 1
      simp at g0 g1
      have HB3 := hide b3
      have HI := hide hi3
      clear hi9 hb9 hN9 e4 e3 b3 hi3
      go_wp2
      simp only [Exit.jump]
      refine bodyPost_ret (v := .tuple #[.agg #[.slice r.A r.n r.c, .int .u64 (r.v : Int)], .bool ok]) (by simp [results, Try.results77, go_sem, g0, g1]) rfl ⟨_, _, HMID.out, r, ok, rfl, ?_, HB3.out⟩
      rw [← HTE.out]
      exact HI.out
    · subst hlv' hes'
      have hfk : FK k ⟨g', m, pre', ks⟩ := Fork.fk (f := ⟨g', m, pre', ks⟩) hFk
      have hne : ∀ q ∈ ks, q.es ≠ [] := fun q hq => (hFk.kid q hq).1.info.2.1
      obtain ⟨q0, hq0, hvq⟩ := mem_kidEs.1 hvv
      have hkq := hfk.es q0 hq0 _ hvq
      have hcv : part pre' p ≤ (m : Int) := (part_le_iff hi.1 HZ.out m (by omega)).2 fun b hb => (hkq.2.2 b (show m < b by omega)).symm
      have hqa0 : q0.at_ = addrOf p m := hkq.2.1.symm
      obtain ⟨j, q, hq, hqa, hka, hlo, hhi⟩ : ∃ (j : Nat) (q : Kid), ks[j]? = some q ∧ q.at_ = addrOf p m ∧ kidAt ks (addrOf p m) = some (q.blk, ⟨q.lv, q.pre, q.es⟩) ∧ (∀ r ∈ ks.take j, r.at_ < addrOf p m) ∧ (∀ r ∈ ks.drop (j + 1), addrOf p m < r.at_) := by
        rcases kid_split hFk.sorted (addrOf p m) with h | ⟨j, hj, hka, hlo, hhi⟩
        · exact h
        · exact absurd hqa0 (kidAt_none hka q0 hq0)
      obtain ⟨A', c', gs, hp', hS, hBk⟩ := (hFk.stay hb).head
      have HE := hide (nd_entry_fork hBk)
      have hm64 := hFk.lv
      have ha16 : ((addrOf p m : Nat) : Int) ≤ 65535 := by
        have := pow_le_16 (addr_lt_pow HZ.out m) hk
        omega
      have ha0 : (0 : Int) ≤ ((addrOf p m : Nat) : Int) := by omega
      have HMK := hide (HMID.out.kid hfk HZ.out hcv rfl hq hlo hhi)
      have HKQ := hide (hFk.kid q (List.mem_of_getElem? hq))
      have HF := hide hFk
      have HKA := hide hka
      have HHNE := hide hne
      clear hn hm htop hte hN hb hvv hi hfk hq0 hvq hkq hcv hqa0 hka hp' hS hBk hFk hne
      go_wp2_with fail
      refine HE.out.mono ?_
      rintro e w1 ⟨rfl, hb1⟩
      have hal := (Below.refl w1.heap.size w1).alloc (Nat.le_refl _) (.cells #[.slice none 0 0, .int .u64 0] 27)
      have hb2 := below_then hb1 hal
      replace HN := hide (HN.out.below hb2)
      replace HB := hide (below_then HB.out hb2)
      have HLE := hide (nd_level ((HF.out.stay HB.out).node))
      have HAD := hide (zb_addr PA k p pc m (w1.alloc (.cells #[.slice none 0 0, .int .u64 0] 27)) (HP.out.below HB.out) hk1 hk hm64)
      clear hb1 hal hb2 HE
      go_upto_region 3 with fail
      generalize w1.alloc (.cells #[.slice none 0 0, .int .u64 0] 27) = wq at *
      have HJ := hide (show Calls Try.prog 80 #[.pointer (some ⟨g', 0, none⟩), .int .i64 ((addrOf p m : Int) - 1)] wq fun e w' => (∃ a : Int, e = .returned (.tuple #[.int .i64 a, kPtP ks j])) ∧ Below wq.heap.size wq w' from by
        cases j with
        | zero =>
          refine (nd_upto_no (HF.out.stay HB.out) _ (fun i r hr => ?_)).mono fun e w' ⟨h1, h2⟩ => ⟨⟨_, h1⟩, h2⟩
          rcases Nat.eq_zero_or_pos i with h1 | h1
          · subst h1
            rw [hq] at hr
            injection hr with hr
            subst hr
            omega
          · have := hhi r (mem_drop_of hr h1)
            omega
        | succ j =>
          refine (nd_upto_j (HF.out.stay HB.out) j (by have := (List.getElem?_eq_some_iff.1 hq).1; omega) _ (fun r hr => ?_) (fun i r hr hi => ?_)).mono fun e w' ⟨h1, h2⟩ => ⟨⟨_, h1⟩, h2⟩
          · have := hlo r (mem_take_of hr (Nat.lt_succ_self _))
            omega
          · rcases Nat.eq_or_lt_of_le (Nat.succ_le_of_lt hi) with h1 | h1
            · subst h1
              rw [hq] at hr
              injection hr with hr
              subst hr
              omega
            · have := hhi r (mem_drop_of hr h1)
              omega)
      have hjl : j ≤ ks.length := by have := (List.getElem?_eq_some_iff.1 hq).1; omega
      clear hlo hhi hq hqa
      go_wp2_with fail
      refine HLE.out.mono ?_
      rintro e w2 ⟨rfl, rfl⟩
      go_wp2_with fail
      refine HAD.out.mono ?_
      rintro e w2 ⟨rfl, rfl⟩
      rcases kPtP_cases ks j hjl with ⟨r, hr⟩ | hr
      · rw [show kPtP ks j = .pointer (some ⟨r.blk, 0, none⟩) from kPtP_some hr] at HJ
        have HTN : Hid (TopOk w k (some (r.blk, ⟨r.lv, r.pre, r.es⟩))) := hide (by intro x hx; injection hx with hx; subst hx; exact (HF.out.kid r (kPtP_mem hr)).1)
        have HTE2 := hide (show (esOf (some (r.blk, (⟨r.lv, r.pre, r.es⟩ : NT)))).getLast? = (A ++ kidEs (ks.take j)).getLast? from (last_take_some HHNE.out hr).symm)
        clear hr
        go_wp2_with fail
        refine HJ.out.mono ?_
        rintro e w3 ⟨⟨aa, rfl⟩, hb3⟩
        replace HN := hide (HN.out.below hb3)
        replace HB := hide (below_then HB.out hb3)
        have hkd := nd_kid_at (HF.out.stay HB.out) (addrOf p m)
        rw [HKA.out] at hkd
        have HKD := hide hkd
        clear hkd hb3 HJ
        go_wp2_with fail
        refine HKD.out.mono ?_
        rintro e w4 ⟨rfl, hb4⟩
        replace HN := hide (HN.out.below hb4)
        replace HB := hide (below_then HB.out hb4)
        unfold ptrOf
        simp only [Option.map_some]
        clear hb4 HKD
        go_wp2
        go_step3
        refine ⟨rfl, ⟨q.blk, q.lv, q.pre, q.es, _, _, some (r.blk, ⟨r.lv, r.pre, r.es⟩), _, _, _, _, _, _, _, _, _, _, _, _, _, _, _, _, _, _, _, _, _, _, _, _, _, _, _, _, _, _, _, _, _, _, _, _, _, _, rfl, HKQ.out.1, HMK.out, HTN.out, HTE2.out, HN.out, HB.out⟩, ?_⟩
        show nlv w (.pointer (some ⟨q.blk, 0, none⟩)) < nlv w (.pointer (some ⟨g', 0, none⟩))
        rw [nlv_node HKQ.out.1, HLV.out]
        have h1 := HKQ.out.2.1
        have h2 := HKQ.out.1.info.2.2.1
        omega
      · rw [show kPtP ks j = .pointer none from kPtP_none hr] at HJ
        have HTE2 := hide (show (esOf top).getLast? = (A ++ kidEs (ks.take j)).getLast? by rw [HTE.out, last_take_none hr])
        clear hr
        go_wp2_with fail
        refine HJ.out.mono ?_
        rintro e w3 ⟨⟨aa, rfl⟩, hb3⟩
        replace HN := hide (HN.out.below hb3)
        replace HB := hide (below_then HB.out hb3)
        have hkd := nd_kid_at (HF.out.stay HB.out) (addrOf p m)
        rw [HKA.out] at hkd
        have HKD := hide hkd
        clear hkd hb3 HJ
        go_wp2_with fail
        refine HKD.out.mono ?_
        rintro e w4 ⟨rfl, hb4⟩
        replace HN := hide (HN.out.below hb4)
        replace HB := hide (below_then HB.out hb4)
        unfold ptrOf
        simp only [Option.map_some]
        clear hb4 HKD
        go_wp2
        go_step3
        refine ⟨rfl, ⟨q.blk, q.lv, q.pre, q.es, _, _, top, _, _, _, _, _, _, _, _, _, _, _, _, _, _, _, _, _, _, _, _, _, _, _, _, _, _, _, _, _, _, _, _, _, _, _, _, _, _, rfl, HKQ.out.1, HMK.out, HTK.out, HTE2.out, HN.out, HB.out⟩, ?_⟩
        show nlv w (.pointer (some ⟨q.blk, 0, none⟩)) < nlv w (.pointer (some ⟨g', 0, none⟩))
        rw [nlv_node HKQ.out.1, HLV.out]
        have h1 := HKQ.out.2.1
        have h2 := HKQ.out.1.info.2.2.1
        omega
end Go.Proofs.Ytnopacldaoekiaa
