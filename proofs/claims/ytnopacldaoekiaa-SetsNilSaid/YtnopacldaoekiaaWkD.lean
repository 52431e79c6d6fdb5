/- walk: From. -/
import Derived.Test.YtnopacldaoekiaaWkS
set_option linter.unusedSimpArgs false
set_option linter.unusedVariables false
namespace Go.Proofs.Ytnopacldaoekiaa
open Go.RowKit
def FromOut (w : World) (k : Nat) (p : List Nat) (es : List Ent) (e : Ending) (w' : World) : Prop :=
  ∃ (A B : List Ent), Cut2 p es A B ∧ EntOut w k B.head? e w'
theorem walk_from_none {w : World} {k : Nat} {top : Option (Nat × NT)} (hk : k ≤ 16) (h : TopOk w k top) : Calls Try.prog 21 #[ptrOf top] w (EntOut w k (esOf top).head?) := by
  cases top with
  | none => exact walk_first_nil w k
  | some x => exact walk_first (h x rfl) hk
set_option maxHeartbeats 1000000 in
set_option maxRecDepth 100000 in
theorem walk_from_nil (A : Option Addr) (n c : Nat) (w : World) (k : Nat) : Calls Try.prog 23 #[.pointer none, .slice A n c] w (EntOut w k none) := by
  have b1 := (Below.refl w.heap.size w).alloc (Nat.le_refl _) (.cells #[.slice none 0 0, .int .u64 0] 27)
  have HB := hide b1
  have hN := Blk.new w 27 #[.slice none 0 0, .int .u64 0]
  have y0 := hN.cell 0
  have y1 := hN.cell 1
  simp at y0 y1
  clear b1 hN
  go_enter Try.func23, Try.ntmps23
  go_wp2
  go_step3
  go_wp2
  rw [Exit.noGoto_ret]
  refine bodyPost_ret (v := .tuple #[.agg #[.slice none 0 0, .int .u64 0], .bool false]) (by simp [results, Try.results23, go_sem, y0, y1]) rfl ⟨⟨none, 0, 0, [], 0⟩, false, rfl, ⟨ER.okT.nil _, .inr ⟨rfl, rfl, rfl⟩⟩, HB.out⟩
set_option maxHeartbeats 1000000 in
set_option maxRecDepth 100000 in
theorem walk_from_dim {w : World} {k g : Nat} {lv : Int} {pre : List Nat} {es : List Ent} (h : NodeOf w k g lv pre es) (A : Option Addr) (n c : Nat) (hn : n ≠ k) : Calls Try.prog 23 #[.pointer (some ⟨g, 0, none⟩), .slice A n c] w (EntOut w k none) := by
  have b1 := (Below.refl w.heap.size w).alloc (Nat.le_refl _) (.cells #[.slice none 0 0, .int .u64 0] 27)
  have HB := hide b1
  have hN := Blk.new w 27 #[.slice none 0 0, .int .u64 0]
  have y0 := hN.cell 0
  have y1 := hN.cell 1
  simp at y0 y1
  have HK := hide (nd_k (h.stay b1))
  have e1 : ((n : Int) != (k : Int)) = true := by simp; omega
  clear b1 hN h hn
  go_enter Try.func23, Try.ntmps23
  go_wp2
  go_step3
  go_wp2_with fail
  refine HK.out.mono ?_
  rintro e w1 ⟨rfl, rfl⟩
  go_wp2
  rw [Exit.noGoto_ret]
  refine bodyPost_ret (v := .tuple #[.agg #[.slice none 0 0, .int .u64 0], .bool false]) (by simp [results, Try.results23, go_sem, y0, y1]) rfl ⟨⟨none, 0, 0, [], 0⟩, false, rfl, ⟨ER.okT.nil _, .inr ⟨rfl, rfl, rfl⟩⟩, HB.out⟩
set_option maxHeartbeats 8000000 in
set_option maxRecDepth 100000 in
theorem walk_from {w : World} {k g : Nat} {lv : Int} {pre : List Nat} {es : List Ent} (h : NodeOf w k g lv pre es) (hk1 : 1 ≤ k) (hk : k ≤ 16) {PA : Option Addr} {pc : Nat} {p : List Nat} (hp : Pt w PA k p) : Calls Try.prog 23 #[.pointer (some ⟨g, 0, none⟩), .slice PA k pc] w (FromOut w k p es) := by
  have b1 := (Below.refl w.heap.size w).alloc (Nat.le_refl _) (.cells #[.slice none 0 0, .int .u64 0] 27)
  have hN := Blk.new w 27 #[.slice none 0 0, .int .u64 0]
  have HB0 := hide b1
  have HN0 := hide hN
  have H := hide h
  have HP := hide hp
  have HZ := hide hp.zp
  have HK := hide (nd_k (h.stay b1))
  have e1 : ((k : Int) != (k : Int)) = false := by simp
  clear b1 hN h hp
  go_enter Try.func23, Try.ntmps23
  go_wp2
  refine wp_scope_goto2 0 (fun a' wr => ∃ (g' : Nat) (lv' : Int) (pre' : List Nat) (es' A B : List Ent) (top : Option (Nat × NT)) (u2 u3 u7 u8 u9 u10 u11 u12 u13 u14 u15 u16 u17 u18 u19 u20 u21 u22 u23 u24 u25 u26 u27 u28 u29 u30 u31 u32 u33 u34 u35 u36 u37 u38 u39 u40 u41 u42 u43 u44 u45 u46 u47 u48 u49 u50 u51 u52 u53 u54 u55 u56 u57 u58 u59 u60 u61 u62 u63 u64 u65 u66 u67 u68 u69 u70 : Value), a' = { tmps := #[.pointer (some ⟨g', 0, none⟩), .slice PA k pc, u2, u3, .pointer (some ⟨w.heap.size, 0, none⟩), .bool false, ptrOf top, u7, u8, u9, u10, u11, u12, u13, u14, u15, u16, u17, u18, u19, u20, u21, u22, u23, u24, u25, u26, u27, u28, u29, u30, u31, u32, u33, u34, u35, u36, u37, u38, u39, u40, u41, u42, u43, u44, u45, u46, u47, u48, u49, u50, u51, u52, u53, u54, u55, u56, u57, u58, u59, u60, u61, u62, u63, u64, u65, u66, u67, u68, u69, u70], defers := [] } ∧ NodeOf w k g' lv' pre' es' ∧ Mid p es A es' B ∧ TopOk w k top ∧ (esOf top).head? = B.head? ∧ Blk wr w.heap.size 27 #[.slice none 0 0, .int .u64 0] ∧ Below w.heap.size w wr) (fun a' _ => nlv w (a'.tmps.getD 0 undef)) (by rfl) (by rfl) (by rfl) ?_ ?_
  · go_wp2_with fail
    refine HK.out.mono ?_
    rintro e w1 ⟨rfl, rfl⟩
    go_wp2
    exact ⟨g, lv, pre, es, [], [], none, _, _, _, _, _, _, _, _, _, _, _, _, _, _, _, _, _, _, _, _, _, _, _, _, _, _, _, _, _, _, _, _, _, _, _, _, _, _, _, _, _, _, _, _, _, _, _, _, _, _, _, _, _, _, _, _, _, _, _, _, _, _, _, _, _, _, rfl, H.out, Mid.start p es, fun x hx => (by cases hx), rfl, HN0.out, HB0.out⟩
  · rintro a' wr ⟨g', lv', pre', es', A, B, top, u2, u3, u7, u8, u9, u10, u11, u12, u13, u14, u15, u16, u17, u18, u19, u20, u21, u22, u23, u24, u25, u26, u27, u28, u29, u30, u31, u32, u33, u34, u35, u36, u37, u38, u39, u40, u41, u42, u43, u44, u45, u46, u47, u48, u49, u50, u51, u52, u53, u54, u55, u56, u57, u58, u59, u60, u61, u62, u63, u64, u65, u66, u67, u68, u69, u70, rfl, hn, hm, htop, hte, hN, hb⟩
    have HMID := hide hm
    have HTE := hide hte
    have HTK := hide htop
    have HN := hide hN
    have HB := hide hb
    have HLV := hide (nlv_node hn)
    have HND := hide hn
    obtain ⟨i1, i2, i3, i4, i5, i6, i7⟩ := hn.info
    have HNE := hide i2
    have HZ2 := hide i1
    have hpw := HP.out.below hb
    by_cases hcv : part pre' p ≤ lv'
    case neg =>
      have hsd := walk_side_out (c := pc) (hn.stay hb) hk1 hk hpw (by omega)
      rcases miss_side i1 HZ.out i3 (by omega) (fun e he => (i5 e he).2.2) with ⟨hc, hall⟩ | ⟨hc, hall⟩
      · rw [hc] at hsd
        have HSD := hide hsd
        have HALL := hide hall
        clear hn hm htop hte hN hb i1 i2 i3 i4 i5 i6 i7 hpw hsd hc hall hcv
        go_wp2_with fail
        refine HSD.out.mono ?_
        rintro e w2 ⟨rfl, hb2⟩
        replace HN := hide (HN.out.below hb2)
        replace HB := hide (below_then HB.out hb2)
        have HFN := hide (walk_first (HND.out.stay HB.out) hk)
        have HTOP := hide (walk_from_none hk (HTK.out.stay HB.out))
        clear hb2 HSD
        go_wp2_with fail
        refine HTOP.out.mono ?_
        rintro e w9 ⟨r, ok, rfl, hi, hb9⟩
        have hN9 := HN.out.below hb9
        have z0 := hN9.frozen 0
        have z1 := hN9.frozen 1
        have y0 := hN9.cell 0
        have y1 := hN9.cell 1
        simp at y0 y1
        have e4 := hN9.set1 (i := 0) (.slice r.A r.n r.c)
        have e3 := e4.set1 (i := 1) (.int .u64 (r.v : Int))
        have hi3 := (hi.keep (Keep.set hN9 (i := 0) (by decide) (.slice r.A r.n r.c))).keep (Keep.set e4 (i := 1) (by decide) (.int .u64 (r.v : Int)))
        have b3 := (((below_then HB.out hb9).setCell (p := ⟨w.heap.size, 0, none⟩) (Nat.le_refl _) (.slice r.A r.n r.c)).setCell (p := ⟨w.heap.size, 1, none⟩) (Nat.le_refl _) (.int .u64 (r.v : Int)))
        have g0 := e3.cell 0
        have g1 := e3.cell 1
        simp at g0 g1
        have HB3 := hide b3
        have HI := hide hi3
        clear hi hb9 hN9 e4 e3 b3 hi3
        go_wp2
        simp only [Exit.jump]
        refine bodyPost_ret (v := .tuple #[.agg #[.slice r.A r.n r.c, .int .u64 (r.v : Int)], .bool ok]) (by simp [results, Try.results23, go_sem, g0, g1]) rfl ⟨_, _, (HMID.out.lt HALL.out).cut2, r, ok, rfl, ?_, HB3.out⟩
        rw [← HTE.out]
        exact HI.out
      · rw [hc] at hsd
        have HSD := hide hsd
        have HALL := hide hall
        clear hn hm htop hte hN hb i1 i2 i3 i4 i5 i6 i7 hpw hsd hc hall hcv
        go_wp2_with fail
        refine HSD.out.mono ?_
        rintro e w2 ⟨rfl, hb2⟩
        replace HN := hide (HN.out.below hb2)
        replace HB := hide (below_then HB.out hb2)
        have HFN := hide (walk_first (HND.out.stay HB.out) hk)
        have HTOP := hide (walk_from_none hk (HTK.out.stay HB.out))
        clear hb2 HSD
        clear HTE HTOP
        go_wp2_with fail
        refine HFN.out.mono ?_
        rintro e w9 ⟨r, ok, rfl, hi, hb9⟩
        have hN9 := HN.out.below hb9
        have z0 := hN9.frozen 0
        have z1 := hN9.frozen 1
        have y0 := hN9.cell 0
        have y1 := hN9.cell 1
        simp at y0 y1
        have e4 := hN9.set1 (i := 0) (.slice r.A r.n r.c)
        have e3 := e4.set1 (i := 1) (.int .u64 (r.v : Int))
        have hi3 := (hi.keep (Keep.set hN9 (i := 0) (by decide) (.slice r.A r.n r.c))).keep (Keep.set e4 (i := 1) (by decide) (.int .u64 (r.v : Int)))
        have b3 := (((below_then HB.out hb9).setCell (p := ⟨w.heap.size, 0, none⟩) (Nat.le_refl _) (.slice r.A r.n r.c)).setCell (p := ⟨w.heap.size, 1, none⟩) (Nat.le_refl _) (.int .u64 (r.v : Int)))
        have g0 := e3.cell 0
        have g1 := e3.cell 1
        simp at g0 g1
        have HB3 := hide b3
        have HI := hide hi3
        clear hi hb9 hN9 e4 e3 b3 hi3
        go_wp2
        simp only [Exit.jump]
        refine bodyPost_ret (v := .tuple #[.agg #[.slice r.A r.n r.c, .int .u64 (r.v : Int)], .bool ok]) (by simp [results, Try.results23, go_sem, g0, g1]) rfl ⟨_, _, (HMID.out.gt HALL.out).cut2, r, ok, rfl, ?_, HB3.out⟩
        rw [head_app HNE.out]
        exact HI.out
    have HSD := hide (walk_side_in (c := pc) (hn.stay hb) hk1 hk hpw hcv)
    have hn' := hn
    rcases hn'.cases' with ⟨A', c', v, hlv, hes, hv, hP', hc', hB'⟩ | ⟨m, ks, hlv, hes, hF⟩
    · obtain rfl : pre' = p := part_neg i1 HZ.out (by omega)
      subst hlv hes
      have HE := hide (nd_entry_leaf (hB'.below hb) (hP'.below hb) hk)
      have HV := hide hv
      clear hn hm htop hte hN hb i1 i2 i3 i4 i5 i6 i7 hpw hcv hv hP' hc' hB'
      go_wp2_with fail
      refine HSD.out.mono ?_
      rintro e w2 ⟨rfl, rfl⟩
      go_wp2_with fail
      refine HE.out.mono ?_
      rintro e w1 ⟨BB, d, rfl, ho, hb1⟩
      have hal := (Below.refl w1.heap.size w1).alloc (Nat.le_refl _) (.cells #[.slice BB k d, .int .u64 (v : Int)] 27)
      have hb2 := below_then HB.out (below_then hb1 hal)
      have hN3 := (HN.out.below hb1).alloc (.cells #[.slice BB k d, .int .u64 (v : Int)] 27)
      have hok : ER.okT (w1.alloc (.cells #[.slice BB k d, .int .u64 (v : Int)] 27)) ⟨BB, k, d, pre', v⟩ := (ER.okT.of_own ho HZ.out HV.out).below hal
      have z0 := hN3.frozen 0
      have z1 := hN3.frozen 1
      have y0 := hN3.cell 0
      have y1 := hN3.cell 1
      simp at y0 y1
      have e4 := hN3.set1 (i := 0) (.slice BB k d)
      have e3 := e4.set1 (i := 1) (.int .u64 (v : Int))
      have hok3 := (hok.keep (Keep.set hN3 (i := 0) (by decide) (.slice BB k d))).keep (Keep.set e4 (i := 1) (by decide) (.int .u64 (v : Int)))
      have b3 := ((hb2.setCell (p := ⟨w.heap.size, 0, none⟩) (Nat.le_refl _) (.slice BB k d)).setCell (p := ⟨w.heap.size, 1, none⟩) (Nat.le_refl _) (.int .u64 (v : Int)))
      have g0 := e3.cell 0
      have g1 := e3.cell 1
      simp at g0 g1
      have HB3 := hide b3
      have HOK := hide hok3
      clear ho hb1 hal hb2 hN3 e4 e3 b3 hok hok3 HE HSD
      go_wp2
      simp only [Exit.jump]
      refine bodyPost_ret (v := .tuple #[.agg #[.slice BB k d, .int .u64 (v : Int)], .bool true]) (by simp [results, Try.results23, go_sem, g0, g1]) rfl ⟨_, _, HMID.out.one2, ⟨BB, k, d, pre', v⟩, true, rfl, ⟨HOK.out, .inl ⟨rfl, rfl, rfl⟩⟩, HB3.out⟩
    · subst hlv hes
      have hfk : FK k ⟨g', m, pre', ks⟩ := Fork.fk (f := ⟨g', m, pre', ks⟩) hF
      have hne : ∀ q ∈ ks, q.es ≠ [] := fun q hq => (hF.kid q hq).1.info.2.1
      obtain ⟨A', c', gs, hp', hS, hBk⟩ := (hF.stay hb).head
      have HE := hide (nd_entry_fork hBk)
      have hm64 := hF.lv
      have ha16 : ((addrOf p m : Nat) : Int) ≤ 65535 := by
        have := pow_le_16 (addr_lt_pow HZ.out m) hk
        omega
      have ha0 : (0 : Int) ≤ ((addrOf p m : Nat) : Int) := by omega
      have HF := hide hF
      have HFK := hide hfk
      have HHNE := hide hne
      have HCV := hide hcv
      have hspl := kid_split hF.sorted (addrOf p m)
      have HSO := hide hF.sorted
      clear hn hm htop hte hN hb i1 i2 i3 i4 i5 i6 i7 hpw hcv hp' hS hBk hF hfk hne
      go_wp2_with fail
      refine HSD.out.mono ?_
      rintro e w2 ⟨rfl, rfl⟩
      go_wp2_with fail
      refine HE.out.mono ?_
      rintro e w1 ⟨rfl, hb1⟩
      have hal := (Below.refl w1.heap.size w1).alloc (Nat.le_refl _) (.cells #[.slice none 0 0, .int .u64 0] 27)
      have hb2 := below_then hb1 hal
      replace HN := hide (HN.out.below hb2)
      replace HB := hide (below_then HB.out hb2)
      have HLE := hide (nd_level ((HF.out.stay HB.out).node))
      have HAD := hide (zb_addr PA k p pc m (w1.alloc (.cells #[.slice none 0 0, .int .u64 0] 27)) (HP.out.below HB.out) hk1 hk hm64)
      clear hb1 hal hb2 HE HSD
      go_wp2_with fail
      refine HLE.out.mono ?_
      rintro e w2 ⟨rfl, rfl⟩
      go_wp2_with fail
      refine HAD.out.mono ?_
      rintro e w2 ⟨rfl, rfl⟩
      rcases hspl with ⟨j, q, hq, hqa, hka, hlo, hhi⟩ | ⟨j, hj, hka, hlo, hhi⟩
      · have HJ := hide (show Calls Try.prog 79 #[.pointer (some ⟨g', 0, none⟩), .int .i64 ((addrOf p m : Int) + 1)] (w1.alloc (.cells #[.slice none 0 0, .int .u64 0] 27)) fun e w' => e = .returned (.tuple #[.int .i64 ((kAt ks (j + 1) : Nat) : Int), kPt ks (j + 1)]) ∧ Below (w1.alloc (.cells #[.slice none 0 0, .int .u64 0] 27)).heap.size (w1.alloc (.cells #[.slice none 0 0, .int .u64 0] 27)) w' from by
          refine nd_from_j (HF.out.stay HB.out) (j + 1) _ (fun i r hr hi => ?_) (fun r hr => ?_)
          · rcases Nat.eq_or_lt_of_le (Nat.le_of_lt_succ hi) with h1 | h1
            · subst h1
              rw [hq] at hr
              injection hr with hr
              subst hr
              omega
            · have := hlo r (mem_take_of hr h1)
              omega
          · have := hhi r (mem_drop_of hr (Nat.le_refl _))
            omega)
        have HMK := hide (HMID.out.kid HFK.out HZ.out HCV.out rfl hq hlo hhi)
        have HKQ := hide (HF.out.kid q (List.mem_of_getElem? hq))
        have hkd := nd_kid_at (HF.out.stay HB.out) (addrOf p m)
        clear hkd
        have HKA := hide hka
        clear hlo hhi hka hq hqa
        rcases kPt_cases ks (j + 1) with ⟨r, hr⟩ | hr
        · have HR := hide hr
          clear hr
          rw [kPt_some HR.out, kAt_some HR.out] at HJ
          go_wp2_with fail
          refine HJ.out.mono ?_
          rintro e w3 ⟨rfl, hb3⟩
          replace HN := hide (HN.out.below hb3)
          replace HB := hide (below_then HB.out hb3)
          have hkd := nd_kid_at (HF.out.stay HB.out) (addrOf p m)
          rw [HKA.out] at hkd
          have HKD := hide hkd
          have HTN : Hid (TopOk w k (some (r.blk, ⟨r.lv, r.pre, r.es⟩))) := hide (by intro x hx; injection hx with hx; subst hx; exact (HF.out.kid r (List.mem_of_getElem? HR.out)).1)
          have HTE2 : Hid ((esOf (some (r.blk, ⟨r.lv, r.pre, r.es⟩))).head? = (kidEs (ks.drop (j + 1)) ++ B).head?) := hide (head_drop_some HHNE.out HR.out).symm
          clear hkd hb3 HJ
          go_wp2_with fail
          refine HKD.out.mono ?_
          rintro e w4 ⟨rfl, hb4⟩
          replace HN := hide (HN.out.below hb4)
          replace HB := hide (below_then HB.out hb4)
          unfold ptrOf
          simp only [Option.map_some, Option.map_none]
          clear hb4 HKD
          go_wp2
          go_step3
          refine ⟨rfl, ⟨q.blk, q.lv, q.pre, q.es, _, _, (some (r.blk, ⟨r.lv, r.pre, r.es⟩)), _, _, _, _, _, _, _, _, _, _, _, _, _, _, _, _, _, _, _, _, _, _, _, _, _, _, _, _, _, _, _, _, _, _, _, _, _, _, _, _, _, _, _, _, _, _, _, _, _, _, _, _, _, _, _, _, _, _, _, _, _, _, _, _, _, _, rfl, HKQ.out.1, HMK.out, HTN.out, HTE2.out, HN.out, HB.out⟩, ?_⟩
          show nlv w (.pointer (some ⟨q.blk, 0, none⟩)) < nlv w (.pointer (some ⟨g', 0, none⟩))
          rw [nlv_node HKQ.out.1, HLV.out]
          have h1 := HKQ.out.2.1
          have h2 := HKQ.out.1.info.2.2.1
          omega
        · have HR := hide hr
          clear hr
          rw [kPt_none HR.out, kAt_none HR.out] at HJ
          go_wp2_with fail
          refine HJ.out.mono ?_
          rintro e w3 ⟨rfl, hb3⟩
          replace HN := hide (HN.out.below hb3)
          replace HB := hide (below_then HB.out hb3)
          have hkd := nd_kid_at (HF.out.stay HB.out) (addrOf p m)
          rw [HKA.out] at hkd
          have HKD := hide hkd
          have HTN : Hid (TopOk w k top) := hide HTK.out
          have HTE2 : Hid ((esOf top).head? = (kidEs (ks.drop (j + 1)) ++ B).head?) := hide (by rw [HTE.out, head_drop_none HR.out])
          clear hkd hb3 HJ
          go_wp2_with fail
          refine HKD.out.mono ?_
          rintro e w4 ⟨rfl, hb4⟩
          replace HN := hide (HN.out.below hb4)
          replace HB := hide (below_then HB.out hb4)
          unfold ptrOf
          simp only [Option.map_some, Option.map_none]
          clear hb4 HKD
          go_wp2
          go_step3
          refine ⟨rfl, ⟨q.blk, q.lv, q.pre, q.es, _, _, top, _, _, _, _, _, _, _, _, _, _, _, _, _, _, _, _, _, _, _, _, _, _, _, _, _, _, _, _, _, _, _, _, _, _, _, _, _, _, _, _, _, _, _, _, _, _, _, _, _, _, _, _, _, _, _, _, _, _, _, _, _, _, _, _, _, _, rfl, HKQ.out.1, HMK.out, HTN.out, HTE2.out, HN.out, HB.out⟩, ?_⟩
          show nlv w (.pointer (some ⟨q.blk, 0, none⟩)) < nlv w (.pointer (some ⟨g', 0, none⟩))
          rw [nlv_node HKQ.out.1, HLV.out]
          have h1 := HKQ.out.2.1
          have h2 := HKQ.out.1.info.2.2.1
          omega
      · have HJ := hide (show Calls Try.prog 79 #[.pointer (some ⟨g', 0, none⟩), .int .i64 ((addrOf p m : Int) + 1)] (w1.alloc (.cells #[.slice none 0 0, .int .u64 0] 27)) fun e w' => e = .returned (.tuple #[.int .i64 ((kAt ks j : Nat) : Int), kPt ks j]) ∧ Below (w1.alloc (.cells #[.slice none 0 0, .int .u64 0] 27)).heap.size (w1.alloc (.cells #[.slice none 0 0, .int .u64 0] 27)) w' from by
          refine nd_from_j (HF.out.stay HB.out) j _ (fun i r hr hi => ?_) (fun r hr => ?_)
          · have := hlo r (mem_take_of hr hi)
            omega
          · have := hhi r (mem_drop_of hr (Nat.le_refl _))
            omega)
        have HMK := hide (HMID.out.gap HFK.out HZ.out HCV.out rfl hlo hhi)
        have hkd := nd_kid_at (HF.out.stay HB.out) (addrOf p m)
        clear hkd
        have HKA := hide hka
        clear hlo hhi hka
        rcases kPt_cases ks j with ⟨r, hr⟩ | hr
        · have HR := hide hr
          clear hr
          rw [kPt_some HR.out, kAt_some HR.out] at HJ
          go_wp2_with fail
          refine HJ.out.mono ?_
          rintro e w3 ⟨rfl, hb3⟩
          replace HN := hide (HN.out.below hb3)
          replace HB := hide (below_then HB.out hb3)
          have hkd := nd_kid_at (HF.out.stay HB.out) (addrOf p m)
          rw [HKA.out] at hkd
          have HKD := hide hkd
          have HTN : Hid (TopOk w k (some (r.blk, ⟨r.lv, r.pre, r.es⟩))) := hide (by intro x hx; injection hx with hx; subst hx; exact (HF.out.kid r (List.mem_of_getElem? HR.out)).1)
          have HTE2 : Hid ((esOf (some (r.blk, ⟨r.lv, r.pre, r.es⟩))).head? = (kidEs (ks.drop j) ++ B).head?) := hide (head_drop_some HHNE.out HR.out).symm
          clear hkd hb3 HJ
          go_wp2_with fail
          refine HKD.out.mono ?_
          rintro e w4 ⟨rfl, hb4⟩
          replace HN := hide (HN.out.below hb4)
          replace HB := hide (below_then HB.out hb4)
          unfold ptrOf
          simp only [Option.map_some, Option.map_none]
          clear hb4 HKD
          have hft := walk_from_none hk (HTN.out.stay HB.out)
          unfold ptrOf at hft
          simp only [Option.map_some] at hft
          have HFT := hide hft
          clear hft
          go_wp2_with fail
          refine HFT.out.mono ?_
          rintro e w9 ⟨r, ok, rfl, hi, hb9⟩
          have hN9 := HN.out.below hb9
          have z0 := hN9.frozen 0
          have z1 := hN9.frozen 1
          have y0 := hN9.cell 0
          have y1 := hN9.cell 1
          simp at y0 y1
          have e4 := hN9.set1 (i := 0) (.slice r.A r.n r.c)
          have e3 := e4.set1 (i := 1) (.int .u64 (r.v : Int))
          have hi3 := (hi.keep (Keep.set hN9 (i := 0) (by decide) (.slice r.A r.n r.c))).keep (Keep.set e4 (i := 1) (by decide) (.int .u64 (r.v : Int)))
          have b3 := (((below_then HB.out hb9).setCell (p := ⟨w.heap.size, 0, none⟩) (Nat.le_refl _) (.slice r.A r.n r.c)).setCell (p := ⟨w.heap.size, 1, none⟩) (Nat.le_refl _) (.int .u64 (r.v : Int)))
          have g0 := e3.cell 0
          have g1 := e3.cell 1
          simp at g0 g1
          have HB3 := hide b3
          have HI := hide hi3
          clear hi hb9 hN9 e4 e3 b3 hi3
          go_wp2
          simp only [Exit.jump]
          refine bodyPost_ret (v := .tuple #[.agg #[.slice r.A r.n r.c, .int .u64 (r.v : Int)], .bool ok]) (by simp [results, Try.results23, go_sem, g0, g1]) rfl ⟨_, _, HMK.out.cut2, r, ok, rfl, ?_, HB3.out⟩
          rw [← HTE2.out]
          exact HI.out
        · have HR := hide hr
          clear hr
          rw [kPt_none HR.out, kAt_none HR.out] at HJ
          go_wp2_with fail
          refine HJ.out.mono ?_
          rintro e w3 ⟨rfl, hb3⟩
          replace HN := hide (HN.out.below hb3)
          replace HB := hide (below_then HB.out hb3)
          have hkd := nd_kid_at (HF.out.stay HB.out) (addrOf p m)
          rw [HKA.out] at hkd
          have HKD := hide hkd
          have HTN : Hid (TopOk w k top) := hide HTK.out
          have HTE2 : Hid ((esOf top).head? = (kidEs (ks.drop j) ++ B).head?) := hide (by rw [HTE.out, head_drop_none HR.out])
          clear hkd hb3 HJ
          go_wp2_with fail
          refine HKD.out.mono ?_
          rintro e w4 ⟨rfl, hb4⟩
          replace HN := hide (HN.out.below hb4)
          replace HB := hide (below_then HB.out hb4)
          unfold ptrOf
          simp only [Option.map_some, Option.map_none]
          clear hb4 HKD
          have hft := walk_from_none hk (HTN.out.stay HB.out)
          unfold ptrOf at hft
          have HFT := hide hft
          clear hft
          go_wp2_with fail
          refine HFT.out.mono ?_
          rintro e w9 ⟨r, ok, rfl, hi, hb9⟩
          have hN9 := HN.out.below hb9
          have z0 := hN9.frozen 0
          have z1 := hN9.frozen 1
          have y0 := hN9.cell 0
          have y1 := hN9.cell 1
          simp at y0 y1
          have e4 := hN9.set1 (i := 0) (.slice r.A r.n r.c)
          have e3 := e4.set1 (i := 1) (.int .u64 (r.v : Int))
          have hi3 := (hi.keep (Keep.set hN9 (i := 0) (by decide) (.slice r.A r.n r.c))).keep (Keep.set e4 (i := 1) (by decide) (.int .u64 (r.v : Int)))
          have b3 := (((below_then HB.out hb9).setCell (p := ⟨w.heap.size, 0, none⟩) (Nat.le_refl _) (.slice r.A r.n r.c)).setCell (p := ⟨w.heap.size, 1, none⟩) (Nat.le_refl _) (.int .u64 (r.v : Int)))
          have g0 := e3.cell 0
          have g1 := e3.cell 1
          simp at g0 g1
          have HB3 := hide b3
          have HI := hide hi3
          clear hi hb9 hN9 e4 e3 b3 hi3
          go_wp2
          simp only [Exit.jump]
          refine bodyPost_ret (v := .tuple #[.agg #[.slice r.A r.n r.c, .int .u64 (r.v : Int)], .bool ok]) (by simp [results, Try.results23, go_sem, g0, g1]) rfl ⟨_, _, HMK.out.cut2, r, ok, rfl, ?_, HB3.out⟩
          rw [← HTE2.out]
          exact HI.out
end Go.Proofs.Ytnopacldaoekiaa
