/- pantilelaw06.NodeWith, whole. No condition. -/
import Derived.Test.YtkknfnjojamgjaaWithA
import Derived.Test.YtkknfnjojamgjaaLaw6i
import Derived.Deep.Cut
import Derived.Deep.CutRange
import Derived.Test.YtkknfnjojamgjaaOpenPt
import Derived.Test.YtkknfnjojamgjaaEnts
set_option linter.unusedSimpArgs false
set_option linter.unusedVariables false
namespace Go.Proofs.Ytkknfnjojamgjaa
open Go.RowKit
set_option maxHeartbeats 1000000 in
set_option maxRecDepth 100000 in
theorem node_with_far (A : Option Addr) (n c : Nat) (addr : Int) (w : World) (h : 30 < n) :
    Calls Try.prog 7 #[.slice A n c, .int .i64 addr] w fun e w' => e = .returned (.bool true) ∧ Below w.heap.size w w' := by
  have HA := hide (awake6 w)
  have H3 := hide h
  clear h
  go_enter Try.func7, Try.ntmps7
  go_wp2_with fail
  refine HA.out.mono ?_
  rintro e w1 ⟨rfl, hb1⟩
  go_wp2_with fail
  refine (ref_heavy_far A n c 30 w1 H3.out).mono ?_
  rintro e w2 ⟨rfl, rfl⟩
  go_wp2
  go_ret
  exact ⟨rfl, hb1⟩
set_option maxHeartbeats 8000000 in
set_option maxRecDepth 100000 in
theorem node_with_main (A : Option Addr) (n c : Nat) (rows : List ER) (addr : Int) (w : World) (h : EntsAt w A n rows) (hn30 : n ≤ 30) (hnc : n ≤ c) (hcm : c ≤ maxLen) (hadr : (Lit.int .i64 addr).wf = true) :
    Calls Try.prog 7 #[.slice A n c, .int .i64 addr] w fun e w' => e = .returned (.bool true) ∧ Below w.heap.size w w' := by
  have HA := hide (awake6 w)
  have HE := hide h
  have HNC := hide (And.intro hnc hcm)
  have HAD := hide hadr
  clear h hnc hcm hadr
  go_enter Try.func7, Try.ntmps7
  go_wp2_with fail
  refine HA.out.mono ?_
  rintro e w1 ⟨rfl, hb1⟩
  have HH := hide (ref_heavy A n c 30 rows w1 (HE.out.below hb1) hn30 (by omega))
  go_wp2_with fail
  refine HH.out.mono ?_
  rintro e w2 ⟨rfl | ⟨rfl, h40⟩, rfl⟩
  · go_wp2
    go_ret
    exact ⟨rfl, hb1⟩
  have H40 := hide h40
  clear h40 HH HA
  by_cases hn2 : n < 2
  · have e1 : decide ((n : Int) < 2) = true := by simp; omega
    go_wp2
    go_ret
    exact ⟨rfl, hb1⟩
  have e1 : decide ((n : Int) < 2) = false := by simp; omega
  have HLV := hide (leaves A n c rows w1 (HE.out.below hb1) (by omega) H40.out)
  go_wp2_with fail
  refine HLV.out.mono ?_
  rintro e w5 ⟨⟨rfl, hbad⟩ | ⟨C, f, gs, rfl, hright, hgl, hoC, hleaf⟩, hb5⟩
  · clear hbad
    go_wp2_with fail
    go_quiet (fail)
    go_wp2
    go_ret
    exact ⟨rfl, below_drewN (below_then hb1 hb5) _⟩
  have hc5 := below_then hb1 hb5
  obtain ⟨b, o, r0, rfl, hbl, hr0, hok0, k0, kv0⟩ := (HE.out.below hc5).at_ (i := 0) (by omega)
  obtain ⟨b', o', r1, hA', -, hr1, hok1, k1, kv1⟩ := (HE.out.below hc5).at_ (i := 1) (by omega)
  injection hA' with hA'
  injection hA' with h1 h2
  subst h1 h2
  have hRC := (own_rw hoC).2
  obtain ⟨bc, oc, hC', hblc, u0, hu0, j0⟩ := hRC.one (i := 0) (by omega)
  obtain ⟨bc', oc', hC2, -, u1, hu1, j1⟩ := hRC.one (i := 1) (by omega)
  subst hC'
  injection hC2 with hC2
  injection hC2 with h1 h2
  subst h1 h2
  unfold ptrs at hu0 hu1
  rw [List.getElem?_map] at hu0 hu1
  obtain ⟨g0, hg0, rfl⟩ := Option.map_eq_some_iff.1 hu0
  obtain ⟨g1, hg1, rfl⟩ := Option.map_eq_some_iff.1 hu1
  have L0 := hide (hleaf 0 r0 g0 hr0 hg0)
  have L1 := hide (hleaf 1 r1 g1 hr1 hg1)
  have R0 := hide (hright r0 (List.mem_of_getElem? hr0))
  have hk0 : 1 ≤ r0.n ∧ r0.n ≤ 16 := by have := R0.out; unfold rightB at this; simp at this; omega
  have HK0 := hide hk0
  have OK0 := hide hok0
  have OK1 := hide hok1
  have HR0 := hide hr0
  have HR1 := hide hr1
  have HLF := hide hleaf
  have HGL := hide hgl
  have HRC := hide hRC
  have HRI := hide hright
  simp only [Nat.zero_mul, Nat.one_mul, Nat.add_zero, Nat.zero_add] at k0 k1 j0 j1 kv0 kv1
  have hn0 : (0 : Int) < (n : Int) := by omega
  have hn1 : (1 : Int) < (n : Int) := by omega
  have hn0n : 0 < n := by omega
  have hn1n : 1 < n := by omega
  have HC5 := hide (fun (W : World) (hW : Below w5.heap.size w5 W) => And.intro ((hW.cell (p := ⟨b, o, none⟩) hbl).trans k0) ((hW.cell (p := ⟨b, o + 2, none⟩) hbl).trans k1))
  have HV5 := hide (fun (W : World) (hW : Below w5.heap.size w5 W) => And.intro ((hW.cell (p := ⟨b, o + 1, none⟩) hbl).trans kv0) ((hW.cell (p := ⟨b, o + 2 + 1, none⟩) hbl).trans kv1))
  clear hr0 hok0 hr1 hok1 hu0 hu1 hg0 hg1 hleaf hgl hRC hright hoC HLV hk0 kv0 kv1
  by_cases hkk : r0.n = r1.n
  · have L1k := hide (show LeafAt w5 r0.n g1 r1.p r1.v by rw [hkk]; exact L1.out)
    have P0 := hide OK0.out.1
    have P1 := hide (show Pt w5 r1.A r0.n r1.p by rw [hkk]; exact OK1.out.1)
    have HCk := hide (fun (W : World) (hW : Below w5.heap.size w5 W) => And.intro (HC5.out W hW).1 (show W.cell? ⟨b, o + 2, none⟩ = some (.slice r1.A r0.n r1.c) by rw [hkk]; exact (HC5.out W hW).2))
    have HN1 := hide hkk.symm
    rw [← hkk] at k1
    generalize hk : r0.n = k at *
    have HK := hide hk
    have hk16 : k ≤ 16 := HK0.out.2
    clear hkk hk L1 HC5
    by_cases hpp : r0.p = r1.p
    · have HPP := hide hpp
      clear hpp
      go_wp2_with fail
      go_region_held3 (fun w' => w'.cell? ⟨b, o, none⟩ = some (.slice r0.A k r0.c) ∧ w'.cell? ⟨b, o + 2, none⟩ = some (.slice r1.A k r1.c))
        (first
          | go_keep
          | exact hk8)
        (first
          | (go_at_call 37
             have hA := (P0.out.below (Below.refl _ w5).drew).2.1
             have hB := (P1.out.below (Below.refl _ w5).drew).2.1
             rw [u64s_int] at hA hB
             have CQ := same_u64 r0.A r1.A k r0.c k r1.c _ _ w5.drew hA hB (by omega) (by omega)
             rw [sameB_nat, decide_eq_true HPP.out] at CQ
             refine CQ.mono ?_
             rintro e w8 ⟨rfl, hb8⟩
             have hd8 : Below w5.heap.size w5 w8 := (Below.refl _ w5).drew.trans hb8
             have hk8 := HCk.out w8 hd8))
      go_wp2
      go_ret
      exact ⟨rfl, below_then hc5 hd8⟩
    · obtain ⟨lv, hm0⟩ : ∃ lv : Nat, part r0.p r1.p = (lv : Int) := by
        obtain ⟨x1, x2, x3, x4⟩ := part_spec r0.p r1.p (by rw [P0.out.1, P1.out.1]) P0.out.2.2 P1.out.2.2
        rcases Int.lt_or_le (part r0.p r1.p) 0 with hx | hx
        · exact absurd (part_neg P0.out.zp P1.out.zp hx) hpp
        · exact ⟨(part r0.p r1.p).toNat, by omega⟩
      have hne : addrOf r0.p lv ≠ addrOf r1.p lv := by
        obtain ⟨x1, x2, x3, x4⟩ := part_spec r0.p r1.p (by rw [P0.out.1, P1.out.1]) P0.out.2.2 P1.out.2.2
        rw [hm0] at x4
        have := x4 (by omega)
        rwa [Int.toNat_natCast] at this
      have hlv64 : lv < 64 := by
        obtain ⟨x1, x2, x3, x4⟩ := part_spec r0.p r1.p (by rw [P0.out.1, P1.out.1]) P0.out.2.2 P1.out.2.2
        omega
      have HPP := hide hpp
      have HM0 := hide hm0
      have HNE := hide hne
      clear hpp hm0 hne
      go_wp2_with fail
      go_region_held3 (fun w' => w'.cell? ⟨b, o, none⟩ = some (.slice r0.A k r0.c) ∧ w'.cell? ⟨b, o + 2, none⟩ = some (.slice r1.A k r1.c))
        (first
          | go_keep
          | exact hk8)
        (first
          | (go_at_call 37
             have hA := (P0.out.below (Below.refl _ w5).drew).2.1
             have hB := (P1.out.below (Below.refl _ w5).drew).2.1
             rw [u64s_int] at hA hB
             have CQ := same_u64 r0.A r1.A k r0.c k r1.c _ _ w5.drew hA hB (by omega) (by omega)
             rw [sameB_nat, decide_eq_false HPP.out] at CQ
             refine CQ.mono ?_
             rintro e w8 ⟨rfl, hb8⟩
             have hd8 : Below w5.heap.size w5 w8 := (Below.refl _ w5).drew.trans hb8
             have hk8 := HCk.out w8 hd8))
      have j08 := (hd8.cell (p := ⟨bc, oc, none⟩) hblc).trans j0
      have j18 := (hd8.cell (p := ⟨bc, oc + 1, none⟩) hblc).trans j1
      clear hk8
      go_upto_region 8 with fail
      go_region_held3 (fun w' => w'.cell? ⟨bc, oc, none⟩ = some (.pointer (some ⟨g0, 0, none⟩)) ∧ w'.cell? ⟨bc, oc + 1, none⟩ = some (.pointer (some ⟨g1, 0, none⟩)))
        (first
          | go_keep
          | exact hk6)
        (first
          | (go_at_call 35
             refine (nd_pair ((L0.out.stay hd8).stay (Below.refl _ w8).drew).node ((L1k.out.stay hd8).stay (Below.refl _ w8).drew).node HK0.out.1 HK0.out.2 HM0.out (by omega) (by omega)).mono ?_
             rintro e w6 ⟨gn, rfl, hF6, hgn6, hb6⟩
             have hd6 : Below w5.heap.size w5 w6 := below_then hd8.drew hb6
             have hk6 := And.intro ((hd6.cell (p := ⟨bc, oc, none⟩) hblc).trans j0) ((hd6.cell (p := ⟨bc, oc + 1, none⟩) hblc).trans j1)
             have HF6 := hide hF6
             clear hF6))
      clear j08 j18 hk6
      have HLE := hide (nd_level HF6.out.node)
      go_wp2_with fail
      refine HLE.out.mono ?_
      rintro e w7 ⟨rfl, rfl⟩
      have x0 := (HCk.out w6 hd6).1
      have x1 := (HCk.out w6 hd6).2
      have y0 := (HV5.out w6 hd6).1
      have y1 := (HV5.out w6 hd6).2
      clear HLE
      go_upto_region 12 with fail
      go_still_tail 6, (by kernel_rfl)
      change wpList _ _ _ _ _ w6.drew
      have hd7 := hd6.drew
      have HF7 := hide (HF6.out.stay (Below.refl _ w6).drew)
      generalize w6.drew = w7 at *
      clear x0 x1 y0 y1
      have hE7 : EntsAt (w7.alloc (.cells #[.slice r0.A k r0.c, .int .u64 (r0.v : Int), .slice r1.A k r1.c, .int .u64 (r1.v : Int)] 59)) (some ⟨w7.heap.size, 0, none⟩) 2 [r0, r1] := by
        have ha := (Below.refl w7.heap.size w7).alloc (Nat.le_refl _) (.cells #[.slice r0.A k r0.c, .int .u64 (r0.v : Int), .slice r1.A k r1.c, .int .u64 (r1.v : Int)] 59)
        refine ⟨?_, fun r hr => ?_⟩
        · have hB := Blk.new w7 59 #[.slice r0.A k r0.c, .int .u64 (r0.v : Int), .slice r1.A k r1.c, .int .u64 (r1.v : Int)]
          have he : [r0, r1].flatMap entv = [.slice r0.A k r0.c, .int .u64 (r0.v : Int), .slice r1.A k r1.c, .int .u64 (r1.v : Int)] := by
            simp [entv, HK.out, HN1.out]
          rw [he]
          exact Rw.of_blk hB rfl (fun j u hu => by simpa using hu)
        · simp at hr
          rcases hr with rfl | rfl
          · exact (OK0.out.below hd7).below ha
          · exact (OK1.out.below hd7).below ha
      have hd8' := below_alloc hd7 (Nat.le_refl _) (.cells #[.slice r0.A k r0.c, .int .u64 (r0.v : Int), .slice r1.A k r1.c, .int .u64 (r1.v : Int)] 59)
      have HF8 := hide (HF7.out.stay ((Below.refl w7.heap.size w7).alloc (Nat.le_refl _) (.cells #[.slice r0.A k r0.c, .int .u64 (r0.v : Int), .slice r1.A k r1.c, .int .u64 (r1.v : Int)] 59)))
      have HE8 := hide hE7
      clear hE7
      go_upto_region 13 with fail
      generalize w7.alloc (.cells #[.slice r0.A k r0.c, .int .u64 (r0.v : Int), .slice r1.A k r1.c, .int .u64 (r1.v : Int)] 59) = w8 at *
      have b9 := (Below.refl w8.heap.size w8).alloc (Nat.le_refl _) (.cells #[] 59)
      have HE9 := hide (HE8.out.below b9)
      go_wp2_with (first
        | (at_builtin
           refine app_b _ rfl (.tmp 84) (.tmp 85) _ rfl w8.heap.size 59 _ 2 32 Try.underlying49 info_e rfl (by omega) _ 0 [] rfl (own_empty _ _ _) (some ⟨w7.heap.size, 0, none⟩) 2 2 ([r0, r1].flatMap entv) rfl w8 b9 (Nat.le_refl _) HE9.out.1 ?h2 (by unfold maxLen; omega) (by omega) ?_
           case h2 => exact one_ents _
           intro v10 w10 ho10 hb10 _
           obtain ⟨Aw, cw, rfl, hncw, hRw⟩ := Rw.of_own ho10
           have HRw := hide hRw
           have HB10 := hide hb10
           have HCW := hide hncw
           clear ho10 hb10 hRw hncw)
        | fail)
      have hd10 : Below w5.heap.size w5 w10 := below_then hd8' HB10.out
      have hew : EntsAt w10 Aw 2 [r0, r1] := ⟨by have := HRw.out; rwa [List.nil_append] at this, fun r hr => (HE8.out.2 r hr).below HB10.out⟩
      have HEW := hide hew
      have HF10 := hide (HF8.out.stay HB10.out)
      have HE10 := hide (HE8.out.below HB10.out)
      have hH64 : n ≤ 30 := hn30
      clear hew
      go_wp2
      go_loopw [7, 10, 13] (fun x7 x10 x13 wr => ∃ (i gm : Nat) (ks : List Kid) (ins : List ER) (A' : Option Addr) (n' c' : Nat), x13 = .int .i64 (i : Int) ∧ 2 ≤ i ∧ i ≤ n ∧ x7 = .pointer (some ⟨gm, 0, none⟩) ∧ x10 = .slice A' n' c' ∧ Fork wr k gm lv (cut (lv + 1) r0.p) ks ∧ FlatP lv ks ins ∧ EntsAt wr A' n' ins ∧ n' ≤ c' ∧ n' ≤ i ∧ (∀ r ∈ ins, r.n = k) ∧ Below w10.heap.size w10 wr) (fun _ _ x _ => n - (intOf x).toNat)
      case atStart =>
        refine ⟨2, gn, _, [r0, r1], some ⟨w7.heap.size, 0, none⟩, 2, 2, rfl, Nat.le_refl _, by omega, rfl, rfl, HF10.out, FlatP.pair HNE.out, HE10.out, Nat.le_refl _, Nat.le_refl _, fun r hr => ?_, Below.refl _ _⟩
        simp at hr
        rcases hr with rfl | rfl
        · exact HK.out
        · exact HN1.out
      case round =>
        obtain ⟨i, gm, ks, ins, A', n', c', rfl, hi2, hin, rfl, rfl, hFm, hFP, hEI, hnc', hni, hkI, hb⟩ := hrel
        have HFm := hide hFm
        have HFP := hide hFP
        have HEI := hide hEI
        have HKI := hide hkI
        have HNI := hide (And.intro hnc' hni)
        have hdz := below_then hd10 hb
        have hn'30 : n' ≤ 30 := by omega
        rename World => wz
        clear hFm hFP hEI hkI hnc' hni
        by_cases hilt : i < n
        · obtain ⟨b2, o2, r, hA2, hbl2, hr, hok, k2, kv2⟩ := (HE.out.below (below_then hc5 hdz)).at_ hilt
          injection hA2 with hA2
          injection hA2 with h1 h2
          subst h1 h2
          obtain ⟨bc', oc', hC2, -, u2, hu2, j2⟩ := HRC.out.one hilt
          injection hC2 with hC2
          injection hC2 with h1 h2
          subst h1 h2
          unfold ptrs at hu2
          rw [List.getElem?_map] at hu2
          obtain ⟨g2, hg2, rfl⟩ := Option.map_eq_some_iff.1 hu2
          have L2 := hide ((HLF.out i r g2 hr hg2).stay hdz)
          have OK2 := hide hok
          have HR2 := hide hr
          have jz := (hdz.cell (p := ⟨bc, oc + i, none⟩) hblc).trans j2
          have t0 := (HCk.out wz hdz).1
          have HJ := hide (fun (W : World) (hW : Below w5.heap.size w5 W) => (hW.cell (p := ⟨bc, oc + i, none⟩) hblc).trans j2)
          have HX := hide (fun (W : World) (hW : Below wz.heap.size wz W) => And.intro ((hW.cell (p := ⟨b, o + i * 2, none⟩) hbl2).trans k2) ((hW.cell (p := ⟨b, o + i * 2 + 1, none⟩) hbl2).trans kv2))
          clear hr hok hu2 hg2 j2 k2 kv2
          by_cases hrk : k = r.n
          · have P2 := hide (show Pt wz r.A k r.p by rw [hrk]; exact OK2.out.1)
            have L2k := hide (show LeafAt wz k g2 r.p r.v by rw [hrk]; exact L2.out)
            have HXk := hide (fun (W : World) (hW : Below wz.heap.size wz W) => And.intro (show W.cell? ⟨b, o + i * 2, none⟩ = some (.slice r.A k r.c) by rw [hrk]; exact (HX.out W hW).1) (HX.out W hW).2)
            have HRK := hide hrk.symm
            have hiff : part (cut (lv + 1) r0.p) r.p ≤ (lv : Int) ↔ part r.p r0.p ≤ (lv : Int) :=
              (covers_cut (zp_cut P0.out.zp) P2.out.zp (fun b hb => addr_cut_lo _ (by omega))).trans (part_le_cut P2.out.zp P0.out.zp).symm
            have hP0z := hide (P0.out.below hdz)
            clear hrk HX L2
            by_cases hpa : part r.p r0.p ≤ (lv : Int)
            · have HWD := hide (nd_with HFm.out L2k.out.node HK0.out.1 HK0.out.2 (hiff.2 hpa) (by omega))
              obtain ⟨pv, hpv⟩ : ∃ pv : Int, part r.p r0.p = pv := ⟨_, rfl⟩
              have dgt : decide ((lv : Int) < pv) = false := by rw [← hpv]; simp; omega
              have HPV := hide hpv
              clear hpa hiff hpv
              go_wp2_with fail
              refine HWD.out.mono ?_
              rintro e w11 ⟨gm2, rfl, hF11, hgm2, hb11⟩
              have hd11 := below_then hdz hb11
              have t01 := (HCk.out w11 hd11).1
              have t02 := (HXk.out w11 hb11).1
              have HF11 := hide hF11
              clear t0 jz HWD hF11
              go_wp2_with fail
              go_quiet (fail)
              have hd12 := below_drewN hd11 nq
              have hb12 := below_drewN hb11 nq
              have HF12 := hide (HF11.out.stay (below_drewN (Below.refl _ w11) nq))
              go_upto_region 22 with fail
              generalize w11.drewN nq = w12 at *
              clear t01 t02 HF11
              have t01 := (HCk.out w12 hd12).1
              have t02 := (HXk.out w12 hb12).1
              go_quiet ((go_at_call 53
                         have CP := fun N => ref_part r.A r0.A k r.c r0.c r.p r0.p (w12.drewN N) ((P2.out.below hb12).below (below_drewN (Below.refl _ w12) N)) ((hP0z.out.below hb12).below (below_drewN (Below.refl _ w12) N)) (by omega)
                         rw [HPV.out] at CP
                         exact Calls.quiet_of_same (still_of (CP _))))
              have hd13 := below_drewN hd12 nq
              have hb13 := below_drewN hb12 nq
              have HF13 := hide (HF12.out.stay (below_drewN (Below.refl _ w12) nq))
              go_upto_region 25 with fail
              generalize w12.drewN nq = w13 at *
              clear t01 t02 HF12
              have t02 := (HXk.out w13 hb13).1
              have HAD2 := hide (ref_addr r.A k r.c lv r.p w13 (P2.out.below hb13) (by omega) hlv64)
              have har : addrOf r.p lv < 65536 := addrOf_le _ _ (by rw [P2.out.1]; exact hk16)
              go_wp2_with fail
              refine HAD2.out.mono ?_
              rintro e w14 ⟨rfl, rfl⟩
              have b15 := (Below.refl w13.heap.size w13).alloc (Nat.le_refl _) (.cells #[] 59)
              have HO15 := hide (own_empty w13 59 2)
              clear t02 HAD2
              go_wp2
              go_loopw [17, 18] (fun x17 x18 wr => ∃ (t cnt : Nat), x18 = .int .i64 (t : Int) ∧ t ≤ n' ∧ cnt ≤ t ∧ wr.ownsRow w13.heap.size 59 2 x17 cnt ((((ins.take t).filter fun s => decide (addrOf s.p lv ≠ addrOf r.p lv))).flatMap entv) ∧ Below w13.heap.size w13 wr) (fun _ x _ => n' - (intOf x).toNat)
              case atStart => exact ⟨0, 0, rfl, Nat.zero_le _, Nat.le_refl _, HO15.out, b15⟩
              case round =>
                obtain ⟨t, cnt, rfl, ht, hct, hoL, hbL⟩ := hrel
                rename World => wy
                by_cases htn : t < n'
                · obtain ⟨b3, o3, s, rfl, hbl3, hs, hoks, k3, kv3⟩ := ((HEI.out.below hb13).below hbL).at_ htn
                  have hsn := HKI.out s (List.mem_of_getElem? hs)
                  rw [hsn] at k3
                  have hps := hoks.1
                  rw [hsn] at hps
                  have HASC := hide (ref_addr s.A k s.c lv s.p wy hps (by omega) hlv64)
                  have hl := (List.getElem?_eq_some_iff.1 hs).1
                  have hv := (List.getElem?_eq_some_iff.1 hs).2
                  have htk : ins.take (t + 1) = ins.take t ++ [s] := by rw [List.take_succ_eq_append_getElem hl, hv]
                  have HTK := hide htk
                  have HOL := hide hoL
                  have HSN := hide hsn
                  clear hs hoks hsn hps hl hv htk hoL
                  by_cases hae : addrOf s.p lv = addrOf r.p lv
                  · have HAE := hide hae
                    rw [hae] at HASC
                    clear hae
                    go_wp2_with fail
                    refine HASC.out.mono ?_
                    rintro e w16 ⟨rfl, rfl⟩
                    go_wp2
                    go_roundw
                    case rel =>
                      refine ⟨t + 1, cnt, by go_num, by omega, by omega, ?_, hbL⟩
                      rw [HTK.out, List.filter_append, List.filter_cons_of_neg (by simp [HAE.out]), List.filter_nil, List.append_nil]
                      exact HOL.out
                    case measure => simp [intOf]; omega
                  · have HAE := hide hae
                    have ene : ((addrOf s.p lv : Int) != (addrOf r.p lv : Int)) = true := by simp; omega
                    have hb16 := below_alloc hbL (Nat.le_refl _) (.cells #[.slice s.A k s.c, .int .u64 (s.v : Int)] 59)
                    clear hae
                    go_wp2_with fail
                    refine HASC.out.mono ?_
                    rintro e w16 ⟨rfl, rfl⟩
                    clear HASC
                    go_wp2_with (first
                      | (at_builtin
                         refine app_b _ rfl (.tmp 162) (.tmp 167) _ rfl w13.heap.size 59 _ 2 32 Try.underlying49 info_e rfl (by omega) _ cnt _ rfl (HOL.out.alloc _) (some ⟨wy.heap.size, 0, none⟩) 1 1 [.slice s.A k s.c, .int .u64 (s.v : Int)] rfl w13 hb16 (Nat.le_refl _) (Rw.new1 wy 59 #[.slice s.A k s.c, .int .u64 (s.v : Int)] (sz := 2) rfl) ?h2 (by unfold maxLen; omega) (by omega) ?_
                         case h2 =>
                           intro u hu
                           simp at hu
                           rcases hu with rfl | rfl <;> rfl
                         intro v17 w17 ho17 hb17 _
                         have HO17 := hide ho17
                         have HB17 := hide hb17
                         clear ho17 hb17)
                      | fail)
                    go_roundw
                    case rel =>
                      refine ⟨t + 1, cnt + 1, by go_num, by omega, by omega, ?_, HB17.out⟩
                      rw [HTK.out, List.filter_append, List.filter_cons_of_pos (by simp [HAE.out]), List.filter_nil, List.flatMap_append]
                      have he : [s].flatMap entv = [.slice s.A k s.c, .int .u64 (s.v : Int)] := by simp [entv, HSN.out]
                      rw [he]
                      exact HO17.out
                    case measure => simp [intOf]; omega
                · have hte : t = n' := by omega
                  have e5 : decide ((t : Int) < (n' : Int)) = false := by simp; omega
                  have htn' : ¬ t < n' := htn
                  have hli := HEI.out.len
                  rw [hte, List.take_of_length_le (by omega)] at hoL
                  have HOL := hide hoL
                  have hdy := below_then hb13 hbL
                  have x0 := (HXk.out wy hdy).1
                  have x1 := (HXk.out wy hdy).2
                  have hb20 := below_alloc hbL (Nat.le_refl _) (.cells #[.slice r.A k r.c, .int .u64 (r.v : Int)] 59)
                  clear hoL hli hte
                  go_wp2_with (first
                    | (at_builtin
                       refine app_b _ rfl (.tmp 169) (.tmp 174) _ rfl w13.heap.size 59 _ 2 32 Try.underlying49 info_e rfl (by omega) _ cnt _ rfl (HOL.out.alloc _) (some ⟨wy.heap.size, 0, none⟩) 1 1 [.slice r.A k r.c, .int .u64 (r.v : Int)] rfl w13 hb20 (Nat.le_refl _) (Rw.new1 wy 59 #[.slice r.A k r.c, .int .u64 (r.v : Int)] (sz := 2) rfl) ?h2 (by unfold maxLen; omega) (by omega) ?_
                       case h2 =>
                         intro u hu
                         simp at hu
                         rcases hu with rfl | rfl <;> rfl
                       intro v20 w20 ho20 hb20' _
                       obtain ⟨A20, c20, rfl, hnc20, hR20⟩ := Rw.of_own ho20
                       have HR20 := hide hR20
                       have HN20 := hide hnc20
                       have HB20 := hide hb20'
                       clear ho20 hb20' hR20 hnc20)
                    | fail)
                  have hz20 := below_then hb13 HB20.out
                  have hd20 := below_then hdz hz20
                  have hE20 : EntsAt w20 A20 (cnt + 1) ((ins.filter fun s => decide (addrOf s.p lv ≠ addrOf r.p lv)) ++ [r]) := by
                    refine ⟨?_, fun s hs => ?_⟩
                    · rw [List.flatMap_append]
                      have he : [r].flatMap entv = [.slice r.A k r.c, .int .u64 (r.v : Int)] := by simp [entv, HRK.out]
                      rw [he]
                      exact HR20.out
                    · rcases List.mem_append.1 hs with hs | hs
                      · exact (HEI.out.2 s (List.mem_filter.1 hs).1).below hz20
                      · rw [List.mem_singleton] at hs
                        rw [hs]
                        exact OK2.out.below hz20
                  have HE20 := hide hE20
                  have HF20 := hide (HF13.out.stay HB20.out)
                  have hKI20 : ∀ s ∈ (ins.filter fun s => decide (addrOf s.p lv ≠ addrOf r.p lv)) ++ [r], s.n = k := fun s hs => by
                    rcases List.mem_append.1 hs with hs | hs
                    · exact HKI.out s (List.mem_filter.1 hs).1
                    · rw [List.mem_singleton] at hs
                      rw [hs]; exact HRK.out
                  have HKI20 := hide hKI20
                  have hfp20 : FlatP lv (insK ks ⟨addrOf r.p lv, g2, -1, r.p, [(r.p, r.v)]⟩) ((ins.filter fun s => decide (addrOf s.p lv ≠ addrOf r.p lv)) ++ [r]) := HFP.out.ins rfl
                  have HFP20 := hide hfp20
                  obtain ⟨Am, cm, gsm, hpm, hSm, hBm⟩ := HF20.out.head
                  have hge : getTh (kidTh (insK ks ⟨addrOf r.p lv, g2, -1, r.p, [(r.p, r.v)]⟩)) (addrOf r.p lv : Int) = some (.pointer (some ⟨g2, 0, none⟩)) :=
                    getTh_some hSm.ok (t := (addrOf r.p lv, .pointer (some ⟨g2, 0, none⟩))) (List.mem_map.2 ⟨_, mem_insK_iff.2 (.inl rfl), rfl⟩)
                  have CK := fun (W : World) (hW : Below w20.heap.size w20 W) => nd_kid (hBm.below hW) (hSm.below hW) (addrOf r.p lv : Int)
                  rw [hge] at CK
                  have HCK := hide CK
                  have z1 := ptr_same_neq ⟨g2, 0, none⟩
                  have j20 := HJ.out w20 hd20
                  clear hE20 hKI20 hfp20 hpm hSm hBm hge CK x0 x1
                  go_wp2_with fail
                  go_region_held3 (fun w' => w'.cell? ⟨bc, oc + i, none⟩ = some (.pointer (some ⟨g2, 0, none⟩)))
                    (first
                      | go_keep
                      | exact hk21
                      | exact hk22)
                    (first
                      | (go_at_call 44
                         refine (HCK.out w20.drew (Below.refl _ w20).drew).mono ?_
                         rintro e w21 ⟨rfl, hb21⟩
                         have hq21 : Below w20.heap.size w20 w21 := (Below.refl _ w20).drew.trans hb21
                         have hk21 := HJ.out w21 (below_then hd20 hq21))
                      | (go_at_call 54
                         refine (flat_yes (HF20.out.stay hq21) HK0.out.1 HK0.out.2 HFP20.out.flat (HE20.out.below hq21) HN20.out (by omega) (by omega) HKI20.out).mono ?_
                         rintro e w22 ⟨rfl, hb22⟩
                         have hq22 := below_then hq21 hb22
                         have hk22 := HJ.out w22 (below_then hd20 hq22)))
                  go_wp2
                  go_roundw
                  case rel =>
                    refine ⟨i + 1, gm2, _, _, A20, cnt + 1, c20, by go_num, by omega, by omega, rfl, rfl, HF20.out.stay hq22, HFP20.out, HE20.out.below hq22, HN20.out, by have := HNI.out.2; omega, HKI20.out, below_then hb (below_then hz20 hq22)⟩
                  case measure => simp [intOf]; omega
            · have HWA := hide (nd_with_arg HFm.out L2k.out.node HK0.out.1 HK0.out.2 (.inl (by have := mt hiff.1 hpa; omega)))
              obtain ⟨pv, hpv⟩ : ∃ pv : Int, part r.p r0.p = pv := ⟨_, rfl⟩
              have dgt : decide ((lv : Int) < pv) = true := by rw [← hpv]; simp; omega
              have HPV := hide hpv
              clear hpa hiff hpv
              go_wp2_with fail
              refine HWA.out.mono ?_
              rintro e w11 ⟨rfl, hb11⟩
              have hd11 := below_then hdz hb11
              have t01 := (HCk.out w11 hd11).1
              have t02 := (HXk.out w11 hb11).1
              clear t0 jz HWA
              go_wp2_with fail
              go_quiet (fail)
              have hd12 := below_drewN hd11 nq
              have hb12 := below_drewN hb11 nq
              go_upto_region 22 with fail
              generalize w11.drewN nq = w12 at *
              clear t01 t02
              have t01 := (HCk.out w12 hd12).1
              have t02 := (HXk.out w12 hb12).1
              go_quiet ((go_at_call 53
                         have CP := fun N => ref_part r.A r0.A k r.c r0.c r.p r0.p (w12.drewN N) ((P2.out.below hb12).below (below_drewN (Below.refl _ w12) N)) ((hP0z.out.below hb12).below (below_drewN (Below.refl _ w12) N)) (by omega)
                         rw [HPV.out] at CP
                         exact Calls.quiet_of_same (still_of (CP _))))
              go_wp2
              go_roundw
              case rel =>
                have hbn := below_drewN hb12 nq
                refine ⟨i + 1, gm, ks, ins, A', n', c', by go_num, by omega, by omega, rfl, rfl, HFm.out.stay hbn, HFP.out, HEI.out.below hbn, HNI.out.1, by have := HNI.out.2; omega, HKI.out, below_then hb hbn⟩
              case measure => simp [intOf]; omega
          · have HRK := hide hrk
            have HWD := hide (nd_with_dim HFm.out L2.out.node hrk)
            have e3 : ((r.n : Int) != (k : Int)) = true := by simp; omega
            clear hrk
            go_wp2_with fail
            refine HWD.out.mono ?_
            rintro e w11 ⟨rfl, hb11⟩
            have hd11 := below_then hdz hb11
            have t01 := (HCk.out w11 hd11).1
            have t02 := (HX.out w11 hb11).1
            clear t0 jz HWD
            go_wp2_with fail
            go_quiet (fail)
            go_wp2
            go_roundw
            case rel =>
              have hbn := below_drewN (below_then hb hb11) nq
              refine ⟨i + 1, gm, ks, ins, A', n', c', by go_num, by omega, by omega, rfl, rfl, (HFm.out.stay hb11).stay (below_drewN (Below.refl _ w11) nq), HFP.out, (HEI.out.below hb11).below (below_drewN (Below.refl _ w11) nq), HNI.out.1, by have := HNI.out.2; omega, HKI.out, hbn⟩
            case measure => simp [intOf]; omega
        · have hie : i = n := by omega
          have e4 : decide ((i : Int) < (n : Int)) = false := by simp; omega
          have hFw := HF10.out.stay hb
          have HKW := hide (show ∀ r ∈ [r0, r1], r.n = k from fun r hr => by
            simp at hr
            rcases hr with rfl | rfl
            · exact HK.out
            · exact HN1.out)
          have t0 := (HCk.out wz hdz).1
          have hpw : 2 ^ k ≤ 65536 := pow_len_le hk16
          have HPW := hide (fun W => ref_power k W (by omega))
          have hchk : chk k addr = if 0 ≤ addr ∧ addr < ((2 ^ k : Nat) : Int) then 0 else 3 := rfl
          have hin' : ¬ i < n := hilt
          clear hFw
          by_cases hlo : addr < 0
          · have HWB := hide (nd_without_bad HFm.out addr (by rw [hchk, if_neg (by omega)]))
            have dlo : decide (addr < 0) = true := by simp; omega
            clear hchk
            go_wp2_with fail
            refine HWB.out.mono ?_
            rintro e w30 ⟨rfl, hb30⟩
            go_wp2_with fail
            refine (flat_yes (HF10.out.stay (below_then hb hb30)) HK0.out.1 HK0.out.2 (FlatP.pair HNE.out).flat (HEW.out.below (below_then hb hb30)) (by have := HCW.out; omega) (by omega) (by omega) HKW.out).mono ?_
            rintro e w31 ⟨rfl, hbw31⟩
            go_wp2
            go_ret
            exact ⟨rfl, below_then hc5 (below_then hdz (below_then hb30 hbw31))⟩

          by_cases hhi : ((2 ^ k : Nat) : Int) ≤ addr
          · have HWB := hide (nd_without_bad HFm.out addr (by rw [hchk, if_neg (by omega)]))
            have dlo : decide (addr < 0) = false := by simp; omega
            generalize hpe : 2 ^ k = pw at *
            have dhi : decide ((pw : Int) ≤ addr) = true := by simp; omega
            have HPE := hide hpe
            clear hchk hpe
            go_wp2_with fail
            refine HWB.out.mono ?_
            rintro e w30 ⟨rfl, hb30⟩
            have t1 := (HCk.out w30 (below_then hdz hb30)).1
            clear t0
            go_wp2_with fail
            refine (HPW.out w30).mono ?_
            rintro e w31 ⟨rfl, rfl⟩
            go_wp2_with fail
            refine (flat_yes (HF10.out.stay (below_then hb hb30)) HK0.out.1 HK0.out.2 (FlatP.pair HNE.out).flat (HEW.out.below (below_then hb hb30)) (by have := HCW.out; omega) (by omega) (by omega) HKW.out).mono ?_
            rintro e w32 ⟨rfl, hbw32⟩
            go_wp2
            go_ret
            exact ⟨rfl, below_then hc5 (below_then hdz (below_then hb30 hbw32))⟩

          obtain ⟨a, ha⟩ : ∃ a : Nat, addr = (a : Int) := ⟨addr.toNat, by omega⟩
          subst ha
          have ha2 : a < 2 ^ k := by omega
          have hchk0 : chk k (a : Int) = 0 := by rw [hchk, if_pos (by omega)]
          have dlo : decide ((a : Int) < 0) = false := decide_eq_false (by omega)
          have dlo' : ¬ (a : Int) < 0 := by omega
          have HA2 := hide (And.intro ha2 hchk0)
          have hpw2 : ¬ 2 ^ k ≤ a := by omega
          generalize hpe : 2 ^ k = pw at *
          have dhi : decide ((pw : Int) ≤ (a : Int)) = false := by simp; omega
          have HPE := hide hpe
          clear hchk hchk0 hlo hhi ha2 hpe
          by_cases hex : ∃ q ∈ ks, q.at_ = a
          · obtain ⟨q, hqm, hqa⟩ := hex
            have hsrt : ks.Pairwise fun x y => x.at_ < y.at_ := by obtain ⟨_, _, _, _, _, _, _, _, _, _, h8, _⟩ := HFm.out; exact h8
            have hk2l : 2 ≤ ks.length := by obtain ⟨_, _, _, _, _, _, _, _, _, _, _, h9, _⟩ := HFm.out; exact h9
            have hdlen := delK_len hsrt ⟨q, hqm, hqa⟩
            by_cases htwo : (delK ks a).length = 1
            · obtain ⟨q', hq'⟩ := List.length_eq_one_iff.1 htwo
              have HWT := hide (nd_without_two HFm.out (by have := HA2.out.1; rw [HPE.out]; exact this) hqm hqa hq')
              have HQ := hide (And.intro hq' (And.intro htwo hdlen))
              clear hqm hqa hdlen htwo hq' hsrt hk2l
              go_wp2_with fail
              refine HWT.out.mono ?_
              rintro e w30 ⟨rfl, hb30⟩
              have t1 := (HCk.out w30 (below_then hdz hb30)).1
              clear t0
              go_wp2_with fail
              refine (HPW.out w30).mono ?_
              rintro e w31 ⟨rfl, rfl⟩
              have b15 := (Below.refl w30.heap.size w30).alloc (Nat.le_refl _) (.cells #[] 59)
              have HO15 := hide (own_empty w30 59 2)
              have HBZ := hide hb30
              go_wp2
              go_loopw [21, 22] (fun x21 x22 wr => ∃ (t cnt : Nat), x22 = .int .i64 (t : Int) ∧ t ≤ n' ∧ cnt ≤ t ∧ wr.ownsRow w30.heap.size 59 2 x21 cnt ((((ins.take t).filter fun s => decide (addrOf s.p lv ≠ a))).flatMap entv) ∧ Below w30.heap.size w30 wr) (fun _ x _ => n' - (intOf x).toNat)
              case atStart => exact ⟨0, 0, rfl, Nat.zero_le _, Nat.le_refl _, HO15.out, b15⟩
              case round =>
                obtain ⟨t, cnt, rfl, ht, hct, hoL, hbL⟩ := hrel
                rename World => wy
                by_cases htn : t < n'
                · obtain ⟨b3, o3, s, rfl, hbl3, hs, hoks, k3, kv3⟩ := ((HEI.out.below HBZ.out).below hbL).at_ htn
                  have hsn := HKI.out s (List.mem_of_getElem? hs)
                  rw [hsn] at k3
                  have hps := hoks.1
                  rw [hsn] at hps
                  have HASC := hide (ref_addr s.A k s.c lv s.p wy hps (by omega) hlv64)
                  have hl := (List.getElem?_eq_some_iff.1 hs).1
                  have hv := (List.getElem?_eq_some_iff.1 hs).2
                  have htk : ins.take (t + 1) = ins.take t ++ [s] := by rw [List.take_succ_eq_append_getElem hl, hv]
                  have HTK := hide htk
                  have HOL := hide hoL
                  have HSN := hide hsn
                  clear hs hoks hsn hps hl hv htk hoL
                  by_cases hae : addrOf s.p lv = a
                  · have HAE := hide hae
                    rw [hae] at HASC
                    clear hae
                    go_wp2_with fail
                    refine HASC.out.mono ?_
                    rintro e w16 ⟨rfl, rfl⟩
                    go_wp2
                    go_roundw
                    case rel =>
                      refine ⟨t + 1, cnt, by go_num, by omega, by omega, ?_, hbL⟩
                      rw [HTK.out, List.filter_append, List.filter_cons_of_neg (by simp [HAE.out]), List.filter_nil, List.append_nil]
                      exact HOL.out
                    case measure => simp [intOf]; omega
                  · have HAE := hide hae
                    have ene : ((addrOf s.p lv : Int) != (a : Int)) = true := by simp; omega
                    have hb16 := below_alloc hbL (Nat.le_refl _) (.cells #[.slice s.A k s.c, .int .u64 (s.v : Int)] 59)
                    clear hae
                    go_wp2_with fail
                    refine HASC.out.mono ?_
                    rintro e w16 ⟨rfl, rfl⟩
                    clear HASC
                    go_wp2_with (first
                      | (at_builtin
                         refine app_b _ rfl (.tmp 243) (.tmp 248) _ rfl w30.heap.size 59 _ 2 32 Try.underlying49 info_e rfl (by omega) _ cnt _ rfl (HOL.out.alloc _) (some ⟨wy.heap.size, 0, none⟩) 1 1 [.slice s.A k s.c, .int .u64 (s.v : Int)] rfl w30 hb16 (Nat.le_refl _) (Rw.new1 wy 59 #[.slice s.A k s.c, .int .u64 (s.v : Int)] (sz := 2) rfl) ?h2 (by unfold maxLen; omega) (by omega) ?_
                         case h2 =>
                           intro u hu
                           simp at hu
                           rcases hu with rfl | rfl <;> rfl
                         intro v17 w17 ho17 hb17 _
                         have HO17 := hide ho17
                         have HB17 := hide hb17
                         clear ho17 hb17)
                      | fail)
                    go_roundw
                    case rel =>
                      refine ⟨t + 1, cnt + 1, by go_num, by omega, by omega, ?_, HB17.out⟩
                      rw [HTK.out, List.filter_append, List.filter_cons_of_pos (by simp [HAE.out]), List.filter_nil, List.flatMap_append]
                      have he : [s].flatMap entv = [.slice s.A k s.c, .int .u64 (s.v : Int)] := by simp [entv, HSN.out]
                      rw [he]
                      exact HO17.out
                    case measure => simp [intOf]; omega
                · have hte : t = n' := by omega
                  have e5 : decide ((t : Int) < (n' : Int)) = false := by simp; omega
                  have htn' : ¬ t < n' := htn
                  have hli := HEI.out.len
                  rw [hte, List.take_of_length_le (by omega)] at hoL
                  have hcnt : cnt = (ins.filter fun s => decide (addrOf s.p lv ≠ a)).length := by
                    have := hoL.1
                    rw [flat_length entv_len] at this
                    omega
                  have hdl : cnt = (delK ks a).length := by
                    rw [hcnt]
                    have := (HFP.out.filt a).length_eq
                    simpa using this.symm
                  obtain ⟨A21, c21, rfl, hnc21, hR21⟩ := Rw.of_own hoL
                  have hbw := below_then HBZ.out hbL
                  have hE21 : EntsAt wy A21 cnt (ins.filter fun s => decide (addrOf s.p lv ≠ a)) := ⟨hR21, fun s hs => (HEI.out.2 s (List.mem_filter.1 hs).1).below hbw⟩
                  have HE21 := hide (And.intro hE21 hnc21)
                  have HCN := hide hcnt
                  have hkn' : ks.length = n' := by rw [HFP.out.flat.len]; exact hli
                  clear hoL hR21 hE21 hnc21 hcnt hte hli
                  have hd3 : cnt = 1 ∧ n' = 2 := by have := HQ.out; omega
                  have hf1 : (ins.filter fun s => decide (addrOf s.p lv ≠ a)).length = 1 := by rw [← HCN.out]; exact hd3.1
                  obtain ⟨s, hs1⟩ := List.length_eq_one_iff.1 hf1
                  have hpm := HFP.out.filt a
                  rw [HQ.out.1, hs1] at hpm
                  have hkf : kf q' = rf lv s := by
                    unfold FlatP at hpm
                    simpa using hpm
                  unfold kf rf at hkf
                  injection hkf with hka hke
                  have hqm' : q' ∈ ks := (mem_delK.1 (by rw [HQ.out.1]; exact List.mem_singleton.2 rfl : q' ∈ delK ks a)).1
                  have hge : getTh (kidTh ks) (addrOf s.p lv : Int) = some (.pointer (some ⟨q'.blk, 0, none⟩)) := by
                    obtain ⟨_, _, _, hp9, hS9, hB9⟩ := HFm.out.head
                    rw [← hka]
                    exact getTh_some hS9.ok (t := (q'.at_, .pointer (some ⟨q'.blk, 0, none⟩))) (List.mem_map.2 ⟨_, hqm', rfl⟩)
                  have hqn : NodeOf wz k q'.blk q'.lv q'.pre q'.es := by
                    obtain ⟨_, _, _, _, _, _, _, h5, _⟩ := HFm.out
                    exact h5 q' hqm'
                  have hsI : s ∈ ins := (List.mem_filter.1 (by rw [hs1]; exact List.mem_singleton.2 rfl : s ∈ ins.filter fun s => decide (addrOf s.p lv ≠ a))).1
                  have hsn := HKI.out s hsI
                  have hE1 := HE21.out.1
                  rw [hs1, hd3.1] at hE1
                  obtain ⟨b4, o4, s', rfl, hbl4, hs4, hok4, k4, -⟩ := hE1.at_ (i := 0) (by omega)
                  obtain rfl : s = s' := by simpa using hs4
                  simp only [Nat.zero_mul, Nat.add_zero] at k4
                  rw [hsn] at k4
                  have hps := hok4.1
                  rw [hsn] at hps
                  have HPS4 := hide hps
                  have hc21 : 1 ≤ c21 := by have := HE21.out.2; omega
                  have HIS := hide (is_node (hqn.stay hbw) HK0.out.1 HK0.out.2 wy (some ⟨b4, o4, none⟩) c21 [s] (Below.refl _ _) hE1 hc21 (by show 1 ≤ 65536; omega) (fun x hx => by rw [List.mem_singleton] at hx; rw [hx]; exact hsn) (by rw [hke]; rfl))
                  obtain ⟨_, _, _, hp9, hS9, hB9⟩ := HFm.out.head
                  have CK := fun (W : World) (hW : Below wz.heap.size wz W) => nd_kid (hB9.below hW) (hS9.below hW) (addrOf s.p lv : Int)
                  rw [hge] at CK
                  have HCK := hide CK
                  have z1 := ptr_same ⟨q'.blk, 0, none⟩
                  obtain ⟨hc1, hn2e⟩ := hd3
                  subst hc1
                  clear hf1 hs1 hpm hka hke hqm' hge hqn hsI hsn hE1 hs4 hok4 hps hp9 hS9 hB9 CK hdl hkn'
                  subst hn2e
                  go_wp2_with fail
                  refine HIS.out.mono ?_
                  rintro e w34 ⟨rfl, hb34⟩
                  have hbw4 := below_then hbw hb34
                  have k44 := (hb34.cell (p := ⟨b4, o4, none⟩) hbl4).trans k4
                  go_wp2_with fail
                  refine (ref_addr s.A k s.c lv s.p w34 (HPS4.out.below hb34) (by omega) hlv64).mono ?_
                  rintro e w35 ⟨rfl, rfl⟩
                  go_wp2_with fail
                  refine (HCK.out w34 hbw4).mono ?_
                  rintro e w36 ⟨rfl, hb36⟩
                  have hbw6 := below_then hbw4 hb36
                  go_wp2_with fail
                  refine (flat_yes (HF10.out.stay (below_then hb hbw6)) HK0.out.1 HK0.out.2 (FlatP.pair HNE.out).flat (HEW.out.below (below_then hb hbw6)) (by have := HCW.out; omega) (by omega) (by omega) HKW.out).mono ?_
                  rintro e w37 ⟨rfl, hbw37⟩
                  go_wp2
                  go_ret
                  exact ⟨rfl, below_then hc5 (below_then hdz (below_then hbw6 hbw37))⟩
            · have HWO := hide (nd_without HFm.out (by have := HA2.out.1; rw [HPE.out]; exact this) hqm hqa (by omega))
              have HQ := hide (And.intro htwo (And.intro hdlen hk2l))
              clear hqm hqa hdlen htwo hsrt hk2l
              go_wp2_with fail
              refine HWO.out.mono ?_
              rintro e w30 ⟨gx, rfl, hFx, hgx, hb30⟩
              have HFx := hide hFx
              have t1 := (HCk.out w30 (below_then hdz hb30)).1
              clear t0 hFx
              go_wp2_with fail
              refine (HPW.out w30).mono ?_
              rintro e w31 ⟨rfl, rfl⟩
              have b15 := (Below.refl w30.heap.size w30).alloc (Nat.le_refl _) (.cells #[] 59)
              have HO15 := hide (own_empty w30 59 2)
              have HBZ := hide hb30
              go_wp2
              go_loopw [21, 22] (fun x21 x22 wr => ∃ (t cnt : Nat), x22 = .int .i64 (t : Int) ∧ t ≤ n' ∧ cnt ≤ t ∧ wr.ownsRow w30.heap.size 59 2 x21 cnt ((((ins.take t).filter fun s => decide (addrOf s.p lv ≠ a))).flatMap entv) ∧ Below w30.heap.size w30 wr) (fun _ x _ => n' - (intOf x).toNat)
              case atStart => exact ⟨0, 0, rfl, Nat.zero_le _, Nat.le_refl _, HO15.out, b15⟩
              case round =>
                obtain ⟨t, cnt, rfl, ht, hct, hoL, hbL⟩ := hrel
                rename World => wy
                by_cases htn : t < n'
                · obtain ⟨b3, o3, s, rfl, hbl3, hs, hoks, k3, kv3⟩ := ((HEI.out.below HBZ.out).below hbL).at_ htn
                  have hsn := HKI.out s (List.mem_of_getElem? hs)
                  rw [hsn] at k3
                  have hps := hoks.1
                  rw [hsn] at hps
                  have HASC := hide (ref_addr s.A k s.c lv s.p wy hps (by omega) hlv64)
                  have hl := (List.getElem?_eq_some_iff.1 hs).1
                  have hv := (List.getElem?_eq_some_iff.1 hs).2
                  have htk : ins.take (t + 1) = ins.take t ++ [s] := by rw [List.take_succ_eq_append_getElem hl, hv]
                  have HTK := hide htk
                  have HOL := hide hoL
                  have HSN := hide hsn
                  clear hs hoks hsn hps hl hv htk hoL
                  by_cases hae : addrOf s.p lv = a
                  · have HAE := hide hae
                    rw [hae] at HASC
                    clear hae
                    go_wp2_with fail
                    refine HASC.out.mono ?_
                    rintro e w16 ⟨rfl, rfl⟩
                    go_wp2
                    go_roundw
                    case rel =>
                      refine ⟨t + 1, cnt, by go_num, by omega, by omega, ?_, hbL⟩
                      rw [HTK.out, List.filter_append, List.filter_cons_of_neg (by simp [HAE.out]), List.filter_nil, List.append_nil]
                      exact HOL.out
                    case measure => simp [intOf]; omega
                  · have HAE := hide hae
                    have ene : ((addrOf s.p lv : Int) != (a : Int)) = true := by simp; omega
                    have hb16 := below_alloc hbL (Nat.le_refl _) (.cells #[.slice s.A k s.c, .int .u64 (s.v : Int)] 59)
                    clear hae
                    go_wp2_with fail
                    refine HASC.out.mono ?_
                    rintro e w16 ⟨rfl, rfl⟩
                    clear HASC
                    go_wp2_with (first
                      | (at_builtin
                         refine app_b _ rfl (.tmp 243) (.tmp 248) _ rfl w30.heap.size 59 _ 2 32 Try.underlying49 info_e rfl (by omega) _ cnt _ rfl (HOL.out.alloc _) (some ⟨wy.heap.size, 0, none⟩) 1 1 [.slice s.A k s.c, .int .u64 (s.v : Int)] rfl w30 hb16 (Nat.le_refl _) (Rw.new1 wy 59 #[.slice s.A k s.c, .int .u64 (s.v : Int)] (sz := 2) rfl) ?h2 (by unfold maxLen; omega) (by omega) ?_
                         case h2 =>
                           intro u hu
                           simp at hu
                           rcases hu with rfl | rfl <;> rfl
                         intro v17 w17 ho17 hb17 _
                         have HO17 := hide ho17
                         have HB17 := hide hb17
                         clear ho17 hb17)
                      | fail)
                    go_roundw
                    case rel =>
                      refine ⟨t + 1, cnt + 1, by go_num, by omega, by omega, ?_, HB17.out⟩
                      rw [HTK.out, List.filter_append, List.filter_cons_of_pos (by simp [HAE.out]), List.filter_nil, List.flatMap_append]
                      have he : [s].flatMap entv = [.slice s.A k s.c, .int .u64 (s.v : Int)] := by simp [entv, HSN.out]
                      rw [he]
                      exact HO17.out
                    case measure => simp [intOf]; omega
                · have hte : t = n' := by omega
                  have e5 : decide ((t : Int) < (n' : Int)) = false := by simp; omega
                  have htn' : ¬ t < n' := htn
                  have hli := HEI.out.len
                  rw [hte, List.take_of_length_le (by omega)] at hoL
                  have hcnt : cnt = (ins.filter fun s => decide (addrOf s.p lv ≠ a)).length := by
                    have := hoL.1
                    rw [flat_length entv_len] at this
                    omega
                  have hdl : cnt = (delK ks a).length := by
                    rw [hcnt]
                    have := (HFP.out.filt a).length_eq
                    simpa using this.symm
                  obtain ⟨A21, c21, rfl, hnc21, hR21⟩ := Rw.of_own hoL
                  have hbw := below_then HBZ.out hbL
                  have hE21 : EntsAt wy A21 cnt (ins.filter fun s => decide (addrOf s.p lv ≠ a)) := ⟨hR21, fun s hs => (HEI.out.2 s (List.mem_filter.1 hs).1).below hbw⟩
                  have HE21 := hide (And.intro hE21 hnc21)
                  have HCN := hide hcnt
                  have hkn' : ks.length = n' := by rw [HFP.out.flat.len]; exact hli
                  clear hoL hR21 hE21 hnc21 hcnt hte hli
                  have hd3 : cnt ≠ 1 ∧ cnt ≠ n' ∧ 1 ≤ cnt := by have := HQ.out; omega
                  have e6 : ((cnt : Int) == (n' : Int)) = false := by simp; omega
                  have e7 : ((cnt : Int) == 1) = false := by simp; omega
                  have hd3' := hd3.2.2
                  clear hdl hkn' hd3
                  have hc1 : 1 ≤ cnt := hd3'
                  go_wp2_with fail
                  refine (flat_yes ((HFx.out.stay hbL)) HK0.out.1 HK0.out.2 (HFP.out.filt a).flat HE21.out.1 HE21.out.2 (by omega) hc1 (fun s hs => HKI.out s (List.mem_filter.1 hs).1)).mono ?_
                  rintro e w34 ⟨rfl, hb34⟩
                  have hbw4 := below_then hbw hb34
                  go_wp2_with fail
                  refine (flat_yes (HF10.out.stay (below_then hb hbw4)) HK0.out.1 HK0.out.2 (FlatP.pair HNE.out).flat (HEW.out.below (below_then hb hbw4)) (by have := HCW.out; omega) (by omega) (by omega) HKW.out).mono ?_
                  rintro e w35 ⟨rfl, hbw35⟩
                  go_wp2
                  go_ret
                  exact ⟨rfl, below_then hc5 (below_then hdz (below_then hbw4 hbw35))⟩
          · have hnone : getTh (kidTh ks) (a : Int) = none := getTh_none fun t ht he => by
              obtain ⟨q, hq, rfl⟩ := List.mem_map.1 ht
              exact hex ⟨q, hq, by have : (q.at_ : Int) = (a : Int) := he; omega⟩
            have hdel : delK ks a = ks := by
              unfold delK
              rw [List.filter_eq_self]
              intro q hq
              simp only [decide_eq_true_eq]
              exact fun he => hex ⟨q, hq, he⟩
            have HWN := hide (nd_without_none HFm.out (a : Int) HA2.out.2 hnone)
            have HDEL := hide hdel
            clear hex hnone hdel
            go_wp2_with fail
            refine HWN.out.mono ?_
            rintro e w30 ⟨rfl, hb30⟩
            have t1 := (HCk.out w30 (below_then hdz hb30)).1
            clear t0
            go_wp2_with fail
            refine (HPW.out w30).mono ?_
            rintro e w31 ⟨rfl, rfl⟩
            have b15 := (Below.refl w30.heap.size w30).alloc (Nat.le_refl _) (.cells #[] 59)
            have HO15 := hide (own_empty w30 59 2)
            have HBZ := hide hb30
            go_wp2
            go_loopw [21, 22] (fun x21 x22 wr => ∃ (t cnt : Nat), x22 = .int .i64 (t : Int) ∧ t ≤ n' ∧ cnt ≤ t ∧ wr.ownsRow w30.heap.size 59 2 x21 cnt ((((ins.take t).filter fun s => decide (addrOf s.p lv ≠ a))).flatMap entv) ∧ Below w30.heap.size w30 wr) (fun _ x _ => n' - (intOf x).toNat)
            case atStart => exact ⟨0, 0, rfl, Nat.zero_le _, Nat.le_refl _, HO15.out, b15⟩
            case round =>
              obtain ⟨t, cnt, rfl, ht, hct, hoL, hbL⟩ := hrel
              rename World => wy
              by_cases htn : t < n'
              · obtain ⟨b3, o3, s, rfl, hbl3, hs, hoks, k3, kv3⟩ := ((HEI.out.below HBZ.out).below hbL).at_ htn
                have hsn := HKI.out s (List.mem_of_getElem? hs)
                rw [hsn] at k3
                have hps := hoks.1
                rw [hsn] at hps
                have HASC := hide (ref_addr s.A k s.c lv s.p wy hps (by omega) hlv64)
                have hl := (List.getElem?_eq_some_iff.1 hs).1
                have hv := (List.getElem?_eq_some_iff.1 hs).2
                have htk : ins.take (t + 1) = ins.take t ++ [s] := by rw [List.take_succ_eq_append_getElem hl, hv]
                have HTK := hide htk
                have HOL := hide hoL
                have HSN := hide hsn
                clear hs hoks hsn hps hl hv htk hoL
                by_cases hae : addrOf s.p lv = a
                · have HAE := hide hae
                  rw [hae] at HASC
                  clear hae
                  go_wp2_with fail
                  refine HASC.out.mono ?_
                  rintro e w16 ⟨rfl, rfl⟩
                  go_wp2
                  go_roundw
                  case rel =>
                    refine ⟨t + 1, cnt, by go_num, by omega, by omega, ?_, hbL⟩
                    rw [HTK.out, List.filter_append, List.filter_cons_of_neg (by simp [HAE.out]), List.filter_nil, List.append_nil]
                    exact HOL.out
                  case measure => simp [intOf]; omega
                · have HAE := hide hae
                  have ene : ((addrOf s.p lv : Int) != (a : Int)) = true := by simp; omega
                  have hb16 := below_alloc hbL (Nat.le_refl _) (.cells #[.slice s.A k s.c, .int .u64 (s.v : Int)] 59)
                  clear hae
                  go_wp2_with fail
                  refine HASC.out.mono ?_
                  rintro e w16 ⟨rfl, rfl⟩
                  clear HASC
                  go_wp2_with (first
                    | (at_builtin
                       refine app_b _ rfl (.tmp 243) (.tmp 248) _ rfl w30.heap.size 59 _ 2 32 Try.underlying49 info_e rfl (by omega) _ cnt _ rfl (HOL.out.alloc _) (some ⟨wy.heap.size, 0, none⟩) 1 1 [.slice s.A k s.c, .int .u64 (s.v : Int)] rfl w30 hb16 (Nat.le_refl _) (Rw.new1 wy 59 #[.slice s.A k s.c, .int .u64 (s.v : Int)] (sz := 2) rfl) ?h2 (by unfold maxLen; omega) (by omega) ?_
                       case h2 =>
                         intro u hu
                         simp at hu
                         rcases hu with rfl | rfl <;> rfl
                       intro v17 w17 ho17 hb17 _
                       have HO17 := hide ho17
                       have HB17 := hide hb17
                       clear ho17 hb17)
                    | fail)
                  go_roundw
                  case rel =>
                    refine ⟨t + 1, cnt + 1, by go_num, by omega, by omega, ?_, HB17.out⟩
                    rw [HTK.out, List.filter_append, List.filter_cons_of_pos (by simp [HAE.out]), List.filter_nil, List.flatMap_append]
                    have he : [s].flatMap entv = [.slice s.A k s.c, .int .u64 (s.v : Int)] := by simp [entv, HSN.out]
                    rw [he]
                    exact HO17.out
                  case measure => simp [intOf]; omega
              · have hte : t = n' := by omega
                have e5 : decide ((t : Int) < (n' : Int)) = false := by simp; omega
                have htn' : ¬ t < n' := htn
                have hli := HEI.out.len
                rw [hte, List.take_of_length_le (by omega)] at hoL
                have hcnt : cnt = (ins.filter fun s => decide (addrOf s.p lv ≠ a)).length := by
                  have := hoL.1
                  rw [flat_length entv_len] at this
                  omega
                have hdl : cnt = (delK ks a).length := by
                  rw [hcnt]
                  have := (HFP.out.filt a).length_eq
                  simpa using this.symm
                obtain ⟨A21, c21, rfl, hnc21, hR21⟩ := Rw.of_own hoL
                have hbw := below_then HBZ.out hbL
                have hE21 : EntsAt wy A21 cnt (ins.filter fun s => decide (addrOf s.p lv ≠ a)) := ⟨hR21, fun s hs => (HEI.out.2 s (List.mem_filter.1 hs).1).below hbw⟩
                have HE21 := hide (And.intro hE21 hnc21)
                have HCN := hide hcnt
                have hkn' : ks.length = n' := by rw [HFP.out.flat.len]; exact hli
                clear hoL hR21 hE21 hnc21 hcnt hte hli
                rw [HDEL.out, hkn'] at hdl
                clear hkn'
                subst hdl
                go_wp2_with fail
                refine (flat_yes (HF10.out.stay (below_then hb hbw)) HK0.out.1 HK0.out.2 (FlatP.pair HNE.out).flat (HEW.out.below (below_then hb hbw)) (by have := HCW.out; omega) (by omega) (by omega) HKW.out).mono ?_
                rintro e w33 ⟨rfl, hbw33⟩
                go_wp2
                go_ret
                exact ⟨rfl, below_then hc5 (below_then hdz (below_then hbw hbw33))⟩
  · have HKK := hide hkk
    have e2 : ((r0.n : Int) != (r1.n : Int)) = true := by simp; omega
    clear hkk
    go_wp2_with fail
    go_quiet (fail)
    go_wp2
    go_ret
    exact ⟨rfl, below_drewN hc5 _⟩
theorem pt_nil (w : World) : Pt w none 0 [] := ⟨rfl, Rw.nil _ _ _, fun x h => by cases h⟩
set_option maxRecDepth 100000 in
open Go.ChangeShapes Go.WideShapes in
theorem open_entries {H : Type} {enc : TypeId × Value → H} {w : World} {A : Option Addr} {len cap : Nat} {d : DataW H} {ps : List MemPlace}
    (h : DataW.Trod enc Try.prog w 0 (fun _ => true) true 49 (.slice A len cap) d ps) :
    ∃ rows : List ER, EntsAt w A len rows ∧ len ≤ cap ∧ cap ≤ maxLen := by
  obtain ⟨fuel, h⟩ := h
  obtain ⟨rows, -, hok, h1, h2, h3⟩ := open_elems (sz := 2) entv (fun r => ER.ok w r) entv_len (by omega) Try.underlying49 (by kernel_rfl) (fun n cs d hd => by
    obtain ⟨y0, y1, n', -, hl, g0, g1⟩ := trod_struct2 Try.underlying59 hd
    have hl2 : cs.length = 2 := hl
    match cs, hl2 with
    | [u0, u1], _ =>
      have g0' : DataW.trod enc Try.prog w 0 (fun _ => true) true n' 30 [u0] = some y0 := by
        rw [show Try.prog.cellsOf 30 = 1 by kernel_rfl] at g0
        simpa using g0
      obtain ⟨z, e1, -, hw⟩ := DataW.trod_int Try.underlying28 g1
      have e1' : u1 = .int .u64 z := by
        rw [show Try.prog.cellsOf 28 = 1 by kernel_rfl] at e1
        simpa using e1
      have hz := wf_u64 hw
      have hz1 : u1 = .int .u64 ((z.toNat : Nat) : Int) := by rw [e1', Int.toNat_of_nonneg hz.1]
      rcases Go.Deep.open_slice Try.underlying30 g0' with ⟨h0, _⟩ | ⟨a, l, c, _, _, _, _, h0, _⟩
      · have h0' : u0 = .slice none 0 0 := by simpa using h0
        exact ⟨⟨none, 0, 0, [], z.toNat⟩, by rw [h0', hz1]; rfl, pt_nil w, Nat.le_refl _, Nat.zero_le _, by show z.toNat < 18446744073709551616; omega⟩
      · have h0' : u0 = .slice (some a) l c := by simpa using h0
        rw [h0'] at g0'
        obtain ⟨p, q1, q2, q3⟩ := open_point' g0'
        exact ⟨⟨some a, l, c, p, z.toNat⟩, by rw [h0', hz1]; rfl, q1, q2, q3, by show z.toNat < 18446744073709551616; omega⟩) h
  exact ⟨rows, ⟨h1, hok⟩, h2, h3⟩
theorem node_with (A : Option Addr) (n c : Nat) (rows : List ER) (w : World) (h : EntsAt w A n rows ∧ n ≤ c ∧ c ≤ maxLen) (addr : Int) (ha : (Lit.int .i64 addr).wf = true) :
    Calls Try.prog 7 #[.slice A n c, .int .i64 addr] w fun e w' => e = .returned (.bool true) ∧ Below w.heap.size w w' := by
  by_cases h3 : 30 < n
  · exact node_with_far A n c addr w h3
  · exact node_with_main A n c rows addr w h.1 (by omega) h.2.1 h.2.2 ha
end Go.Proofs.Ytkknfnjojamgjaa
