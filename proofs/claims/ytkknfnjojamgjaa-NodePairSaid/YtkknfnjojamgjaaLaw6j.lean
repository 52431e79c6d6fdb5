/- pantilelaw06.NodePair: two that part. -/
import Derived.Test.YtkknfnjojamgjaaLaw6i
import Derived.Test.YtkknfnjojamgjaaOpenPt
import Derived.Deep.Cut
import Derived.Deep.CutRange
set_option linter.unusedSimpArgs false
set_option linter.unusedVariables false
namespace Go.Proofs.Ytkknfnjojamgjaa
open Go.RowKit
set_option maxHeartbeats 1000000 in
set_option maxRecDepth 100000 in
theorem node_pair_far (A B : Option Addr) (n c m d : Nat) (w : World) (h : 3 < n) :
    Calls Try.prog 5 #[.slice A n c, .slice B m d] w fun e w' => e = .returned (.bool true) ∧ Below w.heap.size w w' := by
  have HA := hide (awake6 w)
  have H3 := hide h
  clear h
  go_enter Try.func5, Try.ntmps5
  go_wp2_with fail
  refine HA.out.mono ?_
  rintro e w1 ⟨rfl, hb1⟩
  go_wp2_with fail
  refine (ref_heavy_far A n c 3 w1 H3.out).mono ?_
  rintro e w2 ⟨rfl, rfl⟩
  go_wp2
  go_ret
  exact ⟨rfl, hb1⟩
theorem rows_two {rows : List ER} {r0 r1 : ER} (h0 : rows[0]? = some r0) (h1 : rows[1]? = some r1) : rows.take 2 = [r0, r1] := by
  match rows, h0, h1 with
  | a :: b :: l, h0, h1 =>
    simp at h0 h1
    rw [h0, h1]; rfl
set_option maxHeartbeats 8000000 in
set_option maxRecDepth 100000 in
theorem node_pair_main (A B : Option Addr) (n c m d : Nat) (rows : List ER) (q : List Nat) (w : World) (h : EntsAt w A n rows) (hn3 : n ≤ 3) (hnc : n ≤ c) (hcm : c ≤ maxLen) (hq : Pt w B m q) :
    Calls Try.prog 5 #[.slice A n c, .slice B m d] w fun e w' => e = .returned (.bool true) ∧ Below w.heap.size w w' := by
  have HA := hide (awake6 w)
  have HE := hide h
  have HQ := hide hq
  have HNC := hide (And.intro hnc hcm)
  clear h hq hnc hcm
  go_enter Try.func5, Try.ntmps5
  go_wp2_with fail
  refine HA.out.mono ?_
  rintro e w1 ⟨rfl, hb1⟩
  have HH := hide (ref_heavy A n c 3 rows w1 (HE.out.below hb1) hn3 (by omega))
  go_wp2_with fail
  refine HH.out.mono ?_
  rintro e w2 ⟨rfl | ⟨rfl, h40⟩, rfl⟩
  · go_wp2
    go_ret
    exact ⟨rfl, hb1⟩
  have H40 := hide h40
  clear h40 HH HA
  by_cases hn2 : n < 2
  · have e1 : decide ((n : Int) < 2) = true := by simp; omega
    go_wp2
    go_ret
    exact ⟨rfl, hb1⟩
  have e1 : decide ((n : Int) < 2) = false := by simp; omega
  have e1' : ¬ n < 2 := hn2
  by_cases hm40 : 40 < m
  · have e2 : decide ((40 : Int) < (m : Int)) = true := by simp; omega
    go_wp2
    go_ret
    exact ⟨rfl, hb1⟩
  have e2 : decide ((40 : Int) < (m : Int)) = false := by simp; omega
  have HLV := hide (leaves A n c rows w1 (HE.out.below hb1) (by omega) H40.out)
  go_wp2_with fail
  refine HLV.out.mono ?_
  rintro e w5 ⟨⟨rfl, hbad⟩ | ⟨C, f, gs, rfl, hright, hgl, hoC, hleaf⟩, hb5⟩
  · clear hbad
    go_wp2
    go_ret
    exact ⟨rfl, below_then hb1 hb5⟩
  have hc5 := below_then hb1 hb5
  obtain ⟨b, o, r0, rfl, hbl, hr0, hok0, k0, -⟩ := (HE.out.below hc5).at_ (i := 0) (by omega)
  obtain ⟨b', o', r1, hA', -, hr1, hok1, k1, -⟩ := (HE.out.below hc5).at_ (i := 1) (by omega)
  injection hA' with hA'
  injection hA' with h1 h2
  subst h1 h2
  have hRC := (own_rw hoC).2
  obtain ⟨bc, oc, hC', hblc, u0, hu0, j0⟩ := hRC.one (i := 0) (by omega)
  obtain ⟨bc', oc', hC2, -, u1, hu1, j1⟩ := hRC.one (i := 1) (by omega)
  subst hC'
  injection hC2 with hC2
  injection hC2 with h1 h2
  subst h1 h2
  unfold ptrs at hu0 hu1
  rw [List.getElem?_map] at hu0 hu1
  obtain ⟨g0, hg0, rfl⟩ := Option.map_eq_some_iff.1 hu0
  obtain ⟨g1, hg1, rfl⟩ := Option.map_eq_some_iff.1 hu1
  have L0 := hide (hleaf 0 r0 g0 hr0 hg0)
  have L1 := hide (hleaf 1 r1 g1 hr1 hg1)
  have R0 := hide (hright r0 (List.mem_of_getElem? hr0))
  have R1 := hide (hright r1 (List.mem_of_getElem? hr1))
  have hk0 : 1 ≤ r0.n ∧ r0.n ≤ 16 := by have := R0.out; unfold rightB at this; simp at this; omega
  have HK0 := hide hk0
  have OK0 := hide hok0
  have OK1 := hide hok1
  have HR0 := hide hr0
  have HR1 := hide hr1
  have HLF := hide hleaf
  have HGL := hide hgl
  have HRC := hide hRC
  have HRI := hide hright
  simp only [Nat.zero_mul, Nat.one_mul, Nat.add_zero, Nat.zero_add] at k0 k1 j0 j1
  have hn0 : (0 : Int) < (n : Int) := by omega
  have hn1 : (1 : Int) < (n : Int) := by omega
  have hn0n : 0 < n := by omega
  have hn1n : 1 < n := by omega
  have HC5 := hide (fun (W : World) (hW : Below w5.heap.size w5 W) => And.intro ((hW.cell (p := ⟨b, o, none⟩) hbl).trans k0) ((hW.cell (p := ⟨b, o + 2, none⟩) hbl).trans k1))
  clear hr0 hok0 hr1 hok1 hu0 hu1 hg0 hg1 hleaf hgl hRC hright hoC HLV hk0
  by_cases hkk : r0.n = r1.n
  · have L1k := hide (show LeafAt w5 r0.n g1 r1.p r1.v by rw [hkk]; exact L1.out)
    have P0 := hide OK0.out.1
    have P1 := hide (show Pt w5 r1.A r0.n r1.p by rw [hkk]; exact OK1.out.1)
    have HCk := hide (fun (W : World) (hW : Below w5.heap.size w5 W) => And.intro (HC5.out W hW).1 (show W.cell? ⟨b, o + 2, none⟩ = some (.slice r1.A r0.n r1.c) by rw [hkk]; exact (HC5.out W hW).2))
    have HN1 := hide hkk.symm
    generalize hk : r0.n = k at *
    have HK := hide hk
    have CAL := fun W => ref_alike r0.A r1.A k r0.c k r1.c W
    rw [R0.out, decide_eq_true (rfl : k = k), Bool.and_self] at CAL
    have HAL := hide CAL
    have hk16 : k ≤ 16 := HK0.out.2
    clear hkk CAL hk L1 HC5 OK1
    by_cases hpp : r0.p = r1.p
    · have hps : part r0.p r1.p ≤ -1 := by rw [← hpp, part_self P0.out.zp]; omega
      have HPS := hide hps
      have HPP := hide hpp
      clear hps hpp
      go_wp2_with fail
      go_region_held3 (fun w' => w'.cell? ⟨bc, oc, none⟩ = some (.pointer (some ⟨g0, 0, none⟩)) ∧ w'.cell? ⟨bc, oc + 1, none⟩ = some (.pointer (some ⟨g1, 0, none⟩)))
        (first
          | go_keep
          | exact hk6)
        (first
          | (go_at_call 35
             refine (nd_pair_arg (L0.out.stay (Below.refl _ w5).drew).node (L1k.out.stay (Below.refl _ w5).drew).node HK0.out.1 HK0.out.2 (.inl HPS.out)).mono ?_
             rintro e w6 ⟨rfl, hb6⟩
             have hd6 : Below w5.heap.size w5 w6 := (Below.refl _ w5).drew.trans hb6
             have hk6 := And.intro ((hd6.cell (p := ⟨bc, oc, none⟩) hblc).trans j0) ((hd6.cell (p := ⟨bc, oc + 1, none⟩) hblc).trans j1)))
      have t0 := (HCk.out w6 hd6).1
      have t1 := (HCk.out w6 hd6).2
      clear hk6
      go_wp2_with fail
      go_quiet ((go_at_call 36
                 exact Calls.quiet_of_same (still_of (HAL.out _))))
      have hd7 := below_drewN hd6 nq
      go_upto_region 11 with fail
      generalize w6.drewN nq = w7 at *
      clear t0 t1
      have t0 := (HCk.out w7 hd7).1
      have t1 := (HCk.out w7 hd7).2
      go_region_held3 (fun w' => w'.cell? ⟨b, o, none⟩ = some (.slice r0.A k r0.c) ∧ w'.cell? ⟨b, o + 2, none⟩ = some (.slice r1.A k r1.c))
        (first
          | go_keep
          | exact hk8)
        (first
          | (go_at_call 37
             have hA := (P0.out.below hd7.drew).2.1
             have hB := (P1.out.below hd7.drew).2.1
             rw [u64s_int] at hA hB
             have CQ := same_u64 r0.A r1.A k r0.c k r1.c _ _ w7.drew hA hB (by omega) (by omega)
             rw [sameB_nat, decide_eq_true HPP.out] at CQ
             refine CQ.mono ?_
             rintro e w8 ⟨rfl, hb8⟩
             have hd8 : Below w5.heap.size w5 w8 := below_then hd7.drew hb8
             have hk8 := HCk.out w8 hd8))
      go_wp2
      go_ret
      exact ⟨rfl, below_then hc5 hd8⟩
    · obtain ⟨m0, hm0⟩ : ∃ m0 : Nat, part r0.p r1.p = (m0 : Int) := by
        obtain ⟨x1, x2, x3, x4⟩ := part_spec r0.p r1.p (by rw [P0.out.1, P1.out.1]) P0.out.2.2 P1.out.2.2
        rcases Int.lt_or_le (part r0.p r1.p) 0 with hx | hx
        · exact absurd (part_neg P0.out.zp P1.out.zp hx) hpp
        · exact ⟨(part r0.p r1.p).toNat, by omega⟩
      have hne : addrOf r0.p m0 ≠ addrOf r1.p m0 := by
        obtain ⟨x1, x2, x3, x4⟩ := part_spec r0.p r1.p (by rw [P0.out.1, P1.out.1]) P0.out.2.2 P1.out.2.2
        rw [hm0] at x4
        have := x4 (by omega)
        rwa [Int.toNat_natCast] at this
      have HPP := hide hpp
      have HM0 := hide hm0
      have HNE := hide hne
      clear hpp hm0 hne
      go_wp2_with fail
      go_region_held3 (fun w' => w'.cell? ⟨bc, oc, none⟩ = some (.pointer (some ⟨g0, 0, none⟩)) ∧ w'.cell? ⟨bc, oc + 1, none⟩ = some (.pointer (some ⟨g1, 0, none⟩)))
        (first
          | go_keep
          | exact hk6)
        (first
          | (go_at_call 35
             refine (nd_pair (L0.out.stay (Below.refl _ w5).drew).node (L1k.out.stay (Below.refl _ w5).drew).node HK0.out.1 HK0.out.2 HM0.out (by omega) (by omega)).mono ?_
             rintro e w6 ⟨gn, rfl, hF6, hgn6, hb6⟩
             have hd6 : Below w5.heap.size w5 w6 := (Below.refl _ w5).drew.trans hb6
             have hk6 := And.intro ((hd6.cell (p := ⟨bc, oc, none⟩) hblc).trans j0) ((hd6.cell (p := ⟨bc, oc + 1, none⟩) hblc).trans j1)
             have HF6 := hide hF6
             clear hF6))
      have t0 := (HCk.out w6 hd6).1
      have t1 := (HCk.out w6 hd6).2
      clear hk6
      go_wp2_with fail
      go_quiet ((go_at_call 36
                 exact Calls.quiet_of_same (still_of (HAL.out _))))
      have hd7 := below_drewN hd6 nq
      have HF7 := hide (HF6.out.stay (below_drewN (Below.refl _ w6) nq))
      go_upto_region 11 with fail
      generalize w6.drewN nq = w7 at *
      clear t0 t1
      have t0 := (HCk.out w7 hd7).1
      have t1 := (HCk.out w7 hd7).2
      go_region_held3 (fun w' => w'.cell? ⟨b, o, none⟩ = some (.slice r0.A k r0.c) ∧ w'.cell? ⟨b, o + 2, none⟩ = some (.slice r1.A k r1.c))
        (first
          | go_keep
          | exact hk8)
        (first
          | (go_at_call 37
             have hA := (P0.out.below hd7.drew).2.1
             have hB := (P1.out.below hd7.drew).2.1
             rw [u64s_int] at hA hB
             have CQ := same_u64 r0.A r1.A k r0.c k r1.c _ _ w7.drew hA hB (by omega) (by omega)
             rw [sameB_nat, decide_eq_false HPP.out] at CQ
             refine CQ.mono ?_
             rintro e w8 ⟨rfl, hb8⟩
             have hq8 : Below w7.heap.size w7 w8 := (Below.refl _ w7).drew.trans hb8
             have hd8 : Below w5.heap.size w5 w8 := below_then hd7.drew hb8
             have hk8 := HCk.out w8 hd8))
      have HF8 := hide (HF7.out.stay hq8)
      clear hk8 t0 t1 HF6 HF7
      have t0 := (HCk.out w8 hd8).1
      have hrows2 := rows_two HR0.out HR1.out
      have hE2 : EntsAt w5 (some ⟨b, o, none⟩) 2 [r0, r1] := by
        have hE := HE.out.below hc5
        refine ⟨?_, fun r hr => hE.2 r ?_⟩
        · have := hE.1.take_ (i := 2) (by omega)
          rw [flat_take, hrows2] at this
          exact this
        · rw [← hrows2] at hr
          exact List.mem_of_mem_take hr
      have HE2 := hide hE2
      have r2s := fun W => run_slice_to (P := Try.prog) (w := W) Try.underlying49 (sz := 2) Try.sizeOf59 (some ⟨b, o, none⟩) n c 2 (by have := HNC.out; omega)
      simp only [Int.cast_ofNat_Int] at r2s
      clear hrows2 hE2
      go_wp2_with fail
      go_region_held3 (fun w' => w'.cell? ⟨b, o, none⟩ = some (.slice r0.A k r0.c))
        (first
          | go_keep
          | exact hk9)
        (first
          | (go_at_call 38
             refine (ref_all (some ⟨b, o, none⟩) k 2 c [r0, r1] w8.drew (HE2.out.below hd8.drew) (by omega) HK0.out.2).mono ?_
             rintro e w9 ⟨A9, n9, c9, rfl, hE9, hnc9, hn9, hb9⟩
             have hq9 : Below w8.heap.size w8 w9 := (Below.refl _ w8).drew.trans hb9
             have hd9 := below_then hd8 hq9
             have hk9 := (HCk.out w9 hd9).1
             have HE9 := hide hE9
             have HN9 := hide (And.intro hnc9 hn9)
             clear hE9 hnc9 hn9))
      obtain ⟨p1, p2, p3⟩ := es_pair2 HF8.out HNE.out P0.out.zp P1.out.zp HK.out HN1.out
      have HPE := hide p1
      have HPS := hide p2
      have HPM := hide p3
      have hlen9 := HE9.out.len
      have hF9 := HF8.out.stay hq9
      have CI := is_node hF9.node HK0.out.1 HK0.out.2 w9 A9 c9 (allR k [r0, r1]) (Below.refl _ _) (by rw [hlen9]; exact HE9.out) (by rw [hlen9]; exact HN9.out.1) (by rw [hlen9]; exact HN9.out.2) (fun r hr => (allR_sub k _ r hr).2) p1
      rw [hlen9] at CI
      have HCI := hide CI
      have HF9 := hide hF9
      clear p1 p2 p3 hlen9 hF9 CI hk9 t0 HF8 r2s
      go_wp2_with fail
      refine HCI.out.mono ?_
      rintro e w10 ⟨rfl, hb10⟩
      have hd10 := below_then hd9 hb10
      have HF10 := hide (HF9.out.stay hb10)
      clear HF9 HCI
      go_upto_region 16 with fail
      have hd10' := hd10
      have HD10 := hide hd10
      have t0 := (HCk.out w10 hd10).1
      obtain ⟨hz0, hzp⟩ : (∀ b, b ≤ m0 → addrOf (cut (m0 + 1) r0.p) b = 0) ∧ Zp k (cut (m0 + 1) r0.p) := ⟨fun b hb => addr_cut_lo _ (by omega), zp_cut P0.out.zp⟩
      have HZ0 := hide (And.intro hz0 hzp)
      have hm64 : m0 < 64 := by have := HF10.out.node.info.2.2.2.1; omega
      clear hz0 hzp
      go_cut [108] from 90 to 107 (fun s108 W => s108 = .bool false ∧ Below w10.heap.size w10 W)
      case first =>
        by_cases hkm : k = m
        · have hQ10 : Pt w10 B k q := by rw [hkm]; exact HQ.out.below (below_then hc5 HD10.out)
          have CA := ref_alike r0.A B k r0.c m d w10
          rw [R0.out, decide_eq_true hkm, Bool.and_self] at CA
          have HCA := hide CA
          have CV := nd_covers HF10.out.node HK0.out.1 HK0.out.2 hQ10 (d := d)
          have hiff := covers_cut HZ0.out.2 hQ10.zp HZ0.out.1
          have hdec : decide (part (cut (m0 + 1) r0.p) q ≤ (m0 : Int)) = decide (cut (m0 + 1) q = cut (m0 + 1) r0.p) := by
            by_cases hx : part (cut (m0 + 1) r0.p) q ≤ (m0 : Int)
            · rw [decide_eq_true hx, decide_eq_true (hiff.1 hx)]
            · rw [decide_eq_false hx, decide_eq_false (fun h => hx (hiff.2 h))]
          rw [hdec] at CV
          have HCV := hide CV
          have CC := ref_cut B k d (m0 + 1) q w10 hQ10 (by omega) (by omega)
          rw [show ((m0 + 1 : Nat) : Int) - 1 = (m0 : Int) by omega] at CC
          have HCC := hide CC
          have HKM := hide hkm
          subst hkm
          clear CA CV CC hiff hdec hQ10
          go_wp2_with fail
          refine HCA.out.mono ?_
          rintro e w11 ⟨rfl, rfl⟩
          go_wp2_with fail
          refine HCV.out.mono ?_
          rintro e w11 ⟨rfl, rfl⟩
          go_wp2_with fail
          refine (nd_level HF10.out.node).mono ?_
          rintro e w11 ⟨rfl, rfl⟩
          go_wp2_with fail
          refine HCC.out.mono ?_
          rintro e w11 ⟨v11, rfl, ho11, hb11⟩
          obtain ⟨A11, c11, rfl, -, hR11⟩ := Rw.of_own ho11
          have HPX := hide (nd_prefix (HF10.out.stay hb11).node HK0.out.2)
          have HR11 := hide hR11
          clear ho11 hR11 HCA HCV HCC
          go_wp2_with fail
          refine HPX.out.mono ?_
          rintro e w12 ⟨v12, rfl, ho12, hb12⟩
          obtain ⟨A12, c12, rfl, -, hR12⟩ := Rw.of_own ho12
          have hR11 := HR11.out.below hb12
          rw [u64s_int] at hR11 hR12
          have CQ := same_u64 A11 A12 k c11 k c12 _ _ w12 hR11 hR12 (by omega) (by omega)
          rw [sameB_nat] at CQ
          have HCQ := hide CQ
          have hb112 := below_then hb11 hb12
          generalize decide (cut (m0 + 1) q = cut (m0 + 1) r0.p) = sb at *
          clear CQ hR11 hR12 ho12 HPX
          go_wp2_with fail
          refine HCQ.out.mono ?_
          rintro e w13 ⟨rfl, hb13⟩
          go_wp2_with fail
          go_meet
          exact ⟨by simp, below_then hb112 hb13⟩
        · have CA := ref_alike r0.A B k r0.c m d w10
          rw [R0.out, decide_eq_false hkm, Bool.and_false] at CA
          have HCA := hide CA
          clear CA hkm
          go_wp2_with fail
          refine HCA.out.mono ?_
          rintro e w11 ⟨rfl, rfl⟩
          go_wp2_with fail
          go_meet
          exact ⟨rfl, Below.refl _ _⟩
      case rest =>
        obtain ⟨rfl, hbq⟩ := hcut
        have hdc := below_then HD10.out hbq
        have HF := hide (HF10.out.stay hbq)
        clear t0 HF10 hd10 hd10'
        by_cases hn2' : n < 3
        · have e3 : decide ((n : Int) < 3) = true := by simp; omega
          go_wp2
          go_ret
          exact ⟨rfl, below_then hc5 hdc⟩
        · have e3 : decide ((n : Int) < 3) = false := by simp; omega
          have hn2i : (2 : Int) < (n : Int) := by omega
          have hn2n : 2 < n := by omega
          obtain ⟨b', o', r2, hA', hbl', hr2, hok2, k2, -⟩ := ((HE.out.below hc5).at_ (i := 2) (by omega))
          injection hA' with hA'
          injection hA' with h1 h2
          subst h1 h2
          obtain ⟨bc', oc', hC2, -, u2, hu2, j2⟩ := HRC.out.one (i := 2) (by omega)
          injection hC2 with hC2
          injection hC2 with h1 h2
          subst h1 h2
          unfold ptrs at hu2
          rw [List.getElem?_map] at hu2
          obtain ⟨g2, hg2, rfl⟩ := Option.map_eq_some_iff.1 hu2
          have L2 := hide (HLF.out 2 r2 g2 hr2 hg2)
          have R2 := hide (HRI.out r2 (List.mem_of_getElem? hr2))
          have OK2 := hide hok2
          have HR2 := hide hr2
          have HC2 := hide (fun (W : World) (hW : Below w5.heap.size w5 W) => And.intro ((hW.cell (p := ⟨b, o, none⟩) hbl).trans ((HCk.out w5 (Below.refl _ _)).1)) (And.intro ((hW.cell (p := ⟨b, o + 2 * 2, none⟩) hbl).trans k2) ((hW.cell (p := ⟨bc, oc + 2, none⟩) hblc).trans j2)))
          have t2 := (HC2.out wc hdc).2.2
          have hn3' : n = 3 := by omega
          have hrows3 : rows = [r0, r1, r2] := by
            have hl := HE.out.len
            have h0 := HR0.out
            have h1 := HR1.out
            match rows, hl, h0, h1, hr2 with
            | [x, y, z], _, h0, h1, h2 =>
              simp at h0 h1 h2
              rw [h0, h1, h2]
            | [], hl, _, _, _ => simp at hl; omega
            | [x], hl, _, _, _ => simp at hl; omega
            | [x, y], hl, _, _, _ => simp at hl; omega
            | x :: y :: z :: t :: l, hl, _, _, _ => simp at hl; omega
          have HRW := hide hrows3
          have HN3 := hide hn3'
          clear hr2 hok2 k2 hu2 hg2 j2 hbl' hn3' hrows3
          rename World => wx
          by_cases hk2 : k = r2.n
          · have P2 := hide (show Pt w5 r2.A k r2.p by rw [hk2]; exact OK2.out.1)
            have L2k := hide (show LeafAt w5 k g2 r2.p r2.v by rw [hk2]; exact L2.out)
            have HC2k := hide (fun (W : World) (hW : Below w5.heap.size w5 W) => And.intro (HC2.out W hW).1 (And.intro (show W.cell? ⟨b, o + 2 * 2, none⟩ = some (.slice r2.A k r2.c) by rw [hk2]; exact (HC2.out W hW).2.1) (HC2.out W hW).2.2))
            have CA := fun W => ref_alike r0.A r2.A k r0.c r2.n r2.c W
            rw [R0.out, decide_eq_true hk2, Bool.and_self, ← hk2] at CA
            have HCA := hide CA
            have HK2 := hide hk2.symm
            clear CA hk2 HC2 L2 OK2
            by_cases hcov : part (cut (m0 + 1) r0.p) r2.p ≤ (m0 : Int)
            · have HPD := hide (nd_pair_arg HF.out.node (L2k.out.stay hdc).node HK0.out.1 HK0.out.2 (.inl hcov))
              have HCV := hide hcov
              clear hcov
              go_wp2_with fail
              refine HPD.out.mono ?_
              rintro e w14 ⟨rfl, hb14⟩
              have hd14 := below_then hdc hb14
              have t3 := (HC2k.out w14 hd14).1
              have t4 := (HC2k.out w14 hd14).2.1
              clear t2
              go_wp2_with fail
              go_quiet ((go_at_call 36
                         exact Calls.quiet_of_same (still_of (HCA.out _))))
              have hd15 := below_drewN hd14 nq
              have HF15 := hide ((HF.out.stay hb14).stay (below_drewN (Below.refl _ w14) nq))
              go_upto_region 23 with fail
              generalize w14.drewN nq = w15 at *
              have t5 := (HC2k.out w15 hd15).2.1
              clear t3 t4
              have CV := nd_covers HF15.out.node HK0.out.1 HK0.out.2 (P2.out.below hd15) (d := r2.c)
              rw [decide_eq_true HCV.out] at CV
              have HCV2 := hide CV
              clear CV
              go_wp2_with fail
              refine HCV2.out.mono ?_
              rintro e w16 ⟨rfl, rfl⟩
              go_wp2
              go_ret
              exact ⟨rfl, below_then hc5 hd15⟩
            · obtain ⟨mm, hmm⟩ : ∃ mm : Nat, part (cut (m0 + 1) r0.p) r2.p = (mm : Int) := ⟨(part (cut (m0 + 1) r0.p) r2.p).toNat, by omega⟩
              have hmmlt : m0 < mm := by omega
              obtain ⟨x1, x2, x3, x4⟩ := part_spec (cut (m0 + 1) r0.p) r2.p (by rw [HZ0.out.2.1, P2.out.1]) HZ0.out.2.2 P2.out.2.2
              rw [hmm] at x2 x3 x4
              have hne2 : addrOf (cut (m0 + 1) r0.p) mm ≠ addrOf r2.p mm := by
                have := x4 (by omega)
                rwa [Int.toNat_natCast] at this
              have hmm64 : mm < 64 := by omega
              have hadr : addrOf (cut (m0 + 1) r0.p) mm = addrOf r0.p mm := addr_cut_hi _ (by omega)
              have hpi := HF.out.node.info.2.2.2.2.1
              have hdiff : ∀ e : Ent, e ∈ kidEs (pairK g0 g1 (-1) (-1) r0.p r1.p [(r0.p, r0.v)] [(r1.p, r1.v)] m0) → e.1 ≠ r2.p := fun e he h => by
                have := (hpi e he).2.2 mm (by omega)
                rw [h] at this
                exact hne2 this.symm
              have hd0 : r0.p ≠ r2.p := hdiff (r0.p, r0.v) ((pairK_es HNE.out _).2 (.inl (List.mem_singleton.2 rfl)))
              have hd1 : r1.p ≠ r2.p := hdiff (r1.p, r1.v) ((pairK_es HNE.out _).2 (.inr (List.mem_singleton.2 rfl)))
              have HPD := hide (nd_pair HF.out.node (L2k.out.stay hdc).node HK0.out.1 HK0.out.2 hmm (by omega) (by omega))
              have HCV := hide hcov
              have HX := hide (And.intro hd0 (And.intro hd1 (And.intro hne2 hadr)))
              clear hcov hmm hpi hdiff hd0 hd1 hne2 hadr x1 x2 x3 x4
              go_wp2_with fail
              refine HPD.out.mono ?_
              rintro e w14 ⟨gm, rfl, hFm, hgm, hb14⟩
              have hd14 := below_then hdc hb14
              have t3 := (HC2k.out w14 hd14).1
              have t4 := (HC2k.out w14 hd14).2.1
              have HFm := hide hFm
              clear t2 hFm HPD
              go_wp2_with fail
              go_quiet ((go_at_call 36
                         exact Calls.quiet_of_same (still_of (HCA.out _))))
              have hd15 := below_drewN hd14 nq
              have HF15 := hide ((HF.out.stay hb14).stay (below_drewN (Below.refl _ w14) nq))
              have HFm15 := hide (HFm.out.stay (below_drewN (Below.refl _ w14) nq))
              go_upto_region 23 with fail
              generalize w14.drewN nq = w15 at *
              have t5 := (HC2k.out w15 hd15).2.1
              clear t3 t4
              have CV := nd_covers HF15.out.node HK0.out.1 HK0.out.2 (P2.out.below hd15) (d := r2.c)
              rw [decide_eq_false (show ¬ part (cut (m0 + 1) r0.p) r2.p ≤ (m0 : Int) by have := HCV.out; omega)] at CV
              have HCV2 := hide CV
              clear CV
              go_wp2_with fail
              refine HCV2.out.mono ?_
              rintro e w16 ⟨rfl, rfl⟩
              clear t5 HCV2 HFm
              have hes3 := es_pair3 (K := []) HFm15.out HX.out.2.2.1 HPE.out HPS.out HPM.out P2.out.zp HK2.out HX.out.1 HX.out.2.1
              have HES3 := hide hes3
              obtain ⟨y1, y2⟩ := pair_kids HFm15.out HX.out.2.2.1
              rw [HX.out.2.2.2] at y1
              have HY := hide (And.intro y1 y2)
              obtain ⟨Am, cm, gsm, hpm, hSm, hBm⟩ := HFm15.out.head
              have HSm := hide hSm
              have HBm := hide hBm
              have z1 := ptr_same ⟨gn, 0, none⟩
              have z2 := ptr_same ⟨g2, 0, none⟩
              have s0 := (HC2k.out w15 hd15).1
              have s2 := (HC2k.out w15 hd15).2.1
              have s3 := (HC2k.out w15 hd15).2.2
              clear hes3 y1 y2 hpm hSm hBm
              go_upto_region 25 with fail
              go_region_held3 (fun w' => w'.cell? ⟨b, o, none⟩ = some (.slice r0.A k r0.c) ∧ w'.cell? ⟨b, o + 2 * 2, none⟩ = some (.slice r2.A k r2.c) ∧ w'.cell? ⟨bc, oc + 2, none⟩ = some (.pointer (some ⟨g2, 0, none⟩)))
                (first
                  | go_keep
                  | exact hk17
                  | exact hk18
                  | exact hk19
                  | exact hk20)
                (first
                  | (go_at_call 38
                     refine (ref_all (some ⟨b, o, none⟩) k n c rows w15.drew ((HE.out.below hc5).below hd15.drew) (by omega) HK0.out.2).mono ?_
                     rintro e w17 ⟨A17, n17, c17, rfl, hE17, hnc17, hn17, hb17⟩
                     have hq17 : Below w15.heap.size w15 w17 := (Below.refl _ w15).drew.trans hb17
                     have hd17 := below_then hd15 hq17
                     have hk17 := HC2k.out w17 hd17
                     rw [HRW.out] at hE17
                     have HE17 := hide (And.intro hE17 (And.intro hnc17 hn17))
                     clear hE17 hnc17 hn17)
                  | (go_at_call 39
                     have hlen17 := HE17.out.1.len
                     have CI := is_node (HFm15.out.stay hq17).node HK0.out.1 HK0.out.2 w17 A17 c17 (allR k [r0, r1, r2]) (Below.refl _ _) (by rw [hlen17]; exact HE17.out.1) (by rw [hlen17]; exact HE17.out.2.1) (by rw [hlen17]; exact HE17.out.2.2) (fun r hr => (allR_sub k _ r hr).2) HES3.out
                     rw [hlen17] at CI
                     refine CI.mono ?_
                     clear CI hlen17
                     rintro e w18 ⟨rfl, hb18⟩
                     have hq18 := below_then hq17 hb18
                     have hd18 := below_then hd15 hq18
                     have hk18 := HC2k.out w18 hd18)
                  | (go_at_call 42
                     fail_if_success (have hxx := hq19)
                     refine (nd_level (HFm15.out.stay hq18).node).mono ?_
                     rintro e w19 ⟨rfl, rfl⟩)
                  | (go_at_call 45
                     fail_if_success (have hxx := hq19)
                     refine (ref_addr r0.A k r0.c mm r0.p w18 (P0.out.below hd18) (by omega) hmm64).mono ?_
                     rintro e w19 ⟨rfl, rfl⟩)
                  | (go_at_call 44
                     fail_if_success (have hxx := hq19)
                     have CK := nd_kid (HBm.out.below hq18) (HSm.out.below hq18) (addrOf r0.p mm : Int)
                     rw [HY.out.1] at CK
                     refine CK.mono ?_
                     rintro e w19 ⟨rfl, hb19⟩
                     have hq19 := below_then hq18 hb19
                     have hd19 := below_then hd15 hq19
                     have hk19 := HC2k.out w19 hd19)
                  | (go_at_call 42
                     refine (nd_level (HFm15.out.stay hq19).node).mono ?_
                     rintro e w20 ⟨rfl, rfl⟩)
                  | (go_at_call 45
                     refine (ref_addr r2.A k r2.c mm r2.p w19 (P2.out.below hd19) (by omega) hmm64).mono ?_
                     rintro e w20 ⟨rfl, rfl⟩)
                  | (go_at_call 44
                     have CK := nd_kid (HBm.out.below hq19) (HSm.out.below hq19) (addrOf r2.p mm : Int)
                     rw [HY.out.2] at CK
                     refine CK.mono ?_
                     rintro e w20 ⟨rfl, hb20⟩
                     have hq20 := below_then hq19 hb20
                     have hd20 := below_then hd15 hq20
                     have hk20 := HC2k.out w20 hd20))
              go_wp2
              go_ret
              exact ⟨rfl, below_then hc5 hd20⟩
          · have HKN := hide hk2
            have CA := fun W => ref_alike r0.A r2.A k r0.c r2.n r2.c W
            rw [R0.out, decide_eq_false hk2, Bool.and_false] at CA
            have HCA := hide CA
            have HPD := hide (nd_pair_dim HF.out.node (L2.out.stay hdc).node HKN.out)
            clear hk2 CA
            go_wp2_with fail
            refine HPD.out.mono ?_
            rintro e w14 ⟨rfl, hb14⟩
            have hd14 := below_then hdc hb14
            have t3 := (HC2.out w14 hd14).1
            have t4 := (HC2.out w14 hd14).2.1
            clear t2
            go_wp2_with fail
            go_quiet ((go_at_call 36
                       exact Calls.quiet_of_same (still_of (HCA.out _))))
            go_wp2
            go_ret
            exact ⟨rfl, below_drewN (below_then hc5 hd14) _⟩
  · have HKK := hide hkk
    have hal : (rightB r0.n && decide (r0.n = r1.n)) = false := by rw [R0.out]; simp [hkk]
    have HAL := hide hal
    clear hkk hal
    go_wp2_with fail
    go_region_held3 (fun w' => w'.cell? ⟨bc, oc, none⟩ = some (.pointer (some ⟨g0, 0, none⟩)) ∧ w'.cell? ⟨bc, oc + 1, none⟩ = some (.pointer (some ⟨g1, 0, none⟩)))
      (first
        | go_keep
        | exact hk6)
      (first
        | (go_at_call 35
           refine (nd_pair_dim (L0.out.stay (Below.refl _ w5).drew).node (L1.out.stay (Below.refl _ w5).drew).node HKK.out).mono ?_
           rintro e w6 ⟨rfl, hb6⟩
           have hd6 : Below w5.heap.size w5 w6 := (Below.refl _ w5).drew.trans hb6
           have hk6 := And.intro ((hd6.cell (p := ⟨bc, oc, none⟩) hblc).trans j0) ((hd6.cell (p := ⟨bc, oc + 1, none⟩) hblc).trans j1)))
    have t0 := (HC5.out w6 hd6).1
    have t1 := (HC5.out w6 hd6).2
    clear hk6
    go_wp2_with fail
    go_quiet ((go_at_call 36
               have CA := fun W => ref_alike r0.A r1.A r0.n r0.c r1.n r1.c W
               rw [HAL.out] at CA
               exact Calls.quiet_of_same (still_of (CA _))))
    go_wp2
    go_ret
    exact ⟨rfl, below_drewN (below_then hc5 hd6) _⟩
end Go.Proofs.Ytkknfnjojamgjaa
