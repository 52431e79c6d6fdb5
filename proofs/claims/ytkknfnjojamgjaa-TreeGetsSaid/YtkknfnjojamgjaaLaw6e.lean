/- pantilelaw06.Is: a node with all below it. -/
import Derived.Test.YtkknfnjojamgjaaLaw6d
set_option linter.unusedSimpArgs false
set_option linter.unusedVariables false
namespace Go.Proofs.Ytkknfnjojamgjaa
open Go.RowKit
/-- Is says yes, of any list in memory. -/
def IsYes (w : World) (k g : Nat) (es : List Ent) : Prop :=
  ∀ (W : World) (B : Option Addr) (m : Nat) (rows : List ER), Below w.heap.size w W → EntsAt W B rows.length rows → rows.length ≤ m → rows.length ≤ 65536 → (∀ r ∈ rows, r.n = k) → ents rows = es →
    Calls Try.prog 39 #[.pointer (some ⟨g, 0, none⟩), .slice B rows.length m] W fun e w' => e = .returned (.bool true) ∧ Below W.heap.size W w'
theorem places_int (ks : List Kid) : (ks.map fun q => Value.int .i64 (q.at_ : Int)) = ((ks.map fun q => (q.at_ : Int)).map fun z => Value.int .i64 z) := by simp [Function.comp_def]
theorem placesG_int {k lv : Nat} {pre : List Nat} {ks : List Kid} {G : List (List ER)} (h : ForkG k lv pre ks G) : ((placesG G lv).map fun (x : Nat) => Value.int .i64 (x : Int)) = ((ks.map fun q => (q.at_ : Int)).map fun z => Value.int .i64 z) := by
  rw [h.places]; simp [Function.comp_def]
set_option maxHeartbeats 8000000 in
set_option maxRecDepth 100000 in
theorem is_fork {w : World} {k g lv n : Nat} {pre : List Nat} {ks : List Kid} {B : Option Addr} {m : Nat} {G : List (List ER)} (hF : Fork w k g lv pre ks) (hk1 : 1 ≤ k) (hk : k ≤ 16) (hE : EntsAt w B n G.flatten) (hnm : n ≤ m) (hn : n ≤ 65536) (hkk : ∀ r ∈ G.flatten, r.n = k)
    (hG : ForkG k lv pre ks G) (hes : ents G.flatten = kidEs ks) (ih : ∀ q ∈ ks, IsYes w k q.blk q.es) :
    Calls Try.prog 39 #[.pointer (some ⟨g, 0, none⟩), .slice B n m] w fun e w' => e = .returned (.bool true) ∧ Below w.heap.size w w' := by
  obtain ⟨r0, s0, hr0, hs0, hpart, hcut, hn2⟩ := hG.part_ hF hE hkk
  have hL : ∀ W, Below w.heap.size w W → Calls Try.prog 136 #[.slice B n m] W fun e w' => e = .returned (.int .i64 (lv : Nat)) ∧ Below W.heap.size W w' := fun W hW => by
    have := ref_level B n m k G.flatten r0 s0 W (hE.below hW) hr0 hs0 (hkk r0 (List.mem_of_getElem? hr0)) (hkk s0 (List.mem_of_getElem? hs0)) (by omega) (by omega) (by omega)
    rwa [hpart] at this
  have hlv : lv < 64 := by obtain ⟨_, _, _, h1, _⟩ := hF; exact h1
  obtain ⟨A, c, gs, hp, hS, hB⟩ := hF.head
  have HLG := hide hG.len
  have hkl : ks.length ≤ 65536 := by
    have h1 := len_le_of_ok hS.ok
    have h2 := pow16 hS.2.1
    simp [kidTh] at h1
    omega
  have HRS := hide (fun (W : World) (hW : Below w.heap.size w W) => ref_shape B n m k lv G r0 W (hE.below hW) hnm hkk hk1 hk hn hn2 hlv hG.parts hr0 (fun X hX => hL X (below_then hW hX)))
  have HKI := hide (fun (W : World) (hW : Below w.heap.size w W) => ref_kids B n m k lv G W (hE.below hW) hnm hkk (by omega) hn (by omega) hlv hG.parts (fun X hX => hL X (below_then hW hX)))
  have HSG := hide (fun (W : World) (hW : Below w.heap.size w W) => nd_shape_fork (hB.below hW) (hp.below hW) hk (hS.below hW))
  have HF := hide hF
  have HB := hide hB
  have HS := hide hS
  have HE := hide hE
  have HCUT := hide hcut
  have HG := hide hG
  have HES := hide hes
  have HKK := hide hkk
  have HIH := hide ih
  have HNM := hide hnm
  obtain ⟨b, o, r', rfl, hbl, hr, hok, k0, -⟩ := hE.at_ (i := 0) (by omega)
  rw [hr0] at hr
  injection hr with hr
  subst hr
  simp only [Nat.zero_mul, Nat.add_zero] at k0
  rw [hkk r0 (List.mem_of_getElem? hr0)] at k0
  have hn0 : (0 : Int) < (n : Int) := by omega
  have hn0' : 0 < n := by omega
  have en1 : ((n : Int) == 1) = false := by simp; omega
  clear hF hE hkk hG hes ih hr0 hs0 hpart hcut hL hp hS hB hok hnm
  have HEN := hide (nd_entry_fork HB.out)
  go_enter Try.func39, Try.ntmps39
  go_wp2_with fail
  refine HEN.out.mono ?_
  rintro e w1 ⟨rfl, hb1⟩
  have c2 := below_alloc hb1 (Nat.le_refl _) (.cells #[.slice none 0 0, .int .u64 0] 59)
  clear hb1 HEN k0
  go_upto_region 3 with fail
  generalize w1.alloc (.cells #[.slice none 0 0, .int .u64 0] 59) = w2 at *
  have HK := hide (nd_k (HF.out.node.stay c2))
  go_wp2_with fail
  refine HK.out.mono ?_
  rintro e w3 ⟨rfl, rfl⟩
  go_wp2_with fail
  refine (HSG.out _ c2).mono ?_
  rintro e w3 ⟨B3, d3, C3, f3, rfl, hR3, hP3, hb3⟩
  have c3 := below_then c2 hb3
  have HR3 := hide hR3
  have HP3 := hide hP3
  clear HK hR3 hP3
  go_wp2_with fail
  refine (HRS.out _ c3).mono ?_
  rintro e w4 ⟨B4, d4, C4, f4, rfl, hR4, hP4, hb4⟩
  have c4 := below_then c3 hb4
  rw [HCUT.out, u64s_int] at hR4
  rw [placesG_int HG.out] at hP4
  have hR3 := HR3.out.below hb4
  have hP3 := HP3.out.below hb4
  rw [u64s_int] at hR3
  rw [places_int] at hP3
  rw [HLG.out] at hP4
  have HSS := hide (same_shape B3 B4 C3 C4 k d3 d4 ks.length f3 f4 (lv : Int) (denseB k ks.length) 0 _ _ w4 hR3 hR4 hP3 hP4 (by omega) (by omega))
  have hlg := HLG.out
  rw [hlg]
  clear hR4 hP4 hR3 hP3
  go_wp2_with fail
  refine HSS.out.mono ?_
  rintro e w5 ⟨rfl, hb5⟩
  have c5 := below_then c4 hb5
  have HSu := hide (nd_sums (HB.out.below c5))
  clear HSS hb3 hb4 hb5 hlg
  go_wp2_with fail
  refine HSu.out.mono ?_
  rintro e w6 ⟨rfl, hb6⟩
  have c6 := below_then c5 hb6
  have CR := ref_sums (some ⟨b, o, none⟩) n m G.flatten w6 (HE.out.below c6) (by omega)
  rw [HES.out] at CR
  have HCR := hide CR
  clear CR HSu hb6
  generalize sumsOf (kidEs ks) = sm at *
  go_wp2_with fail
  refine HCR.out.mono ?_
  rintro e w7 ⟨rfl, hb7⟩
  have c7 := below_then c6 hb7
  have HLv := hide (nd_level (HF.out.node.stay c7))
  clear HCR hb7
  unfold Sum4.val
  go_wp2_with fail
  refine HLv.out.mono ?_
  rintro e w8 ⟨rfl, rfl⟩
  clear HLv
  go_wp2_with fail
  refine (HRS.out _ c7).mono ?_
  rintro e w8 ⟨B8, d8, C8, f8, rfl, -, -, hb8⟩
  have c8 := below_then c7 hb8
  have q0 := shape_fld0 (.int .i64 (lv : Int)) (.slice B8 k d8) (.slice C8 G.length f8) (.bool (denseB k G.length)) (.int .u64 0)
  have HPf := hide (nd_prefix (HF.out.node.stay c8) hk)
  clear hb8
  go_wp2_with fail
  refine HPf.out.mono ?_
  rintro e w9 ⟨v9, rfl, ho9, hb9⟩
  have c9 := below_then c8 hb9
  obtain ⟨B9, d9, rfl, -, hR9⟩ := Rw.of_own ho9
  have HR9 := hide hR9
  clear ho9 hR9 HPf hb9
  go_wp2_with fail
  refine (HRS.out _ c9).mono ?_
  rintro e w10 ⟨Ba, da, Ca, fa, rfl, hRa, -, hb10⟩
  have c10 := below_then c9 hb10
  have q1 := shape_fld1 (.int .i64 (lv : Int)) (.slice Ba k da) (.slice Ca G.length fa) (.bool (denseB k G.length)) (.int .u64 0)
  rw [HCUT.out, u64s_int] at hRa
  have hR9 := HR9.out.below hb10
  rw [u64s_int] at hR9
  have CQ := same_u64 B9 Ba k d9 k da _ _ w10 hR9 hRa (by omega) (by omega)
  rw [show sameB (pre.map fun (x : Nat) => (x : Int)) (pre.map fun (x : Nat) => (x : Int)) = true by simp [sameB]] at CQ
  have HCQ := hide CQ
  clear CQ hRa hR9 hb10
  go_wp2_with fail
  refine HCQ.out.mono ?_
  rintro e w11 ⟨rfl, hb11⟩
  have c11 := below_then c10 hb11
  clear HCQ hb11 q0 q1 HR9 HR3 HP3
  go_wp2_with fail
  refine (HKI.out _ c11).mono ?_
  rintro e w12 ⟨C, f, rfl, hoC, hb12⟩
  have c12 := below_then c11 hb12
  have HOC := hide (own_rw hoC).2
  clear hoC
  go_wp2
  go_loopw [9] (fun x9 wr => ∃ (j : Nat), x9 = .int .i64 (j : Int) ∧ j ≤ G.length ∧ Below w12.heap.size w12 wr) (fun x _ => G.length - (intOf x).toNat)
  case atStart => exact ⟨0, rfl, Nat.zero_le _, Below.refl _ _⟩
  case round =>
    obtain ⟨j, rfl, hj, hb⟩ := hrel
    have hgl2 : G.length ≤ 65536 := by rw [HLG.out]; exact hkl
    by_cases hjn : j < G.length
    · obtain ⟨gg, hg⟩ : ∃ gg, G[j]? = some gg := ⟨G[j], List.getElem?_eq_getElem hjn⟩
      have hjk : j < ks.length := by rw [← HLG.out]; exact hjn
      obtain ⟨q, hq⟩ : ∃ q, ks[j]? = some q := ⟨ks[j], List.getElem?_eq_getElem hjk⟩
      have hqm := List.mem_of_getElem? hq
      have cz := below_then c12 hb
      have hE1 := HE.out.below cz
      obtain ⟨s1, s2, s3⟩ := hE1.seg HNM.out hg
      have hg0 : 0 < gg.length := List.length_pos_iff.2 (HG.out.parts.ne gg (List.mem_of_getElem? hg))
      obtain ⟨b2, o2, r1, hA2, hbl2, hr1, hok1, k2, -⟩ := s2.at_ (i := 0) hg0
      have hr1n := HKK.out r1 (List.mem_flatten.2 ⟨gg, List.mem_of_getElem? hg, List.mem_of_getElem? hr1⟩)
      rw [hr1n] at k2
      have hp1 := hok1.1
      rw [hr1n] at hp1
      simp only [Nat.zero_mul, Nat.add_zero] at k2
      rw [hA2] at s1 s2
      obtain ⟨b5, o5, rfl, hbl5, u, hu, k5⟩ := (HOC.out.below hb).one hjn
      have hu2 : u = .slice (some ⟨b2, o2, none⟩) gg.length (m - fl G j) := by
        unfold segvs at hu
        rw [List.getElem?_map, List.getElem?_range hjn] at hu
        simp at hu
        rw [← hu, s1]
      rw [hu2] at k5
      have hat := HG.out.at_ j gg q r1 hg hq (List.mem_of_getElem? hr1)
      have hge := HG.out.es j gg q hg hq
      have hth : getTh (kidTh ks) (q.at_ : Int) = some (.pointer (some ⟨q.blk, 0, none⟩)) :=
        getTh_some HS.out.ok (t := (q.at_, .pointer (some ⟨q.blk, 0, none⟩))) (List.mem_map.2 ⟨q, hqm, rfl⟩)
      have hgn : gg.length ≤ 65536 := by
        have := fl_le hg
        rw [HE.out.len] at this
        omega
      have hP1 := hide hp1
      have hS2 := hide s2
      have hAT := hide hat
      have hTH := hide hth
      have hKQ := hide (HIH.out q hqm)
      have hRE := hide (And.intro s3 (And.intro hgn (And.intro (fun r hr => HKK.out r (List.mem_flatten.2 ⟨gg, List.mem_of_getElem? hg, hr⟩)) hge)))
      have hg0' : (0 : Int) < (gg.length : Int) := by omega
      clear hg hq hqm hE1 s1 s2 s3 hr1 hok1 hr1n hp1 hu hu2 hat hge hth hA2 hgn
      generalize m - fl G j = cg at *
      have hglz : gg.length = gg.length := rfl
      generalize hgll : gg.length = gl at *
      have HGLL := hide hgll
      clear hgll hglz
      rename World => wz
      go_wp2_with fail
      go_region_held3 (fun w' => w'.cell? ⟨b5, o5 + j, none⟩ = some (.slice (some ⟨b2, o2, none⟩) gl cg) ∧ w'.cell? ⟨b2, o2, none⟩ = some (.slice r1.A k r1.c))
        (first
          | go_keep
          | exact hk13
          | exact hk14)
        (first
          | (go_at_call 42
             refine (nd_level ((HF.out.node.stay cz).stay (Below.refl _ wz).drew)).mono ?_
             rintro e w13 ⟨rfl, rfl⟩)
          | (go_at_call 45
             have CA := ref_addr r1.A k r1.c lv r1.p wz.drew (hP1.out.below (Below.refl _ wz).drew) (by omega) hlv
             rw [hAT.out] at CA
             refine CA.mono ?_
             rintro e w13 ⟨rfl, rfl⟩)
          | (go_at_call 44
             have CK := nd_kid ((HB.out.below cz).below (Below.refl _ wz).drew) ((HS.out.below cz).below (Below.refl _ wz).drew) (q.at_ : Int)
             rw [hTH.out] at CK
             refine CK.mono ?_
             rintro e w13 ⟨rfl, hb13⟩
             have hd13 : Below wz.heap.size wz w13 := (Below.refl _ wz).drew.trans hb13
             have hk13 := And.intro ((hd13.cell (p := ⟨b5, o5 + j, none⟩) hbl5).trans k5) ((hd13.cell (p := ⟨b2, o2, none⟩) hbl2).trans k2))
          | (go_at_call 39
             have hs2 := hS2.out.below hd13
             have hz1 := hRE.out.1
             have hz2 := hRE.out.2.1
             rw [← HGLL.out] at hs2 hz1 hz2
             have CI := hKQ.out w13 (some ⟨b2, o2, none⟩) cg gg (below_then cz hd13) hs2 hz1 hz2 hRE.out.2.2.1 hRE.out.2.2.2
             clear hs2 hz1 hz2
             rw [HGLL.out] at CI
             refine CI.mono ?_
             rintro e w14 ⟨rfl, hb14⟩
             have hd14 := below_then hd13 hb14
             have hk14 := And.intro ((hd14.cell (p := ⟨b5, o5 + j, none⟩) hbl5).trans k5) ((hd14.cell (p := ⟨b2, o2, none⟩) hbl2).trans k2)))
      go_wp2
      go_roundw
      case rel => exact ⟨j + 1, by go_num, by omega, below_then hb hd14⟩
      case measure => simp [intOf]; omega
    · have hj' : ¬ j < G.length := hjn
      have e9 : decide ((j : Int) < (G.length : Int)) = false := by simp; omega
      go_wp2
      go_ret
      exact ⟨rfl, below_then c12 hb⟩
/-- Of any node. -/
theorem is_node {w : World} {k g : Nat} {lv : Int} {pre : List Nat} {es : List Ent} (h : NodeOf w k g lv pre es) (hk1 : 1 ≤ k) (hk : k ≤ 16) : IsYes w k g es := by
  induction h with
  | @leaf g A c p v hv hp hc hB =>
    intro W B m rows hb hE hm hn hkk hes
    obtain ⟨r, rfl⟩ : ∃ r, rows = [r] := by
      have : rows.length = 1 := by
        have := congrArg List.length hes
        unfold ents at this
        simpa using this
      match rows, this with
      | [r], _ => exact ⟨r, rfl⟩
    have hrr : r.p = p ∧ r.v = v := by
      unfold ents ER.e at hes
      simp at hes
      exact hes
    exact is_leaf m (hB.below hb) (hp.below hb) hc hk1 hk hv hE hrr.1 hrr.2
  | @fork g A c lv pre gs ks hlv hp hc hz hkid hl ha hs h2 hS hB ih =>
    intro W B m rows hb hE hm hn hkk hes
    have hF : Fork w k g lv pre ks := ⟨A, c, gs, hlv, hp, hc, hz, hkid, hl, ha, hs, h2, hS, hB⟩
    obtain ⟨G, rfl, hG⟩ := forkG hF hes
    exact is_fork (hF.stay hb) hk1 hk hE hm hn hkk hG hes fun q hq X B' m' rows' hX => ih q hq X B' m' rows' (below_then hb hX)
end Go.Proofs.Ytkknfnjojamgjaa
