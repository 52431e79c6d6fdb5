/- pantilelaw28.PolyTurns: the other way round. -/
import Derived.Test.YtlgdllohmmmegaaPyT
set_option linter.unusedSimpArgs false
set_option linter.unusedVariables false
namespace Go.Proofs.Ytlgdllohmmmegaa
open Go.RowKit
set_option maxHeartbeats 16000000 in
set_option maxRecDepth 100000 in
theorem poly_turns (w : World) (AL : Option Addr) (nl cl : Nat) (al : List LP) (hl : LpsAt w AL nl al ∧ nl ≤ cl ∧ cl ≤ maxLen) (AP : Option Addr) (np cp : Nat) (pp : List Nat) (hp : Pt w AP np pp ∧ np ≤ cp ∧ cp ≤ maxLen) (a0 : Int) (_ : (Lit.int .i64 a0).wf = true) :
    Calls Try.prog 3 #[.slice AL nl cl, .slice AP np cp, .int .i64 a0] w fun e w' => e = .returned (.bool true) ∧ Below w.heap.size w w' := by
  have HLP := hide hl.1
  have HPP := hide hp.1
  have hlc := hl.2.1
  have hlm := hl.2.2
  clear hl hp
  go_enter Try.func3, Try.ntmps3
  go_wp2_with fail
  refine (awake28 w).mono ?_
  rintro e w1 ⟨rfl, hb1⟩
  have HB1 := hide hb1
  have HHV := hide (ref28_heavy (c := cl) (m := 60) (HLP.out.below hb1) (by omega))
  simp only [Int.cast_ofNat_Int] at HHV
  clear hb1
  go_wp2_with fail
  refine HHV.out.mono ?_
  rintro e w2 ⟨rfl | ⟨rfl, hn, h40⟩, hb2⟩
  · have HB2 := hide (below_then HB1.out hb2)
    clear hb2 HHV
    go_wp2
    go_ret
    exact ⟨rfl, HB2.out⟩
  have HB2 := hide (below_then HB1.out hb2)
  clear hb2 HHV
  by_cases h60 : 60 < nl
  · have e1 : decide ((60 : Int) < (nl : Int)) = true := by simp; omega
    have e2 : decide (60 < nl) = true := by simp; omega
    go_wp2
    go_ret
    exact ⟨rfl, HB2.out⟩
  have e1 : decide ((60 : Int) < (nl : Int)) = false := by simp; omega
  have e2 : decide (60 < nl) = false := by simp; omega
  have hn60 : nl ≤ 60 := by omega
  have HR := hide (ref28_right (c := cl) (HLP.out.below HB2.out))
  cases hr : rightL (al.map LP.p) with
  | false =>
    rw [hr] at HR
    clear hr
    go_wp2_with fail
    refine HR.out.mono ?_
    rintro e w3 ⟨rfl, hb⟩
    have HB3 := hide (below_then HB2.out hb)
    clear hb
    go_wp2
    go_ret
    exact ⟨rfl, HB3.out⟩
  | true =>
    rw [hr] at HR
    have HRI := hide hr
    clear hr
    go_wp2_with fail
    refine HR.out.mono ?_
    rintro e w3 ⟨rfl, hb⟩
    have HB3 := hide (below_then HB2.out hb)
    have HS := hide (ref27_small (c := cp) (HPP.out.below HB3.out))
    clear hb HR
    cases hs : small pp with
    | false =>
      rw [hs] at HS
      clear hs
      go_wp2_with fail
      refine HS.out.mono ?_
      rintro e w4 ⟨rfl, rfl⟩
      go_wp2
      go_ret
      exact ⟨rfl, HB3.out⟩
    | true =>
      rw [hs] at HS
      have HSM := hide hs
      clear hs
      go_wp2_with fail
      refine HS.out.mono ?_
      rintro e w4 ⟨rfl, rfl⟩
      clear HS
      by_cases ha : a0 < 0
      · have e3 : decide (a0 < 0) = true := by simpa using ha
        go_wp2
        go_ret
        exact ⟨rfl, HB3.out⟩
      have e3 : decide (a0 < 0) = false := by simpa using ha
      obtain ⟨a, rfl⟩ : ∃ a : Nat, a0 = (a : Int) := ⟨a0.toNat, by omega⟩
      by_cases han : nl ≤ a
      · have e4 : decide ((nl : Int) ≤ (a : Int)) = true := by simp; omega
        have e5 : decide (nl ≤ a) = true := by simp; omega
        go_wp2
        go_ret
        exact ⟨rfl, HB3.out⟩
      have e4 : decide ((nl : Int) ≤ (a : Int)) = false := by simp; omega
      have e5 : decide (nl ≤ a) = false := by simp; omega
      have ha1 : a ≤ nl := by omega
      clear ha han hn h40 h60
      have HT := hide (ref28_turned (c := cl) (HLP.out.below HB3.out) (by omega))
      go_wp2_with fail
      refine HT.out.mono ?_
      rintro e w5 ⟨⟨AT, cT, rfl, hT⟩, hb⟩
      have HB5 := hide (below_then HB3.out hb)
      have HTT := hide hT
      clear hT hb HT
      have hl5 := HLP.out.below HB5.out
      have r1 := fun W => run_slice_lo (P := Try.prog) (w := W) Try.underlying22 (sz := 1) Try.sizeOf23 AL nl cl a ha1
      have r2 := fun W => run_slice_to (P := Try.prog) (w := W) Try.underlying22 (sz := 1) Try.sizeOf23 AL nl cl a (by omega)
      have hal := ((Below.refl w5.heap.size w5).drew).alloc (Nat.le_refl _) (.cells #[] 23)
      have HQ6 := hide hal
      have HOW := hide (own_empty w5.drew 23 1)
      have HR1 := hide (show Rw (w5.drew.alloc (.cells #[] 23)) 1 (cutA AL cl 1 a) (nl - a) ((al.drop a).flatMap lpv) from by
        have h := (hl5.1.cut ha1 hlc).below hal
        rw [Nat.mul_one] at h
        have e : (al.flatMap lpv).drop a = (al.drop a).flatMap lpv := by
          conv => lhs; rw [← List.take_append_drop a al, List.flatMap_append]
          exact List.drop_left' (by rw [flat_length lpv_len, List.length_take, hl5.len]; omega)
        rw [e] at h
        exact h)
      have HR2 := hide (fun (W : World) (hW : Below w5.heap.size w5 W) => show Rw W 1 AL a ((al.take a).flatMap lpv) from by
        have h := (hl5.1.take_ ha1).below hW
        rw [Nat.mul_one] at h
        have e : (al.flatMap lpv).take a = (al.take a).flatMap lpv := by
          conv => lhs; rw [← List.take_append_drop a al, List.flatMap_append]
          exact List.take_left' (by rw [flat_length lpv_len, List.length_take, hl5.len]; omega)
        rw [e] at h
        exact h)
      clear hl5 hal
      go_wp2_with fail
      go_region_held3 (fun _ => True)
        (trivial)
        (first
          | (refine step_app_n _ (by rfl) (.tmp 52) (.tmp 55) _ (by rfl) w5.heap.size 23 _ 1 24 Try.underlying22 info_l rfl (by omega) _ 0 _ (by rfl) HOW.out (cutA AL cl 1 a) (nl - a) (cl - a) ((al.drop a).flatMap lpv) (by rfl) w5 HQ6.out (Nat.le_refl _) HR1.out (lpv_one _) (by unfold maxLen; omega) (by omega) ?_
             intro v6 w6 ho6 hb6 hg6 hv6
             rw [Nat.zero_add, List.nil_append] at ho6
             obtain ⟨A6, c6, rfl, -, -⟩ := Rw.of_own ho6
             have HO6 := hide ho6
             have HB6 := hide hb6
             clear ho6 hb6 hg6 hv6)
          | (refine step_app_n _ (by rfl) (.tmp 56) (.tmp 59) _ (by rfl) w5.heap.size 23 _ 1 24 Try.underlying22 info_l rfl (by omega) _ (nl - a) _ (by rfl) HO6.out AL a cl ((al.take a).flatMap lpv) (by rfl) w5 HB6.out (Nat.le_refl _) (HR2.out _ HB6.out) (lpv_one _) (by unfold maxLen; omega) (by omega) ?_
             intro v7 w7 ho7 hb7 hg7 hv7
             obtain ⟨A7, c7, rfl, -, -⟩ := Rw.of_own ho7
             have HO7 := hide ho7
             have HB7 := hide hb7
             clear ho7 hb7 hg7 hv7))
      all_goals
        have hq7 : Below w5.heap.size w5 w7 := HB7.out
        have HQ7 := hide hq7
        clear hq7
        have HLM := hide (show LpsAt w7 A7 nl (al.drop a ++ al.take a) from by
          have h := own_rw HO7.out
          have e : nl - a + a = nl := by omega
          rw [e, ← List.flatMap_append] at h
          exact ⟨h.2, fun r hr => by
            have hm : r ∈ al := by
              rcases List.mem_append.1 hr with h | h
              · exact List.mem_of_mem_drop h
              · exact List.mem_of_mem_take h
            exact ((HLP.out.below HB5.out).below HQ7.out).2 r hm⟩)
        have HL7 := hide ((HLP.out.below HB5.out).below HQ7.out)
        have HT7 := hide (HTT.out.below HQ7.out)
        have HP7 := hide ((HPP.out.below HB5.out).below HQ7.out)
        have hmr : (al.reverse).map LP.p = (al.map LP.p).reverse := List.map_reverse
        have hmm : (al.drop a ++ al.take a).map LP.p = (al.map LP.p).drop a ++ (al.map LP.p).take a := by rw [List.map_append, List.map_drop, List.map_take]
        have HMR := hide hmr
        have HMM := hide hmm
        clear hmr hmm HR1 HR2 HO6 HB6 HO7 HB7 HOW HQ6
        generalize hps : al.map LP.p = ps at *
        have hta : ps.take a ++ ps.drop a = ps := List.take_append_drop a ps
        have HAV := hide (show areaL ps.reverse = -areaL ps ∧ areaL (ps.drop a ++ ps.take a) = areaL ps ∧ windsL ps.reverse pp = -windsL ps pp ∧ windsL (ps.drop a ++ ps.take a) pp = windsL ps pp ∧ rightL ps.reverse = true ∧ rightL (ps.drop a ++ ps.take a) = true from ⟨area_rev ps, by rw [area_move, hta], winds_rev ps pp, by rw [winds_move, hta], by rw [right_rev]; exact HRI.out, by rw [right_move, hta]; exact HRI.out⟩)
        have hTB : (areaL ps).natAbs ≤ 400 * 2199023255552 := by
          have h1 := sumC_small (sidesL (lastP ps) ps) (fun x hx => sides_small HRI.out hx)
          have h2 := (right_iff HRI.out).2.1
          have h3 : (sidesL (lastP ps) ps).length ≤ 400 := by rw [sides_len]; exact h2
          exact Nat.le_trans h1 (Nat.mul_le_mul_right _ h3)
        have hMB : (windsL ps pp).natAbs ≤ 400 := by
          have h2 := (right_iff HRI.out).2.1
          have h1 := wndS_abs pp (sidesL (lastP ps) ps)
          rw [sides_len] at h1
          unfold windsL
          split
          · decide
          · unfold wndL; omega
        have HPS := hide hps
        clear hps hta
        have a1 := fun W (hW : Below w7.heap.size w7 W) => py_area (c := cl) (HL7.out.below hW) (by omega) (by rw [HPS.out]; exact HRI.out)
        have a2 := fun W (hW : Below w7.heap.size w7 W) => py_area (c := cT) (HT7.out.below hW) (by omega) (by rw [HMR.out]; exact HAV.out.2.2.2.2.1)
        have a3 := fun W (hW : Below w7.heap.size w7 W) => py_area (c := c7) (HLM.out.below hW) (by omega) (by rw [HMM.out]; exact HAV.out.2.2.2.2.2)
        have m1 := fun W (hW : Below w7.heap.size w7 W) => py_Winds (c := cl) (d := cp) (HL7.out.below hW) (by omega) (HP7.out.below hW) (by rw [HPS.out]; exact HRI.out) HSM.out
        have m2 := fun W (hW : Below w7.heap.size w7 W) => py_Winds (c := cT) (d := cp) (HT7.out.below hW) (by omega) (HP7.out.below hW) (by rw [HMR.out]; exact HAV.out.2.2.2.2.1) HSM.out
        have m3 := fun W (hW : Below w7.heap.size w7 W) => py_Winds (c := c7) (d := cp) (HLM.out.below hW) (by omega) (HP7.out.below hW) (by rw [HMM.out]; exact HAV.out.2.2.2.2.2) HSM.out
        rw [HPS.out] at a1 m1
        rw [HMR.out] at a2 m2
        rw [HMM.out] at a3 m3
        rw [HAV.out.1] at a2
        rw [HAV.out.2.1] at a3
        rw [HAV.out.2.2.1] at m2
        rw [HAV.out.2.2.2.1] at m3
        generalize areaL ps = T at *
        generalize windsL ps pp = M at *
        have HA1 := hide a1
        have HA2 := hide a2
        have HA3 := hide a3
        have HM1 := hide m1
        have HM2 := hide m2
        have HM3 := hide m3
        have f1 : wrap64 (T + -T) = 0 := by unfold wrap64; omega
        have f2 : wrap64 (M + -M) = 0 := by unfold wrap64; omega
        have HW7 := hide (Below.refl w7.heap.size w7)
        clear a1 a2 a3 m1 m2 m3 r1 r2 hTB hMB
        go_wp2_with fail
        refine (HA1.out _ HW7.out).mono ?_
        rintro e w8 ⟨rfl, hb⟩
        have HW8 := hide (below_then HW7.out hb)
        clear hb
        go_wp2_with fail
        refine (HA2.out _ HW8.out).mono ?_
        rintro e w9 ⟨rfl, hb⟩
        have HW9 := hide (below_then HW8.out hb)
        clear hb
        go_wp2_with fail
        refine (HA3.out _ HW9.out).mono ?_
        rintro e w10 ⟨rfl, hb⟩
        have HW10 := hide (below_then HW9.out hb)
        clear hb
        go_wp2_with fail
        refine (HM1.out _ HW10.out).mono ?_
        rintro e w11 ⟨rfl, hb⟩
        have HW11 := hide (below_then HW10.out hb)
        clear hb
        go_wp2_with fail
        refine (HM2.out _ HW11.out).mono ?_
        rintro e w12 ⟨rfl, hb⟩
        have HW12 := hide (below_then HW11.out hb)
        clear hb
        go_wp2_with fail
        refine (HM3.out _ HW12.out).mono ?_
        rintro e w13 ⟨rfl, hb⟩
        have HW13 := hide (below_then HW12.out hb)
        clear hb
        have HF := hide (below_then HB5.out (below_then HQ7.out HW13.out))
        go_wp2
        go_ret
        exact ⟨rfl, HF.out⟩
end Go.Proofs.Ytlgdllohmmmegaa
