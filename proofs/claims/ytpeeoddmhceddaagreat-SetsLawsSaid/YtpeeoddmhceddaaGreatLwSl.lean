/- pantilelaw15.SetsLaws: both ways. -/
import Derived.Test.YtpeeoddmhceddaaGreatStT
import Derived.Test.YtpeeoddmhceddaaGreatStE
import Derived.Test.YtpeeoddmhceddaaGreatDfH
set_option linter.unusedSimpArgs false
set_option linter.unusedVariables false
namespace Go.Proofs.YtpeeoddmhceddaaGreat
open Go.RowKit
set_option maxHeartbeats 8000000 in
set_option maxRecDepth 100000 in
theorem sets_laws (w : World) (k0 : Int) (_ : (Lit.int .i64 k0).wf = true) (AL : Option Addr) (nl cl : Nat) (al : List TA) (hl : ActsAt w AL nl al ∧ nl ≤ cl ∧ cl ≤ maxLen) (AM : Option Addr) (nm cm : Nat) (am : List TA) (hm : ActsAt w AM nm am ∧ nm ≤ cm ∧ cm ≤ maxLen) (r0 : Int) (_ : (Lit.int .i64 r0).wf = true) :
    Calls Tryz.prog 4 #[.int .i64 k0, .slice AL nl cl, .slice AM nm cm, .int .i64 r0] w fun e w' => e = .returned (.bool true) ∧ Below w.heap.size w w' := by
  have HEL := hide hl.1
  have HEM := hide hm.1
  clear hl hm
  go_enter Tryz.func4, Tryz.ntmps4
  go_wp2_with fail
  refine (awake15 w).mono ?_
  rintro e w1 ⟨rfl, hb1⟩
  have HB1 := hide hb1
  clear hb1
  have HHa := hide (heavy7 AL nl cl 40 al _ (HEL.out.below HB1.out) (by omega))
  simp only [Int.cast_ofNat_Int] at HHa
  go_wp2_with fail
  refine HHa.out.mono ?_
  rintro e wha ⟨rfl | ⟨rfl, hna⟩, hb3⟩
  · have HB3 := hide (below_then HB1.out hb3)
    clear hb3 HHa
    go_wp2
    go_ret
    exact ⟨rfl, HB3.out⟩
  have HB2 := hide (below_then HB1.out hb3)
  clear hb3 HHa
  have HHb := hide (heavy7 AM nm cm 40 am _ (HEM.out.below HB2.out) (by omega))
  simp only [Int.cast_ofNat_Int] at HHb
  go_wp2_with fail
  refine HHb.out.mono ?_
  rintro e whb ⟨rfl | ⟨rfl, hnb⟩, hb3⟩
  · have HB3 := hide (below_then HB2.out hb3)
    clear hb3 HHb
    go_wp2
    go_ret
    exact ⟨rfl, HB3.out⟩
  have HB3 := hide (below_then HB2.out hb3)
  clear hb3 HHb
  by_cases h1 : k0 < 1
  · have e1 : decide (k0 < 1) = true := by simpa using h1
    go_wp2
    go_ret
    exact ⟨rfl, HB3.out⟩
  have e1 : decide (k0 < 1) = false := by simpa using h1
  by_cases h2 : (16 : Int) < k0
  · have e2 : decide ((16 : Int) < k0) = true := by simpa using h2
    go_wp2
    go_ret
    exact ⟨rfl, HB3.out⟩
  have e2 : decide ((16 : Int) < k0) = false := by simpa using h2
  by_cases h3 : r0 < 3
  · have e3 : decide (r0 < 3) = true := by simpa using h3
    go_wp2
    go_ret
    exact ⟨rfl, HB3.out⟩
  have e3 : decide (r0 < 3) = false := by simpa using h3
  by_cases h4 : (6 : Int) < r0
  · have e4 : decide ((6 : Int) < r0) = true := by simpa using h4
    go_wp2
    go_ret
    exact ⟨rfl, HB3.out⟩
  have e4 : decide ((6 : Int) < r0) = false := by simpa using h4
  obtain ⟨k, rfl⟩ : ∃ k : Nat, k0 = (k : Int) := ⟨k0.toNat, by omega⟩
  have hk1k : 1 ≤ k := by omega
  have hk16k : k ≤ 16 := by omega
  have HR0 := hide (show 1 ≤ r0 ∧ r0 ≤ 6 ∧ 3 ≤ r0.toNat from ⟨by omega, by omega, by omega⟩)
  clear h1 h2 h3 h4
  have HG4 := hide (grown7 (c := cl) hk1k hk16k (HEL.out.below HB3.out) (by omega))
  go_wp2_with fail
  refine HG4.out.mono ?_
  rintro e w4 ⟨a, A4, n4, c4, rfl, ⟨ra, ea, hT4, hE4, hnc4, hS4, hkk4, hes4⟩, hn4, hb4⟩
  have HB4 := hide (below_then HB3.out hb4)
  have HT4 := hide hT4
  have HE4 := hide hE4
  have HR4 := hide (And.intro hnc4 (And.intro hS4 (And.intro hkk4 hes4)))
  have hn4b : n4 ≤ 40 := by omega
  clear hT4 hE4 hnc4 hS4 hkk4 hes4 hb4 HG4
  have HG5 := hide (grown7 (c := cm) hk1k hk16k (HEM.out.below HB4.out) (by omega))
  go_wp2_with fail
  refine HG5.out.mono ?_
  rintro e w5 ⟨b, A5, n5, c5, rfl, ⟨rb, eb, hT5, hE5, hnc5, hS5, hkk5, hes5⟩, hn5, hb5⟩
  have HT4 := hide (HT4.out.stay hb5)
  have HE4 := hide (HE4.out.below hb5)
  have HB5 := hide (below_then HB4.out hb5)
  have HT5 := hide hT5
  have HE5 := hide hE5
  have HR5 := hide (And.intro hnc5 (And.intro hS5 (And.intro hkk5 hes5)))
  have hn5b : n5 ≤ 40 := by omega
  clear hT5 hE5 hnc5 hS5 hkk5 hes5 hb5 HG5
  have HSA := hide HT4.out.sorted.1
  have HSB := hide HT5.out.sorted.1
  have hlea : ea.length ≤ 40 := by
    have h1 := HR4.out.2.2.2
    have h2 := HE4.out.len
    rw [← h1]
    unfold ents
    rw [List.length_map]
    omega
  have hleb : eb.length ≤ 40 := by
    have h1 := HR5.out.2.2.2
    have h2 := HE5.out.len
    rw [← h1]
    unfold ents
    rw [List.length_map]
    omega
  clear HE4 HE5 HR4 HR5
  have HC := hide (st_union (r := r0) HT4.out HT5.out)
  go_wp2_with fail
  refine HC.out.mono ?_
  intro e wX hst
  obtain ⟨tX, eX, rfl, ht, hm, hb⟩ := hst.good HR0.out.1 HR0.out.2.1
  replace HT4 := hide (HT4.out.stay hb)
  replace HT5 := hide (HT5.out.stay hb)
  have HTX := hide ht
  have HSX := hide ht.sorted.1
  have HMX := hide hm
  have hlX : eX.length ≤ 80 := by have := JM.len_le ht.sorted.1 hm; omega
  have HBX := hide (below_then HB5.out hb)
  clear hst ht hm hb HC
  have HC := hide (st_union (r := r0) HT5.out HT4.out)
  go_wp2_with fail
  refine HC.out.mono ?_
  intro e wY hst
  obtain ⟨tY, eY, rfl, ht, hm, hb⟩ := hst.good HR0.out.1 HR0.out.2.1
  replace HT4 := hide (HT4.out.stay hb)
  replace HT5 := hide (HT5.out.stay hb)
  replace HTX := hide (HTX.out.stay hb)
  have HTY := hide ht
  have HSY := hide ht.sorted.1
  have HMY := hide hm
  have hlY : eY.length ≤ 80 := by have := JM.len_le ht.sorted.1 hm; omega
  have HBY := hide (below_then HBX.out hb)
  clear hst ht hm hb HC
  have HC := hide (st_common (r := r0) HT4.out HT5.out)
  go_wp2_with fail
  refine HC.out.mono ?_
  intro e wP hst
  obtain ⟨tP, eP, rfl, ht, hm, hb⟩ := hst.good HR0.out.1 HR0.out.2.1
  replace HT4 := hide (HT4.out.stay hb)
  replace HT5 := hide (HT5.out.stay hb)
  replace HTX := hide (HTX.out.stay hb)
  replace HTY := hide (HTY.out.stay hb)
  have HTP := hide ht
  have HSP := hide ht.sorted.1
  have HMP := hide hm
  have hlP : eP.length ≤ 80 := by have := JM.len_le ht.sorted.1 hm; omega
  have HBP := hide (below_then HBY.out hb)
  clear hst ht hm hb HC
  have HC := hide (st_common (r := r0) HT5.out HT4.out)
  go_wp2_with fail
  refine HC.out.mono ?_
  intro e wQ hst
  obtain ⟨tQ, eQ, rfl, ht, hm, hb⟩ := hst.good HR0.out.1 HR0.out.2.1
  replace HT4 := hide (HT4.out.stay hb)
  replace HT5 := hide (HT5.out.stay hb)
  replace HTX := hide (HTX.out.stay hb)
  replace HTY := hide (HTY.out.stay hb)
  replace HTP := hide (HTP.out.stay hb)
  have HTQ := hide ht
  have HSQ := hide ht.sorted.1
  have HMQ := hide hm
  have hlQ : eQ.length ≤ 80 := by have := JM.len_le ht.sorted.1 hm; omega
  have HBQ := hide (below_then HBP.out hb)
  clear hst ht hm hb HC
  have HC := hide (st_without HT4.out HT5.out)
  go_wp2_with fail
  refine HC.out.mono ?_
  intro e wL hst
  obtain ⟨tL, eL, rfl, ht, hm, hb⟩ := hst.good (by omega) (by omega)
  replace HT4 := hide (HT4.out.stay hb)
  replace HT5 := hide (HT5.out.stay hb)
  replace HTX := hide (HTX.out.stay hb)
  replace HTY := hide (HTY.out.stay hb)
  replace HTP := hide (HTP.out.stay hb)
  replace HTQ := hide (HTQ.out.stay hb)
  have HTL := hide ht
  have HSL := hide ht.sorted.1
  have HML := hide hm
  have hlL : eL.length ≤ 80 := by have := JM.len_le ht.sorted.1 hm; omega
  have HBL := hide (below_then HBQ.out hb)
  clear hst ht hm hb HC
  have HC := hide (st_common (r := 1) HT4.out HT5.out)
  go_wp2_with fail
  refine HC.out.mono ?_
  intro e wC hst
  obtain ⟨tC, eC, rfl, ht, hm, hb⟩ := hst.good (by omega) (by omega)
  replace HT4 := hide (HT4.out.stay hb)
  replace HT5 := hide (HT5.out.stay hb)
  replace HTX := hide (HTX.out.stay hb)
  replace HTY := hide (HTY.out.stay hb)
  replace HTP := hide (HTP.out.stay hb)
  replace HTQ := hide (HTQ.out.stay hb)
  replace HTL := hide (HTL.out.stay hb)
  have HTC := hide ht
  have HSC := hide ht.sorted.1
  have HMC := hide hm
  have hlC : eC.length ≤ 80 := by have := JM.len_le ht.sorted.1 hm; omega
  have HBC := hide (below_then HBL.out hb)
  clear hst ht hm hb HC
  have HC := hide (st_union (r := 1) HTL.out HTC.out)
  go_wp2_with fail
  refine HC.out.mono ?_
  intro e wO hst
  obtain ⟨tO, eO, rfl, ht, hm, hb⟩ := hst.good (by omega) (by omega)
  replace HT4 := hide (HT4.out.stay hb)
  replace HT5 := hide (HT5.out.stay hb)
  replace HTX := hide (HTX.out.stay hb)
  replace HTY := hide (HTY.out.stay hb)
  replace HTP := hide (HTP.out.stay hb)
  replace HTQ := hide (HTQ.out.stay hb)
  replace HTL := hide (HTL.out.stay hb)
  replace HTC := hide (HTC.out.stay hb)
  have HTO := hide ht
  have HSO := hide ht.sorted.1
  have HMO := hide hm
  have hlO : eO.length ≤ 160 := by have := JM.len_le ht.sorted.1 hm; omega
  have HBO := hide (below_then HBC.out hb)
  clear hst ht hm hb HC
  have HC := hide (st_without HT5.out HT4.out)
  go_wp2_with fail
  refine HC.out.mono ?_
  intro e wR hst
  obtain ⟨tR, eR, rfl, ht, hm, hb⟩ := hst.good (by omega) (by omega)
  replace HT4 := hide (HT4.out.stay hb)
  replace HT5 := hide (HT5.out.stay hb)
  replace HTX := hide (HTX.out.stay hb)
  replace HTY := hide (HTY.out.stay hb)
  replace HTP := hide (HTP.out.stay hb)
  replace HTQ := hide (HTQ.out.stay hb)
  replace HTL := hide (HTL.out.stay hb)
  replace HTC := hide (HTC.out.stay hb)
  replace HTO := hide (HTO.out.stay hb)
  have HTR := hide ht
  have HSR := hide ht.sorted.1
  have HMR := hide hm
  have hlR : eR.length ≤ 80 := by have := JM.len_le ht.sorted.1 hm; omega
  have HBR := hide (below_then HBO.out hb)
  clear hst ht hm hb HC
  have HC := hide (st_union (r := r0) HTL.out HTR.out)
  go_wp2_with fail
  refine HC.out.mono ?_
  intro e wG hst
  obtain ⟨tG, eG, rfl, ht, hm, hb⟩ := hst.good HR0.out.1 HR0.out.2.1
  replace HT4 := hide (HT4.out.stay hb)
  replace HT5 := hide (HT5.out.stay hb)
  replace HTX := hide (HTX.out.stay hb)
  replace HTY := hide (HTY.out.stay hb)
  replace HTP := hide (HTP.out.stay hb)
  replace HTQ := hide (HTQ.out.stay hb)
  replace HTL := hide (HTL.out.stay hb)
  replace HTC := hide (HTC.out.stay hb)
  replace HTO := hide (HTO.out.stay hb)
  replace HTR := hide (HTR.out.stay hb)
  have HTG := hide ht
  have HSG := hide ht.sorted.1
  have HMG := hide hm
  have hlG : eG.length ≤ 160 := by have := JM.len_le ht.sorted.1 hm; omega
  have HBG := hide (below_then HBR.out hb)
  clear hst ht hm hb HC
  have HC := hide (st_union (r := r0) HTG.out HTP.out)
  go_wp2_with fail
  refine HC.out.mono ?_
  intro e wH hst
  obtain ⟨tH, eH, rfl, ht, hm, hb⟩ := hst.good HR0.out.1 HR0.out.2.1
  replace HT4 := hide (HT4.out.stay hb)
  replace HT5 := hide (HT5.out.stay hb)
  replace HTX := hide (HTX.out.stay hb)
  replace HTY := hide (HTY.out.stay hb)
  replace HTP := hide (HTP.out.stay hb)
  replace HTQ := hide (HTQ.out.stay hb)
  replace HTL := hide (HTL.out.stay hb)
  replace HTC := hide (HTC.out.stay hb)
  replace HTO := hide (HTO.out.stay hb)
  replace HTR := hide (HTR.out.stay hb)
  replace HTG := hide (HTG.out.stay hb)
  have HTH := hide ht
  have HSH := hide ht.sorted.1
  have HMH := hide hm
  have hlH : eH.length ≤ 240 := by have := JM.len_le ht.sorted.1 hm; omega
  have HBH := hide (below_then HBG.out hb)
  clear hst ht hm hb HC
  have HTCH := hide (st_touch HTL.out HT5.out (by omega))
  go_wp2_with fail
  refine HTCH.out.mono ?_
  rintro e wT ⟨eT, rfl, hsT, hmT, hb⟩
  obtain rfl := apart_all (ea := ea) (eb := eb) (L := eL) HML.out hmT
  simp only [List.length_nil, Nat.lt_irrefl, decide_false]
  replace HT4 := hide (HT4.out.stay hb)
  replace HT5 := hide (HT5.out.stay hb)
  replace HTX := hide (HTX.out.stay hb)
  replace HTY := hide (HTY.out.stay hb)
  replace HTP := hide (HTP.out.stay hb)
  replace HTQ := hide (HTQ.out.stay hb)
  replace HTL := hide (HTL.out.stay hb)
  replace HTC := hide (HTC.out.stay hb)
  replace HTO := hide (HTO.out.stay hb)
  replace HTR := hide (HTR.out.stay hb)
  replace HTG := hide (HTG.out.stay hb)
  replace HTH := hide (HTH.out.stay hb)
  have HBT := hide (below_then HBH.out hb)
  clear hsT hmT hb HTCH
  have q1 : eX = eY := comm_all HR0.out.2.2 HSX.out HSY.out HMX.out HMY.out
  have q2 : eP = eQ := comm_all HR0.out.2.2 HSP.out HSQ.out HMP.out HMQ.out
  have q3 : eO = ea := one_all HSA.out HSB.out HSO.out HML.out HMC.out HMO.out
  have q4 : eH = eX := uni_all HSA.out HSB.out HSH.out HSX.out HMX.out HML.out HMR.out HMP.out HMG.out HMH.out
  have HQ := hide (And.intro q1 (And.intro q2 (And.intro q3 q4)))
  clear q1 q2 q3 q4
  have hsm := df_same HTX.out HTY.out (by omega) (by omega)
  rw [show decide (k = k ∧ eX = eY) = true by simp [HQ.out.1]] at hsm
  have HSM := hide hsm
  clear hsm
  go_wp2_with fail
  refine HSM.out.mono ?_
  rintro e wS0 ⟨rfl, hb⟩
  replace HT4 := hide (HT4.out.stay hb)
  replace HT5 := hide (HT5.out.stay hb)
  replace HTX := hide (HTX.out.stay hb)
  replace HTY := hide (HTY.out.stay hb)
  replace HTP := hide (HTP.out.stay hb)
  replace HTQ := hide (HTQ.out.stay hb)
  replace HTL := hide (HTL.out.stay hb)
  replace HTC := hide (HTC.out.stay hb)
  replace HTO := hide (HTO.out.stay hb)
  replace HTR := hide (HTR.out.stay hb)
  replace HTG := hide (HTG.out.stay hb)
  replace HTH := hide (HTH.out.stay hb)
  have HBS0 := hide (below_then HBT.out hb)
  clear hb HSM
  have hsm := df_same HTP.out HTQ.out (by omega) (by omega)
  rw [show decide (k = k ∧ eP = eQ) = true by simp [HQ.out.2.1]] at hsm
  have HSM := hide hsm
  clear hsm
  go_wp2_with fail
  refine HSM.out.mono ?_
  rintro e wS1 ⟨rfl, hb⟩
  replace HT4 := hide (HT4.out.stay hb)
  replace HT5 := hide (HT5.out.stay hb)
  replace HTX := hide (HTX.out.stay hb)
  replace HTY := hide (HTY.out.stay hb)
  replace HTP := hide (HTP.out.stay hb)
  replace HTQ := hide (HTQ.out.stay hb)
  replace HTL := hide (HTL.out.stay hb)
  replace HTC := hide (HTC.out.stay hb)
  replace HTO := hide (HTO.out.stay hb)
  replace HTR := hide (HTR.out.stay hb)
  replace HTG := hide (HTG.out.stay hb)
  replace HTH := hide (HTH.out.stay hb)
  have HBS1 := hide (below_then HBS0.out hb)
  clear hb HSM
  have hsm := df_same HTO.out HT4.out (by omega) (by omega)
  rw [show decide (k = k ∧ eO = ea) = true by simp [HQ.out.2.2.1]] at hsm
  have HSM := hide hsm
  clear hsm
  go_wp2_with fail
  refine HSM.out.mono ?_
  rintro e wS2 ⟨rfl, hb⟩
  replace HT4 := hide (HT4.out.stay hb)
  replace HT5 := hide (HT5.out.stay hb)
  replace HTX := hide (HTX.out.stay hb)
  replace HTY := hide (HTY.out.stay hb)
  replace HTP := hide (HTP.out.stay hb)
  replace HTQ := hide (HTQ.out.stay hb)
  replace HTL := hide (HTL.out.stay hb)
  replace HTC := hide (HTC.out.stay hb)
  replace HTO := hide (HTO.out.stay hb)
  replace HTR := hide (HTR.out.stay hb)
  replace HTG := hide (HTG.out.stay hb)
  replace HTH := hide (HTH.out.stay hb)
  have HBS2 := hide (below_then HBS1.out hb)
  clear hb HSM
  have hsm := df_same HTH.out HTX.out (by omega) (by omega)
  rw [show decide (k = k ∧ eH = eX) = true by simp [HQ.out.2.2.2]] at hsm
  have HSM := hide hsm
  clear hsm
  go_wp2_with fail
  refine HSM.out.mono ?_
  rintro e wS3 ⟨rfl, hb⟩
  replace HT4 := hide (HT4.out.stay hb)
  replace HT5 := hide (HT5.out.stay hb)
  replace HTX := hide (HTX.out.stay hb)
  replace HTY := hide (HTY.out.stay hb)
  replace HTP := hide (HTP.out.stay hb)
  replace HTQ := hide (HTQ.out.stay hb)
  replace HTL := hide (HTL.out.stay hb)
  replace HTC := hide (HTC.out.stay hb)
  replace HTO := hide (HTO.out.stay hb)
  replace HTR := hide (HTR.out.stay hb)
  replace HTG := hide (HTG.out.stay hb)
  replace HTH := hide (HTH.out.stay hb)
  have HBS3 := hide (below_then HBS2.out hb)
  clear hb HSM
  go_wp2
  go_ret
  exact ⟨rfl, HBS3.out⟩
end Go.Proofs.YtpeeoddmhceddaaGreat
