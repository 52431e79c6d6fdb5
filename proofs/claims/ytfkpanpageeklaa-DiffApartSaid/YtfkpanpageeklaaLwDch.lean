/- pantilelaw12.DiffChanges: point by point. -/
import Derived.Test.YtfkpanpageeklaaDfW
import Derived.Test.YtfkpanpageeklaaLwTwo
import Derived.Test.YtfkpanpageeklaaR12w
set_option linter.unusedSimpArgs false
set_option linter.unusedVariables false
namespace Go.Proofs.Ytfkpanpageeklaa
open Go.RowKit
theorem ces_nil {rows : List CR} (h : ces rows = []) : rows.length = 0 := by
  rw [← ces_len, h]
  rfl
theorem DcOut.at_ {w w' : World} {k : Nat} {ea eb : List Ent} {e : Ending} (h : DcOut w k ea eb e w') : ∃ (A : Option Addr) (c : Nat) (rows : List CR), e = .returned (.tuple #[.slice A rows.length c, .int .i64 0]) ∧ Chgs ea eb (ces rows) ∧ ChgsAt w' A rows.length rows ∧ (∀ r ∈ rows, r.n = k) ∧ Below w.heap.size w w' := by
  obtain ⟨A, c, rows, h1, h2, h3, h4, h5⟩ := h
  exact ⟨A, c, rows, h1, h2, ChgsAt.of_own h3 (fun r hr => (h4 r hr).1.1), fun r hr => (h4 r hr).2, h5⟩
theorem ref12_same2 {w : World} {A B : Option Addr} {n m c d : Nat} {ra rb : List CR} (hA : ChgsAt w A ra.length ra) (hB : ChgsAt w B rb.length rb) (hn : ra.length = n) (hm : rb.length = n) (he : ces ra = ces rb) (hb : n ≤ 200000) (hna : ∀ r ∈ ra, r.n ≤ 65536) (hnb : ∀ r ∈ rb, r.n ≤ 65536) :
    Calls Try.prog 17 #[.slice A n c, .slice B n d] w fun e w' => e = .returned (.bool true) ∧ Below w.heap.size w w' := by
  rw [hn] at hA
  rw [hm] at hB
  exact ref12_same hA hB he hb hna hnb
set_option maxHeartbeats 8000000 in
set_option maxRecDepth 100000 in
theorem diff_changes (w : World) (k0 : Int) (_ : (Lit.int .i64 k0).wf = true) (AL : Option Addr) (nl cl : Nat) (al : List TA) (hl : ActsAt w AL nl al ∧ nl ≤ cl ∧ cl ≤ maxLen) (AM : Option Addr) (nm cm : Nat) (am : List TA) (hm : ActsAt w AM nm am ∧ nm ≤ cm ∧ cm ≤ maxLen) :
    Calls Try.prog 4 #[.int .i64 k0, .slice AL nl cl, .slice AM nm cm] w fun e w' => e = .returned (.bool true) ∧ Below w.heap.size w w' := by
  have HEL := hide hl.1
  have HEM := hide hm.1
  clear hl hm
  go_enter Try.func4, Try.ntmps4
  go_wp2_with fail
  refine (awake12 w).mono ?_
  rintro e w1 ⟨rfl, hb1⟩
  have HB1 := hide hb1
  clear hb1
  have HHa := hide (heavy7 AL nl cl 40 al _ (HEL.out.below HB1.out) (by omega))
  simp only [Int.cast_ofNat_Int] at HHa
  go_wp2_with fail
  refine HHa.out.mono ?_
  rintro e wha ⟨rfl | ⟨rfl, hna⟩, hb3⟩
  · have HB3 := hide (below_then HB1.out hb3)
    clear hb3 HHa
    go_wp2
    go_ret
    exact ⟨rfl, HB3.out⟩
  have HB2 := hide (below_then HB1.out hb3)
  clear hb3 HHa
  have HHb := hide (heavy7 AM nm cm 40 am _ (HEM.out.below HB2.out) (by omega))
  simp only [Int.cast_ofNat_Int] at HHb
  go_wp2_with fail
  refine HHb.out.mono ?_
  rintro e whb ⟨rfl | ⟨rfl, hnb⟩, hb3⟩
  · have HB3 := hide (below_then HB2.out hb3)
    clear hb3 HHb
    go_wp2
    go_ret
    exact ⟨rfl, HB3.out⟩
  have HB3 := hide (below_then HB2.out hb3)
  clear hb3 HHb
  by_cases h1 : k0 < 1
  · have e1 : decide (k0 < 1) = true := by simpa using h1
    go_wp2
    go_ret
    exact ⟨rfl, HB3.out⟩
  have e1 : decide (k0 < 1) = false := by simpa using h1
  by_cases h2 : (16 : Int) < k0
  · have e2 : decide ((16 : Int) < k0) = true := by simpa using h2
    go_wp2
    go_ret
    exact ⟨rfl, HB3.out⟩
  have e2 : decide ((16 : Int) < k0) = false := by simpa using h2
  obtain ⟨k, rfl⟩ : ∃ k : Nat, k0 = (k : Int) := ⟨k0.toNat, by omega⟩
  have hk1k : 1 ≤ k := by omega
  have hk16k : k ≤ 16 := by omega
  clear h1 h2
  have HTW := hide (two12 (c := cl) (d := cm) hk1k hk16k (HEL.out.below HB3.out) (HEM.out.below HB3.out) (by omega) (by omega))
  go_wp2_with fail
  refine HTW.out.mono ?_
  rintro e w5 ⟨a, b, A1, A2, n1, c1, n2, c2, rfl, ⟨ra, ea, hTa, hEa, hca, hSa, hka, hesa⟩, ⟨rb, eb, hTb, hEb, hcb, hSb, hkb, hesb⟩, hn1, hn2, hb5⟩
  have HB5 := hide (below_then HB3.out hb5)
  have hlen : ∀ (E : List Ent) (n : Nat) (rows : List ER), rows.length = n → ents rows = E → E.length = n := by
    intro E n rows h1 h2
    rw [← h2]
    unfold ents
    rw [List.length_map, h1]
  have hlea : ea.length = n1 := hlen _ _ _ hEa.len hesa
  have hleb : eb.length = n2 := hlen _ _ _ hEb.len hesb
  have HTA := hide hTa
  have HTB := hide hTb
  have HEA := hide hEa
  have HEB := hide hEb
  have HRA := hide (And.intro hca (And.intro hSa (And.intro hka hesa)))
  have HRB := hide (And.intro hcb (And.intro hSb (And.intro hkb hesb)))
  have HSO := hide (And.intro hTa.sorted.1 hTb.sorted.1)
  clear hTa hTb hEa hEb hca hcb hSa hSb hka hkb hesa hesb hb5 HTW hlen
  have HQ5 := hide (Below.refl w5.heap.size w5)
  have HC := hide (df_changes (HTA.out.stay HQ5.out) (HTB.out.stay HQ5.out) (by omega) (by omega))
  go_wp2_with fail
  refine HC.out.mono ?_
  intro e w6 hdc
  obtain ⟨AX, cX, X, rfl, hch, hat, hkX, hb⟩ := hdc.at_
  have hlX : X.length ≤ 200 := by have := hch.len_le; rw [ces_len] at this; omega
  have HX := hide (And.intro hch (And.intro hat hkX))
  have HQ6 := hide (below_then HQ5.out hb)
  obtain ⟨nx, hnx⟩ : ∃ nx, X.length = nx := ⟨_, rfl⟩
  rw [hnx] at hlX ⊢
  have HNX := hide hnx
  clear hch hat hkX hb hdc HC hnx
  have HC := hide (df_changes (HTB.out.stay HQ6.out) (HTA.out.stay HQ6.out) (by omega) (by omega))
  go_wp2_with fail
  refine HC.out.mono ?_
  intro e w7 hdc
  obtain ⟨AY, cY, Y, rfl, hch, hat, hkY, hb⟩ := hdc.at_
  have HCY := hide (show ces Y = (ces X).map CE.swap from hch.uniq HX.out.1.swap)
  have hnY : Y.length = nx := by rw [← ces_len, HCY.out, List.length_map, ces_len, HNX.out]
  rw [hnY]
  have HNY := hide hnY
  have HY := hide (And.intro hat hkY)
  have HQ7 := hide (below_then HQ6.out hb)
  have HX7 := hide (HX.out.2.1.below hb)
  clear hch hat hkY hb hdc HC hnY
  have HC := hide (df_count (HTA.out.stay HQ7.out) (HTB.out.stay HQ7.out) (by omega) (by omega))
  go_wp2_with fail
  refine HC.out.mono ?_
  rintro e w8 ⟨L, rfl, hch, hb⟩
  have hnL : L.length = nx := by rw [hch.uniq HX.out.1, ces_len, HNX.out]
  rw [hnL]
  have HQ8 := hide (below_then HQ7.out hb)
  have HX8 := hide (HX7.out.below hb)
  have HY8 := hide (HY.out.1.below hb)
  clear hch hb HC hnL
  have HC := hide (df_changes (HTA.out.stay HQ8.out) (HTA.out.stay HQ8.out) (by omega) (by omega))
  go_wp2_with fail
  refine HC.out.mono ?_
  intro e w9 hdc
  obtain ⟨AN, cN, Nn, rfl, hch, hat, hkN, hb⟩ := hdc.at_
  have hnN : Nn.length = 0 := ces_nil (hch.uniq (Chgs.same ea))
  rw [hnN]
  have HQ9 := hide (below_then HQ8.out hb)
  have HX9 := hide (HX8.out.below hb)
  have HY9 := hide (HY8.out.below hb)
  clear hch hat hkN hb hdc HC hnN
  have HC := hide (ref_changes (c := c1) (d := c2) (HEA.out.below HQ9.out) HRA.out.1 HRA.out.2.1 HRA.out.2.2.1 (HEB.out.below HQ9.out) HRB.out.2.1 HRB.out.2.2.1 (by omega) (by omega) (by omega))
  go_wp2_with fail
  refine HC.out.mono ?_
  rintro e w10 ⟨AW, cW, Wn, rfl, hch, hat, hlw, hkW, hb⟩
  rw [HRA.out.2.2.2, HRB.out.2.2.2] at hch
  have HCW := hide (show ces Wn = ces X from hch.uniq HX.out.1)
  have hnW : Wn.length = nx := by rw [← ces_len, HCW.out, ces_len, HNX.out]
  have hsw := ref12_swapped (c := cW) hat (by omega)
  rw [hnW] at hsw ⊢
  have HQ10 := hide (below_then HQ9.out hb)
  have HX10 := hide (HX9.out.below hb)
  have HY10 := hide (HY9.out.below hb)
  have HW10 := hide hat
  have HNW := hide hnW
  have HKW := hide hkW
  have HSW := hide (fun (W : World) (hW : Below w10.heap.size w10 W) => ref12_swapped (c := cW) (hat.below hW) (by omega))
  clear hch hat hlw hkW hb HC hnW hsw
  have hX16 : ∀ r ∈ X, r.n ≤ 65536 := fun r hr => by have := HX.out.2.2 r hr; omega
  have hY16 : ∀ r ∈ Y, r.n ≤ 65536 := fun r hr => by have := HY.out.2 r hr; omega
  have hW16 : ∀ r ∈ Wn, r.n ≤ 65536 := fun r hr => by have := HKW.out r hr; omega
  have HN16 := hide (And.intro hX16 (And.intro hY16 hW16))
  clear hX16 hY16 hW16
  have HC := hide (ref12_same2 (m := 0) (c := cX) (d := cW) HX10.out HW10.out HNX.out HNW.out HCW.out.symm (by omega) HN16.out.1 HN16.out.2.2)
  go_wp2_with fail
  refine HC.out.mono ?_
  rintro e w11 ⟨rfl, hb⟩
  have HQ11 := hide (below_then HQ10.out hb)
  have HY11 := hide (HY10.out.below hb)
  have hsw := HSW.out w11 hb
  rw [HNW.out] at hsw
  have HS2 := hide hsw
  clear hb HC hsw
  go_wp2_with fail
  refine HS2.out.mono ?_
  rintro e w12 ⟨AV, cV, rfl, hat, hb⟩
  have HQ12 := hide (below_then HQ11.out hb)
  have HY12 := hide (HY11.out.below hb)
  have HC := hide (ref12_same2 (m := 0) (c := cY) (d := cV) (rb := Wn.map CR.sw) HY12.out (by rw [List.length_map, HNW.out]; exact hat) HNY.out (by rw [List.length_map]; exact HNW.out) (by rw [sw_ces, HCW.out, HCY.out]) (by omega) HN16.out.2.1 (fun r hr => by
    obtain ⟨q, hq, rfl⟩ := List.mem_map.1 hr
    exact HN16.out.2.2 q hq))
  clear hb hat HS2
  go_wp2_with fail
  refine HC.out.mono ?_
  rintro e w13 ⟨rfl, hb⟩
  have HQ13 := hide (below_then HQ12.out hb)
  clear hb HC
  have e5 : ((nx : Int) != (nx : Int)) = false := by simp
  have hempty := HX.out.1.empty_iff HSO.out.1 HSO.out.2
  by_cases h0 : nx = 0
  · have HEQ := hide (show ea = eb from hempty.1 (List.eq_nil_of_length_eq_zero (by rw [ces_len, HNX.out, h0])))
    clear hempty
    subst h0
    have hds := df_same (HTA.out.stay HQ13.out) (HTB.out.stay HQ13.out) (by omega) (by omega)
    rw [show decide (k = k ∧ ea = eb) = true by simp [HEQ.out]] at hds
    have HDS := hide hds
    clear hds
    go_wp2_with fail
    refine HDS.out.mono ?_
    rintro e w14 ⟨rfl, hb⟩
    have HQ14 := hide (below_then HQ13.out hb)
    clear hb HDS
    have hds := df_same (HTB.out.stay HQ14.out) (HTA.out.stay HQ14.out) (by omega) (by omega)
    rw [show decide (k = k ∧ eb = ea) = true by simp [HEQ.out]] at hds
    have HDS := hide hds
    clear hds
    go_wp2_with fail
    refine HDS.out.mono ?_
    rintro e w15 ⟨rfl, hb⟩
    have HQ15 := hide (below_then HQ14.out hb)
    clear hb HDS
    have hds := df_same (HTA.out.stay HQ15.out) (HTA.out.stay HQ15.out) (by omega) (by omega)
    rw [show decide (k = k ∧ ea = ea) = true by simp] at hds
    have HDS := hide hds
    clear hds
    go_wp2_with fail
    refine HDS.out.mono ?_
    rintro e w16 ⟨rfl, hb⟩
    have HQ16 := hide (below_then HQ15.out hb)
    clear hb HDS
    have HF := hide (below_then HB5.out HQ16.out)
    go_wp2
    go_ret
    exact ⟨rfl, HF.out⟩
  · have HEQ := hide (show ea ≠ eb from fun h => h0 (by
      have := hempty.2 h
      rw [← HNX.out, ← ces_len, this]
      rfl))
    have e6 : ((nx : Int) == 0) = false := by simp; omega
    have e7 : (nx == 0) = false := by simp; omega
    clear hempty
    have hds := df_same (HTA.out.stay HQ13.out) (HTB.out.stay HQ13.out) (by omega) (by omega)
    rw [show decide (k = k ∧ ea = eb) = false by simp [HEQ.out]] at hds
    have HDS := hide hds
    clear hds
    go_wp2_with fail
    refine HDS.out.mono ?_
    rintro e w14 ⟨rfl, hb⟩
    have HQ14 := hide (below_then HQ13.out hb)
    clear hb HDS
    have hds := df_same (HTB.out.stay HQ14.out) (HTA.out.stay HQ14.out) (by omega) (by omega)
    rw [show decide (k = k ∧ eb = ea) = false by exact decide_eq_false (fun h => HEQ.out h.2.symm)] at hds
    have HDS := hide hds
    clear hds
    go_wp2_with fail
    refine HDS.out.mono ?_
    rintro e w15 ⟨rfl, hb⟩
    have HQ15 := hide (below_then HQ14.out hb)
    clear hb HDS
    have hds := df_same (HTA.out.stay HQ15.out) (HTA.out.stay HQ15.out) (by omega) (by omega)
    rw [show decide (k = k ∧ ea = ea) = true by simp] at hds
    have HDS := hide hds
    clear hds
    go_wp2_with fail
    refine HDS.out.mono ?_
    rintro e w16 ⟨rfl, hb⟩
    have HQ16 := hide (below_then HQ15.out hb)
    clear hb HDS
    have HF := hide (below_then HB5.out HQ16.out)
    go_wp2
    go_ret
    exact ⟨rfl, HF.out⟩
end Go.Proofs.Ytfkpanpageeklaa
