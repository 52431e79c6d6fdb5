/- pantilelaw12.DiffApart: wherever they came from. -/
import Derived.Test.YtfkpanpageeklaaLwDch
import Derived.Test.YtfkpanpageeklaaDfS
set_option linter.unusedSimpArgs false
set_option linter.unusedVariables false
namespace Go.Proofs.Ytfkpanpageeklaa
open Go.RowKit
set_option maxHeartbeats 8000000 in
set_option maxRecDepth 100000 in
theorem diff_apart (w : World) (k0 : Int) (_ : (Lit.int .i64 k0).wf = true) (o0 : Int) (_ : (Lit.int .i64 o0).wf = true) (AL : Option Addr) (nl cl : Nat) (al : List TA) (hl : ActsAt w AL nl al ∧ nl ≤ cl ∧ cl ≤ maxLen) (AM : Option Addr) (nm cm : Nat) (am : List TA) (hm : ActsAt w AM nm am ∧ nm ≤ cm ∧ cm ≤ maxLen) :
    Calls Try.prog 5 #[.int .i64 k0, .int .i64 o0, .slice AL nl cl, .slice AM nm cm] w fun e w' => e = .returned (.bool true) ∧ Below w.heap.size w w' := by
  have HEL := hide hl.1
  have HEM := hide hm.1
  clear hl hm
  go_enter Try.func5, Try.ntmps5
  go_wp2_with fail
  refine (awake12 w).mono ?_
  rintro e w1 ⟨rfl, hb1⟩
  have HB1 := hide hb1
  clear hb1
  have HHa := hide (heavy7 AL nl cl 40 al _ (HEL.out.below HB1.out) (by omega))
  simp only [Int.cast_ofNat_Int] at HHa
  go_wp2_with fail
  refine HHa.out.mono ?_
  rintro e wha ⟨rfl | ⟨rfl, hna⟩, hb3⟩
  · have HB3 := hide (below_then HB1.out hb3)
    clear hb3 HHa
    go_wp2
    go_ret
    exact ⟨rfl, HB3.out⟩
  have HB2 := hide (below_then HB1.out hb3)
  clear hb3 HHa
  have HHb := hide (heavy7 AM nm cm 40 am _ (HEM.out.below HB2.out) (by omega))
  simp only [Int.cast_ofNat_Int] at HHb
  go_wp2_with fail
  refine HHb.out.mono ?_
  rintro e whb ⟨rfl | ⟨rfl, hnb⟩, hb3⟩
  · have HB3 := hide (below_then HB2.out hb3)
    clear hb3 HHb
    go_wp2
    go_ret
    exact ⟨rfl, HB3.out⟩
  have HB3 := hide (below_then HB2.out hb3)
  clear hb3 HHb
  by_cases h1 : k0 < 1
  · have e1 : decide (k0 < 1) = true := by simpa using h1
    go_wp2
    go_ret
    exact ⟨rfl, HB3.out⟩
  have e1 : decide (k0 < 1) = false := by simpa using h1
  by_cases h2 : (16 : Int) < k0
  · have e2 : decide ((16 : Int) < k0) = true := by simpa using h2
    go_wp2
    go_ret
    exact ⟨rfl, HB3.out⟩
  have e2 : decide ((16 : Int) < k0) = false := by simpa using h2
  by_cases h3 : o0 < 1
  · have e3 : decide (o0 < 1) = true := by simpa using h3
    go_wp2
    go_ret
    exact ⟨rfl, HB3.out⟩
  have e3 : decide (o0 < 1) = false := by simpa using h3
  by_cases h4 : (16 : Int) < o0
  · have e4 : decide ((16 : Int) < o0) = true := by simpa using h4
    go_wp2
    go_ret
    exact ⟨rfl, HB3.out⟩
  have e4 : decide ((16 : Int) < o0) = false := by simpa using h4
  obtain ⟨k, rfl⟩ : ∃ k : Nat, k0 = (k : Int) := ⟨k0.toNat, by omega⟩
  obtain ⟨o, rfl⟩ : ∃ o : Nat, o0 = (o : Int) := ⟨o0.toNat, by omega⟩
  have hk1k : 1 ≤ k := by omega
  have hk16k : k ≤ 16 := by omega
  have hk1o : 1 ≤ o := by omega
  have hk16o : o ≤ 16 := by omega
  clear h1 h2 h3 h4
  have HG4 := hide (grown7 (c := cl) hk1k hk16k (HEL.out.below HB3.out) (by omega))
  go_wp2_with fail
  refine HG4.out.mono ?_
  rintro e w4 ⟨a, A4, n4, c4, rfl, ⟨ra, ea, hT4, hE4, hnc4, hS4, hkk4, hes4⟩, hn4, hb4⟩
  have HB4 := hide (below_then HB3.out hb4)
  have HT4 := hide hT4
  have HE4 := hide hE4
  have HR4 := hide (And.intro hnc4 (And.intro hS4 (And.intro hkk4 hes4)))
  have hn4b : n4 ≤ 40 := by omega
  clear hT4 hE4 hnc4 hS4 hkk4 hes4 hb4 HG4
  have HG5 := hide (grown7 (c := cm) hk1o hk16o (HEM.out.below HB4.out) (by omega))
  go_wp2_with fail
  refine HG5.out.mono ?_
  rintro e w5 ⟨b, A5, n5, c5, rfl, ⟨rb, eb, hT5, hE5, hnc5, hS5, hkk5, hes5⟩, hn5, hb5⟩
  have HT4 := hide (HT4.out.stay hb5)
  have HE4 := hide (HE4.out.below hb5)
  have HB5 := hide (below_then HB4.out hb5)
  have HT5 := hide hT5
  have HE5 := hide hE5
  have HR5 := hide (And.intro hnc5 (And.intro hS5 (And.intro hkk5 hes5)))
  have hn5b : n5 ≤ 40 := by omega
  clear hT5 hE5 hnc5 hS5 hkk5 hes5 hb5 HG5
  have hle : ∀ (E : List Ent) (n : Nat) (rows : List ER), rows.length = n → ents rows = E → E.length = n := by
    intro E n rows h1 h2
    rw [← h2]
    unfold ents
    rw [List.length_map, h1]
  have hlea : ea.length = n4 := hle _ _ _ HE4.out.len HR4.out.2.2.2
  have hleb : eb.length = n5 := hle _ _ _ HE5.out.len HR5.out.2.2.2
  clear hle
  have HQ5 := hide (Below.refl w5.heap.size w5)
  by_cases hko : k = o
  · subst hko
    have e5 : ((k : Int) != (k : Int)) = false := by simp
    have HC := hide (df_changes (HT4.out.stay HQ5.out) (HT5.out.stay HQ5.out) (by omega) (by omega))
    go_wp2_with fail
    refine HC.out.mono ?_
    intro e w6 hdc
    obtain ⟨AX, cX, X, rfl, hch, hat, hkX, hb⟩ := hdc.at_
    have hlX : X.length ≤ 200 := by have := hch.len_le; rw [ces_len] at this; omega
    have HX := hide (And.intro hch (And.intro hat hkX))
    have HQ6 := hide (below_then HQ5.out hb)
    obtain ⟨nx, hnx⟩ : ∃ nx, X.length = nx := ⟨_, rfl⟩
    rw [hnx] at hlX ⊢
    have HNX := hide hnx
    clear hch hat hkX hb hdc HC hnx
    have HC := hide (df_count (HT4.out.stay HQ6.out) (HT5.out.stay HQ6.out) (by omega) (by omega))
    go_wp2_with fail
    refine HC.out.mono ?_
    rintro e w7 ⟨L, rfl, hch, hb⟩
    have hnL : L.length = nx := by rw [hch.uniq HX.out.1, ces_len, HNX.out]
    rw [hnL]
    have HQ7 := hide (below_then HQ6.out hb)
    have HX7 := hide (HX.out.2.1.below hb)
    clear hch hb HC hnL
    have HC := hide (df_steps (HT4.out.stay HQ7.out) (HT5.out.stay HQ7.out))
    go_wp2_with fail
    refine HC.out.mono ?_
    rintro e w8 ⟨z, rfl, hb⟩
    have HQ8 := hide (below_then HQ7.out hb)
    have HX8 := hide (HX7.out.below hb)
    clear hb HC
    have HC := hide (ref_changes (c := c4) (d := c5) (HE4.out.below HQ8.out) HR4.out.1 HR4.out.2.1 HR4.out.2.2.1 (HE5.out.below HQ8.out) HR5.out.2.1 HR5.out.2.2.1 (by omega) (by omega) (by omega))
    go_wp2_with fail
    refine HC.out.mono ?_
    rintro e w10 ⟨AW, cW, Wn, rfl, hch, hat, hlw, hkW, hb⟩
    rw [HR4.out.2.2.2, HR5.out.2.2.2] at hch
    have HCW := hide (show ces Wn = ces X from hch.uniq HX.out.1)
    have hnW : Wn.length = nx := by rw [← ces_len, HCW.out, ces_len, HNX.out]
    rw [hnW]
    have HQ10 := hide (below_then HQ8.out hb)
    have HX10 := hide (HX8.out.below hb)
    have HW10 := hide hat
    have HNW := hide hnW
    have hX16 : ∀ r ∈ X, r.n ≤ 65536 := fun r hr => by have := HX.out.2.2 r hr; omega
    have hW16 : ∀ r ∈ Wn, r.n ≤ 65536 := fun r hr => by have := hkW r hr; omega
    have HN16 := hide (And.intro hX16 hW16)
    clear hX16 hW16 hch hat hlw hkW hb HC hnW
    have HC := hide (ref12_same2 (m := 0) (c := cX) (d := cW) HX10.out HW10.out HNX.out HNW.out HCW.out.symm (by omega) HN16.out.1 HN16.out.2)
    go_wp2_with fail
    refine HC.out.mono ?_
    rintro e w11 ⟨rfl, hb⟩
    have HQ11 := hide (below_then HQ10.out hb)
    clear hb HC
    have e6 : ((nx : Int) == (nx : Int)) = true := by simp
    have hds := df_same (HT4.out.stay HQ11.out) (HT5.out.stay HQ11.out) (by omega) (by omega)
    have hse := fun W (hW : Below w5.heap.size w5 W) => same_entries (c := c4) (d := c5) (HE4.out.below hW) (HE5.out.below hW) (fun r hr => by have := HR4.out.2.2.1 r hr; omega) (fun r hr => by have := HR5.out.2.2.1 r hr; omega) (by omega) (by omega)
    rw [HR4.out.2.2.2, HR5.out.2.2.2] at hse
    rw [show decide (k = k ∧ ea = eb) = decide (ea = eb) by simp] at hds
    generalize decide (ea = eb) = t at *
    have e7 : (t == t) = true := by simp
    have HDS := hide hds
    have HSE := hide hse
    clear hds hse
    go_wp2_with fail
    refine HDS.out.mono ?_
    rintro e w12 ⟨rfl, hb⟩
    have HQ12 := hide (below_then HQ11.out hb)
    clear hb HDS
    go_wp2_with fail
    refine (HSE.out _ HQ12.out).mono ?_
    rintro e w13 ⟨rfl, hb⟩
    have HF := hide (below_then HB5.out (below_then HQ12.out hb))
    clear hb HSE
    go_wp2
    go_ret
    exact ⟨by first | rfl | (rw [← e7]; rfl), HF.out⟩
  · have e5 : ((k : Int) != (o : Int)) = true := by simp; omega
    have HC1 := hide (fun W (hW : Below w5.heap.size w5 W) => df_changes_dim (HT4.out.stay hW) (HT5.out.stay hW) hko)
    have HC2 := hide (fun W (hW : Below w5.heap.size w5 W) => df_count_dim (HT4.out.stay hW) (HT5.out.stay hW) hko)
    have HC3 := hide (fun W (hW : Below w5.heap.size w5 W) => df_steps_dim (HT4.out.stay hW) (HT5.out.stay hW) hko)
    go_wp2_with fail
    refine (HC1.out _ HQ5.out).mono ?_
    rintro e w6 ⟨rfl, rfl⟩
    go_wp2_with fail
    refine (HC2.out _ HQ5.out).mono ?_
    rintro e w6 ⟨rfl, rfl⟩
    go_wp2_with fail
    refine (HC3.out _ HQ5.out).mono ?_
    rintro e w6 ⟨rfl, rfl⟩
    have hds := df_same (HT4.out.stay HQ5.out) (HT5.out.stay HQ5.out) (by omega) (by omega)
    rw [show decide (k = o ∧ ea = eb) = false by simp [hko]] at hds
    have HDS := hide hds
    clear hds
    go_wp2_with fail
    refine HDS.out.mono ?_
    rintro e w12 ⟨rfl, hb⟩
    have HF := hide (below_then HB5.out hb)
    clear hb HDS
    go_wp2
    go_ret
    exact ⟨rfl, HF.out⟩
end Go.Proofs.Ytfkpanpageeklaa
