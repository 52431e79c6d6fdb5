/- pantilelaw15.SetsJoin: point by point. -/
import Derived.Test.YtfkpanpageeklaaGreatStT
import Derived.Test.YtfkpanpageeklaaGreatStE
import Derived.Test.YtfkpanpageeklaaGreatR15b
set_option linter.unusedSimpArgs false
set_option linter.unusedVariables false
namespace Go.Proofs.YtfkpanpageeklaaGreat
open Go.RowKit
theorem StT.bad {w : World} {k k' : Nat} {r : Int} {l rt bo : Bool} {ea eb : List Ent} {e : Ending} {w' : World} (h : StT w k k' r l rt bo ea eb e w') {c : Int} (hc : ckCode k k' r = c) (h0 : c ≠ 0) :
    e = .returned (.tuple #[.pointer none, .int .i64 c]) ∧ Below w.heap.size w w' := by
  subst hc
  obtain ⟨⟨_, he⟩ | ⟨h1, _⟩, hb⟩ := h
  · exact ⟨he, hb⟩
  · exact absurd h1 h0
set_option maxHeartbeats 8000000 in
set_option maxRecDepth 100000 in
theorem sets_join (w : World) (k0 : Int) (_ : (Lit.int .i64 k0).wf = true) (o0 : Int) (_ : (Lit.int .i64 o0).wf = true) (AL : Option Addr) (nl cl : Nat) (al : List TA) (hl : ActsAt w AL nl al ∧ nl ≤ cl ∧ cl ≤ maxLen) (AM : Option Addr) (nm cm : Nat) (am : List TA) (hm : ActsAt w AM nm am ∧ nm ≤ cm ∧ cm ≤ maxLen) (r0 : Int) (_ : (Lit.int .i64 r0).wf = true) :
    Calls Tryz.prog 3 #[.int .i64 k0, .int .i64 o0, .slice AL nl cl, .slice AM nm cm, .int .i64 r0] w fun e w' => e = .returned (.bool true) ∧ Below w.heap.size w w' := by
  have HEL := hide hl.1
  have HEM := hide hm.1
  clear hl hm
  go_enter Tryz.func3, Tryz.ntmps3
  go_wp2_with fail
  refine (awake15 w).mono ?_
  rintro e w1 ⟨rfl, hb1⟩
  have HB1 := hide hb1
  clear hb1
  have HHa := hide (heavy7 AL nl cl 40 al _ (HEL.out.below HB1.out) (by omega))
  simp only [Int.cast_ofNat_Int] at HHa
  go_wp2_with fail
  refine HHa.out.mono ?_
  rintro e wha ⟨rfl | ⟨rfl, hna⟩, hb3⟩
  · have HB3 := hide (below_then HB1.out hb3)
    clear hb3 HHa
    go_wp2
    go_ret
    exact ⟨rfl, HB3.out⟩
  have HB2 := hide (below_then HB1.out hb3)
  clear hb3 HHa
  have HHb := hide (heavy7 AM nm cm 40 am _ (HEM.out.below HB2.out) (by omega))
  simp only [Int.cast_ofNat_Int] at HHb
  go_wp2_with fail
  refine HHb.out.mono ?_
  rintro e whb ⟨rfl | ⟨rfl, hnb⟩, hb3⟩
  · have HB3 := hide (below_then HB2.out hb3)
    clear hb3 HHb
    go_wp2
    go_ret
    exact ⟨rfl, HB3.out⟩
  have HB3 := hide (below_then HB2.out hb3)
  clear hb3 HHb
  by_cases h1 : k0 < 1
  · have e1 : decide (k0 < 1) = true := by simpa using h1
    go_wp2
    go_ret
    exact ⟨rfl, HB3.out⟩
  have e1 : decide (k0 < 1) = false := by simpa using h1
  by_cases h2 : (16 : Int) < k0
  · have e2 : decide ((16 : Int) < k0) = true := by simpa using h2
    go_wp2
    go_ret
    exact ⟨rfl, HB3.out⟩
  have e2 : decide ((16 : Int) < k0) = false := by simpa using h2
  by_cases h3 : o0 < 1
  · have e3 : decide (o0 < 1) = true := by simpa using h3
    go_wp2
    go_ret
    exact ⟨rfl, HB3.out⟩
  have e3 : decide (o0 < 1) = false := by simpa using h3
  by_cases h4 : (16 : Int) < o0
  · have e4 : decide ((16 : Int) < o0) = true := by simpa using h4
    go_wp2
    go_ret
    exact ⟨rfl, HB3.out⟩
  have e4 : decide ((16 : Int) < o0) = false := by simpa using h4
  obtain ⟨k, rfl⟩ : ∃ k : Nat, k0 = (k : Int) := ⟨k0.toNat, by omega⟩
  obtain ⟨o, rfl⟩ : ∃ o : Nat, o0 = (o : Int) := ⟨o0.toNat, by omega⟩
  have hk1k : 1 ≤ k := by omega
  have hk16k : k ≤ 16 := by omega
  have hk1o : 1 ≤ o := by omega
  have hk16o : o ≤ 16 := by omega
  clear h1 h2 h3 h4
  have HG4 := hide (grown7 (c := cl) hk1k hk16k (HEL.out.below HB3.out) (by omega))
  go_wp2_with fail
  refine HG4.out.mono ?_
  rintro e w4 ⟨a, A4, n4, c4, rfl, ⟨ra, ea, hT4, hE4, hnc4, hS4, hkk4, hes4⟩, hn4, hb4⟩
  have HB4 := hide (below_then HB3.out hb4)
  have HT4 := hide hT4
  have HE4 := hide hE4
  have HR4 := hide (And.intro hnc4 (And.intro hS4 (And.intro hkk4 hes4)))
  have hn4b : n4 ≤ 40 := by omega
  clear hT4 hE4 hnc4 hS4 hkk4 hes4 hb4 HG4
  have HG5 := hide (grown7 (c := cm) hk1o hk16o (HEM.out.below HB4.out) (by omega))
  go_wp2_with fail
  refine HG5.out.mono ?_
  rintro e w5 ⟨b, A5, n5, c5, rfl, ⟨rb, eb, hT5, hE5, hnc5, hS5, hkk5, hes5⟩, hn5, hb5⟩
  have HT4 := hide (HT4.out.stay hb5)
  have HE4 := hide (HE4.out.below hb5)
  have HB5 := hide (below_then HB4.out hb5)
  have HT5 := hide hT5
  have HE5 := hide hE5
  have HR5 := hide (And.intro hnc5 (And.intro hS5 (And.intro hkk5 hes5)))
  have hn5b : n5 ≤ 40 := by omega
  clear hT5 hE5 hnc5 hS5 hkk5 hes5 hb5 HG5
  have hQ5 := Below.refl w5.heap.size w5
  have HQ5 := hide hQ5
  clear hQ5
  by_cases hko : k = o
  · subst hko
    have e5 : ((k : Int) != (k : Int)) = false := by simp
    by_cases hr : 1 ≤ r0 ∧ r0 ≤ 6
    · have HR0 := hide hr
      obtain ⟨r, rfl⟩ : ∃ r : Nat, r0 = (r : Int) := ⟨r0.toNat, by omega⟩
      have e6 : decide ((r : Int) < 1) = false := by simp; omega
      have e7 : decide ((6 : Int) < (r : Int)) = false := by simp; omega
      have hr1 : 1 ≤ r := by omega
      have hr6 : r ≤ 6 := by omega
      clear hr
      have HC := hide (st_union (r := (r : Int)) (HT4.out.stay HQ5.out) (HT5.out.stay HQ5.out))
      go_wp2_with fail
      refine HC.out.mono ?_
      intro e w6 hst
      obtain ⟨tX, eX, rfl, ht, hm, hb⟩ := hst.good HR0.out.1 HR0.out.2
      have HQ6 := hide (below_then HQ5.out hb)
      have HTX := hide ht
      have HSX := hide ht.sorted.1
      have HMX := hide hm
      clear hst ht hm hb HC
      have HC := hide (st_common (r := (r : Int)) (HT4.out.stay HQ6.out) (HT5.out.stay HQ6.out))
      go_wp2_with fail
      refine HC.out.mono ?_
      intro e w7 hst
      obtain ⟨tY, eY, rfl, ht, hm, hb⟩ := hst.good HR0.out.1 HR0.out.2
      have HQ7 := hide (below_then HQ6.out hb)
      have HTX := hide (HTX.out.stay hb)
      have HTY := hide ht
      have HSY := hide ht.sorted.1
      have HMY := hide hm
      clear hst ht hm hb HC
      have HC := hide (st_without (HT4.out.stay HQ7.out) (HT5.out.stay HQ7.out))
      go_wp2_with fail
      refine HC.out.mono ?_
      intro e w8 hst
      obtain ⟨tZ, eZ, rfl, ht, hm, hb⟩ := hst.good (by omega) (by omega)
      have HQ8 := hide (below_then HQ7.out hb)
      have HTX := hide (HTX.out.stay hb)
      have HTY := hide (HTY.out.stay hb)
      have HTZ := hide ht
      have HSZ := hide ht.sorted.1
      have HMZ := hide hm
      clear hst ht hm hb HC
      have HJ := hide (ref15_join (r := 1) (l := true) (rt := false) (bo := false) (c := c4) (d := c5) (by omega) (by omega) (HE4.out.below HQ8.out) HR4.out.1 HR4.out.2.1 HR4.out.2.2.1 (HE5.out.below HQ8.out) HR5.out.2.1 HR5.out.2.2.1 (by omega) (by omega) (by omega))
      (try simp only [Int.cast_ofNat_Int] at HJ)
      go_wp2_with fail
      refine HJ.out.mono ?_
      rintro e w9j ⟨A8, n8, c8, rows8, rfl, hE8, hnc8, hn8, hS8, hk8, hm8, hb8⟩
      have HQ9j := hide (below_then HQ8.out hb8)
      rw [HR4.out.2.2.2, HR5.out.2.2.2] at hm8
      have heq : ents rows8 = eZ := sorted_ext hS8.ents HSZ.out fun x => by rw [hm8, HMZ.out]; rfl
      have HIS := hide (is_tree (c := c8) (HTZ.out.stay hb8) hE8 hnc8 (by omega) hk8 heq)
      have HTX := hide (HTX.out.stay hb8)
      have HTY := hide (HTY.out.stay hb8)
      clear hE8 hnc8 hn8 hS8 hk8 hm8 hb8 heq HJ
      go_wp2_with fail
      refine HIS.out.mono ?_
      rintro e w9 ⟨rfl, hb9⟩
      have HQ9 := hide (below_then HQ9j.out hb9)
      have HTX := hide (HTX.out.stay hb9)
      have HTY := hide (HTY.out.stay hb9)
      clear hb9 HIS
      have HJ := hide (ref15_join (r := r) (l := true) (rt := true) (bo := true) (c := c4) (d := c5) hr1 hr6 (HE4.out.below HQ9.out) HR4.out.1 HR4.out.2.1 HR4.out.2.2.1 (HE5.out.below HQ9.out) HR5.out.2.1 HR5.out.2.2.1 (by omega) (by omega) (by omega))
      (try simp only [Int.cast_ofNat_Int] at HJ)
      go_wp2_with fail
      refine HJ.out.mono ?_
      rintro e w10j ⟨A8, n8, c8, rows8, rfl, hE8, hnc8, hn8, hS8, hk8, hm8, hb8⟩
      have HQ10j := hide (below_then HQ9.out hb8)
      rw [HR4.out.2.2.2, HR5.out.2.2.2] at hm8
      have heq : ents rows8 = eX := sorted_ext hS8.ents HSX.out fun x => by rw [hm8, HMX.out]; rfl
      have HIS := hide (is_tree (c := c8) (HTX.out.stay hb8) hE8 hnc8 (by omega) hk8 heq)
      have HTY := hide (HTY.out.stay hb8)
      clear hE8 hnc8 hn8 hS8 hk8 hm8 hb8 heq HJ
      go_wp2_with fail
      refine HIS.out.mono ?_
      rintro e w10 ⟨rfl, hb9⟩
      have HQ10 := hide (below_then HQ10j.out hb9)
      have HTY := hide (HTY.out.stay hb9)
      clear hb9 HIS
      have HJ := hide (ref15_join (r := r) (l := false) (rt := false) (bo := true) (c := c4) (d := c5) hr1 hr6 (HE4.out.below HQ10.out) HR4.out.1 HR4.out.2.1 HR4.out.2.2.1 (HE5.out.below HQ10.out) HR5.out.2.1 HR5.out.2.2.1 (by omega) (by omega) (by omega))
      (try simp only [Int.cast_ofNat_Int] at HJ)
      go_wp2_with fail
      refine HJ.out.mono ?_
      rintro e w11j ⟨A8, n8, c8, rows8, rfl, hE8, hnc8, hn8, hS8, hk8, hm8, hb8⟩
      have HQ11j := hide (below_then HQ10.out hb8)
      rw [HR4.out.2.2.2, HR5.out.2.2.2] at hm8
      have heq : ents rows8 = eY := sorted_ext hS8.ents HSY.out fun x => by rw [hm8, HMY.out]; rfl
      have HIS := hide (is_tree (c := c8) (HTY.out.stay hb8) hE8 hnc8 (by omega) hk8 heq)
      clear hE8 hnc8 hn8 hS8 hk8 hm8 hb8 heq HJ
      go_wp2_with fail
      refine HIS.out.mono ?_
      rintro e w11 ⟨rfl, hb9⟩
      have HQ11 := hide (below_then HQ11j.out hb9)
      clear hb9 HIS
      have HIS := hide (is_tree (c := c4) (HT4.out.stay HQ11.out) (HE4.out.below HQ11.out) HR4.out.1 (by omega) HR4.out.2.2.1 HR4.out.2.2.2)
      go_wp2_with fail
      refine HIS.out.mono ?_
      rintro e w12 ⟨rfl, hb9⟩
      have HQ12 := hide (below_then HQ11.out hb9)
      clear hb9 HIS
      have HIS := hide (is_tree (c := c5) (HT5.out.stay HQ12.out) (HE5.out.below HQ12.out) HR5.out.1 (by omega) HR5.out.2.2.1 HR5.out.2.2.2)
      go_wp2_with fail
      refine HIS.out.mono ?_
      rintro e w13 ⟨rfl, hb9⟩
      have HQ13 := hide (below_then HQ12.out hb9)
      clear hb9 HIS
      have HF := hide (below_then HB5.out HQ13.out)
      go_wp2
      go_ret
      exact ⟨rfl, HF.out⟩
    · have HCK := hide (show ckCode k k r0 = 12 by simp only [ckCode, ne_eq, not_true_eq_false, if_false]; rw [if_pos (by omega)])
      by_cases hlt : r0 < 1
      · have e6 : decide (r0 < 1) = true := by simpa using hlt
        have HC := hide (st_union (r := r0) (HT4.out.stay HQ5.out) (HT5.out.stay HQ5.out))
        go_wp2_with fail
        refine HC.out.mono ?_
        intro e w6 hst
        obtain ⟨rfl, hb⟩ := hst.bad HCK.out (by omega)
        have HQ6 := hide (below_then HQ5.out hb)
        clear hst hb HC
        have HC := hide (st_common (r := r0) (HT4.out.stay HQ6.out) (HT5.out.stay HQ6.out))
        go_wp2_with fail
        refine HC.out.mono ?_
        intro e w7 hst
        obtain ⟨rfl, hb⟩ := hst.bad HCK.out (by omega)
        have HQ7 := hide (below_then HQ6.out hb)
        clear hst hb HC
        have HC := hide (st_without (HT4.out.stay HQ7.out) (HT5.out.stay HQ7.out))
        go_wp2_with fail
        refine HC.out.mono ?_
        intro e w8 hst
        obtain ⟨tZ, eZ, rfl, ht, hm, hb⟩ := hst.good (by omega) (by omega)
        have HQ8 := hide (below_then HQ7.out hb)
        have HTZ := hide ht
        have HSZ := hide ht.sorted.1
        have HMZ := hide hm
        clear hst ht hm hb HC
        have HJ := hide (ref15_join (r := 1) (l := true) (rt := false) (bo := false) (c := c4) (d := c5) (by omega) (by omega) (HE4.out.below HQ8.out) HR4.out.1 HR4.out.2.1 HR4.out.2.2.1 (HE5.out.below HQ8.out) HR5.out.2.1 HR5.out.2.2.1 (by omega) (by omega) (by omega))
        (try simp only [Int.cast_ofNat_Int] at HJ)
        go_wp2_with fail
        refine HJ.out.mono ?_
        rintro e w9j ⟨A8, n8, c8, rows8, rfl, hE8, hnc8, hn8, hS8, hk8, hm8, hb8⟩
        have HQ9j := hide (below_then HQ8.out hb8)
        rw [HR4.out.2.2.2, HR5.out.2.2.2] at hm8
        have heq : ents rows8 = eZ := sorted_ext hS8.ents HSZ.out fun x => by rw [hm8, HMZ.out]; rfl
        have HIS := hide (is_tree (c := c8) (HTZ.out.stay hb8) hE8 hnc8 (by omega) hk8 heq)
        clear hE8 hnc8 hn8 hS8 hk8 hm8 hb8 heq HJ
        go_wp2_with fail
        refine HIS.out.mono ?_
        rintro e w9 ⟨rfl, hb9⟩
        have HQ9 := hide (below_then HQ9j.out hb9)
        clear hb9 HIS
        have HF := hide (below_then HB5.out HQ9.out)
        go_wp2
        go_ret
        exact ⟨rfl, HF.out⟩
      · have e6 : decide (r0 < 1) = false := by simpa using hlt
        have e7 : decide ((6 : Int) < r0) = true := by simp; omega
        have HC := hide (st_union (r := r0) (HT4.out.stay HQ5.out) (HT5.out.stay HQ5.out))
        go_wp2_with fail
        refine HC.out.mono ?_
        intro e w6 hst
        obtain ⟨rfl, hb⟩ := hst.bad HCK.out (by omega)
        have HQ6 := hide (below_then HQ5.out hb)
        clear hst hb HC
        have HC := hide (st_common (r := r0) (HT4.out.stay HQ6.out) (HT5.out.stay HQ6.out))
        go_wp2_with fail
        refine HC.out.mono ?_
        intro e w7 hst
        obtain ⟨rfl, hb⟩ := hst.bad HCK.out (by omega)
        have HQ7 := hide (below_then HQ6.out hb)
        clear hst hb HC
        have HC := hide (st_without (HT4.out.stay HQ7.out) (HT5.out.stay HQ7.out))
        go_wp2_with fail
        refine HC.out.mono ?_
        intro e w8 hst
        obtain ⟨tZ, eZ, rfl, ht, hm, hb⟩ := hst.good (by omega) (by omega)
        have HQ8 := hide (below_then HQ7.out hb)
        have HTZ := hide ht
        have HSZ := hide ht.sorted.1
        have HMZ := hide hm
        clear hst ht hm hb HC
        have HJ := hide (ref15_join (r := 1) (l := true) (rt := false) (bo := false) (c := c4) (d := c5) (by omega) (by omega) (HE4.out.below HQ8.out) HR4.out.1 HR4.out.2.1 HR4.out.2.2.1 (HE5.out.below HQ8.out) HR5.out.2.1 HR5.out.2.2.1 (by omega) (by omega) (by omega))
        (try simp only [Int.cast_ofNat_Int] at HJ)
        go_wp2_with fail
        refine HJ.out.mono ?_
        rintro e w9j ⟨A8, n8, c8, rows8, rfl, hE8, hnc8, hn8, hS8, hk8, hm8, hb8⟩
        have HQ9j := hide (below_then HQ8.out hb8)
        rw [HR4.out.2.2.2, HR5.out.2.2.2] at hm8
        have heq : ents rows8 = eZ := sorted_ext hS8.ents HSZ.out fun x => by rw [hm8, HMZ.out]; rfl
        have HIS := hide (is_tree (c := c8) (HTZ.out.stay hb8) hE8 hnc8 (by omega) hk8 heq)
        clear hE8 hnc8 hn8 hS8 hk8 hm8 hb8 heq HJ
        go_wp2_with fail
        refine HIS.out.mono ?_
        rintro e w9 ⟨rfl, hb9⟩
        have HQ9 := hide (below_then HQ9j.out hb9)
        clear hb9 HIS
        have HF := hide (below_then HB5.out HQ9.out)
        go_wp2
        go_ret
        exact ⟨rfl, HF.out⟩
  · have e5 : ((k : Int) != (o : Int)) = true := by simp; omega
    have HCK := hide (show ckCode k o r0 = 2 by simp [ckCode, hko])
    have HCKZ := hide (show ckCode k o 1 = 2 by simp [ckCode, hko])
    have HC := hide (st_union (r := r0) (HT4.out.stay HQ5.out) (HT5.out.stay HQ5.out))
    go_wp2_with fail
    refine HC.out.mono ?_
    intro e w6 hst
    obtain ⟨rfl, hb⟩ := hst.bad HCK.out (by omega)
    have HQ6 := hide (below_then HQ5.out hb)
    clear hst hb HC
    have HC := hide (st_common (r := r0) (HT4.out.stay HQ6.out) (HT5.out.stay HQ6.out))
    go_wp2_with fail
    refine HC.out.mono ?_
    intro e w7 hst
    obtain ⟨rfl, hb⟩ := hst.bad HCK.out (by omega)
    have HQ7 := hide (below_then HQ6.out hb)
    clear hst hb HC
    have HC := hide (st_without (HT4.out.stay HQ7.out) (HT5.out.stay HQ7.out))
    go_wp2_with fail
    refine HC.out.mono ?_
    intro e w8 hst
    obtain ⟨rfl, hb⟩ := hst.bad HCKZ.out (by omega)
    have HQ8 := hide (below_then HQ7.out hb)
    clear hst hb HC
    have HF := hide (below_then HB5.out HQ8.out)
    go_wp2
    go_ret
    exact ⟨rfl, HF.out⟩
end Go.Proofs.YtfkpanpageeklaaGreat
