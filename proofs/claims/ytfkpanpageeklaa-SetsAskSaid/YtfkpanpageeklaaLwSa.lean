/- pantilelaw15.SetsAsk: who has what. -/
import Derived.Test.YtfkpanpageeklaaStS
import Derived.Test.YtfkpanpageeklaaStE
import Derived.Test.YtfkpanpageeklaaR15b
set_option linter.unusedSimpArgs false
set_option linter.unusedVariables false
namespace Go.Proofs.Ytfkpanpageeklaa
open Go.RowKit
set_option maxHeartbeats 8000000 in
set_option maxRecDepth 100000 in
theorem st_touch_dim {w : World} {k k' a b : Nat} {ea eb : List Ent} (hA : TreeOf w k a ea) (hB : TreeOf w k' b eb) (hkk : k ≠ k') :
    Calls Try.prog 10 #[.pointer (some ⟨a, 0, none⟩), .pointer (some ⟨b, 0, none⟩)] w fun e w' => e = .returned (.tuple #[.bool false, .int .i64 2]) ∧ Below w.heap.size w w' := by
  have HC := hide (st_common (r := 1) hA hB)
  clear hA hB
  have HCK := hide (show ckCode k k' 1 = 2 by simp [ckCode, hkk])
  clear hkk
  go_enter Try.func10, Try.ntmps10
  go_wp2_with fail
  refine HC.out.mono ?_
  rintro e w1 ⟨⟨-, rfl⟩ | ⟨h0, -⟩, hb⟩
  · rw [HCK.out]
    have HB := hide hb
    have HL := hide (tr_len_nil w1)
    clear hb HC
    go_wp2_with fail
    refine HL.out.mono ?_
    rintro e w2 ⟨rfl, hb2⟩
    have HB2 := hide (below_then HB.out hb2)
    clear hb2 HL
    go_wp2
    go_ret2
    exact ⟨rfl, HB2.out⟩
  · rw [HCK.out] at h0
    cases h0
set_option maxHeartbeats 8000000 in
set_option maxRecDepth 100000 in
theorem sets_ask (w : World) (k0 : Int) (_ : (Lit.int .i64 k0).wf = true) (o0 : Int) (_ : (Lit.int .i64 o0).wf = true) (AL : Option Addr) (nl cl : Nat) (al : List TA) (hl : ActsAt w AL nl al ∧ nl ≤ cl ∧ cl ≤ maxLen) (AM : Option Addr) (nm cm : Nat) (am : List TA) (hm : ActsAt w AM nm am ∧ nm ≤ cm ∧ cm ≤ maxLen) :
    Calls Try.prog 3 #[.int .i64 k0, .int .i64 o0, .slice AL nl cl, .slice AM nm cm] w fun e w' => e = .returned (.bool true) ∧ Below w.heap.size w w' := by
  have HEL := hide hl.1
  have HEM := hide hm.1
  clear hl hm
  go_enter Try.func3, Try.ntmps3
  go_wp2_with fail
  refine (awake15 w).mono ?_
  rintro e w1 ⟨rfl, hb1⟩
  have HB1 := hide hb1
  clear hb1
  have HHa := hide (heavy7 AL nl cl 40 al _ (HEL.out.below HB1.out) (by omega))
  simp only [Int.cast_ofNat_Int] at HHa
  go_wp2_with fail
  refine HHa.out.mono ?_
  rintro e wha ⟨rfl | ⟨rfl, hna⟩, hb3⟩
  · have HB3 := hide (below_then HB1.out hb3)
    clear hb3 HHa
    go_wp2
    go_ret
    exact ⟨rfl, HB3.out⟩
  have HB2 := hide (below_then HB1.out hb3)
  clear hb3 HHa
  have HHb := hide (heavy7 AM nm cm 40 am _ (HEM.out.below HB2.out) (by omega))
  simp only [Int.cast_ofNat_Int] at HHb
  go_wp2_with fail
  refine HHb.out.mono ?_
  rintro e whb ⟨rfl | ⟨rfl, hnb⟩, hb3⟩
  · have HB3 := hide (below_then HB2.out hb3)
    clear hb3 HHb
    go_wp2
    go_ret
    exact ⟨rfl, HB3.out⟩
  have HB3 := hide (below_then HB2.out hb3)
  clear hb3 HHb
  by_cases h1 : k0 < 1
  · have e1 : decide (k0 < 1) = true := by simpa using h1
    go_wp2
    go_ret
    exact ⟨rfl, HB3.out⟩
  have e1 : decide (k0 < 1) = false := by simpa using h1
  by_cases h2 : (16 : Int) < k0
  · have e2 : decide ((16 : Int) < k0) = true := by simpa using h2
    go_wp2
    go_ret
    exact ⟨rfl, HB3.out⟩
  have e2 : decide ((16 : Int) < k0) = false := by simpa using h2
  by_cases h3 : o0 < 1
  · have e3 : decide (o0 < 1) = true := by simpa using h3
    go_wp2
    go_ret
    exact ⟨rfl, HB3.out⟩
  have e3 : decide (o0 < 1) = false := by simpa using h3
  by_cases h4 : (16 : Int) < o0
  · have e4 : decide ((16 : Int) < o0) = true := by simpa using h4
    go_wp2
    go_ret
    exact ⟨rfl, HB3.out⟩
  have e4 : decide ((16 : Int) < o0) = false := by simpa using h4
  obtain ⟨k, rfl⟩ : ∃ k : Nat, k0 = (k : Int) := ⟨k0.toNat, by omega⟩
  obtain ⟨o, rfl⟩ : ∃ o : Nat, o0 = (o : Int) := ⟨o0.toNat, by omega⟩
  have hk1k : 1 ≤ k := by omega
  have hk16k : k ≤ 16 := by omega
  have hk1o : 1 ≤ o := by omega
  have hk16o : o ≤ 16 := by omega
  clear h1 h2 h3 h4
  have HG4 := hide (grown7 (c := cl) hk1k hk16k (HEL.out.below HB3.out) (by omega))
  go_wp2_with fail
  refine HG4.out.mono ?_
  rintro e w4 ⟨a, A4, n4, c4, rfl, ⟨ra, ea, hT4, hE4, hnc4, hS4, hkk4, hes4⟩, hn4, hb4⟩
  have HB4 := hide (below_then HB3.out hb4)
  have HT4 := hide hT4
  have HE4 := hide hE4
  have HR4 := hide (And.intro hnc4 (And.intro hS4 (And.intro hkk4 hes4)))
  have hn4b : n4 ≤ 40 := by omega
  clear hT4 hE4 hnc4 hS4 hkk4 hes4 hb4 HG4
  have HG5 := hide (grown7 (c := cm) hk1o hk16o (HEM.out.below HB4.out) (by omega))
  go_wp2_with fail
  refine HG5.out.mono ?_
  rintro e w5 ⟨b, A5, n5, c5, rfl, ⟨rb, eb, hT5, hE5, hnc5, hS5, hkk5, hes5⟩, hn5, hb5⟩
  have HT4 := hide (HT4.out.stay hb5)
  have HE4 := hide (HE4.out.below hb5)
  have HB5 := hide (below_then HB4.out hb5)
  have HT5 := hide hT5
  have HE5 := hide hE5
  have HR5 := hide (And.intro hnc5 (And.intro hS5 (And.intro hkk5 hes5)))
  have hn5b : n5 ≤ 40 := by omega
  clear hT5 hE5 hnc5 hS5 hkk5 hes5 hb5 HG5
  have hle : ∀ (E : List Ent) (n : Nat) (rows : List ER), rows.length = n → ents rows = E → E.length = n := by
    intro E n rows h1 h2
    rw [← h2]
    unfold ents
    rw [List.length_map, h1]
  have hlea : ea.length = n4 := hle _ _ _ HE4.out.len HR4.out.2.2.2
  have hleb : eb.length = n5 := hle _ _ _ HE5.out.len HR5.out.2.2.2
  clear hle
  by_cases hko : k = o
  · subst hko
    have e5 : ((k : Int) != (k : Int)) = false := by simp
    have HS := hide (st_subset HT4.out HT5.out (by omega))
    go_wp2_with fail
    refine HS.out.mono ?_
    rintro e w6 ⟨rfl, hb6⟩
    have HB6 := hide (below_then HB5.out hb6)
    have HT46 := hide (HT4.out.stay hb6)
    have HT56 := hide (HT5.out.stay hb6)
    have HE46 := hide (HE4.out.below hb6)
    have HE56 := hide (HE5.out.below hb6)
    clear hb6 HS
    have HT := hide (st_touch HT46.out HT56.out (by omega))
    go_wp2_with fail
    refine HT.out.mono ?_
    rintro e w7 ⟨eT, rfl, hsT, hmT, hb7⟩
    have HB7 := hide (below_then HB6.out hb7)
    have HJ := hide (ref15_join (r := 1) (l := false) (rt := false) (bo := true) (c := c4) (d := c5) (by omega) (by omega) (HE46.out.below hb7) HR4.out.1 HR4.out.2.1 HR4.out.2.2.1 (HE56.out.below hb7) HR5.out.2.1 HR5.out.2.2.1 (by omega) (by omega) (by omega))
    have HMT := hide (And.intro hsT hmT)
    clear hsT hmT hb7 HT
    simp only [Int.cast_ofNat_Int] at HJ
    go_wp2_with fail
    refine HJ.out.mono ?_
    rintro e w8 ⟨A8, n8, c8, rows8, rfl, hE8, hnc8, hn8, hS8, hk8, hm8, hb8⟩
    have HB8 := hide (below_then HB7.out hb8)
    have hl8 : (ents rows8).length = n8 := by
      unfold ents
      rw [List.length_map, hE8.len]
    rw [HR4.out.2.2.2, HR5.out.2.2.2] at hm8
    have heT : eT = ents rows8 := sorted_ext HMT.out.1 hS8.ents fun x => by rw [HMT.out.2, hm8]
    have hsub := common_sub HT4.out.sorted.1 HT5.out.sorted.1 hS8.ents hm8
    rw [hl8, hlea] at hsub
    have q1 : (subB ea eb == ((n8 : Int) == (n4 : Int))) = true := by
      rw [← hsub, beq_iff_eq, Bool.eq_iff_iff, beq_iff_eq, beq_iff_eq]
      omega
    have q2 : (decide (0 < eT.length) == decide (0 < n8)) = true := by
      rw [heT, hl8]
      simp
    clear hE8 hnc8 hn8 hS8 hk8 hm8 hb8 hl8 hsub heT HJ HMT
    generalize subB ea eb = s1 at *
    generalize hd2 : decide (0 < eT.length) = s2 at *
    clear hd2
    go_wp2
    go_ret
    exact ⟨rfl, HB8.out⟩
  · have e5 : ((k : Int) != (o : Int)) = true := by simp; omega
    have HS := hide (st_subset_dim HT4.out HT5.out hko)
    have HT := hide (st_touch_dim HT4.out HT5.out hko)
    go_wp2_with fail
    refine HS.out.mono ?_
    rintro e w6 ⟨rfl, rfl⟩
    go_wp2_with fail
    refine HT.out.mono ?_
    rintro e w7 ⟨rfl, hb7⟩
    have HB7 := hide (below_then HB5.out hb7)
    clear hb7 HT HS
    go_wp2
    go_ret
    exact ⟨rfl, HB7.out⟩
end Go.Proofs.Ytfkpanpageeklaa
