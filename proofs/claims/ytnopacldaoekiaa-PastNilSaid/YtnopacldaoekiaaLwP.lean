/- pantilelaw22: the chapter's example. -/
import Derived.Test.YtnopacldaoekiaaPsC
import Derived.Test.YtnopacldaoekiaaUq
set_option linter.unusedSimpArgs false
set_option linter.unusedVariables false
namespace Go.Proofs.Ytnopacldaoekiaa
open Go.RowKit
theorem pt_lit1 (w : World) (a : Nat) (ha : a < 2 ^ 64) : Pt (w.alloc (.cells #[.int .u64 (a : Int)] 25)) (some ⟨w.heap.size, 0, none⟩) 1 [a] :=
  ⟨rfl, Rw.of_blk (Blk.new w _ _) rfl (fun j u hu => by simpa [u64s] using hu), by simpa using ha⟩
/-- Trees, and what each of them holds. -/
def Trs (w : World) (k : Nat) (L : List (Nat × List Ent)) : Prop := ∀ x ∈ L, TreeOf w k x.1 x.2
section
variable {w w' : World} {k p : Nat} {L : List (Nat × List Ent)}
theorem Trs.below (h : Trs w k L) (hb : Below w.heap.size w w') : Trs w' k L := fun x hx => (h x hx).stay hb
theorem Trs.ex (h : Trs w k L) (hP : PastBlk w p) (hx : Ex p w w') : Trs w' k L := fun x hm => (h x hm).ex hP hx
end
theorem tree_ne {w : World} {k s t : Nat} {es es' : List Ent} {x : Ent} (h : TreeOf w k s es) (h' : TreeOf w k t es') (h1 : x ∈ es) (h2 : x ∉ es') : s ≠ t := by
  rintro rfl
  rw [tree_uniq h h'] at h1
  exact h2 h1
set_option maxHeartbeats 4000000 in
set_option maxRecDepth 100000 in
theorem awake22 (w : World) : Calls Try.prog 63 #[] w fun e w' => e = .returned (.bool true) ∧ Below w.heap.size w w' := by
  have HN := hide (tr_new 1 w (by omega) (by omega))
  go_enter Try.func63, Try.ntmps63
  go_wp2_with fail
  refine HN.out.mono ?_
  rintro e w1 ⟨rfl, hT1, hb1⟩
  have hL1 : Trs w1 1 [(w.heap.size, [])] := by
    intro x hx
    rw [List.mem_singleton] at hx
    subst hx
    exact ⟨by omega, by omega, .inl ⟨hT1, rfl⟩⟩
  generalize hs : w.heap.size = t at hL1 ⊢
  have HWT := hide hs
  have HB1 := hide hb1
  have HL1 := hide hL1
  clear hT1 hb1 hL1 HN hs
  have hb_a := below_alloc HB1.out (Nat.le_refl _) (.cells #[.int .u64 1] 25)
  have hq_a := (Below.refl w1.heap.size w1).alloc (Nat.le_refl _) (.cells #[.int .u64 1] 25)
  have HPa := hide (tr_put (v := 1) (c := 1) ((HL1.out (t, []) (by simp)).stay hq_a) (pt_lit1 w1 1 (by omega)) (by omega))
  have HQa := hide hq_a
  have HB_a := hide hb_a
  clear hb_a hq_a
  go_wp2_with fail
  refine HPa.out.mono ?_
  rintro e w3 ⟨ta, esa, rfl, hT, hm, hn, hb⟩
  have HL3 := hide (show Trs w3 1 [(t, []), (ta, esa)] from fun x hx => by
    simp only [List.mem_cons, List.not_mem_nil, or_false] at hx
    rcases hx with rfl | rfl
    · exact ((HL1.out _ (by simp)).stay HQa.out).stay hb
    · exact hT)
  have HB3 := hide (below_then HB_a.out hb)
  have HMa := hide hm
  clear hT hm hn hb HPa
  have hb_b := below_alloc HB3.out (Nat.le_refl _) (.cells #[.int .u64 2] 25)
  have hq_b := (Below.refl w3.heap.size w3).alloc (Nat.le_refl _) (.cells #[.int .u64 2] 25)
  have HPb := hide (tr_put (v := 2) (c := 1) ((HL3.out (t, []) (by simp)).stay hq_b) (pt_lit1 w3 2 (by omega)) (by omega))
  have HQb := hide hq_b
  have HB_b := hide hb_b
  clear hb_b hq_b
  go_wp2_with fail
  refine HPb.out.mono ?_
  rintro e w5 ⟨tb, esb, rfl, hT, hm, hn, hb⟩
  have HL5 := hide (show Trs w5 1 [(t, []), (ta, esa), (tb, esb)] from fun x hx => by
    simp only [List.mem_cons, List.not_mem_nil, or_false] at hx
    rcases hx with rfl | rfl | rfl
    · exact ((HL3.out _ (by simp)).stay HQb.out).stay hb
    · exact ((HL3.out _ (by simp)).stay HQb.out).stay hb
    · exact hT)
  have HB5 := hide (below_then HB_b.out hb)
  have HMb := hide hm
  clear hT hm hn hb HPb
  have hb_c := below_alloc HB5.out (Nat.le_refl _) (.cells #[.int .u64 3] 25)
  have hq_c := (Below.refl w5.heap.size w5).alloc (Nat.le_refl _) (.cells #[.int .u64 3] 25)
  have HPc := hide (tr_put (v := 3) (c := 1) ((HL5.out (t, []) (by simp)).stay hq_c) (pt_lit1 w5 3 (by omega)) (by omega))
  have HQc := hide hq_c
  have HB_c := hide hb_c
  clear hb_c hq_c
  go_wp2_with fail
  refine HPc.out.mono ?_
  rintro e w7 ⟨tc, esc, rfl, hT, hm, hn, hb⟩
  have HL7 := hide (show Trs w7 1 [(t, []), (ta, esa), (tb, esb), (tc, esc)] from fun x hx => by
    simp only [List.mem_cons, List.not_mem_nil, or_false] at hx
    rcases hx with rfl | rfl | rfl | rfl
    · exact ((HL5.out _ (by simp)).stay HQc.out).stay hb
    · exact ((HL5.out _ (by simp)).stay HQc.out).stay hb
    · exact ((HL5.out _ (by simp)).stay HQc.out).stay hb
    · exact hT)
  have HB7 := hide (below_then HB_c.out hb)
  have HMc := hide hm
  clear hT hm hn hb HPc
  have HAT := hide (show ta ≠ t from tree_ne (HL7.out (ta, esa) (by simp)) (HL7.out (t, []) (by simp)) (x := ([1], 1)) ((HMa.out _).2 (.inl rfl)) (by simp))
  have HBA := hide (show tb ≠ ta from tree_ne (HL7.out (tb, esb) (by simp)) (HL7.out (ta, esa) (by simp)) (x := ([2], 2)) ((HMb.out _).2 (.inl rfl)) (fun h => by have := (HMa.out _).1 h; simp at this))
  have HCA := hide (show tc ≠ ta from tree_ne (HL7.out (tc, esc) (by simp)) (HL7.out (ta, esa) (by simp)) (x := ([3], 3)) ((HMc.out _).2 (.inl rfl)) (fun h => by have := (HMa.out _).1 h; simp at this))
  clear HMa HMb HMc HQa HQb HQc HB_a HB_b HB_c HL1 HL3 HL5
  have HNP := hide (ps_new w7 t)
  go_wp2_with fail
  refine HNP.out.mono ?_
  rintro e w8 ⟨⟨p, rfl, hpl, hp⟩, hb⟩
  have HPL := hide (show w.heap.size ≤ p by have := HB7.out.size; omega)
  have HB8 := hide (below_then HB7.out hb)
  have HL8 := hide (HL7.out.below hb)
  have HP8 := hide hp
  clear hpl hp hb HNP HL7 HB7
  obtain ⟨r1, hr1⟩ := (HL8.out (ta, esa) (by simp)).blk
  obtain ⟨r0, hr0⟩ := (HL8.out (t, []) (by simp)).blk
  have HD := hide (ps_do HP8.out (show [t][0]? = some t from rfl) hr1 hr0 (by omega) HAT.out)
  clear hr1 hr0
  go_wp2_with fail
  refine HD.out.mono ?_
  rintro e w9 ⟨rfl, hp, hx⟩
  have HL9 := hide (HL8.out.ex HP8.out.blk hx)
  have HB9 := hide (HB8.out.trans (hx.to_below HPL.out (by have := HB8.out.size; omega)))
  have HP9 := hide hp
  clear hp hx HD
  change Hid (PastAt w9 p [t, ta] 1) at HP9
  obtain ⟨r1, hr1⟩ := (HL9.out (tb, esb) (by simp)).blk
  obtain ⟨r0, hr0⟩ := (HL9.out (ta, esa) (by simp)).blk
  have HD := hide (ps_do HP9.out (show [t, ta][1]? = some ta from rfl) hr1 hr0 (by omega) HBA.out)
  clear hr1 hr0
  go_wp2_with fail
  refine HD.out.mono ?_
  rintro e w10 ⟨rfl, hp, hx⟩
  have HL10 := hide (HL9.out.ex HP9.out.blk hx)
  have HB10 := hide (HB9.out.trans (hx.to_below HPL.out (by have := HB9.out.size; omega)))
  have HP10 := hide hp
  clear hp hx HD
  change Hid (PastAt w10 p [t, ta, tb] 2) at HP10
  have HU := hide (ps_undo HP10.out (by omega))
  go_wp2_with fail
  refine HU.out.mono ?_
  rintro e w11 ⟨rfl, hp, hx⟩
  have HL11 := hide (HL10.out.ex HP10.out.blk hx)
  have HB11 := hide (HB10.out.trans (hx.to_below HPL.out (by have := HB10.out.size; omega)))
  have HP11 := hide (show PastAt w11 p [t, ta, tb] 1 from hp)
  clear hp hx HU
  obtain ⟨r1, hr1⟩ := (HL11.out (tc, esc) (by simp)).blk
  obtain ⟨r0, hr0⟩ := (HL11.out (ta, esa) (by simp)).blk
  have HD := hide (ps_do HP11.out (show [t, ta, tb][1]? = some ta from rfl) hr1 hr0 (by omega) HCA.out)
  clear hr1 hr0
  go_wp2_with fail
  refine HD.out.mono ?_
  rintro e w12 ⟨rfl, hp, hx⟩
  have HL12 := hide (HL11.out.ex HP11.out.blk hx)
  have HB12 := hide (HB11.out.trans (hx.to_below HPL.out (by have := HB11.out.size; omega)))
  have HP12 := hide hp
  clear hp hx HD
  change Hid (PastAt w12 p [t, ta, tc] 2) at HP12
  have HLE := hide (ps_len HP12.out)
  go_wp2_with fail
  refine HLE.out.mono ?_
  rintro e w13 ⟨rfl, hb⟩
  simp only [List.length_cons, List.length_nil]
  have HL13 := hide (HL12.out.below hb)
  have HB13 := hide (below_then HB12.out hb)
  have HP13 := hide (HP12.out.below hb)
  clear hb HLE
  have HNO := hide (ps_now HP13.out (show [t, ta, tc][2]? = some tc from rfl))
  go_wp2_with fail
  refine HNO.out.mono ?_
  rintro e w14 ⟨rfl, hb⟩
  obtain ⟨r1, hr1⟩ := ((HL13.out (tc, esc) (by simp)).stay hb).blk
  have e1 := ptr_eq_t tc tc w14 hr1 hr1
  rw [decide_eq_true rfl] at e1
  have HB14 := hide (below_then HB13.out hb)
  have HR := hide (ps_redo_no (HP13.out.below hb) (by simp))
  clear hb hr1 HNO
  go_wp2_with fail
  refine HR.out.mono ?_
  rintro e w15 ⟨rfl, hb⟩
  have HB15 := hide (below_then HB14.out hb)
  clear hb HR
  go_wp2
  go_ret
  exact ⟨rfl, HB15.out⟩
set_option maxHeartbeats 4000000 in
set_option maxRecDepth 100000 in
theorem ps_since_nil (w : World) (n : Int) : Calls Try.prog 71 #[.pointer none, .int .i64 n] w fun e w' => e = .returned (.tuple #[.slice none 0 0, .int .i64 1]) ∧ w = w' := by
  have HL := hide (ps_len_nil w)
  go_enter Try.func71, Try.ntmps71
  go_wp2_with fail
  refine HL.out.mono ?_
  rintro e w1 ⟨rfl, rfl⟩
  go_wp2
  go_ret2
  exact ⟨rfl, rfl⟩
end Go.Proofs.Ytnopacldaoekiaa
