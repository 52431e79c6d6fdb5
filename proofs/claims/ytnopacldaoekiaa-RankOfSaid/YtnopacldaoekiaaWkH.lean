/- walk: a cursor: New, Next, Seek. -/
import Derived.Test.YtnopacldaoekiaaWkF
import Derived.Test.YtnopacldaoekiaaWkG
import Derived.Test.YtnopacldaoekiaaLwC
set_option linter.unusedSimpArgs false
set_option linter.unusedVariables false
namespace Go.Proofs.Ytnopacldaoekiaa
open Go.RowKit
/-- A cursor of a tree stands in front of its entry i. -/
def CurAt (w : World) (c t k : Nat) (es : List Ent) (i : Nat) : Prop :=
  i ≤ es.length ∧ ∃ r : ER, Blk w c 104 #[.pointer (some ⟨t, 0, none⟩), .slice r.A r.n r.c, .bool (decide (i = es.length))] ∧ r.okT w ∧ (i < es.length → r.n = k ∧ ∃ v, es[i]? = some (r.p, v))
theorem cur_of {w : World} {c t k i : Nat} {es : List Ent} {r : ER} {ok : Bool} (hi : EntIs w k (es[i]?) r ok) (hB : Blk w c 104 #[.pointer (some ⟨t, 0, none⟩), .slice r.A r.n r.c, .bool (!ok)]) (hl : i ≤ es.length) : CurAt w c t k es i := by
  obtain ⟨h1, ⟨rfl, h2, h3⟩ | ⟨rfl, rfl, h3⟩⟩ := hi
  · have := (List.getElem?_eq_some_iff.1 h3).1
    refine ⟨hl, r, ?_, h1, fun _ => ⟨h2, r.v, h3⟩⟩
    rw [decide_eq_false (by omega)]
    exact hB
  · have := List.getElem?_eq_none_iff.1 h3
    refine ⟨hl, ⟨none, 0, 0, [], 0⟩, ?_, h1, fun h => by omega⟩
    rw [decide_eq_true (by omega)]
    exact hB
theorem CurAt.move {w w' : World} {c t k i : Nat} {es : List Ent} (h : CurAt w c t k es i) (h1 : Keep 104 w w') (h2 : Keep 25 w w') : CurAt w' c t k es i := by
  obtain ⟨hl, r, hB, hok, hr⟩ := h
  exact ⟨hl, r, hB.keep h1, hok.keep h2, hr⟩
theorem CurAt.below {w w' : World} {c t k i : Nat} {es : List Ent} (h : CurAt w c t k es i) (hb : Below w.heap.size w w') : CurAt w' c t k es i := h.move (Keep.below hb) (Keep.below hb)
theorem cut2_idx {p : List Nat} {es A B : List Ent} {i v : Nat} (hs : Zsorted es) (hi : es[i]? = some (p, v)) (h : Cut2 p es A B) : A.length = i ∧ B.head? = es[i]? := by
  have hlen := (List.getElem?_eq_some_iff.1 hi).1
  have hA : A.length = i := by
    rcases Nat.lt_trichotomy A.length i with h1 | h1 | h1
    · exfalso
      have hb : es[A.length]? = some es[A.length] := List.getElem?_eq_getElem (by omega)
      have hm : es[A.length]'(by omega) ∈ B := by
        have h2 := hb
        conv at h2 => lhs; rw [h.eq]
        rw [List.getElem?_append_right (Nat.le_refl _)] at h2
        exact List.mem_of_getElem? h2
      obtain ⟨h3, h4⟩ := List.getElem?_eq_some_iff.1 hi
      have h5 := List.pairwise_iff_getElem.1 hs A.length i (by omega) h3 h1
      rw [h4] at h5
      exact h.hi _ hm h5
    · exact h1
    · exfalso
      have h2 := hi
      rw [h.eq, List.getElem?_append_left h1] at h2
      exact zlt_irrefl _ (h.lo _ (List.mem_of_getElem? h2))
  refine ⟨hA, ?_⟩
  rw [← hA, List.head?_eq_getElem?]
  conv => rhs; rw [h.eq]
  rw [List.getElem?_append_right (Nat.le_refl _), Nat.sub_self]
theorem mid_idx {p : List Nat} {es A B : List Ent} {i v u : Nat} (hs : Zsorted es) (hi : es[i]? = some (p, v)) (h : Mid p es A [(p, u)] B) : A.length = i ∧ B.head? = es[i + 1]? ∧ A.getLast? = if i = 0 then none else es[i - 1]? := by
  obtain ⟨h1, h2⟩ := cut2_idx hs hi h.one2
  refine ⟨h1, ?_, ?_⟩
  · rw [← h1, List.head?_eq_getElem?]
    conv => rhs; rw [h.eq]
    rw [List.getElem?_append_right (by omega), show A.length + 1 - A.length = 1 by omega]
    rfl
  · by_cases h0 : i = 0
    · rw [if_pos h0, List.length_eq_zero_iff.1 (h1.trans h0)]
      rfl
    · rw [if_neg h0, List.getLast?_eq_getElem?, h1]
      conv => rhs; rw [h.eq]
      rw [List.getElem?_append_left (by omega)]
set_option maxHeartbeats 2000000 in
set_option maxRecDepth 100000 in
theorem cur_new {w : World} {t k : Nat} {es : List Ent} (hT : TreeOf w k t es) :
    Calls Try.prog 25 #[.pointer (some ⟨t, 0, none⟩)] w fun e w' => (∃ c, e = .returned (.pointer (some ⟨c, 0, none⟩)) ∧ w.heap.size ≤ c ∧ CurAt w' c t k es 0) ∧ Below w.heap.size w w' := by
  obtain ⟨top, hTB, hTop, hes, hk1, hk⟩ := hT.top
  have hal := (Below.refl w.heap.size w).alloc (Nat.le_refl _) (.cells #[.pointer (some ⟨t, 0, none⟩), .slice none 0 0, .bool false] 104)
  have hB := Blk.new w 104 #[.pointer (some ⟨t, 0, none⟩), .slice none 0 0, .bool false]
  have HR := hide (tr_root_top (Blk.below hTB hal))
  have hf := walk_from_none hk (hTop.stay hal)
  rw [hes] at hf
  have HF := hide hf
  have HB := hide hB
  have HAL := hide hal
  clear hTB hTop hes hal hB hf hT
  go_enter Try.func25, Try.ntmps25
  go_wp2_with fail
  refine HR.out.mono ?_
  rintro e w1 ⟨rfl, rfl⟩
  go_wp2_with fail
  refine HF.out.mono ?_
  rintro e w2 ⟨r, ok, rfl, hi, hb⟩
  have HST := hide (cur_stand r ok (HB.out.below hb))
  have HB2B := hide (HB.out.below hb)
  have HI := hide hi
  have HB2 := hide (HAL.out.trans (hb.mono (by simp)))
  clear hi hb
  go_wp2_with fail
  refine HST.out.mono ?_
  rintro e w3 ⟨rfl, hB3, hx⟩
  have HFIN := hide (show (∃ c, Ending.returned (.pointer (some ⟨w.heap.size, 0, none⟩)) = .returned (.pointer (some ⟨c, 0, none⟩)) ∧ w.heap.size ≤ c ∧ CurAt w3 c t k es 0) ∧ Below w.heap.size w w3 from ⟨⟨w.heap.size, rfl, Nat.le_refl _, cur_of (by have := HI.out.keep (hx.keep HB2B.out (by decide)); rw [← List.head?_eq_getElem?]; exact this) hB3 (Nat.zero_le _)⟩, HB2.out.trans ((hx.to_below (Nat.le_refl _) (by have := HB2.out.size; exact this)).mono (Nat.le_refl _))⟩)
  clear hB3 hx
  go_wp2
  go_ret
  exact HFIN.out
def CurOut (w : World) (c t k : Nat) (es : List Ent) (o : Option Ent) (i' : Nat) (e : Ending) (w' : World) : Prop :=
  ∃ (r : ER) (ok : Bool), e = .returned (.tuple #[.agg #[.slice r.A r.n r.c, .int .u64 (r.v : Int)], .bool ok]) ∧ EntIs w' k o r ok ∧ CurAt w' c t k es i' ∧ Ex c w w'
set_option maxHeartbeats 1000000 in
set_option maxRecDepth 100000 in
theorem cur_next_past {w : World} {c t k : Nat} {es : List Ent} (hC : CurAt w c t k es es.length) : Calls Try.prog 19 #[.pointer (some ⟨c, 0, none⟩)] w (CurOut w c t k es none es.length) := by
  obtain ⟨hl, r, hB, hok, hr⟩ := id hC
  have hB1 := hB.alloc (.cells #[.slice none 0 0, .int .u64 0] 27)
  have y2 := hB1.cell 2
  simp at y2
  have hN := Blk.new w 27 #[.slice none 0 0, .int .u64 0]
  have g0 := hN.cell 0
  have g1 := hN.cell 1
  simp at g0 g1
  have HF := hide (show CurOut w c t k es none es.length (.returned (.tuple #[.agg #[.slice none 0 0, .int .u64 0], .bool false])) (w.alloc (.cells #[.slice none 0 0, .int .u64 0] 27)) from ⟨⟨none, 0, 0, [], 0⟩, false, rfl, ⟨ER.okT.nil _, .inr ⟨rfl, rfl, rfl⟩⟩, hC.below ((Below.refl _ _).alloc (Nat.le_refl _) _), (Ex.refl c w).alloc _⟩)
  clear hB hok hr hB1 hN hC
  go_enter Try.func19, Try.ntmps19
  go_wp2
  exact bodyPost_ret (v := .tuple #[.agg #[.slice none 0 0, .int .u64 0], .bool false]) (by simp [results, Try.results19, go_sem, g0, g1]) rfl HF.out
set_option maxHeartbeats 8000000 in
set_option maxRecDepth 100000 in
theorem cur_next_at {w0 w : World} {c t k i : Nat} {es : List Ent} (hT : TreeOf w0 k t es) (hb0 : Below w0.heap.size w0 w) (hc : w0.heap.size ≤ c) (hC : CurAt w c t k es i) (hi : i < es.length) : Calls Try.prog 19 #[.pointer (some ⟨c, 0, none⟩)] w (CurOut w c t k es (es[i]?) (i + 1)) := by
  obtain ⟨hl, r, hB, hok, hr⟩ := hC
  obtain ⟨hrn, v, hv⟩ := hr hi
  obtain ⟨top, hTB, hTop, hes, hk1, hk⟩ := hT.top
  have hso := hT.sorted.1
  obtain ⟨x, rfl⟩ : ∃ x, top = some x := by
    cases top with
    | none => rw [← hes] at hi; simp [esOf] at hi
    | some x => exact ⟨x, rfl⟩
  have hNx := hTop x rfl
  have hes' : x.2.es = es := hes
  rw [decide_eq_false (by omega), hrn] at hB
  have hpt := hok.1.1
  rw [hrn] at hpt
  have hB1 := hB.alloc (.cells #[.slice none 0 0, .int .u64 0] 27)
  have hal := (Below.refl w.heap.size w).alloc (Nat.le_refl _) (.cells #[.slice none 0 0, .int .u64 0] 27)
  have hN := Blk.new w 27 #[.slice none 0 0, .int .u64 0]
  generalize hw1 : w.alloc (.cells #[.slice none 0 0, .int .u64 0] 27) = w1 at *
  have y0 := hB1.cell 0
  have y1 := hB1.cell 1
  have y2 := hB1.cell 2
  simp at y0 y1 y2
  have hcl := hB1.lt
  have hb01 := below_then hb0 hal
  have hpt1 := hpt.below hal
  have HRT := hide (fun (W : World) (hW : Below w1.heap.size w1 W) => show Calls Try.prog 31 #[.pointer (some ⟨t, 0, none⟩)] W fun e w' => e = .returned (.pointer (some ⟨x.1, 0, none⟩)) ∧ W = w' from tr_root (Blk.below hTB (below_then hb01 hW)))
  have HFR : Hid (∀ (W : World), Below w1.heap.size w1 W → Calls Try.prog 23 #[.pointer (some ⟨x.1, 0, none⟩), .slice r.A k r.c] W (EntOut W k (es[i]?))) := hide (fun W hW => (walk_from (hNx.stay (below_then hb01 hW)) hk1 hk (hpt1.below hW)).mono fun e w' ⟨A, B, h1, h2⟩ => by
    rw [hes'] at h1
    rw [← (cut2_idx hso hv h1).2]
    exact h2)
  have HBH : Hid (∀ (W : World), Below w1.heap.size w1 W → Calls Try.prog 76 #[.pointer (some ⟨x.1, 0, none⟩), .slice r.A k r.c] W (EntOut W k (es[i + 1]?))) := hide (fun W hW => (walk_behind (v0 := v) (hNx.stay (below_then hb01 hW)) hk1 hk (hpt1.below hW) (by rw [hes']; exact List.mem_of_getElem? hv)).mono fun e w' ⟨A, B, h1, h2⟩ => by
    rw [hes'] at h1
    rw [← (mid_idx hso hv h1).2.1]
    exact h2)
  have HCELL := hide (fun (W : World) (hW : Below w1.heap.size w1 W) => And.intro ((hW.cell (p := ⟨c, 0, none⟩) hcl).trans y0) ((hW.cell (p := ⟨c, 1, none⟩) hcl).trans y1))
  have HB1 := hide hB1
  have HN1 := hide hN
  have hne : c ≠ w1.heap.size := by omega
  have hnw : w.heap.size ≠ w1.heap.size := by have := hN.lt; omega
  have hncw : w.heap.size ≠ c := by have := hB.lt; omega
  have HAL := hide hal
  have HWE := hide hw1
  have hd := (Below.refl w1.heap.size w1).drew
  have hbr := Below.refl w1.heap.size w1
  have hkS := HCELL.out _ hd
  clear hT hTB hTop hes hNx hes' hpt hb01 hpt1 hB hB1 hN hal hok hr hrn hv hso hb0 hw1
  go_enter Try.func19, Try.ntmps19
  go_upto_region 1 with fail
  rw [HWE.out]
  go_wp2_with fail
  go_cut [4, 5] from 15 to 28 (fun s4 s5 W => ∃ (b : Nat) (r5 : ER) (ok5 : Bool), s4 = .pointer (some ⟨b, 0, none⟩) ∧ s5 = .bool ok5 ∧ EntIs W k (es[i]?) r5 ok5 ∧ Blk W b 27 #[.slice r5.A r5.n r5.c, .int .u64 (r5.v : Int)] ∧ w1.heap.size ≤ b ∧ Below w1.heap.size w1 W)
  case first =>
    go_region_held3 (fun w' => w'.cell? ⟨c, 0, none⟩ = some (.pointer (some ⟨t, 0, none⟩)) ∧ w'.cell? ⟨c, 1, none⟩ = some (.slice r.A k r.c))
      (first
        | go_keep
        | exact hk
        | exact HCELL.out _ hd
        | exact HCELL.out _ (below_alloc hd (Nat.le_refl _) _)
        | exact HCELL.out _ (below_alloc hbr (Nat.le_refl _) _).drew
        | exact hk5)
      (first
        | (go_at_call 31
           refine (HRT.out _ ?hx).mono ?_
           case hx =>
             first
               | exact hd
               | exact below_alloc hd (Nat.le_refl _) _
               | exact (below_alloc hbr (Nat.le_refl _) _).drew
           rintro e w2 ⟨rfl, rfl⟩)
        | (go_at_call 23
           refine (HFR.out _ ?hx).mono ?_
           case hx =>
             first
               | exact hd
               | exact below_alloc hd (Nat.le_refl _) _
               | exact (below_alloc hbr (Nat.le_refl _) _).drew
           rintro e w5 ⟨r5, ok5, rfl, hi5, hb5⟩
           first
             | (replace hd := below_then hd hb5)
             | (replace hd := below_then (below_alloc hbr (Nat.le_refl _) (.cells #[.slice none 0 0, .int .u64 0] 27)).drew hb5
                have hT0 : Blk (w1.alloc (.cells #[.slice none 0 0, .int .u64 0] 27)).drew w1.heap.size 27 #[.slice none 0 0, .int .u64 0] := Blk.new w1 _ _
                have hT := hT0.below hb5
                have hX := hbr)
           have hk := HCELL.out _ hd
           try
             have z0 := hT.frozen 0
             have z1 := hT.frozen 1
             have q0 := hT.cell 0
             have q1 := hT.cell 1
             simp at q0 q1
             have hk5 := And.intro ((cell_far2 (i := 0) (j := 1) (u := .slice r5.A r5.n r5.c) (v := .int .u64 (r5.v : Int)) hne).trans hk.1) ((cell_far2 (i := 0) (j := 1) (u := .slice r5.A r5.n r5.c) (v := .int .u64 (r5.v : Int)) hne).trans hk.2)))
    all_goals
      go_wp2_with fail
      go_meet
    all_goals
      first
        | exact ⟨_, r5, ok5, rfl, rfl, (hi5.keep (Keep.set hT (i := 0) (by decide) _)).keep (Keep.set (hT.set1 (i := 0) _) (i := 1) (by decide) _), by simpa using (hT.set1 (i := 0) (.slice r5.A r5.n r5.c)).set1 (i := 1) (.int .u64 (r5.v : Int)), hX.size, (hd.setCell (p := ⟨w1.heap.size, 0, none⟩) (Nat.le_refl _) _).setCell (p := ⟨w1.heap.size, 1, none⟩) (Nat.le_refl _) _⟩
        | exact ⟨_, r5, ok5, rfl, rfl, hi5.below ((Below.refl _ _).alloc (Nat.le_refl _) _), Blk.new _ _ _, hd.size, below_alloc hd (Nat.le_refl _) _⟩
  case rest =>
    obtain ⟨b, r5, ok5, rfl, rfl, hi5, hT, hg, hdw⟩ := hcut
    rename World => wz
    have y0 := (HCELL.out _ hdw).1
    have y1 := (HCELL.out _ hdw).2
    have HI5 := hide hi5
    have HT := hide hT
    have HDW := hide hdw
    have HBC := hide (HB1.out.below hdw)
    have HNN := hide (HN1.out.below hdw)
    have hbc : b ≠ c := by omega
    have hbw : b ≠ w.heap.size := by have := HN1.out.lt; omega
    clear hi5 hT hdw hd hkS hbr
    go_wp2_with fail
    have hdz : Below w1.heap.size w1 wz.drew := HDW.out.drew
    have hkz : wz.drew.cell? ⟨c, 0, none⟩ = some (.pointer (some ⟨t, 0, none⟩)) := y0
    have hkz1 : wz.drew.cell? ⟨c, 1, none⟩ = some (.slice r.A k r.c) := y1
    go_region_with
      (first
        | (go_at_call 31
           refine (HRT.out _ hdz).mono ?_
           rintro e w2 ⟨rfl, rfl⟩)
        | (go_at_call 76
           refine (HBH.out _ hdz).mono ?_
           rintro e w6 ⟨r6, ok6, rfl, hi6, hb6⟩
           have hb56 : Below wz.heap.size wz w6 := (Below.refl _ wz).drew.trans hb6
           have hB6 := HBC.out.below hb56
           have hk6 := hB6.cell 0
           simp at hk6)
        | (go_at_call 75
           refine (cur_stand r6 ok6 hB6).mono ?_
           rintro e w7 ⟨rfl, hB7, hx7⟩
           have hk7 := hB7.cell 0
           simp at hk7))
    all_goals
      have hT7 := hx7.blk (HT.out.below hb56) hbc
      have p0 := hT7.cell 0
      have p1 := hT7.cell 1
      simp at p0 p1
      have HN := hide (hx7.blk (HNN.out.below hb56) hncw)
      have HXX := hide (((((Ex.refl c w).below HAL.out).below HDW.out).below hb56).trans hx7)
      have HI6 := hide ((hi6.keep (hx7.keep hB6 (by decide))))
      have HI7 := hide (((HI5.out.below hb56).keep (hx7.keep hB6 (by decide))))
      have HB7 := hide hB7
      clear hT7 hb56 hB6 hk6 hk7 hi6 hx7 hB7 hdz hkz y0 y1
      have hN9 := HN.out
      have z0 := hN9.frozen 0
      have z1 := hN9.frozen 1
      have y0 := hN9.cell 0
      have y1 := hN9.cell 1
      simp at y0 y1
      have e4 := hN9.set1 (i := 0) (.slice r5.A r5.n r5.c)
      have e3 := e4.set1 (i := 1) (.int .u64 (r5.v : Int))
      have HK8 : ∀ t, t ≠ 27 → Keep t w7 ((w7.setCell ⟨w.heap.size, 0, none⟩ (.slice r5.A r5.n r5.c)).setCell ⟨w.heap.size, 1, none⟩ (.int .u64 (r5.v : Int))) := fun t ht => (Keep.set hN9 (i := 0) ht _).trans (Keep.set e4 (i := 1) ht _)
      have g0 := e3.cell 0
      have g1 := e3.cell 1
      simp at g0 g1
      have HFI := hide (show CurOut w c t k es (es[i]?) (i + 1) (.returned (.tuple #[.agg #[.slice r5.A r5.n r5.c, .int .u64 (r5.v : Int)], .bool ok5])) ((w7.setCell ⟨w.heap.size, 0, none⟩ (.slice r5.A r5.n r5.c)).setCell ⟨w.heap.size, 1, none⟩ (.int .u64 (r5.v : Int))) from ⟨r5, ok5, rfl, HI7.out.keep (HK8 _ (by decide)), cur_of (HI6.out.keep (HK8 _ (by decide))) (HB7.out.keep (HK8 _ (by decide))) (by omega), (HXX.out.setNew (Nat.le_refl _) 0 _).setNew (Nat.le_refl _) 1 _⟩)
      clear hN9 e4 e3 HK8
      go_wp2
      exact bodyPost_ret (v := .tuple #[.agg #[.slice r5.A r5.n r5.c, .int .u64 (r5.v : Int)], .bool ok5]) (by simp [results, Try.results19, go_sem, g0, g1]) rfl HFI.out
theorem cur_next {w0 w : World} {c t k i : Nat} {es : List Ent} (hT : TreeOf w0 k t es) (hb0 : Below w0.heap.size w0 w) (hc : w0.heap.size ≤ c) (hC : CurAt w c t k es i) : Calls Try.prog 19 #[.pointer (some ⟨c, 0, none⟩)] w (CurOut w c t k es (es[i]?) (min (i + 1) es.length)) := by
  rcases Nat.lt_or_ge i es.length with h | h
  · rw [Nat.min_eq_left h]
    exact cur_next_at hT hb0 hc hC h
  · have h1 := hC.1
    obtain rfl : i = es.length := by omega
    rw [Nat.min_eq_right (by omega), List.getElem?_eq_none (Nat.le_refl _)]
    exact cur_next_past hC
set_option maxHeartbeats 1000000 in
set_option maxRecDepth 100000 in
theorem cur_seek_dim {w0 w : World} {c t k i : Nat} {es : List Ent} (hT : TreeOf w0 k t es) (hb0 : Below w0.heap.size w0 w) (hC : CurAt w c t k es i) (A : Option Addr) (n m : Nat) (hn : n ≠ k) : Calls Try.prog 26 #[.pointer (some ⟨c, 0, none⟩), .slice A n m] w fun e w' => e = .returned (.int .i64 2) ∧ w = w' := by
  obtain ⟨hl, r, hB, hok, hr⟩ := hC
  obtain ⟨root, hTB⟩ := hT.blk
  have HK := hide (tr_k (Blk.below hTB hb0))
  have y0 := hB.cell 0
  simp at y0
  have e1 : ((n : Int) != (k : Int)) = true := by simp; omega
  clear hB hok hr hTB hT hb0 hn
  go_enter Try.func26, Try.ntmps26
  go_wp2_with fail
  refine HK.out.mono ?_
  rintro e w1 ⟨rfl, rfl⟩
  go_wp2
  go_ret
  exact ⟨rfl, rfl⟩
set_option maxHeartbeats 2000000 in
set_option maxRecDepth 100000 in
theorem cur_seek {w0 w : World} {c t k i : Nat} {es : List Ent} (hT : TreeOf w0 k t es) (hb0 : Below w0.heap.size w0 w) (hc : w0.heap.size ≤ c) (hC : CurAt w c t k es i) {PA : Option Addr} {pc : Nat} {p : List Nat} (hp : Pt w PA k p) : Calls Try.prog 26 #[.pointer (some ⟨c, 0, none⟩), .slice PA k pc] w fun e w' => e = .returned (.int .i64 0) ∧ CurAt w' c t k es (fromI es p) ∧ Ex c w w' := by
  obtain ⟨hl, r, hB, hok, hr⟩ := hC
  obtain ⟨top, hTB, hTop, hes, hk1, hk⟩ := hT.top
  have HK := hide (tr_k (Blk.below hTB hb0))
  have HR := hide (tr_root_top (Blk.below hTB hb0))
  have hf : Calls Try.prog 23 #[ptrOf top, .slice PA k pc] w (EntOut w k (es[fromI es p]?)) := (walk_from_top (pc := pc) (hTop.stay hb0) hk1 hk hp).mono fun e w' ⟨A, B, h1, h2⟩ => by
    rw [hes] at h1
    rw [(h1.place (k := k) (fun e he => (hT.sorted.2 e he).1) hp.zp).2]
    exact h2
  have HF := hide hf
  have HB := hide hB
  have y0 := hB.cell 0
  simp at y0
  have e1 : ((k : Int) != (k : Int)) = false := by simp
  clear hB hok hr hTB hT hb0 hTop hes hf hp
  go_enter Try.func26, Try.ntmps26
  go_wp2_with fail
  refine HK.out.mono ?_
  rintro e w1 ⟨rfl, rfl⟩
  go_wp2_with fail
  refine HR.out.mono ?_
  rintro e w1 ⟨rfl, rfl⟩
  go_wp2_with fail
  refine HF.out.mono ?_
  rintro e w2 ⟨r2, ok2, rfl, hi2, hb2⟩
  have HST := hide (cur_stand r2 ok2 (HB.out.below hb2))
  have HB2 := hide (HB.out.below hb2)
  have HI2 := hide hi2
  have HBB := hide hb2
  clear hi2 hb2
  go_wp2_with fail
  refine HST.out.mono ?_
  rintro e w3 ⟨rfl, hB3, hx3⟩
  have HFI := hide (show CurAt w3 c t k es (fromI es p) ∧ Ex c w w3 from ⟨cur_of (HI2.out.keep (hx3.keep HB2.out (by decide))) hB3 (fromI_le es p), ((Ex.refl c w).below HBB.out).trans hx3⟩)
  clear hB3 hx3
  go_wp2
  go_ret
  exact ⟨rfl, HFI.out⟩
end Go.Proofs.Ytnopacldaoekiaa
