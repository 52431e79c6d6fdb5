/- walk: a cursor that goes back. -/
import Derived.Test.YtnopacldaoekiaaGreatWkH
set_option linter.unusedSimpArgs false
set_option linter.unusedVariables false
namespace Go.Proofs.YtnopacldaoekiaaGreat
open Go.RowKit
theorem last_prev {es : List Ent} : es.getLast? = if es.length = 0 then none else es[es.length - 1]? := by
  by_cases h : es.length = 0
  · rw [if_pos h, List.length_eq_zero_iff.1 h]
    rfl
  · rw [if_neg h, List.getLast?_eq_getElem?]
def BackOut (w : World) (c t k : Nat) (es : List Ent) (i : Nat) (e : Ending) (w' : World) : Prop := CurOut w c t k es (if i = 0 then none else es[i - 1]?) (i - 1) e w'
set_option maxHeartbeats 16000000 in
set_option maxRecDepth 100000 in
theorem cur_back_ {w0 w : World} {c t k i : Nat} {es : List Ent} (hT : TreeOf w0 k t es) (hb0 : Below w0.heap.size w0 w) (hc : w0.heap.size ≤ c) (hC : CurAt w c t k es i) : Calls Tryz.prog 14 #[.pointer (some ⟨c, 0, none⟩)] w (BackOut w c t k es i) := by
  have hC0 := hC
  obtain ⟨hl, r, hB, hok, hr⟩ := hC
  obtain ⟨top, hTB, hTop, hes, hk1, hk⟩ := hT.top
  have hso := hT.sorted.1
  have hB1 := hB.alloc (.cells #[.slice none 0 0, .int .u64 0] 37)
  have hal := (Below.refl w.heap.size w).alloc (Nat.le_refl _) (.cells #[.slice none 0 0, .int .u64 0] 37)
  have hN := Blk.new w 37 #[.slice none 0 0, .int .u64 0]
  have hC1 := hC0.below hal
  generalize hw1 : w.alloc (.cells #[.slice none 0 0, .int .u64 0] 37) = w1 at *
  have hb01 := below_then hb0 hal
  have hncw : w.heap.size ≠ c := by have := hB.lt; omega
  have hok1 := hok.below hal
  have hcl := hB1.lt
  have HRT := hide (fun (W : World) (hW : Below w1.heap.size w1 W) => tr_root_top (Blk.below hTB (below_then hb01 hW)))
  have hla := walk_upto_none hk (hTop.stay hb01)
  rw [hes] at hla
  have HLA := hide hla
  have HB1 := hide hB1
  have HN1 := hide hN
  have HC1 := hide hC1
  have HAL1 := hide hal
  have HWE := hide hw1
  have y0 := hB1.cell 0
  simp at y0
  clear hB hB1 hN hC0 hC1 hla hw1
  go_enter Tryz.func14, Tryz.ntmps14
  go_upto_region 1 with fail
  rw [HWE.out]
  go_wp2_with fail
  refine (HRT.out w1 (Below.refl _ _)).mono ?_
  rintro e w2 ⟨rfl, rfl⟩
  go_wp2_with fail
  refine HLA.out.mono ?_
  rintro e w3 ⟨rl, okl, rfl, hil, hb3⟩
  have hal3 := (Below.refl w3.heap.size w3).alloc (Nat.le_refl _) (.cells #[.slice rl.A rl.n rl.c, .int .u64 (rl.v : Int)] 37)
  have hT3 := Blk.new w3 37 #[.slice rl.A rl.n rl.c, .int .u64 (rl.v : Int)]
  have hb4 := below_then hb3 hal3
  have HIL := hide (hil.below hal3)
  have HBC := hide (HB1.out.below hb4)
  have HN := hide (HN1.out.below hb4)
  have HCU := hide (HC1.out.below hb4)
  have HX := hide (((Ex.refl c w).below HAL1.out).below hb4)
  have HB14 := hide hb4
  go_upto_region 4 with fail
  obtain ⟨b4, hb4e⟩ : ∃ b4, b4 = w3.heap.size := ⟨_, rfl⟩
  rw [← hb4e] at hT3 ⊢
  have hbc : b4 ≠ c := by have := hb3.size; omega
  have hbg : w.heap.size ≤ b4 := by have := HN1.out.lt; have := hb3.size; omega
  have hbw : b4 ≠ w.heap.size := by have := HN1.out.lt; have := hb3.size; omega
  generalize hwq : w3.alloc (.cells #[.slice rl.A rl.n rl.c, .int .u64 (rl.v : Int)] 37) = wq at *
  have HT := hide hT3
  clear hil hal3 hT3 hb4 hb3 hb4e y0 hwq
  have y2 := HBC.out.cell 2
  simp at y2
  rcases Nat.lt_or_ge i es.length with hi | hi
  · obtain ⟨hrn, v, hv⟩ := hr hi
    obtain ⟨x, rfl⟩ : ∃ x, top = some x := by
      cases top with
      | none => rw [← hes] at hi; simp [esOf] at hi
      | some x => exact ⟨x, rfl⟩
    have hNx := hTop x rfl
    have hes' : x.2.es = es := hes
    rw [decide_eq_false (by omega)] at y2
    have hpt := hok1.1.1
    rw [hrn] at hpt
    have HAH : Hid (∀ (W : World), Below w1.heap.size w1 W → Calls Tryz.prog 57 #[.pointer (some ⟨x.1, 0, none⟩), .slice r.A k r.c] W (EntOut W k (if i = 0 then none else es[i - 1]?))) := hide (fun W hW => (walk_ahead (v0 := v) (hNx.stay (below_then hb01 hW)) hk1 hk (hpt.below hW) (by rw [hes']; exact List.mem_of_getElem? hv)).mono fun e w' ⟨A, B, h1, h2⟩ => by
      rw [hes'] at h1
      rw [← (mid_idx hso hv h1).2.2]
      exact h2)
    have y0 := HBC.out.cell 0
    have y1 := HBC.out.cell 1
    simp at y0 y1
    rw [hrn] at y1
    have hcq := HBC.out.lt
    have p0 := HT.out.cell 0
    have p1 := HT.out.cell 1
    have z0 := HT.out.frozen 0
    have z1 := HT.out.frozen 1
    simp at p0 p1
    have hd14 := HB14.out
    have HPT := hide hpt
    clear hT hTB hTop hes hNx hes' hok hok1 hr hrn hv hso hb0 hb01 hpt HLA HIL
    go_wp2_with fail
    have hdz : Below w1.heap.size w1 wq.drew := hd14.drew
    have hkz : wq.drew.cell? ⟨c, 0, none⟩ = some (.pointer (some ⟨t, 0, none⟩)) ∧ wq.drew.cell? ⟨c, 1, none⟩ = some (.slice r.A k r.c) := ⟨y0, y1⟩
    go_region_held3 (fun w' => w'.cell? ⟨c, 0, none⟩ = some (.pointer (some ⟨t, 0, none⟩)) ∧ w'.cell? ⟨c, 1, none⟩ = some (.slice r.A k r.c))
      (first
        | go_keep
        | exact hkz
        | exact hk6
        | exact hk7)
      (first
        | (go_at_call 50
           refine (HRT.out _ hdz).mono ?_
           rintro e w2 ⟨rfl, rfl⟩)
        | (go_at_call 57
           refine (HAH.out _ hdz).mono ?_
           rintro e w6 ⟨r6, ok6, rfl, hi6, hb6⟩
           have hb56 : Below wq.heap.size wq w6 := (Below.refl _ wq).drew.trans hb6
           have hk6 := And.intro ((hb56.cell (p := ⟨c, 0, none⟩) hcq).trans y0) ((hb56.cell (p := ⟨c, 1, none⟩) hcq).trans y1)
           have hT6 := HT.out.below hb56
           have p0 := hT6.cell 0
           have p1 := hT6.cell 1
           have z0 := hT6.frozen 0
           have z1 := hT6.frozen 1
           simp at p0 p1
           have hk7 := And.intro ((cell_far2 (i := 0) (j := 1) (u := .slice r6.A r6.n r6.c) (v := .int .u64 (r6.v : Int)) hbc.symm).trans hk6.1) ((cell_far2 (i := 0) (j := 1) (u := .slice r6.A r6.n r6.c) (v := .int .u64 (r6.v : Int)) hbc.symm).trans hk6.2)))
    have hq4 := hT6.set1 (i := 0) (.slice r6.A r6.n r6.c)
    have hq3 := hq4.set1 (i := 1) (.int .u64 (r6.v : Int))
    simp at hq3
    have hkk : ∀ t, t ≠ 37 → Keep t w6 ((w6.setCell ⟨b4, 0, none⟩ (.slice r6.A r6.n r6.c)).setCell ⟨b4, 1, none⟩ (.int .u64 (r6.v : Int))) := fun t ht => (Keep.set hT6 (i := 0) ht _).trans (Keep.set hq4 (i := 1) ht _)
    have HTn := hide hq3
    have HIn := hide (hi6.keep (hkk _ (by decide)))
    have HBCn := hide ((HBC.out.below hb56).keep (hkk _ (by decide)))
    have HCUn := hide ((HCU.out.below hb56).move (hkk _ (by decide)) (hkk _ (by decide)))
    have HNn := hide (((HN.out.below hb56).set_ b4 0 (.slice r6.A r6.n r6.c) hbw.symm).set_ b4 1 (.int .u64 (r6.v : Int)) hbw.symm)
    have hb4g : w.heap.size ≤ b4 := hbg
    have HXn := hide (((HX.out.below hb56).setNew hb4g 0 (.slice r6.A r6.n r6.c)).setNew hb4g 1 (.int .u64 (r6.v : Int)))
    clear HT HBC HCU HN HX hi6 hT6 hq4 hq3 hkk hk6 hk7 hb56 hb6 hkz hdz p0 p1 z0 z1 y0 y1 y2
    generalize (w6.setCell ⟨b4, 0, none⟩ (.slice r6.A r6.n r6.c)).setCell ⟨b4, 1, none⟩ (.int .u64 (r6.v : Int)) = wx at *
    have HT := HTn
    have HI := HIn
    have HBC := HBCn
    have HCU := HCUn
    have HN := HNn
    have HX := HXn
    clear HTn HIn HBCn HCUn HNn HXn
    obtain ⟨h1, ⟨rfl, h2, h3⟩ | ⟨rfl, rfl, h3⟩⟩ := id HI.out
    · have HRN := hide h2
      have hi0 : i ≠ 0 := by
        intro h0
        rw [if_pos h0] at h3
        cases h3
      rw [if_neg hi0] at h3
      have HES := hide h3
      have hil := (List.getElem?_eq_some_iff.1 h3).1
      have hal := (Below.refl wx.heap.size wx).alloc (Nat.le_refl _) (.cells #[] 35)
      have HAL := hide hal
      have HRW := hide ((h1.below hal).1.1.2.1)
      have HZP : Hid (Zp k r6.p) := hide (by have := h1.1.1.zp; rw [HRN.out] at this; exact this)
      have p0 := (HT.out.below hal).cell 0
      simp at p0
      have hk16 : r6.n ≤ 16 := by have := HRN.out; omega
      clear h1 h2 h3 hal
      go_wp2_with (first
        | (at_builtin
           refine app_b _ rfl (.tmp 38) (.tmp 40) _ rfl wx.heap.size 35 _ 1 8 Tryz.underlying32 info_u rfl (by omega) _ 0 [] rfl (own_empty _ _ _) r6.A r6.n r6.c (u64s r6.p) rfl wx HAL.out (Nat.le_refl _) HRW.out (u64s_one _) (by unfold maxLen; omega) (by omega) ?_
           intro v8 w8 ho8 hb8 _
           rw [Nat.zero_add, List.nil_append] at ho8
           have HO8 := hide ho8
           have HB8 := hide hb8
           obtain ⟨A8, c8, rfl, -, -⟩ := Rw.of_own ho8
           clear ho8 hb8)
        | fail)
      have ho9 := HO8.out
      rw [HRN.out] at ho9
      have hok9 : ER.okT w8 ⟨A8, k, c8, r6.p, 0⟩ := ER.okT.of_own ho9 HZP.out (by decide)
      have hst := cur_stand ⟨A8, k, c8, r6.p, 0⟩ true (HBC.out.below HB8.out)
      have hb8' := HBC.out.below HB8.out
      rw [← HRN.out] at hst
      have HST := hide hst
      have HOK9 := hide hok9
      have HBC8 := hide hb8'
      clear ho9 hok9 hst hb8'
      go_wp2_with fail
      refine HST.out.mono ?_
      rintro e w9 ⟨rfl, hB9, hx9⟩
      have HN8 := hide (hx9.blk (HN.out.below HB8.out) hncw)
      have HT8 := hide (hx9.blk (HT.out.below HB8.out) hbc)
      have HI8 := hide ((HI.out.below HB8.out).keep (hx9.keep HBC8.out (by decide)))
      have HXX := hide ((HX.out.below HB8.out).trans hx9)
      have hi9 : EntIs w9 k (es[i - 1]?) ⟨A8, r6.n, c8, r6.p, 0⟩ true → True := fun _ => trivial
      have HC9 := hide (show CurAt w9 c t k es (i - 1) from ⟨by omega, ⟨A8, r6.n, c8, r6.p, 0⟩, by rw [decide_eq_false (by omega)]; exact hB9, by have := HOK9.out.keep (hx9.keep HBC8.out (by decide)); rw [← HRN.out] at this; exact this, fun _ => ⟨HRN.out, r6.v, HES.out⟩⟩)
      clear hB9 hx9 hi9 p0
      have hN9 := HN8.out
      have z0 := hN9.frozen 0
      have z1 := hN9.frozen 1
      have y0 := hN9.cell 0
      have y1 := hN9.cell 1
      have p0 := HT8.out.cell 0
      have p1 := HT8.out.cell 1
      simp at y0 y1 p0 p1
      have e4 := hN9.set1 (i := 0) (.slice r6.A r6.n r6.c)
      have e3 := e4.set1 (i := 1) (.int .u64 (r6.v : Int))
      have HK8 : ∀ t, t ≠ 37 → Keep t w9 ((w9.setCell ⟨w.heap.size, 0, none⟩ (.slice r6.A r6.n r6.c)).setCell ⟨w.heap.size, 1, none⟩ (.int .u64 (r6.v : Int))) := fun t ht => (Keep.set hN9 (i := 0) ht _).trans (Keep.set e4 (i := 1) ht _)
      have g0 := e3.cell 0
      have g1 := e3.cell 1
      simp at g0 g1
      have HFI := hide (show BackOut w c t k es i (.returned (.tuple #[.agg #[.slice r6.A r6.n r6.c, .int .u64 (r6.v : Int)], .bool true])) ((w9.setCell ⟨w.heap.size, 0, none⟩ (.slice r6.A r6.n r6.c)).setCell ⟨w.heap.size, 1, none⟩ (.int .u64 (r6.v : Int))) from (show CurOut w c t k es (if i = 0 then none else es[i - 1]?) (i - 1) _ _ from ⟨r6, true, rfl, HI8.out.keep (HK8 _ (by decide)), HC9.out.move (HK8 _ (by decide)) (HK8 _ (by decide)), (HXX.out.setNew (Nat.le_refl _) 0 _).setNew (Nat.le_refl _) 1 _⟩))
      clear hN9 e4 e3 HK8
      go_wp2
      exact bodyPost_ret (v := .tuple #[.agg #[.slice r6.A r6.n r6.c, .int .u64 (r6.v : Int)], .bool true]) (by simp [results, Tryz.results14, go_sem, g0, g1]) rfl HFI.out
    · have hi0 : i = 0 := by
        by_cases h0 : i = 0
        · exact h0
        · rw [if_neg h0] at h3
          have := List.getElem?_eq_none_iff.1 h3
          have := HCU.out.1
          omega
      have HN8 := HN
      have HT8 := HT
      have HXX := HX
      have HI8 := HI
      have HI0 := hide hi0
      clear h1 h3 hi0
      have hN9 := HN8.out
      have z0 := hN9.frozen 0
      have z1 := hN9.frozen 1
      have y0 := hN9.cell 0
      have y1 := hN9.cell 1
      have p0 := HT8.out.cell 0
      have p1 := HT8.out.cell 1
      simp at y0 y1 p0 p1
      have e4 := hN9.set1 (i := 0) (.slice none 0 0)
      have e3 := e4.set1 (i := 1) (.int .u64 0)
      have HK8 : ∀ t, t ≠ 37 → Keep t wx ((wx.setCell ⟨w.heap.size, 0, none⟩ (.slice none 0 0)).setCell ⟨w.heap.size, 1, none⟩ (.int .u64 0)) := fun t ht => (Keep.set hN9 (i := 0) ht _).trans (Keep.set e4 (i := 1) ht _)
      have g0 := e3.cell 0
      have g1 := e3.cell 1
      simp at g0 g1
      have HFI := hide (show BackOut w c t k es i (.returned (.tuple #[.agg #[.slice none 0 0, .int .u64 0], .bool false])) ((wx.setCell ⟨w.heap.size, 0, none⟩ (.slice none 0 0)).setCell ⟨w.heap.size, 1, none⟩ (.int .u64 0)) from (show CurOut w c t k es (if i = 0 then none else es[i - 1]?) (i - 1) _ _ from ⟨⟨none, 0, 0, [], 0⟩, false, rfl, HI8.out.keep (HK8 _ (by decide)), (by rw [show i - 1 = i by have := HI0.out; omega]; exact HCU.out.move (HK8 _ (by decide)) (HK8 _ (by decide))), (HXX.out.setNew (Nat.le_refl _) 0 _).setNew (Nat.le_refl _) 1 _⟩))
      clear hN9 e4 e3 HK8
      go_wp2
      exact bodyPost_ret (v := .tuple #[.agg #[.slice none 0 0, .int .u64 0], .bool false]) (by simp [results, Tryz.results14, go_sem, g0, g1]) rfl HFI.out
  · have hie : i = es.length := by have := HCU.out.1; omega
    rw [decide_eq_true hie] at y2
    rw [last_prev, ← hie] at HIL
    clear hT hTB hTop hes hok hok1 hr hso hb0 hb01 HLA
    have HI := HIL
    clear hie HIL hi
    obtain ⟨h1, ⟨rfl, h2, h3⟩ | ⟨rfl, rfl, h3⟩⟩ := id HI.out
    · have HRN := hide h2
      have hi0 : i ≠ 0 := by
        intro h0
        rw [if_pos h0] at h3
        cases h3
      rw [if_neg hi0] at h3
      have HES := hide h3
      have hil := (List.getElem?_eq_some_iff.1 h3).1
      have hal := (Below.refl wq.heap.size wq).alloc (Nat.le_refl _) (.cells #[] 35)
      have HAL := hide hal
      have HRW := hide ((h1.below hal).1.1.2.1)
      have HZP : Hid (Zp k rl.p) := hide (by have := h1.1.1.zp; rw [HRN.out] at this; exact this)
      have p0 := (HT.out.below hal).cell 0
      simp at p0
      have hk16 : rl.n ≤ 16 := by have := HRN.out; omega
      clear h1 h2 h3 hal
      go_wp2_with (first
        | (at_builtin
           refine app_b _ rfl (.tmp 38) (.tmp 40) _ rfl wq.heap.size 35 _ 1 8 Tryz.underlying32 info_u rfl (by omega) _ 0 [] rfl (own_empty _ _ _) rl.A rl.n rl.c (u64s rl.p) rfl wq HAL.out (Nat.le_refl _) HRW.out (u64s_one _) (by unfold maxLen; omega) (by omega) ?_
           intro v8 w8 ho8 hb8 _
           rw [Nat.zero_add, List.nil_append] at ho8
           have HO8 := hide ho8
           have HB8 := hide hb8
           obtain ⟨A8, c8, rfl, -, -⟩ := Rw.of_own ho8
           clear ho8 hb8)
        | fail)
      have ho9 := HO8.out
      rw [HRN.out] at ho9
      have hok9 : ER.okT w8 ⟨A8, k, c8, rl.p, 0⟩ := ER.okT.of_own ho9 HZP.out (by decide)
      have hst := cur_stand ⟨A8, k, c8, rl.p, 0⟩ true (HBC.out.below HB8.out)
      have hb8' := HBC.out.below HB8.out
      rw [← HRN.out] at hst
      have HST := hide hst
      have HOK9 := hide hok9
      have HBC8 := hide hb8'
      clear ho9 hok9 hst hb8'
      go_wp2_with fail
      refine HST.out.mono ?_
      rintro e w9 ⟨rfl, hB9, hx9⟩
      have HN8 := hide (hx9.blk (HN.out.below HB8.out) hncw)
      have HT8 := hide (hx9.blk (HT.out.below HB8.out) hbc)
      have HI8 := hide ((HI.out.below HB8.out).keep (hx9.keep HBC8.out (by decide)))
      have HXX := hide ((HX.out.below HB8.out).trans hx9)
      have hi9 : EntIs w9 k (es[i - 1]?) ⟨A8, rl.n, c8, rl.p, 0⟩ true → True := fun _ => trivial
      have HC9 := hide (show CurAt w9 c t k es (i - 1) from ⟨by omega, ⟨A8, rl.n, c8, rl.p, 0⟩, by rw [decide_eq_false (by omega)]; exact hB9, by have := HOK9.out.keep (hx9.keep HBC8.out (by decide)); rw [← HRN.out] at this; exact this, fun _ => ⟨HRN.out, rl.v, HES.out⟩⟩)
      clear hB9 hx9 hi9 p0
      have hN9 := HN8.out
      have z0 := hN9.frozen 0
      have z1 := hN9.frozen 1
      have y0 := hN9.cell 0
      have y1 := hN9.cell 1
      have p0 := HT8.out.cell 0
      have p1 := HT8.out.cell 1
      simp at y0 y1 p0 p1
      have e4 := hN9.set1 (i := 0) (.slice rl.A rl.n rl.c)
      have e3 := e4.set1 (i := 1) (.int .u64 (rl.v : Int))
      have HK8 : ∀ t, t ≠ 37 → Keep t w9 ((w9.setCell ⟨w.heap.size, 0, none⟩ (.slice rl.A rl.n rl.c)).setCell ⟨w.heap.size, 1, none⟩ (.int .u64 (rl.v : Int))) := fun t ht => (Keep.set hN9 (i := 0) ht _).trans (Keep.set e4 (i := 1) ht _)
      have g0 := e3.cell 0
      have g1 := e3.cell 1
      simp at g0 g1
      have HFI := hide (show BackOut w c t k es i (.returned (.tuple #[.agg #[.slice rl.A rl.n rl.c, .int .u64 (rl.v : Int)], .bool true])) ((w9.setCell ⟨w.heap.size, 0, none⟩ (.slice rl.A rl.n rl.c)).setCell ⟨w.heap.size, 1, none⟩ (.int .u64 (rl.v : Int))) from (show CurOut w c t k es (if i = 0 then none else es[i - 1]?) (i - 1) _ _ from ⟨rl, true, rfl, HI8.out.keep (HK8 _ (by decide)), HC9.out.move (HK8 _ (by decide)) (HK8 _ (by decide)), (HXX.out.setNew (Nat.le_refl _) 0 _).setNew (Nat.le_refl _) 1 _⟩))
      clear hN9 e4 e3 HK8
      go_wp2
      exact bodyPost_ret (v := .tuple #[.agg #[.slice rl.A rl.n rl.c, .int .u64 (rl.v : Int)], .bool true]) (by simp [results, Tryz.results14, go_sem, g0, g1]) rfl HFI.out
    · have hi0 : i = 0 := by
        by_cases h0 : i = 0
        · exact h0
        · rw [if_neg h0] at h3
          have := List.getElem?_eq_none_iff.1 h3
          have := HCU.out.1
          omega
      have HN8 := HN
      have HT8 := HT
      have HXX := HX
      have HI8 := HI
      have HI0 := hide hi0
      clear h1 h3 hi0
      have hN9 := HN8.out
      have z0 := hN9.frozen 0
      have z1 := hN9.frozen 1
      have y0 := hN9.cell 0
      have y1 := hN9.cell 1
      have p0 := HT8.out.cell 0
      have p1 := HT8.out.cell 1
      simp at y0 y1 p0 p1
      have e4 := hN9.set1 (i := 0) (.slice none 0 0)
      have e3 := e4.set1 (i := 1) (.int .u64 0)
      have HK8 : ∀ t, t ≠ 37 → Keep t wq ((wq.setCell ⟨w.heap.size, 0, none⟩ (.slice none 0 0)).setCell ⟨w.heap.size, 1, none⟩ (.int .u64 0)) := fun t ht => (Keep.set hN9 (i := 0) ht _).trans (Keep.set e4 (i := 1) ht _)
      have g0 := e3.cell 0
      have g1 := e3.cell 1
      simp at g0 g1
      have HFI := hide (show BackOut w c t k es i (.returned (.tuple #[.agg #[.slice none 0 0, .int .u64 0], .bool false])) ((wq.setCell ⟨w.heap.size, 0, none⟩ (.slice none 0 0)).setCell ⟨w.heap.size, 1, none⟩ (.int .u64 0)) from (show CurOut w c t k es (if i = 0 then none else es[i - 1]?) (i - 1) _ _ from ⟨⟨none, 0, 0, [], 0⟩, false, rfl, HI8.out.keep (HK8 _ (by decide)), (by rw [show i - 1 = i by have := HI0.out; omega]; exact HCU.out.move (HK8 _ (by decide)) (HK8 _ (by decide))), (HXX.out.setNew (Nat.le_refl _) 0 _).setNew (Nat.le_refl _) 1 _⟩))
      clear hN9 e4 e3 HK8
      go_wp2
      exact bodyPost_ret (v := .tuple #[.agg #[.slice none 0 0, .int .u64 0], .bool false]) (by simp [results, Tryz.results14, go_sem, g0, g1]) rfl HFI.out
theorem cur_back {w0 w : World} {c t k i : Nat} {es : List Ent} (hT : TreeOf w0 k t es) (hb0 : Below w0.heap.size w0 w) (hc : w0.heap.size ≤ c) (hC : CurAt w c t k es i) : Calls Tryz.prog 14 #[.pointer (some ⟨c, 0, none⟩)] w (CurOut w c t k es (if i = 0 then none else es[i - 1]?) (i - 1)) := cur_back_ hT hb0 hc hC
end Go.Proofs.YtnopacldaoekiaaGreat
