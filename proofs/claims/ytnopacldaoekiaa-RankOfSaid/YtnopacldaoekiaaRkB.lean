/- rank: the entry of a number. -/
import Derived.Test.YtnopacldaoekiaaLwC
import Derived.Test.YtnopacldaoekiaaWkH
set_option linter.unusedSimpArgs false
set_option linter.unusedVariables false
namespace Go.Proofs.Ytnopacldaoekiaa
open Go.RowKit
/-- An entry that is there, as a value. -/
def NthOut (w : World) (k : Nat) (o : Option Ent) (e : Ending) (w' : World) : Prop :=
  ∃ r : ER, e = .returned (.agg #[.slice r.A r.n r.c, .int .u64 (r.v : Int)]) ∧ r.okT w' ∧ r.n = k ∧ o = some (r.p, r.v) ∧ Below w.heap.size w w'
theorem kid_nth {ks : List Kid} {j i : Nat} {q : Kid} (hq : ks[j]? = some q) (hi : i < q.es.length) : (kidEs ks)[(kidEs (ks.take j)).length + i]? = q.es[i]? := by
  rw [kidEs_at hq, List.getElem?_append_right (by omega), show (kidEs (ks.take j)).length + i - (kidEs (ks.take j)).length = i by omega, List.getElem?_append_left hi]
theorem kid_more {ks : List Kid} {j i : Nat} {q : Kid} (hq : ks[j]? = some q) (hi : q.es.length ≤ i) (hl : (kidEs (ks.take j)).length + i < (kidEs ks).length) : j + 1 < ks.length := by
  rcases Nat.lt_or_ge (j + 1) ks.length with h | h
  · exact h
  · exfalso
    have h1 := congrArg List.length (kidEs_at hq)
    simp only [List.length_append] at h1
    rw [List.drop_of_length_le h] at h1
    simp [kidEs] at h1 hl
    omega
set_option maxHeartbeats 8000000 in
set_option maxRecDepth 100000 in
theorem rk_nth {w : World} {k g i : Nat} {lv : Int} {pre : List Nat} {es : List Ent} (h : NodeOf w k g lv pre es) (hk : k ≤ 16) (hi : i < es.length) (hl : es.length ≤ 60000) : Calls Try.prog 93 #[.pointer (some ⟨g, 0, none⟩), .int .i64 (i : Int)] w (NthOut w k (es[i]?)) := by
  have b1 := (Below.refl w.heap.size w).alloc (Nat.le_refl _) (.cells #[.slice none 0 0, .int .u64 0] 27)
  have hN := Blk.new w 27 #[.slice none 0 0, .int .u64 0]
  have HB0 := hide b1
  have HN0 := hide hN
  have H := hide h
  have HI := hide (And.intro hi hl)
  clear b1 hN h hi hl
  go_enter Try.func93, Try.ntmps93
  go_wp2
  refine wp_scope_goto0 0 (fun a' wr => ∃ (g' : Nat) (lv' : Int) (pre' : List Nat) (es' : List Ent) (i' : Nat) (u2 u3 u5 u6 u7 u8 u9 u10 u11 u12 u13 u14 u15 u16 u17 u18 u19 u20 u21 u22 u23 u24 u25 u26 u27 u28 u29 u30 u31 u32 u33 u34 u35 u36 : Value), a' = { tmps := #[.pointer (some ⟨g', 0, none⟩), .int .i64 (i' : Int), u2, u3, .pointer (some ⟨w.heap.size, 0, none⟩), u5, u6, u7, u8, u9, u10, u11, u12, u13, u14, u15, u16, u17, u18, u19, u20, u21, u22, u23, u24, u25, u26, u27, u28, u29, u30, u31, u32, u33, u34, u35, u36], defers := [] } ∧ NodeOf w k g' lv' pre' es' ∧ i' < es'.length ∧ es'.length ≤ 60000 ∧ es'[i']? = es[i]? ∧ Blk wr w.heap.size 27 #[.slice none 0 0, .int .u64 0] ∧ Below w.heap.size w wr) (fun a' _ => nlv w (a'.tmps.getD 0 undef)) (by rfl) ?_ ?_
  · exact ⟨g, lv, pre, es, i, _, _, _, _, _, _, _, _, _, _, _, _, _, _, _, _, _, _, _, _, _, _, _, _, _, _, _, _, _, _, _, _, _, _, rfl, H.out, HI.out.1, HI.out.2, rfl, HN0.out, HB0.out⟩
  · rintro a' wr ⟨g', lv', pre', es', i', u2, u3, u5, u6, u7, u8, u9, u10, u11, u12, u13, u14, u15, u16, u17, u18, u19, u20, u21, u22, u23, u24, u25, u26, u27, u28, u29, u30, u31, u32, u33, u34, u35, u36, rfl, hn, hi', hl', hes, hN, hb⟩
    have HES := hide hes
    have HN := hide hN
    have HB := hide hb
    have HLV := hide (nlv_node hn)
    rcases hn.cases' with ⟨A', c', v, hlv', hes', hvl, hP', hc', hB'⟩ | ⟨m, ks, hlv', hes', hFk⟩
    · subst hlv' hes'
      obtain rfl : i' = 0 := by simp at hi'; omega
      have HE := hide (nd_entry_leaf (hB'.below hb) (hP'.below hb) hk)
      have HZP := hide hP'.zp
      have HVL := hide hvl
      clear hn hi' hl' hes hN hb hvl hP' hc' hB'
      go_wp2_with fail
      refine HE.out.mono ?_
      rintro e w1 ⟨BB, d, rfl, ho, hb1⟩
      have hal := (Below.refl w1.heap.size w1).alloc (Nat.le_refl _) (.cells #[.slice BB k d, .int .u64 (v : Int)] 27)
      have hb2 := below_then hb1 hal
      have hb3 := below_then HB.out hb2
      have hN3 := HN.out.below hb2
      have hM := Blk.new w1 27 #[.slice BB k d, .int .u64 (v : Int)]
      have m0 := hM.cell 0
      have m1 := hM.cell 1
      simp at m0 m1
      have hok : ER.okT (w1.alloc (.cells #[.slice BB k d, .int .u64 (v : Int)] 27)) ⟨BB, k, d, pre', v⟩ := (ER.okT.of_own ho HZP.out HVL.out).below hal
      have z0 := hN3.frozen 0
      have z1 := hN3.frozen 1
      have y0 := hN3.cell 0
      have y1 := hN3.cell 1
      simp at y0 y1
      have e4 := hN3.set1 (i := 0) (.slice BB k d)
      have e3 := e4.set1 (i := 1) (.int .u64 (v : Int))
      have hok3 := (hok.keep (Keep.set hN3 (i := 0) (by decide) (.slice BB k d))).keep (Keep.set e4 (i := 1) (by decide) (.int .u64 (v : Int)))
      have b3 := ((hb3.setCell (p := ⟨w.heap.size, 0, none⟩) (Nat.le_refl _) (.slice BB k d)).setCell (p := ⟨w.heap.size, 1, none⟩) (Nat.le_refl _) (.int .u64 (v : Int)))
      have g0 := e3.cell 0
      have g1 := e3.cell 1
      simp at g0 g1
      have HB3 := hide b3
      have HOK := hide hok3
      clear ho hb1 hal hb2 hb3 hN3 hM e4 e3 b3 hok hok3 HE
      go_wp2
      simp only [Exit.jump]
      refine bodyPost_ret (v := .agg #[.slice BB k d, .int .u64 (v : Int)]) (by simp [results, Try.results93, go_sem, g0, g1]) rfl ⟨⟨BB, k, d, pre', v⟩, rfl, HOK.out, rfl, HES.out.symm, HB3.out⟩
    · subst hlv' hes'
      obtain ⟨A', c', gs, hp', hS, hBk⟩ := (hFk.stay hb).head
      have HE := hide (nd_entry_fork hBk)
      have HF := hide hFk
      have HSO := hide hFk.sorted
      have HAT := hide (fun q (hq : q ∈ ks) => pow_le_16 (hFk.kid q hq).2.2.2.2 hk)
      have HIL := hide (And.intro hi' hl')
      have h2 := hFk.two
      clear hn hi' hl' hes hN hb hp' hS hBk hFk
      go_wp2_with fail
      refine HE.out.mono ?_
      rintro e w1 ⟨rfl, hb1⟩
      have hal := (Below.refl w1.heap.size w1).alloc (Nat.le_refl _) (.cells #[.slice none 0 0, .int .u64 0] 27)
      have hb2 := below_then hb1 hal
      replace HN := hide (HN.out.below hb2)
      replace HB := hide (below_then HB.out hb2)
      clear hb1 hal hb2 HE
      go_upto_region 4 with fail
      generalize w1.alloc (.cells #[.slice none 0 0, .int .u64 0] 27) = wq at *
      have H0 := hide (nd_from_0 (HF.out.stay HB.out))
      go_wp2_with fail
      refine H0.out.mono ?_
      rintro e w3 ⟨rfl, hb3⟩
      replace HN := hide (HN.out.below hb3)
      replace HB := hide (below_then HB.out hb3)
      clear hb3 H0
      go_wp2
      go_loopw [1, 7, 8] (fun x1 x7 x8 wr => ∃ (j i2 : Nat), x1 = .int .i64 (i2 : Int) ∧ x7 = .int .i64 ((kAt ks j : Nat) : Int) ∧ x8 = kPt ks j ∧ j < ks.length ∧ (kidEs (ks.take j)).length + i2 = i' ∧ Blk wr w.heap.size 27 #[.slice none 0 0, .int .u64 0] ∧ Below w.heap.size w wr) (fun _ x7 x8 _ => fromM x7 x8)
      case atStart => exact ⟨0, i', rfl, rfl, rfl, by omega, by simp [kidEs], HN.out, HB.out⟩
      case round =>
        obtain ⟨j, i2, rfl, rfl, rfl, hj, hji, hN, hb⟩ := hrel
        rename World => wz
        obtain ⟨q, hq⟩ : ∃ q, ks[j]? = some q := ⟨ks[j], List.getElem?_eq_getElem hj⟩
        rw [kAt_some hq, kPt_some hq]
        have hqm := List.mem_of_getElem? hq
        have hqa1 : ((q.at_ : Nat) : Int) ≤ 65535 := by have := HAT.out q hqm; omega
        have hk2 := HF.out.kid q hqm
        have hsz : q.es.length ≤ (kidEs ks).length := by
          have h2 := congrArg List.length (kidEs_at hq)
          simp only [List.length_append] at h2
          omega
        have hq6 : q.es.length ≤ 60000 := by have := HIL.out.2; omega
        have hco := rk_count (hk2.1.stay hb) (by omega)
        have HQ := hide hq
        have HKQ := hide hk2
        have HJI := hide (And.intro hj hji)
        have hi6 : (i2 : Int) ≤ 60000 := by have := HIL.out; omega
        have hq7 : ((q.es.length : Nat) : Int) ≤ 60000 := by omega
        replace HN := hide hN
        replace HB := hide hb
        obtain ⟨LL, hLL⟩ : ∃ LL, q.es.length = LL := ⟨_, rfl⟩
        rw [hLL] at hco hq7 hq6
        have HCO := hide hco
        have HLL := hide hLL
        clear hq hqm hk2 hsz hj hji hN hb hLL hco
        by_cases hge : LL ≤ i2
        · have e5 : decide ((LL : Int) ≤ (i2 : Int)) = true := by simp; omega
          have hsub : (0 : Int) ≤ (i2 : Int) - (LL : Int) := by omega
          go_wp2_with fail
          refine HCO.out.mono ?_
          rintro e w5 ⟨rfl, hb5⟩
          have hco := rk_count ((HKQ.out.1.stay HB.out).stay hb5) (by rw [HLL.out]; omega)
          rw [HLL.out] at hco
          have HCO2 := hide hco
          replace HN := hide (HN.out.below hb5)
          replace HB := hide (below_then HB.out hb5)
          clear hb5 HCO hco
          go_wp2_with fail
          refine HCO2.out.mono ?_
          rintro e w6 ⟨rfl, hb6⟩
          replace HN := hide (HN.out.below hb6)
          replace HB := hide (below_then HB.out hb6)
          have HNX := hide (nd_from_next (HF.out.stay HB.out) HQ.out)
          clear hb6 HCO2
          go_wp2_with fail
          refine HNX.out.mono ?_
          rintro e w7 ⟨rfl, hb7⟩
          replace HN := hide (HN.out.below hb7)
          replace HB := hide (below_then HB.out hb7)
          clear hb7 HNX
          go_wp2
          go_roundw
          case rel =>
            refine ⟨j + 1, i2 - LL, ?_, rfl, rfl, ?_, ?_, HN.out, HB.out⟩
            · congr 1
              omega
            · exact kid_more HQ.out (by rw [HLL.out]; exact hge) (by have := HIL.out; have := HJI.out; omega)
            · rw [kidEs_take HQ.out, List.length_append, HLL.out]
              have := HJI.out
              omega
          case measure => exact fromM_lt HSO.out HAT.out HQ.out
        · have e5 : decide ((LL : Int) ≤ (i2 : Int)) = false := by simp; omega
          go_wp2_with fail
          refine HCO.out.mono ?_
          rintro e w5 ⟨rfl, hb5⟩
          replace HN := hide (HN.out.below hb5)
          replace HB := hide (below_then HB.out hb5)
          clear hb5 HCO
          go_wp2
          go_step3
          refine ⟨rfl, ⟨q.blk, q.lv, q.pre, q.es, i2, _, _, _, _, _, _, _, _, _, _, _, _, _, _, _, _, _, _, _, _, _, _, _, _, _, _, _, _, _, _, _, _, _, _, rfl, HKQ.out.1, by rw [HLL.out]; omega, by rw [HLL.out]; omega, ?_, HN.out, HB.out⟩, ?_⟩
          · rw [← HES.out, ← HJI.out.2]
            exact (kid_nth HQ.out (by rw [HLL.out]; omega)).symm
          show nlv w (.pointer (some ⟨q.blk, 0, none⟩)) < nlv w (.pointer (some ⟨g', 0, none⟩))
          rw [nlv_node HKQ.out.1, HLV.out]
          have h1 := HKQ.out.2.1
          have h2 := HKQ.out.1.info.2.2.1
          omega
end Go.Proofs.Ytnopacldaoekiaa
