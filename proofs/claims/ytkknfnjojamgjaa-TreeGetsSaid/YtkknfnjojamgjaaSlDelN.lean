/- slots.Del at *pantile/node.Node. -/
import Derived.Test.YtkknfnjojamgjaaSlPutN
import Derived.Deep.RegionHeld3
set_option linter.unusedSimpArgs false
set_option linter.unusedVariables false
namespace Go.Proofs.Ytkknfnjojamgjaa
open Go.RowKit
set_option maxHeartbeats 1000000 in
set_option maxRecDepth 100000 in
theorem del1_n (a : Nat) (y) (h : Bool) (pb addr : Nat) (w : World) (hb : w.cell? ⟨pb, 0, none⟩ = some (.int .i64 (addr : Int))) (hlt : pb < w.heap.size) :
    Calls Try.prog 139 #[.agg #[.int .i64 (a : Int), .pointer y, .bool h], .pointer (some ⟨pb, 0, none⟩)] w fun e w' => e = .returned (.bool (decide (a = addr))) ∧ Below w.heap.size w w' := by
  by_cases he : a = addr
  · have e1 : ((a : Int) == (addr : Int)) = true := by simp; omega
    have e2 := hide he
    clear he
    go_enter Try.func139, Try.ntmps139
    go_wp2
    go_ret
    exact ⟨retB (by simp [e2.out]), below_alloc (Below.refl _ _) (Nat.le_refl _) _⟩
  · have e1 : ((a : Int) == (addr : Int)) = false := by simp; omega
    go_enter Try.func139, Try.ntmps139
    go_wp2
    go_ret
    exact ⟨retB (by simp [he]), below_alloc (Below.refl _ _) (Nat.le_refl _) _⟩
set_option maxHeartbeats 1000000 in
set_option maxRecDepth 100000 in
theorem indexf_n (A : Option Addr) (n c : Nat) (L : Th) (k : Nat) (pb p : Nat) (t : Nat × Value) (w : World) (hR : Rw w 3 A n (clv (mkC L))) (hX : IsX_n (mkC L)) (hO : OkTh k L) (hn : n ≤ 65536) (ht : L[p]? = some t) (hb : w.cell? ⟨pb, 0, none⟩ = some (.int .i64 (t.1 : Int))) (hlt : pb < w.heap.size) :
    Calls Try.prog 145 #[.slice A n c, .func (.func 139) #[] #[.pointer (some ⟨pb, 0, none⟩)]] w fun e w' => e = .returned (.int .i64 (p : Int)) ∧ Below w.heap.size w w' := by
  have hlen : L.length = n := by have := hR.1; rw [clv_length, mkC_length] at this; omega
  have hp : p < n := by have := (List.getElem?_eq_some_iff.1 ht).1; omega
  have HT := hide ht
  have HL := hide hlen
  clear ht hlen
  go_enter Try.func145, Try.ntmps145
  go_wp2
  go_loopw [8] (fun i wr => ∃ (j : Nat), j ≤ p ∧ i = .int .i64 j ∧ Below w.heap.size w wr) (fun i _ => p - (intOf i).toNat)
  case atStart => exact ⟨0, Nat.zero_le _, rfl, Below.refl _ _⟩
  case round =>
    obtain ⟨j, hj, rfl, hbr⟩ := hrel
    obtain ⟨b, o, d, rfl, hbl, hd, k0, k1, k2⟩ := (hR.below hbr).cl (i := j) (by omega)
    obtain ⟨y, hy⟩ := hX d (List.mem_of_getElem? hd)
    rw [hy] at k1
    rw [mkC_get] at hd
    obtain ⟨s, hs, he⟩ := Option.map_eq_some_iff.1 hd
    have hda : d.a = s.1 := by rw [← he]
    have hb' := (hbr.cell (p := ⟨pb, 0, none⟩) hlt).trans hb
    have hlt' : pb < wr.heap.size := Nat.lt_of_lt_of_le hlt hbr.size
    by_cases hjp : j = p
    · have e1 : decide (d.a = t.1) = true := by
        have h1 := HT.out
        rw [← hjp, hs] at h1
        injection h1 with h1
        rw [hda, h1]
        simp
      have HJ := hide hjp
      clear hjp hs he hd hda hy
      go_wp2_with fail
      refine (del1_n d.a y d.h pb t.1 _ hb' hlt').mono ?_
      rintro e w1 ⟨rfl, hb1⟩
      have hb2 := below_then hbr hb1
      clear hb1
      go_wp2
      go_ret
      exact ⟨retI (by rw [HJ.out]), hb2⟩
    · have e1 : decide (d.a = t.1) = false := by
        have h1 := HT.out
        simp only [decide_eq_false_iff_not]
        intro h2
        obtain ⟨hi, rfl⟩ := List.getElem?_eq_some_iff.1 hs
        obtain ⟨hi', rfl⟩ := List.getElem?_eq_some_iff.1 h1
        have := List.pairwise_iff_getElem.1 hO.1 j p hi hi' (by omega)
        omega
      have hjp' : j < p := by omega
      clear hjp hs he hd hda hy
      go_wp2_with fail
      refine (del1_n d.a y d.h pb t.1 _ hb' hlt').mono ?_
      rintro e w1 ⟨rfl, hb1⟩
      have hb2 := below_then hbr hb1
      clear hb1
      go_wp2
      go_roundw
      case rel => exact ⟨j + 1, by omega, by go_num, hb2⟩
      case measure => simp [intOf]; omega
set_option maxHeartbeats 2000000 in
set_option maxRecDepth 100000 in
theorem deletef_n (base g : Nat) (n cap : Nat) (L : Th) (k : Nat) (pb p : Nat) (t : Nat × Value) (w : World) (hO : w.ownsRow base 182 3 (.slice (some ⟨g, 0, none⟩) n cap) n (clv (mkC L))) (hX : IsX_n (mkC L)) (hOk : OkTh k L) (hn : n ≤ 65536) (ht : L[p]? = some t) (hb : w.cell? ⟨pb, 0, none⟩ = some (.int .i64 (t.1 : Int))) (hlt : pb < w.heap.size) (hpg : pb < base) (hbase : base ≤ w.heap.size) :
    Calls Try.prog 138 #[.slice (some ⟨g, 0, none⟩) n cap, .func (.func 139) #[] #[.pointer (some ⟨pb, 0, none⟩)]] w fun e w' => e = .returned (.slice (some ⟨g, 0, none⟩) (n - 1) cap) ∧ w'.ownsRow base 182 3 (.slice (some ⟨g, 0, none⟩) (n - 1) cap) (n - 1) (clv (mkC (delTh L t.1))) ∧ Below base w w' := by
  have hlen : (mkC L).length = n := by have := hO.1; rw [clv_length] at this; omega
  have hp : p < n := by have := (List.getElem?_eq_some_iff.1 ht).1; rw [mkC_length] at hlen; omega
  obtain ⟨_, _, hv, hnc, hR⟩ := Rw.of_own hO
  injection hv with hA _ hc
  subst hA hc
  have hix := hide (indexf_n (some ⟨g, 0, none⟩) n cap L k pb p t w hR hX hOk hn ht hb hlt)
  have hgb : base ≤ g := own_base hO g rfl
  have HT := hide ht
  have HL := hide hlen
  clear ht hlen hR
  have e0 : ((p : Int) == -1) = false := by simp
  go_enter Try.func138, Try.ntmps138
  go_wp2_with fail
  refine hix.out.mono ?_
  rintro e w1 ⟨rfl, hb1⟩
  have ho1 := own_below hO hb1
  have hbB : Below base w w1 := hb1.mono hbase
  clear hix hO hb1
  go_wp2
  go_loopw [5, 6] (fun x i wr => ∃ (q : Nat), p ≤ q ∧ q + 1 ≤ n ∧ x = .int .i64 q ∧ i = .int .i64 ((q : Int) + 1) ∧ wr.ownsRow base 182 3 (.slice (some ⟨g, 0, none⟩) n cap) n (clv (shifted (mkC L) p (q + 1))) ∧ Below base w wr) (fun _ i _ => n - (intOf i).toNat)
  case atStart => exact ⟨p, Nat.le_refl _, hp, rfl, rfl, by rw [shifted_start]; exact ho1, hbB⟩
  case round =>
    obtain ⟨q, hpq, hqn, rfl, rfl, hoR, hbR⟩ := hrel
    clear ho1 hbB
    by_cases hq : q + 1 < n
    · obtain ⟨d, hd, k0, k1, k2, f0, f1, f2⟩ := own_cells hoR hq
      rw [shifted_get _ _ _ (by omega) (by rw [HL.out]; exact hq)] at hd
      obtain ⟨y, hy⟩ := hX d (List.mem_of_getElem? hd)
      rw [hy] at k1
      have hb' := (hbR.cell (p := ⟨pb, 0, none⟩) hpg).trans hb
      have hlt' : pb < wr.heap.size := Nat.lt_of_lt_of_le hlt hbR.size
      have hd' := hd
      rw [mkC_get] at hd'
      obtain ⟨s, hs, he⟩ := Option.map_eq_some_iff.1 hd'
      have e1 : decide (d.a = t.1) = false := by
        have h1 := HT.out
        have hda : d.a = s.1 := by rw [← he]
        simp only [decide_eq_false_iff_not]
        intro h2
        obtain ⟨hi, rfl⟩ := List.getElem?_eq_some_iff.1 hs
        obtain ⟨hi', rfl⟩ := List.getElem?_eq_some_iff.1 h1
        have := List.pairwise_iff_getElem.1 hOk.1 p (q + 1) hi' hi (by omega)
        omega
      have HD := hide hd
      have HY := hide hy
      have HOR := hide hoR
      clear hd hd' hy hs he f0 f1 f2 hoR
      go_wp2_with fail
      refine (del1_n d.a y d.h pb t.1 _ ((Blk.alloc_cell hb').trans rfl) (by simp; omega)).mono ?_
      rintro e w2 ⟨rfl, hb2⟩
      have hoA := HOR.out.alloc (.cells #[.int .i64 (d.a : Int), .pointer y, .bool d.h] 182)
      have ho2 := own_below hoA hb2
      have hN := (Blk.new wr 182 #[.int .i64 (d.a : Int), .pointer y, .bool d.h]).below hb2
      have hb3 : Below base w w2 := (hbR.alloc (Nat.le_trans hbase hbR.size) _).trans (hb2.mono (by have := hbR.size; simp; omega))
      obtain ⟨d2, hd2, j0, j1, j2, f0, f1, f2⟩ := own_cells (i := q) ho2 (by omega)
      have N0 := hN.cell 0
      have N1 := hN.cell 1
      have N2 := hN.cell 2
      simp at N0 N1 N2
      have HO2 := hide ho2
      have hqg : g ≠ wr.heap.size := fun e => by have := own_lt HOR.out (by omega); omega
      clear hd2 ho2 hoA hN hb2 k0 k1 k2
      go_wp2
      go_roundw
      case rel =>
        refine ⟨q + 1, by omega, by omega, by go_num, rfl, ?_, ((hb3.setCell hgb _).setCell hgb _).setCell hgb _⟩
        rw [← shifted_set (mkC L) p (q + 1) d (by omega) HD.out]
        have h1 := own_store3 HO2.out d (show q < n by omega)
        rw [HY.out] at h1
        exact h1
      case measure => simp [intOf]; omega
    · have hqe : n - 1 = q := by omega
      have hs := fun W => run_slice_lo (P := Try.prog) Try.underlying176 Try.sizeOf182 (some ⟨g, 0, none⟩) n cap q (by omega) W
      rw [cutA_some (by omega), show n - q = 1 by omega] at hs
      have hs2 := fun W => run_slice_hi (P := Try.prog) Try.underlying176 Try.sizeOf182 g n cap q (by omega) W
      obtain ⟨w2, hrun, ho2, hg2⟩ := run_clear_own (P := Try.prog) wr 176 182 (.agg #[.int .i64 0, (.pointer none), .bool false]) 3 base n cap g q 1 (cap - q) _ Try.underlying176 Try.zeroValue182 rfl hoR (by omega) (by omega) (by rw [zc_n]; exact clv_one_n (isx_rep_n 1))
      have hb2 : Below base w w2 := hbR.grown hg2 (Nat.le_trans hbase hbR.size) (fun k hk => by injection hk with hk; omega)
      have ho3 := own_cut ho2 (show q ≤ n by omega)
      have HE := hide hqe
      have HO3 := hide ho3
      clear hqe ho2 ho3 hg2 hoR
      go_wp2
      go_ret
      rw [HE.out]
      refine ⟨rfl, ?_, hb2⟩
      have h1 := HO3.out
      unfold splice at h1
      have hlsh := shifted_len (mkC L) p (q + 1) (by omega) (by rw [HL.out]; omega)
      rw [HL.out] at hlsh
      rw [List.take_append_of_le_length (by rw [List.length_take, clv_length]; omega), List.take_take, Nat.min_self, clv_take] at h1
      have h2 := shifted_end (mkC L) p (by rw [HL.out]; exact hp)
      rw [HL.out, HE.out] at h2
      rw [show q + 1 = n by omega, h2] at h1
      rw [← del_at hOk HT.out, mkC_append]
      unfold mkC at h1 ⊢
      rw [List.map_take, List.map_drop]
      exact h1
theorem isx_del_n {L : Th} {a : Nat} (h : IsX_n (mkC L)) : IsX_n (mkC (delTh L a)) := by
  intro c hc
  obtain ⟨t, ht, rfl⟩ := List.mem_map.1 hc
  exact h _ (List.mem_map.2 ⟨t, (List.mem_filter.1 ht).1, rfl⟩)
set_option maxHeartbeats 2000000 in
set_option maxRecDepth 100000 in
theorem del_n (g k : Nat) (L : Th) (a : Nat) (x : Value) (w : World) (h : SlotsAt_n w g k L) (ha : a < 2 ^ k) (hg : getTh L (a : Int) = some x) :
    Calls Try.prog 107 #[.pointer (some ⟨g, 0, none⟩), .int .i64 (a : Int)] w fun e w' => ∃ g', e = .returned (.tuple #[.pointer (some ⟨g', 0, none⟩), .int .i64 0]) ∧ SlotsAt_n w' g' k (delTh L a) ∧ w.heap.size ≤ g' ∧ Below w.heap.size w w' := by
  have hO := h.ok
  have hk1 := h.1
  have hk := h.2.1
  have hXL := h.2.2.2.1
  have hp16 := pow16 hk
  have hll := len_le_of_ok hO
  have hl16 : L.length ≤ 65536 := by omega
  have hc0 : chk k a = 0 := by unfold chk; rw [if_pos ⟨by omega, by omega⟩]
  obtain ⟨p, t, ht, hta⟩ := getTh_idx hg
  have hta' : t.1 = a := by omega
  subst hta'
  have hlp : p < L.length := (List.getElem?_eq_some_iff.1 ht).1
  have hbA := (Below.refl w.heap.size w).alloc (Nat.le_refl _) (.cells #[.int .i64 (t.1 : Int)] 3)
  have hA := h.below hbA
  have hpbc : (w.alloc (.cells #[.int .i64 (t.1 : Int)] 3)).cell? ⟨w.heap.size, 0, none⟩ = some (.int .i64 (t.1 : Int)) := (Blk.new w 3 #[.int .i64 (t.1 : Int)]).cell 0
  have HC := hide (check_n g k L (t.1 : Int) _ hA)
  have HG := hide (get_n g k L (t.1 : Int) _ hA)
  have HT := hide ht
  have HX := hide hg
  have HS := hide hA
  have HB := hide hbA
  have hmf : ∀ (fn : Fn) (first cap : Array Value) (w : World), (Instr.makeFunc fn first cap).run Try.prog w = .ok (.func fn first cap) w := fun _ _ _ _ => rfl
  clear h hp16 hll ht hta hg hA hbA
  go_enter Try.func107, Try.ntmps107
  go_wp2_with fail
  refine HC.out.mono ?_
  rintro e w0 ⟨rfl, rfl⟩
  go_wp2_with fail
  refine HG.out.mono ?_
  rintro e w1 ⟨rfl, hb1⟩
  rw [HX.out]
  have hpb1 := (hb1.cell (p := ⟨w.heap.size, 0, none⟩) (by simp)).trans hpbc
  have hpbl : w.heap.size < w1.heap.size := by have := hb1.size; simp at this; omega
  have HS1 := HS.out.below hb1
  have HB1 := hide (HB.out.trans (hb1.mono (by simp)))
  obtain ⟨A, m, c, hB, hR, hm, hX, -, hLv, -⟩ := HS1.cells
  have H0 := hB.cell 0
  simp at H0
  have HTh : ∀ W : World, W.heap = w1.heap → W.os = w1.os → W.tape = w1.tape → W.output = w1.output → Calls Try.prog 129 #[.pointer (some ⟨g, 0, none⟩)] W fun e w' => ∃ v, e = .returned v ∧ w'.ownsRow W.heap.size 182 3 v L.length (clv (mkC L)) ∧ Below w1.heap.size w1 w' := by
    intro W h1 h2 h3 h4
    have hW : Below w1.heap.size w1 W := ⟨h2, h3, h4, by rw [h1]; exact Nat.le_refl _, fun k _ => by rw [h1]⟩
    have hbT := things_n g _ _ A m c _ W (hB.below hW) (hR.below hW) hX (by omega)
    rw [hLv, mkC_length] at hbT
    exact hbT.mono fun e w' ⟨v, e1, e2, e3⟩ => ⟨v, e1, e2, below_then hW e3⟩
  have HTH := hide HTh
  clear HC HG HS HB hpbc hb1 HS1 hLv HTh hR
  go_wp2_with fail
  go_region_held3 (fun w' => w'.cell? ⟨g, 0, none⟩ = some (.int .i64 (k : Int)))
    (first
      | go_keep
      | exact hk2
      | exact hk3
      | exact hk4)
    (first
      | (go_at_call 129
         refine (HTH.out w1.drew rfl rfl rfl rfl).mono ?_
         rintro e w2 ⟨v, rfl, ho2, hb2⟩
         obtain ⟨g2, cap2, rfl, hg2a, hg2b⟩ := ho2.form (by omega)
         have hpb2 := (hb2.cell (p := ⟨w.heap.size, 0, none⟩) hpbl).trans hpb1
         have hk2 : w2.cell? ⟨g, 0, none⟩ = some (.int .i64 (k : Int)) := (hb2.cell (p := ⟨g, 0, none⟩) hB.lt).trans H0)
      | (go_at_call 138
         refine (deletef_n w1.heap.size g2 L.length cap2 L k w.heap.size p t w2 ho2 hXL hO hl16 HT.out hpb2 (by have := hb2.size; omega) hpbl hb2.size).mono ?_
         rintro e w3 ⟨rfl, ho3, hb3⟩
         have hb13 := hb2.trans hb3
         have hk3 : w3.cell? ⟨g, 0, none⟩ = some (.int .i64 (k : Int)) := (hb13.cell (p := ⟨g, 0, none⟩) hB.lt).trans H0)
      | (go_at_call 133
         obtain ⟨A3, c3, hv3, _, hR3⟩ := Rw.of_own ho3
         injection hv3 with hA3 _ hc3
         subst hA3 hc3
         refine (kept_n k (some ⟨g2, 0, none⟩) (L.length - 1) cap2 (delTh L t.1) w3 hk1 hk hR3 (isx_del_n hXL) (delTh_ok hO)).mono ?_
         rintro e w4 ⟨g', rfl, hs', hg', hb4⟩
         have hk4 : w4.cell? ⟨g, 0, none⟩ = some (.int .i64 (k : Int)) := (hb4.cell (p := ⟨g, 0, none⟩) (Nat.lt_of_lt_of_le hB.lt hb13.size)).trans hk3))
  all_goals
    have HS4 := hide hs'
    have hb5 : Below w.heap.size w w4 := HB1.out.trans ((hb13.trans (hb4.mono hb13.size)).mono (by omega))
    have hsz : w.heap.size ≤ g' := by have := hb13.size; omega
    clear hs' hg'
    go_wp2
    go_ret2
    exact ⟨g', rfl, HS4.out, hsz, hb5⟩
set_option maxHeartbeats 2000000 in
set_option maxRecDepth 100000 in
theorem del_bad_n (g k : Nat) (L : Th) (addr : Int) (w : World) (h : SlotsAt_n w g k L) (ha : chk k addr = 3) :
    Calls Try.prog 107 #[.pointer (some ⟨g, 0, none⟩), .int .i64 addr] w fun e w' => e = .returned (.tuple #[.pointer none, .int .i64 3]) ∧ Below w.heap.size w w' := by
  have hbA := (Below.refl w.heap.size w).alloc (Nat.le_refl _) (.cells #[.int .i64 addr] 3)
  have HC := hide (check_n g k L addr _ (h.below hbA))
  have HB := hide hbA
  clear h hbA
  go_enter Try.func107, Try.ntmps107
  go_wp2_with fail
  refine HC.out.mono ?_
  rintro e w0 ⟨rfl, rfl⟩
  go_wp2
  go_ret2
  exact ⟨rfl, HB.out⟩
set_option maxHeartbeats 2000000 in
set_option maxRecDepth 100000 in
theorem del_none_n (g k : Nat) (L : Th) (addr : Int) (w : World) (h : SlotsAt_n w g k L) (ha : chk k addr = 0) (hg : getTh L addr = none) :
    Calls Try.prog 107 #[.pointer (some ⟨g, 0, none⟩), .int .i64 addr] w fun e w' => e = .returned (.tuple #[.pointer none, .int .i64 6]) ∧ Below w.heap.size w w' := by
  have hbA := (Below.refl w.heap.size w).alloc (Nat.le_refl _) (.cells #[.int .i64 addr] 3)
  have HC := hide (check_n g k L addr _ (h.below hbA))
  have HG := hide (get_n g k L addr _ (h.below hbA))
  have HB := hide hbA
  have HX := hide hg
  clear h hbA hg
  go_enter Try.func107, Try.ntmps107
  go_wp2_with fail
  refine HC.out.mono ?_
  rintro e w0 ⟨rfl, rfl⟩
  go_wp2_with fail
  refine HG.out.mono ?_
  rintro e w1 ⟨rfl, hb1⟩
  rw [HX.out]
  have HB1 := hide (HB.out.trans (hb1.mono (by simp)))
  clear hb1
  go_wp2
  go_ret2
  exact ⟨rfl, HB1.out⟩
set_option maxHeartbeats 2000000 in
set_option maxRecDepth 100000 in
theorem del_nil_n (addr : Int) (w : World) :
    Calls Try.prog 107 #[.pointer none, .int .i64 addr] w fun e w' => e = .returned (.tuple #[.pointer none, .int .i64 1]) ∧ Below w.heap.size w w' := by
  have HB := hide ((Below.refl w.heap.size w).alloc (Nat.le_refl _) (.cells #[.int .i64 addr] 3))
  go_enter Try.func107, Try.ntmps107
  go_wp2_with fail
  refine (check_nil_n addr _).mono ?_
  rintro e w0 ⟨rfl, rfl⟩
  go_wp2
  go_ret2
  exact ⟨rfl, HB.out⟩
end Go.Proofs.Ytkknfnjojamgjaa
