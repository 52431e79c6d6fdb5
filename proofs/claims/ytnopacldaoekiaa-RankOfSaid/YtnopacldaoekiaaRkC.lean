/- rank: entries in a row. -/
import Derived.Test.YtnopacldaoekiaaRkB
set_option linter.unusedSimpArgs false
set_option linter.unusedVariables false
namespace Go.Proofs.Ytnopacldaoekiaa
open Go.RowKit
theorem cut2_at {es : List Ent} {i v : Nat} {p : List Nat} (hs : Zsorted es) (hi : es[i]? = some (p, v)) : Cut2 p es (es.take i) (es.drop i) := by
  have hl := (List.getElem?_eq_some_iff.1 hi).1
  have hg := (List.getElem?_eq_some_iff.1 hi).2
  refine ⟨(List.take_append_drop i es).symm, fun e he => ?_, fun e he => ?_⟩
  · obtain ⟨j, hj, rfl⟩ := List.mem_iff_getElem.1 he
    rw [List.length_take] at hj
    have := List.pairwise_iff_getElem.1 hs j i (by omega) hl (by omega)
    rw [hg] at this
    simpa using this
  · obtain ⟨j, hj, rfl⟩ := List.mem_iff_getElem.1 he
    rw [List.length_drop] at hj
    rw [List.getElem_drop]
    rcases Nat.eq_zero_or_pos j with h0 | h0
    · subst h0
      simp only [Nat.add_zero]
      rw [hg]
      exact zlt_irrefl _
    · have := List.pairwise_iff_getElem.1 hs i (i + j) hl (by omega) (by omega)
      rw [hg] at this
      exact fun h => zlt_asymm this h
theorem fromI_here {k : Nat} {es : List Ent} {i v : Nat} {p : List Nat} (hs : Zsorted es) (hz : ∀ e ∈ es, Zp k e.1) (hi : es[i]? = some (p, v)) : fromI es p = i := by
  have hl := (List.getElem?_eq_some_iff.1 hi).1
  have := ((cut2_at hs hi).place hz (hz _ (List.mem_of_getElem? hi))).1
  rw [this, List.length_take]
  omega
/-- A row of entries that is filled from the front. -/
def Filled (cs : Array Value) (N : Nat) (rows : List ER) : Prop := cs.size = N * 2 ∧ ∀ (i : Nat) u, (rows.flatMap entv)[i]? = some u → cs[i]? = some u
theorem Filled.start {cs : Array Value} {N : Nat} (h : cs.size = N * 2) : Filled cs N [] := ⟨h, fun i u hu => by simp at hu⟩
theorem Filled.step {cs : Array Value} {N j : Nat} {rows : List ER} (h : Filled cs N rows) (hj : rows.length = j) (hN : j < N) (r : ER) :
    Filled ((cs.setIfInBounds (j * 2) (.slice r.A r.n r.c)).setIfInBounds (j * 2 + 1) (.int .u64 (r.v : Int))) N (rows ++ [r]) := by
  obtain ⟨h1, h2⟩ := h
  have hl : (rows.flatMap entv).length = j * 2 := by rw [flat_length entv_len, hj]
  refine ⟨by simp [h1], fun i u hu => ?_⟩
  rw [List.flatMap_append, show [r].flatMap entv = entv r by simp] at hu
  rcases Nat.lt_or_ge i (j * 2) with hi | hi
  · rw [List.getElem?_append_left (by omega)] at hu
    rw [Array.getElem?_setIfInBounds_ne (by omega), Array.getElem?_setIfInBounds_ne (by omega)]
    exact h2 i u hu
  · rw [List.getElem?_append_right (by omega), hl] at hu
    rcases hd : i - j * 2 with _ | _ | d
    · rw [hd] at hu
      obtain rfl : i = j * 2 := by omega
      rw [Array.getElem?_setIfInBounds_ne (by omega), Array.getElem?_setIfInBounds_self_of_lt (by omega)]
      simpa [entv] using hu
    · rw [hd] at hu
      obtain rfl : i = j * 2 + 1 := by omega
      rw [Array.getElem?_setIfInBounds_self_of_lt (by simp; omega)]
      simpa [entv] using hu
    · rw [hd] at hu
      simp [entv] at hu
theorem Filled.own {w : World} {g base N : Nat} {cs : Array Value} {rows : List ER} (h : Filled cs N rows) (hN : rows.length = N) (hm : N ≤ maxLen) (hB : Blk w g 27 cs) (hg : base ≤ g) : w.ownsRow base 27 2 (.slice (some ⟨g, 0, none⟩) N N) N (rows.flatMap entv) := by
  have hl : (rows.flatMap entv).length = N * 2 := by rw [flat_length entv_len, hN]
  refine ⟨hl, .inr ⟨g, N, cs, rfl, hg, hB, Nat.le_refl _, hm, h.1, ?_⟩⟩
  refine List.ext_getElem? fun i => ?_
  rcases Nat.lt_or_ge i (N * 2) with hi | hi
  · rw [List.getElem?_take_of_lt (by omega), Array.getElem?_toList]
    have hx : (rows.flatMap entv)[i]? = some (rows.flatMap entv)[i] := List.getElem?_eq_getElem (by omega)
    rw [h.2 i _ hx, hx]
  · rw [List.getElem?_eq_none (by rw [List.length_take]; omega), List.getElem?_eq_none (by omega)]
theorem ent_fld0 (x0 x1 : Value) (w : World) : (Instr.field 27 (.agg #[x0, x1]) 0).run Try.prog w = .ok x0 w := by kernel_rfl
def segI (es : List Ent) (f0 t0 : Int) : List Ent := (es.take (min t0 (es.length : Int)).toNat).drop (max f0 0).toNat
/-- Entries in a row, as a slice. -/
def RangeOut (w : World) (k : Nat) (seg : List Ent) (e : Ending) (w' : World) : Prop :=
  ∃ (B : Option Addr) (d : Nat) (rows : List ER), e = .returned (.tuple #[.slice B rows.length d, .int .i64 0]) ∧ EntsAt w' B rows.length rows ∧ rows.length ≤ d ∧ d ≤ maxLen ∧ TyRow w' 27 B rows.length ∧ (∀ r ∈ rows, r.n = k ∧ ER.okT w' r) ∧ ents rows = seg ∧ Below w.heap.size w w'
set_option maxHeartbeats 8000000 in
set_option maxRecDepth 100000 in
theorem rk_range {w : World} {t k : Nat} {es : List Ent} (hT : TreeOf w k t es) (hl : es.length ≤ 60000) (f0 t0 : Int) (hwf : -9223372036854775808 ≤ f0 ∧ f0 ≤ 9223372036854775807) (hwt : -9223372036854775808 ≤ t0 ∧ t0 ≤ 9223372036854775807) :
    Calls Try.prog 38 #[.pointer (some ⟨t, 0, none⟩), .int .i64 f0, .int .i64 t0] w (RangeOut w k (segI es f0 t0)) := by
  have HTL := hide (tr_len hT (by omega))
  have HT0 := hide hT
  by_cases hlt : min t0 (es.length : Int) ≤ max f0 0
  · have e1 : decide (min t0 ((es.length : Nat) : Int) ≤ max f0 0) = true := by simpa using hlt
    have hseg : segI es f0 t0 = [] := by
      unfold segI
      rw [List.drop_eq_nil_iff, List.length_take]
      omega
    rw [hseg]
    clear hT hlt hseg
    go_enter Try.func38, Try.ntmps38
    go_wp2_with fail
    refine HTL.out.mono ?_
    rintro e w1 ⟨rfl, hb⟩
    have HB := hide hb
    clear hb
    go_wp2
    go_ret2
    exact ⟨none, 0, [], rfl, ⟨Rw.nil _ _ _, fun r hr => by simp at hr⟩, Nat.le_refl _, by simp [maxLen], fun h => absurd h (by decide), fun r hr => by simp at hr, rfl, HB.out⟩
  obtain ⟨f, hf⟩ : ∃ f : Nat, max f0 0 = (f : Int) := ⟨(max f0 0).toNat, by omega⟩
  obtain ⟨T, hTt⟩ : ∃ T : Nat, min t0 ((es.length : Nat) : Int) = (T : Int) := ⟨(min t0 (es.length : Int)).toNat, by omega⟩
  rw [hf, hTt] at hlt
  have hTl : T ≤ es.length := by omega
  have hfT : f < T := by omega
  obtain ⟨N, hN⟩ : ∃ N, T = f + N := ⟨T - f, by omega⟩
  have hseg : segI es f0 t0 = (es.drop f).take N := by
    unfold segI
    rw [hf, hTt, Int.toNat_natCast, Int.toNat_natCast, hN, List.drop_take, show f + N - f = N by omega]
  rw [hseg]
  have e1 : decide (T ≤ f) = false := by simpa using hfT
  have hNN : (T : Int) - (f : Int) = (N : Int) := by omega
  have e2 : IntKind.i64.wrap ((T : Int) - (f : Int)) = (N : Int) := by rw [hNN]; exact wrap_i64_sm (by omega) (by omega)
  obtain ⟨top, hTB, hTop, hes, hk1, hk⟩ := hT.top
  obtain ⟨x, rfl⟩ : ∃ x, top = some x := by
    cases top with
    | none =>
      rw [← hes] at hTl
      simp [esOf] at hTl
      omega
    | some x => exact ⟨x, rfl⟩
  have HNX := hide (hTop x rfl)
  have HES := hide (show x.2.es = es from hes)
  have HTB := hide hTB
  have HSO := hide hT.sorted
  have HFTN := hide (show f < T ∧ T ≤ es.length ∧ T = f + N from ⟨hfT, hTl, hN⟩)
  have HMK := hide (fun W => run_make_info (P := Try.prog) 35 27 (.agg #[.slice none 0 0, .int .u64 0]) 2 32 Try.underlying35 info_e N (by omega) (by omega) W)
  clear hT hlt hTl hfT hN hseg hTB hTop hes
  go_enter Try.func38, Try.ntmps38
  go_wp2_with fail
  refine HTL.out.mono ?_
  rintro e w1 ⟨rfl, hb⟩
  have HB1 := hide hb
  have HNEW := hide (cur_new (HT0.out.stay hb))
  clear hb HTL
  go_wp2_with fail
  refine HNEW.out.mono ?_
  rintro e w2 ⟨⟨c, rfl, hcg, hcu⟩, hb⟩
  have HCG := hide (show w.heap.size ≤ c by have := HB1.out.size; omega)
  have HCU2 := hide hcu
  have HB2 := hide (below_then HB1.out hb)
  have HRT := hide (show Calls Try.prog 31 #[.pointer (some ⟨t, 0, none⟩)] w2 fun e w' => e = .returned (.pointer (some ⟨x.1, 0, none⟩)) ∧ w2 = w' from tr_root (Blk.below HTB.out HB2.out))
  clear hcg hcu hb HNEW
  go_wp2_with fail
  refine HRT.out.mono ?_
  rintro e w3 ⟨rfl, rfl⟩
  have HNTH := hide (rk_nth (i := f) (HNX.out.stay HB2.out) hk (by rw [HES.out]; have := HFTN.out; omega) (by rw [HES.out]; omega))
  go_wp2_with fail
  refine HNTH.out.mono ?_
  rintro e w4 ⟨r, rfl, hok, hrn, hre, hb⟩
  rw [HES.out] at hre
  have HB4 := hide (below_then HB2.out hb)
  have hpt := hok.1.1
  rw [hrn] at hpt
  have hsk := cur_seek (pc := r.c) HT0.out HB4.out HCG.out (HCU2.out.below hb) hpt
  rw [fromI_here HSO.out.1 (fun e he => (HSO.out.2 e he).1) hre] at hsk
  have HSK := hide hsk
  obtain ⟨rA, rn, rc, rp, rv⟩ := r
  simp only at hrn
  subst hrn
  clear hok hre hb hpt hsk HNTH HRT HCU2
  have hfld := ent_fld0 (.slice rA rn rc) (.int .u64 (rv : Int)) w4
  go_wp2_with fail
  refine HSK.out.mono ?_
  rintro e w5 ⟨rfl, hcu5, hx5⟩
  have HCU5 := hide hcu5
  have HB5 := hide (HB4.out.trans (hx5.to_below HCG.out HB4.out.size))
  have hmk := HMK.out w5
  have hg5 := Blk.new w5 27 (madeCells #[.slice none 0 0, .int .u64 0] (N * 2))
  have HG5 := hide hg5
  have HGC := hide (show w5.heap.size ≠ c by
    obtain ⟨_, r', hB', _⟩ := hcu5
    have := hB'.lt
    omega)
  have HGS := hide (show w.heap.size ≤ w5.heap.size from HB5.out.size)
  have HAL5 := hide ((Below.refl w5.heap.size w5).alloc (Nat.le_refl _) (.cells (madeCells #[.slice none 0 0, .int .u64 0] (N * 2)) 27))
  clear hcu5 hx5 hg5 HSK
  go_wp2
  go_loopw [37] (fun x37 wr => ∃ (j : Nat) (rows : List ER) (cs : Array Value), x37 = .int .i64 (j : Int) ∧ j ≤ N ∧ rows.length = j ∧ Filled cs N rows ∧ Blk wr w5.heap.size 27 cs ∧ (∀ r ∈ rows, r.n = rn ∧ ER.okT wr r) ∧ ents rows = (es.drop f).take j ∧ CurAt wr c t rn es (f + j) ∧ Below w.heap.size w wr) (fun x _ => N - (intOf x).toNat)
  case atStart => exact ⟨0, [], _, rfl, Nat.zero_le _, rfl, Filled.start (by simp [size_madeCells]), HG5.out, fun r hr => by simp at hr, by simp [ents], HCU5.out.below HAL5.out, below_then HB5.out HAL5.out⟩
  case round =>
    obtain ⟨j, rows, cs, rfl, hj, hrl, hfi, hBg, hrk, hre, hcu, hb⟩ := hrel
    rename World => wz
    have HFI := hide hfi
    have HRK := hide hrk
    have HRE := hide hre
    have HCU := hide hcu
    have HB := hide hb
    have HBG := hide hBg
    have HRL := hide hrl
    clear HCU5 HG5 hfi hrk hre hcu hb hBg hrl
    by_cases hjn : j < N
    · have e5 : decide (j < N) = true := by simpa using hjn
      have hfj : f + j < es.length := by have := HFTN.out; omega
      have hge : es[f + j]? = some es[f + j] := List.getElem?_eq_getElem hfj
      have HGE := hide hge
      have hjN : (j : Int) < (N : Int) := by omega
      have hj6 : (j : Int) ≤ 60000 := by have := HFTN.out; omega
      have HNXT := hide (cur_next HT0.out HB.out HCG.out HCU.out)
      clear hge
      go_wp2_with fail
      refine HNXT.out.mono ?_
      rintro e w6 ⟨r6, ok6, rfl, hi6, hcu6, hx6⟩
      rw [HGE.out] at hi6
      obtain ⟨hok6, ⟨rfl, hn6, he6⟩ | ⟨_, _, he6⟩⟩ := hi6
      case inr => cases he6
      have hB6 := hx6.blk HBG.out HGC.out
      have hsz : cs.size = N * 2 := HFI.out.1
      have y0 := hB6.cell (j * 2)
      have y1 := hB6.cell (j * 2 + 1)
      rw [Array.getElem?_eq_getElem (by omega)] at y0 y1
      have z0 := hB6.frozen (j * 2)
      have z1 := hB6.frozen (j * 2 + 1)
      have e4 := hB6.set1 (i := j * 2) (.slice r6.A r6.n r6.c)
      have e3 := e4.set1 (i := j * 2 + 1) (.int .u64 (r6.v : Int))
      have HK8 : ∀ t, t ≠ 27 → Keep t w6 ((w6.setCell ⟨w5.heap.size, j * 2, none⟩ (.slice r6.A r6.n r6.c)).setCell ⟨w5.heap.size, j * 2 + 1, none⟩ (.int .u64 (r6.v : Int))) := fun t ht => (Keep.set hB6 (i := j * 2) ht _).trans (Keep.set e4 (i := j * 2 + 1) ht _)
      obtain ⟨_, rC, hBC, _⟩ := HCU.out
      have hku : Keep 25 wz w6 := hx6.keep hBC (by decide)
      have HNEW2 := hide (show Filled ((cs.setIfInBounds (j * 2) (.slice r6.A r6.n r6.c)).setIfInBounds (j * 2 + 1) (.int .u64 (r6.v : Int))) N (rows ++ [r6]) from HFI.out.step HRL.out hjn r6)
      have HBG2 := hide e3
      have HRK2 := hide (show ∀ r ∈ rows ++ [r6], r.n = rn ∧ ER.okT ((w6.setCell ⟨w5.heap.size, j * 2, none⟩ (.slice r6.A r6.n r6.c)).setCell ⟨w5.heap.size, j * 2 + 1, none⟩ (.int .u64 (r6.v : Int))) r from fun r hr => by
        rcases List.mem_append.1 hr with hr | hr
        · have := HRK.out r hr
          exact ⟨this.1, (this.2.keep hku).keep (HK8 _ (by decide))⟩
        · rw [List.mem_singleton] at hr
          subst hr
          exact ⟨hn6, hok6.keep (HK8 _ (by decide))⟩)
      have HRE2 := hide (show ents (rows ++ [r6]) = (es.drop f).take (j + 1) by
        unfold ents
        rw [List.map_append, show rows.map ER.e = (es.drop f).take j from HRE.out, List.take_add_one, List.getElem?_drop, HGE.out, he6]
        rfl)
      have HCU2 := hide (show CurAt ((w6.setCell ⟨w5.heap.size, j * 2, none⟩ (.slice r6.A r6.n r6.c)).setCell ⟨w5.heap.size, j * 2 + 1, none⟩ (.int .u64 (r6.v : Int))) c t rn es (f + (j + 1)) by
        have h := hcu6.move (HK8 _ (by decide)) (HK8 _ (by decide))
        rw [Nat.min_eq_left (by omega)] at h
        exact h)
      have HB2 := hide (show Below w.heap.size w ((w6.setCell ⟨w5.heap.size, j * 2, none⟩ (.slice r6.A r6.n r6.c)).setCell ⟨w5.heap.size, j * 2 + 1, none⟩ (.int .u64 (r6.v : Int))) from ((HB.out.trans (hx6.to_below HCG.out HB.out.size)).setCell (p := ⟨w5.heap.size, j * 2, none⟩) HGS.out _).setCell (p := ⟨w5.heap.size, j * 2 + 1, none⟩) HGS.out _)
      clear hok6 he6 hcu6 hx6 hB6 e4 e3 HK8 hBC hku HNXT hn6
      go_wp2
      go_roundw
      case rel => exact ⟨j + 1, _, _, by go_num, hjn, by rw [List.length_append, HRL.out]; rfl, HNEW2.out, HBG2.out, HRK2.out, HRE2.out, HCU2.out, HB2.out⟩
      case measure => simp [intOf]; omega
    · have e5 : decide (j < N) = false := by simpa using hjn
      obtain rfl : j = N := by omega
      have ho := HFI.out.own (base := w.heap.size) HRL.out (by have := HFTN.out; unfold maxLen; omega) HBG.out HGS.out
      have HF := hide (show RangeOut w rn ((es.drop f).take j) (.returned (.tuple #[.slice (some ⟨w5.heap.size, 0, none⟩) j j, .int .i64 0])) wz from
        ⟨some ⟨w5.heap.size, 0, none⟩, j, rows, by rw [HRL.out], by rw [HRL.out]; exact ⟨(own_rw ho).2, fun r hr => (HRK.out r hr).2.1⟩, by rw [HRL.out]; exact Nat.le_refl _, by have := HFTN.out; unfold maxLen; omega, by rw [HRL.out]; exact own_ty ho, HRK.out, HRE.out, HB.out⟩)
      clear ho hjn
      go_wp2
      go_ret2
      exact HF.out
end Go.Proofs.Ytnopacldaoekiaa
