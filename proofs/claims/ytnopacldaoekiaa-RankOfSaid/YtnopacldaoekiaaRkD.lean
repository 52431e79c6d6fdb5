/- rank: the entry of a number, of a tree; the document's row. -/
import Derived.Test.YtnopacldaoekiaaRkC
set_option linter.unusedSimpArgs false
set_option linter.unusedVariables false
namespace Go.Proofs.Ytnopacldaoekiaa
open Go.RowKit
set_option maxHeartbeats 2000000 in
set_option maxRecDepth 100000 in
theorem rk_Nth_out {w : World} {t k : Nat} {es : List Ent} (hT : TreeOf w k t es) (hl : es.length ≤ 60000) (n : Int) (hn : n < 0 ∨ (es.length : Int) ≤ n) : Calls Try.prog 37 #[.pointer (some ⟨t, 0, none⟩), .int .i64 n] w fun e w' => e = .returned (.tuple #[.agg #[.slice none 0 0, .int .u64 0], .bool false, .int .i64 0]) ∧ Below w.heap.size w w' := by
  have b1 := (Below.refl w.heap.size w).alloc (Nat.le_refl _) (.cells #[.slice none 0 0, .int .u64 0] 27)
  have hN := Blk.new w 27 #[.slice none 0 0, .int .u64 0]
  have HTL := hide (tr_len (hT.stay b1) (by omega))
  have HB := hide b1
  have HN := hide hN
  clear b1 hN hT
  by_cases h0 : n < 0
  · have e1 : decide (n < 0) = true := by simpa using h0
    have y0 := HN.out.cell 0
    have y1 := HN.out.cell 1
    have z0 := HN.out.frozen 0
    have z1 := HN.out.frozen 1
    simp at y0 y1
    have e3 := ((HN.out.set1 (i := 0) (.slice none 0 0)).set1 (i := 1) (.int .u64 0))
    have b3 := ((HB.out.setCell (p := ⟨w.heap.size, 0, none⟩) (Nat.le_refl _) (.slice none 0 0)).setCell (p := ⟨w.heap.size, 1, none⟩) (Nat.le_refl _) (.int .u64 0))
    have g0 := e3.cell 0
    have g1 := e3.cell 1
    simp at g0 g1
    have HB3 := hide b3
    clear hn h0 e3 b3
    go_enter Try.func37, Try.ntmps37
    go_wp2
    refine bodyPost_ret (v := .tuple #[.agg #[.slice none 0 0, .int .u64 0], .bool false, .int .i64 0]) (by simp [results, Try.results37, go_sem, y0, y1, g0, g1]) rfl ⟨rfl, by first | exact HB.out | exact HB3.out⟩
  · have e1 : decide (n < 0) = false := by simpa using h0
    have e2 : decide (((es.length : Nat) : Int) ≤ n) = true := by simp; omega
    clear hn h0
    go_enter Try.func37, Try.ntmps37
    go_wp2_with fail
    refine HTL.out.mono ?_
    rintro e w2 ⟨rfl, hb2⟩
    have hN2 := HN.out.below hb2
    have y0 := hN2.cell 0
    have y1 := hN2.cell 1
    have z0 := hN2.frozen 0
    have z1 := hN2.frozen 1
    simp at y0 y1
    have e3 := ((hN2.set1 (i := 0) (.slice none 0 0)).set1 (i := 1) (.int .u64 0))
    have b3 := (((below_then HB.out hb2).setCell (p := ⟨w.heap.size, 0, none⟩) (Nat.le_refl _) (.slice none 0 0)).setCell (p := ⟨w.heap.size, 1, none⟩) (Nat.le_refl _) (.int .u64 0))
    have g0 := e3.cell 0
    have g1 := e3.cell 1
    simp at g0 g1
    have HB3 := hide b3
    clear hN2 e3 b3 hb2
    go_wp2
    refine bodyPost_ret (v := .tuple #[.agg #[.slice none 0 0, .int .u64 0], .bool false, .int .i64 0]) (by simp [results, Try.results37, go_sem, g0, g1]) rfl ⟨rfl, HB3.out⟩
set_option maxHeartbeats 2000000 in
set_option maxRecDepth 100000 in
theorem rk_Nth_in {w : World} {t k i : Nat} {es : List Ent} (hT : TreeOf w k t es) (hl : es.length ≤ 60000) (hi : i < es.length) : Calls Try.prog 37 #[.pointer (some ⟨t, 0, none⟩), .int .i64 (i : Int)] w fun e w' => ∃ r : ER, e = .returned (.tuple #[.agg #[.slice r.A r.n r.c, .int .u64 (r.v : Int)], .bool true, .int .i64 0]) ∧ r.okT w' ∧ r.n = k ∧ es[i]? = some (r.p, r.v) ∧ Below w.heap.size w w' := by
  have b1 := (Below.refl w.heap.size w).alloc (Nat.le_refl _) (.cells #[.slice none 0 0, .int .u64 0] 27)
  have hN := Blk.new w 27 #[.slice none 0 0, .int .u64 0]
  have hT1 := hT.stay b1
  obtain ⟨top, hTB, hTop, hes, hk1, hk⟩ := hT1.top
  obtain ⟨x, rfl⟩ : ∃ x, top = some x := by
    cases top with
    | none =>
      rw [← hes] at hi
      simp [esOf] at hi
    | some x => exact ⟨x, rfl⟩
  have HTL := hide (tr_len hT1 (by omega))
  have HTB := hide hTB
  have HNX := hide (hTop x rfl)
  have HES := hide (show x.2.es = es from hes)
  have HB := hide b1
  have HN := hide hN
  have e1 : decide ((i : Int) < 0) = false := by simp
  have e2 : decide (es.length ≤ i) = false := by simpa using hi
  clear b1 hN hT hT1 hTB hTop hes
  go_enter Try.func37, Try.ntmps37
  go_wp2_with fail
  refine HTL.out.mono ?_
  rintro e w2 ⟨rfl, hb2⟩
  have HB2 := hide hb2
  clear hb2
  go_wp2_with fail
  refine (show Calls Try.prog 31 #[.pointer (some ⟨t, 0, none⟩)] w2 fun e w' => e = .returned (.pointer (some ⟨x.1, 0, none⟩)) ∧ w2 = w' from tr_root (Blk.below HTB.out HB2.out)).mono ?_
  rintro e w3 ⟨rfl, rfl⟩
  have HNTH := hide (rk_nth (i := i) (HNX.out.stay HB2.out) hk (by rw [HES.out]; exact hi) (by rw [HES.out]; omega))
  go_wp2_with fail
  refine HNTH.out.mono ?_
  rintro e w4 ⟨r, rfl, hok, hrn, hre, hb⟩
  rw [HES.out] at hre
  have hN2 := HN.out.below (below_then HB2.out hb)
  have y0 := hN2.cell 0
  have y1 := hN2.cell 1
  have z0 := hN2.frozen 0
  have z1 := hN2.frozen 1
  simp at y0 y1
  have e4 := hN2.set1 (i := 0) (.slice r.A r.n r.c)
  have e3 := e4.set1 (i := 1) (.int .u64 (r.v : Int))
  have hok3 := (hok.keep (Keep.set hN2 (i := 0) (by decide) (.slice r.A r.n r.c))).keep (Keep.set e4 (i := 1) (by decide) (.int .u64 (r.v : Int)))
  have b3 := (((below_then HB.out (below_then HB2.out hb)).setCell (p := ⟨w.heap.size, 0, none⟩) (Nat.le_refl _) (.slice r.A r.n r.c)).setCell (p := ⟨w.heap.size, 1, none⟩) (Nat.le_refl _) (.int .u64 (r.v : Int)))
  have g0 := e3.cell 0
  have g1 := e3.cell 1
  simp at g0 g1
  have HF := hide (And.intro hok3 (And.intro hrn (And.intro hre b3)))
  clear hok hrn hre hb hN2 e4 e3 hok3 b3 HNTH
  go_wp2
  refine bodyPost_ret (v := .tuple #[.agg #[.slice r.A r.n r.c, .int .u64 (r.v : Int)], .bool true, .int .i64 0]) (by simp [results, Try.results37, go_sem, g0, g1]) rfl ⟨r, rfl, HF.out.1, HF.out.2.1, HF.out.2.2.1, HF.out.2.2.2⟩
def segN (es : List Ent) (f0 t0 : Int) (i : Nat) : List Ent := (es.take (min t0 (i : Int)).toNat).drop (max f0 0).toNat
theorem segN_in {es : List Ent} {f0 t0 : Int} {i : Nat} {e : Ent} (he : es[i]? = some e) (h1 : f0 ≤ i) (h2 : (i : Int) < t0) : segN es f0 t0 (i + 1) = segN es f0 t0 i ++ [e] := by
  have hl := (List.getElem?_eq_some_iff.1 he).1
  unfold segN
  rw [show (min t0 ((i + 1 : Nat) : Int)).toNat = i + 1 by omega, show (min t0 (i : Int)).toNat = i by omega, List.take_add_one, he, List.drop_append_of_le_length (by rw [List.length_take]; omega)]
  rfl
theorem segN_out {es : List Ent} {f0 t0 : Int} {i : Nat} (hl : i < es.length) (h : ¬ (f0 ≤ i ∧ (i : Int) < t0)) : segN es f0 t0 (i + 1) = segN es f0 t0 i := by
  unfold segN
  rcases Int.lt_or_le (i : Int) t0 with h1 | h1
  · have h2 : (i : Int) < f0 := by omega
    rw [List.drop_eq_nil_iff.2 (by rw [List.length_take]; omega), List.drop_eq_nil_iff.2 (by rw [List.length_take]; omega)]
  · rw [show (min t0 ((i + 1 : Nat) : Int)).toNat = (min t0 (i : Int)).toNat by omega]
set_option maxHeartbeats 4000000 in
set_option maxRecDepth 100000 in
theorem ref_range10 {w : World} {A : Option Addr} {n c : Nat} {rows : List ER} (hE : EntsAt w A n rows) (hn : n ≤ 1000) (f0 t0 : Int) : Calls Try.prog 40 #[.slice A n c, .int .i64 f0, .int .i64 t0] w fun e w' => (∃ B m d rs, e = .returned (.slice B m d) ∧ EntsAt w' B m rs ∧ m ≤ n ∧ (∀ r ∈ rs, r ∈ rows) ∧ ents rs = segI (ents rows) f0 t0) ∧ Below w.heap.size w w' := by
  have HE := hide hE
  have hlen : (ents rows).length = n := by unfold ents; rw [List.length_map]; exact hE.len
  have HLEN := hide hlen
  have HAL := hide ((Below.refl w.heap.size w).alloc (Nat.le_refl _) (.cells #[] 27))
  have HO := hide (own_empty w 27 2)
  clear hE hlen
  go_enter Try.func40, Try.ntmps40
  go_wp2
  go_loopw [7, 8] (fun x7 x8 wr => ∃ (B : Option Addr) (m d i : Nat) (rs : List ER), x7 = .slice B m d ∧ x8 = .int .i64 (i : Int) ∧ i ≤ n ∧ m = rs.length ∧ m ≤ i ∧ wr.ownsRow w.heap.size 27 2 (.slice B m d) m (rs.flatMap entv) ∧ (∀ r ∈ rs, r ∈ rows) ∧ ents rs = segN (ents rows) f0 t0 i ∧ Below w.heap.size w wr) (fun _ x _ => n - (intOf x).toNat)
  case atStart => exact ⟨_, 0, 0, 0, [], rfl, rfl, Nat.zero_le _, rfl, Nat.zero_le _, HO.out, fun r hr => by simp at hr, by simp [ents, segN]; omega, HAL.out⟩
  case round =>
    obtain ⟨B, m, d, i, rs, rfl, rfl, hi, hm, hmi, hO, hrs, hre, hb⟩ := hrel
    rename World => wz
    have HOZ := hide hO
    have HRS := hide hrs
    have HRE := hide hre
    have HB := hide hb
    have HM := hide hm
    clear HO HAL hO hrs hre hb hm
    by_cases hin : i < n
    case neg =>
      have e9 : decide (i < n) = false := by simpa using hin
      obtain rfl : i = n := by omega
      have hrw := own_rw HOZ.out
      have HF := hide (show (∃ B' m' d' rs', Ending.returned (.slice B m d) = .returned (.slice B' m' d') ∧ EntsAt wz B' m' rs' ∧ m' ≤ i ∧ (∀ r ∈ rs', r ∈ rows) ∧ ents rs' = segI (ents rows) f0 t0) ∧ Below w.heap.size w wz from
        ⟨⟨B, m, d, rs, rfl, ⟨hrw.2, fun r hr => (HE.out.2 r (HRS.out r hr)).below HB.out⟩, hmi, HRS.out, by rw [HRE.out]; unfold segN segI; rw [HLEN.out]⟩, HB.out⟩)
      clear hrw hin
      go_wp2
      go_ret
      exact HF.out
    have e9 : decide (i < n) = true := by simpa using hin
    have hin' : (i : Int) < (n : Int) := by omega
    obtain ⟨b, o, r, rfl, hbl, hr, hrok, x0, x1⟩ := (HE.out.below HB.out).at_ hin
    have hre : (ents rows)[i]? = some r.e := by
      unfold ents
      rw [List.getElem?_map, hr]
      rfl
    have HR := hide hr
    have HRR := hide hre
    have hi1000 : (i : Int) ≤ 1000 := by omega
    clear hr hrok hre
    by_cases hc1 : f0 ≤ (i : Int)
    · have e10 : decide (f0 ≤ (i : Int)) = true := by simpa using hc1
      by_cases hc2 : (i : Int) < t0
      · have e11 : decide ((i : Int) < t0) = true := by simpa using hc2
        have HSEG := hide (segN_in HRR.out hc1 hc2)
        have hb4 := below_alloc HB.out (Nat.le_refl _) (.cells #[.slice r.A r.n r.c, .int .u64 (r.v : Int)] 27)
        go_wp2_with (first
          | (at_builtin
             refine app_b _ rfl (.tmp 24) (.tmp 29) _ rfl w.heap.size 27 _ 2 32 Try.underlying35 info_e rfl (by omega) _ m _ rfl (HOZ.out.alloc _) (some ⟨wz.heap.size, 0, none⟩) 1 1 (entv r) rfl w hb4 (Nat.le_refl _) (Rw.new1 wz 27 #[.slice r.A r.n r.c, .int .u64 (r.v : Int)] rfl) ?h2 (by unfold maxLen; omega) (by omega) ?_
             case h2 =>
               intro u hu
               simp [entv] at hu
               rcases hu with rfl | rfl <;> rfl
             intro v7 w7 ho7 hb7 hg7
             have HO7 := hide ho7
             have HB7 := hide hb7
             clear ho7 hb7 hg7)
          | fail)
        go_roundw
        case rel =>
          obtain ⟨A7, c7, rfl, -, -⟩ := Rw.of_own HO7.out
          refine ⟨A7, m + 1, c7, i + 1, rs ++ [r], rfl, by go_num, hin, by rw [List.length_append, HM.out]; rfl, by omega, ?_, ?_, ?_, HB7.out⟩
          · rw [List.flatMap_append]
            simpa using HO7.out
          · intro q hq
            rcases List.mem_append.1 hq with hq | hq
            · exact HRS.out q hq
            · rw [List.mem_singleton] at hq
              subst hq
              exact List.mem_of_getElem? HR.out
          · rw [HSEG.out, ← HRE.out]
            unfold ents
            rw [List.map_append]
            rfl
        case measure => simp [intOf]; omega
      · have e11 : decide ((i : Int) < t0) = false := by simpa using hc2
        have HSEG := hide (segN_out (by have := HLEN.out; omega) (fun h => hc2 h.2) : segN (ents rows) f0 t0 (i + 1) = segN (ents rows) f0 t0 i)
        go_wp2
        go_roundw
        case rel => exact ⟨B, m, d, i + 1, rs, rfl, by go_num, hin, HM.out, by omega, HOZ.out, HRS.out, by rw [HSEG.out]; exact HRE.out, HB.out⟩
        case measure => simp [intOf]; omega
    · have e10 : decide (f0 ≤ (i : Int)) = false := by simpa using hc1
      have HSEG := hide (segN_out (by have := HLEN.out; omega) (fun h => hc1 h.1) : segN (ents rows) f0 t0 (i + 1) = segN (ents rows) f0 t0 i)
      go_wp2
      go_roundw
      case rel => exact ⟨B, m, d, i + 1, rs, rfl, by go_num, hin, HM.out, by omega, HOZ.out, HRS.out, by rw [HSEG.out]; exact HRE.out, HB.out⟩
      case measure => simp [intOf]; omega
end Go.Proofs.Ytnopacldaoekiaa
