/- pantilelaw10.RankRows: row by row, all entries: the walk. -/
import Derived.Test.YtnopacldaoekiaaRkC
import Derived.Test.YtnopacldaoekiaaLwR
import Derived.Test.YtnopacldaoekiaaRkA
set_option linter.unusedSimpArgs false
set_option linter.unusedVariables false
namespace Go.Proofs.Ytnopacldaoekiaa
open Go.RowKit
theorem seg_len {es : List Ent} {F n : Nat} (hF : F < es.length) (hn : 1 ≤ n) : (segI es (F : Int) ((F : Int) + (n : Int))).length = min n (es.length - F) ∧ (segI es (F : Int) ((F : Int) + (n : Int)))[0]? = es[F]? ∧ es.take F ++ segI es (F : Int) ((F : Int) + (n : Int)) = es.take (F + n) := by
  have h1 : (max (F : Int) 0).toNat = F := by omega
  have h2 : (min ((F : Int) + (n : Int)) (es.length : Int)).toNat = min (F + n) es.length := by omega
  unfold segI
  rw [h1, h2]
  refine ⟨by rw [List.length_drop, List.length_take]; omega, ?_, ?_⟩
  · rw [List.getElem?_drop, Nat.add_zero, List.getElem?_take_of_lt (by omega)]
  · rcases Nat.le_total (F + n) es.length with h | h
    · rw [Nat.min_eq_left h]
      conv => rhs; rw [← List.take_append_drop F (es.take (F + n))]
      rw [List.take_take, Nat.min_eq_left (by omega)]
    · rw [Nat.min_eq_right h, List.take_of_length_le (Nat.le_refl _), List.take_append_drop, List.take_of_length_le h]
theorem entv_one (rows : List ER) : ∀ u ∈ rows.flatMap entv, u.oneCell' = true := by
  intro u hu
  obtain ⟨r, _, hu⟩ := List.mem_flatMap.1 hu
  simp [entv] at hu
  rcases hu with rfl | rfl <;> rfl
set_option maxHeartbeats 16000000 in
set_option maxRecDepth 100000 in
theorem rank_rows (w : World) (k0 : Int) (_ : (Lit.int .i64 k0).wf = true) (AL : Option Addr) (nl cl : Nat) (al : List TA) (hl : ActsAt w AL nl al ∧ nl ≤ cl ∧ cl ≤ maxLen) (n0 : Int) (_ : (Lit.int .i64 n0).wf = true) :
    Calls Try.prog 8 #[.int .i64 k0, .slice AL nl cl, .int .i64 n0] w fun e w' => e = .returned (.bool true) ∧ Below w.heap.size w w' := by
  have HEL := hide hl.1
  clear hl
  go_enter Try.func8, Try.ntmps8
  go_wp2_with fail
  refine (awake10 w).mono ?_
  rintro e w1 ⟨rfl, hb1⟩
  have HB1 := hide hb1
  have HH := hide (heavy7 AL nl cl 50 al w1 (HEL.out.below hb1) (by omega))
  simp only [Int.cast_ofNat_Int] at HH
  clear hb1
  go_wp2_with fail
  refine HH.out.mono ?_
  rintro e w3 ⟨rfl | ⟨rfl, hnl⟩, hb3⟩
  · have HB3 := hide (below_then HB1.out hb3)
    clear hb3 HH
    go_wp2
    go_ret
    exact ⟨rfl, HB3.out⟩
  have HB3 := hide (below_then HB1.out hb3)
  clear hb3 HH
  by_cases h1 : k0 < 1
  · have e1 : decide (k0 < 1) = true := by simpa using h1
    go_wp2
    go_ret
    exact ⟨rfl, HB3.out⟩
  have e1 : decide (k0 < 1) = false := by simpa using h1
  by_cases h2 : (16 : Int) < k0
  · have e2 : decide ((16 : Int) < k0) = true := by simpa using h2
    go_wp2
    go_ret
    exact ⟨rfl, HB3.out⟩
  have e2 : decide ((16 : Int) < k0) = false := by simpa using h2
  by_cases h3 : n0 < 1
  · have e3 : decide (n0 < 1) = true := by simpa using h3
    go_wp2
    go_ret
    exact ⟨rfl, HB3.out⟩
  have e3 : decide (n0 < 1) = false := by simpa using h3
  by_cases h4 : (100 : Int) < n0
  · have e4 : decide ((100 : Int) < n0) = true := by simpa using h4
    go_wp2
    go_ret
    exact ⟨rfl, HB3.out⟩
  have e4 : decide ((100 : Int) < n0) = false := by simpa using h4
  obtain ⟨k, rfl⟩ : ∃ k : Nat, k0 = (k : Int) := ⟨k0.toNat, by omega⟩
  obtain ⟨n, rfl⟩ : ∃ n : Nat, n0 = (n : Int) := ⟨n0.toNat, by omega⟩
  have hk1 : 1 ≤ k := by omega
  have hk16 : k ≤ 16 := by omega
  have hn1 : 1 ≤ n := by omega
  have hn100 : n ≤ 100 := by omega
  have HG := hide (grown7 (c := cl) hk1 hk16 (HEL.out.below HB3.out) (by omega))
  clear h1 h2 h3 h4
  go_wp2_with fail
  refine HG.out.mono ?_
  rintro e w4 ⟨t, A4, n4, c4, rfl, ⟨rows, es, hT4, hE4, hnc4, hS4, hkk4, hes4⟩, hn4, hb4⟩
  have hlen : es.length = n4 := by rw [← hes4]; unfold ents; rw [List.length_map]; exact hE4.len
  have HT4 := hide hT4
  have HSO := hide hT4.sorted.1
  have HB4 := hide (below_then HB3.out hb4)
  have HE4 := hide hE4
  have HKK := hide hkk4
  have HEN := hide hes4
  have HLEN := hide hlen
  have hn4b : n4 ≤ 50 := by omega
  have HAL := hide ((Below.refl w4.heap.size w4).alloc (Nat.le_refl _) (.cells #[] 27))
  have HO := hide (own_empty w4 27 2)
  clear hT4 hE4 hnc4 hS4 hkk4 hes4 hb4 hlen HG
  go_wp2
  go_loopw [10, 11] (fun x10 x11 wr => ∃ (A : Option Addr) (m c F : Nat) (ra : List ER), x10 = .slice A m c ∧ x11 = .int .i64 (F : Int) ∧ F ≤ 200 ∧ m = ra.length ∧ m ≤ 60 ∧ wr.ownsRow w4.heap.size 27 2 (.slice A m c) m (ra.flatMap entv) ∧ (∀ r ∈ ra, r.n = k ∧ ER.okT wr r) ∧ ents ra = es.take F ∧ Below w4.heap.size w4 wr) (fun _ x _ => 200 - (intOf x).toNat)
  case atStart => exact ⟨_, 0, 0, 0, [], rfl, rfl, by omega, rfl, by omega, HO.out, fun r hr => by simp at hr, by simp [ents], HAL.out⟩
  case round =>
    obtain ⟨A, m, c, F, ra, rfl, rfl, hF, hm, hm60, hO, hra, hre, hb⟩ := hrel
    rename World => wz
    have HOZ := hide hO
    have HRA := hide hra
    have HRE := hide hre
    have HB := hide hb
    have HM := hide hm
    clear HO HAL hO hra hre hb hm
    have hF200 : (F : Int) ≤ 200 := by omega
    have hn200 : (n : Int) ≤ 100 := by omega
    by_cases hFn : F < n4
    case neg =>
      have e9 : decide (F < n4) = false := by simpa using hFn
      have hrw := own_rw HOZ.out
      have hents : EntsAt wz A m ra := ⟨hrw.2, fun r hr => (HRA.out r hr).2.1⟩
      have hse := same_entries (c := c) (d := c4) hents (HE4.out.below HB.out) (fun r hr => by rw [(HRA.out r hr).1]; omega) (fun r hr => by rw [HKK.out r hr]; omega) (by omega) (by omega)
      rw [decide_eq_true (by rw [HRE.out, HEN.out, List.take_of_length_le (by have := HLEN.out; omega)])] at hse
      have HSE := hide hse
      clear hrw hents hse hFn
      go_wp2_with fail
      refine HSE.out.mono ?_
      rintro e w9 ⟨rfl, hb9⟩
      have HB9 := hide (below_then HB4.out (below_then HB.out hb9))
      clear hb9 HSE
      go_wp2
      go_ret
      exact ⟨rfl, HB9.out⟩
    have e9 : decide (F < n4) = true := by simpa using hFn
    have hFl : F < es.length := by have := HLEN.out; omega
    obtain ⟨hs1, hs2, hs3⟩ := seg_len (n := n) hFl hn1
    have HS1 := hide hs1
    have HS2 := hide hs2
    have HS3 := hide hs3
    have HFL := hide hFl
    have HRG := hide (rk_range (HT4.out.stay HB.out) (by have := HLEN.out; omega) (F : Int) ((F : Int) + (n : Int)) (by omega) (by omega))
    clear hFl hs1 hs2 hs3
    go_wp2_with fail
    refine HRG.out.mono ?_
    rintro e w5 ⟨B, d, rows5, rfl, hE5, hd5, hdm5, hty5, hok5, hse5, hb5⟩
    have hl5 : rows5.length = min n (es.length - F) := by
      rw [← HS1.out, ← hse5]
      unfold ents
      rw [List.length_map]
    have hpos : 0 < rows5.length := by have := HFL.out; omega
    obtain ⟨b, o, r, rfl, hbl, hr, hrok, x0, x1⟩ := hE5.at_ hpos
    simp only [Nat.zero_mul, Nat.add_zero] at x0 x1
    have hrm := List.mem_of_getElem? hr
    have hrn := (hok5 r hrm).1
    have hre5 : es[F]? = some r.e := by
      rw [← HS2.out, ← hse5]
      unfold ents
      rw [List.getElem?_map, hr]
      rfl
    have hp5 := hrok.1
    rw [hrn] at hp5 x0
    obtain ⟨top, hTB, hTop, hest, -, -⟩ := (HT4.out.stay (below_then HB.out hb5)).top
    have hof := rk_of (pc := r.c) hTB hTop hk1 hk16 (by rw [hest]; have := HLEN.out; omega) hp5
    have HOF := hide hof
    have HEST := hide hest
    have HR5 := hide hre5
    have HE5 := hide hE5
    have HTY5 := hide hty5
    have HOK5 := hide hok5
    have HSE5 := hide hse5
    have HL5 := hide hl5
    have HB5 := hide (below_then HB.out hb5)
    have HO5 := hide (own_below HOZ.out hb5)
    have HRA5 := hide (fun q (hq : q ∈ ra) => And.intro (HRA.out q hq).1 ((HRA.out q hq).2.below hb5))
    have hl5i : ((rows5.length : Nat) : Int) ≤ (n : Int) := by omega
    have e10 : decide (((rows5.length : Nat) : Int) < 1) = false := by simp; omega
    have e11 : decide (n < rows5.length) = false := by simp; omega
    have e12 : (0 : Int) < ((rows5.length : Nat) : Int) := by omega
    clear hE5 hty5 hok5 hse5 hl5 hr hrok hrm hrn hre5 hp5 hTB hTop hest hof hb5 HRG
    go_wp2_with fail
    refine HOF.out.mono ?_
    rintro e w6 ⟨AA, BB, hcut, rfl, hb6⟩
    rw [HEST.out] at hcut
    have hAl := (cut2_idx HSO.out (show es[F]? = some (r.p, r.v) from HR5.out) hcut).1
    rw [hAl]
    have e13 : ((F : Int) != (F : Int)) = false := by simp
    have HB6 := hide (below_then HB5.out hb6)
    have HO6 := hide (own_below HO5.out hb6)
    have HE6 := hide (HE5.out.below hb6)
    have HRA6 := hide (fun q (hq : q ∈ ra) => And.intro (HRA5.out q hq).1 ((HRA5.out q hq).2.below hb6))
    have HOK6 := hide (fun q (hq : q ∈ rows5) => And.intro (HOK5.out q hq).1 ((HOK5.out q hq).2.below hb6))
    clear hcut hAl hb6 HOF
    go_wp2_with (first
      | (at_builtin
         refine app_b _ rfl (.tmp 91) (.tmp 92) _ rfl w4.heap.size 27 _ 2 32 Try.underlying35 info_e rfl (by omega) _ m _ rfl HO6.out (some ⟨b, o, none⟩) rows5.length d (rows5.flatMap entv) rfl w4 HB6.out (Nat.le_refl _) HE6.out.1 ?h2 (by unfold maxLen; omega) (by omega) ?_
         case h2 => exact entv_one rows5
         intro v7 w7 ho7 hb7 hg7
         have HO7 := hide ho7
         have HB7 := hide hb7
         have HKU := hide (Keep.grown (t := 25) HO6.out (by decide) hg7)
         clear ho7 hb7 hg7)
      | fail)
    go_roundw
    case rel =>
      obtain ⟨A7, c7, rfl, -, -⟩ := Rw.of_own HO7.out
      refine ⟨A7, m + rows5.length, c7, F + n, ra ++ rows5, rfl, by go_num, by omega, by rw [List.length_append, HM.out], ?_, ?_, ?_, ?_, HB7.out⟩
      · have h1 := congrArg List.length HRE.out
        unfold ents at h1
        rw [List.length_map, List.length_take] at h1
        have := HM.out
        have := HL5.out
        have := HLEN.out
        omega
      · rw [List.flatMap_append]
        exact HO7.out
      · intro q hq
        rcases List.mem_append.1 hq with hq | hq
        · exact ⟨(HRA6.out q hq).1, (HRA6.out q hq).2.keep HKU.out⟩
        · exact ⟨(HOK6.out q hq).1, (HOK6.out q hq).2.keep HKU.out⟩
      · have h1 := HRE.out
        have h2 := HSE5.out
        unfold ents at h1 h2 ⊢
        rw [List.map_append, h1, h2]
        exact HS3.out
    case measure => simp [intOf]; omega
end Go.Proofs.Ytnopacldaoekiaa
