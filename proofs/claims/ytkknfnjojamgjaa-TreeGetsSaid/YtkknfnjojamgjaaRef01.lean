/- pantileref01: Bit, Addr, Part, Cmp, Power, Alike. -/
import Derived.Test.YtkknfnjojamgjaaNdB
set_option linter.unusedSimpArgs false
set_option linter.unusedVariables false
namespace Go.Proofs.Ytkknfnjojamgjaa
open Go.RowKit
theorem wrap64_of {n : Int} (h : -9223372036854775808 ≤ n ∧ n ≤ 9223372036854775807) : wrap64 n = n := by unfold wrap64; omega
set_option maxHeartbeats 1000000 in
set_option maxRecDepth 100000 in
theorem ref_bit (z at_ : Nat) (w : World) (hz : z < 2 ^ 64) (ha : at_ < 64) :
    Calls Try.prog 102 #[.int .u64 (z : Int), .int .i64 (at_ : Int)] w fun e w' => e = .returned (.int .i64 (bit z at_ : Nat)) ∧ w = w' := by
  go_enter Try.func102, Try.ntmps102
  go_wp2
  go_ret
  refine ⟨retI ?_, rfl⟩
  have e1 : ((z : Int) / 2 ^ at_) = ((z / 2 ^ at_ : Nat) : Int) := by simp
  have hb := bit_lt z at_
  have e2 : ((z / 2 ^ at_ : Nat) : Int).tmod 2 = (bit z at_ : Nat) := by
    rw [Int.tmod_eq_emod_of_nonneg (Int.natCast_nonneg _)]; unfold bit; omega
  rw [e1, e2, wrap64_of (by omega)]
set_option maxHeartbeats 1000000 in
set_option maxRecDepth 100000 in
theorem ref_addr (A : Option Addr) (n c at_ : Nat) (p : List Nat) (w : World) (hp : Pt w A n p) (hn : n ≤ 40) (ha : at_ < 64) :
    Calls Try.prog 45 #[.slice A n c, .int .i64 (at_ : Int)] w fun e w' => e = .returned (.int .i64 (addrOf p at_ : Nat)) ∧ w = w' := by
  have HP := hide hp
  have hlt : ∀ j, addrOf (p.take j) at_ < 2 ^ 40 := fun j => by
    have h1 := addrOf_lt (p.take j) at_
    refine Nat.lt_of_lt_of_le h1 (pow_len_le ?_)
    have := hp.1
    simp; omega
  have HLT := hide hlt
  clear hp hlt
  go_enter Try.func45, Try.ntmps45
  go_wp2
  go_loop [5, 6] (fun x5 x6 => ∃ (j : Nat), x6 = .int .i64 j ∧ j ≤ n ∧ x5 = .int .i64 (addrOf (p.take j) at_ : Nat)) (fun _ x => n - (intOf x).toNat)
  case atStart => exact ⟨0, rfl, Nat.zero_le _, rfl⟩
  case round =>
    obtain ⟨j, rfl, hj, rfl⟩ := hrel
    by_cases hjn : j < n
    · obtain ⟨b, o, z, rfl, hbl, hz, hzl, k0⟩ := HP.out.at_ hjn
      have hb := HLT.out j
      have hbit := bit_lt z at_
      have hst : addrOf (p.take (j + 1)) at_ = 2 * addrOf (p.take j) at_ + bit z at_ := by
        have hl := (List.getElem?_eq_some_iff.1 hz).1
        rw [addrOf_take p at_ j hl, (List.getElem?_eq_some_iff.1 hz).2]
      have HST := hide hst
      have hz' := hide hz
      clear hz hst
      go_wp2_with fail
      refine (ref_bit z at_ _ hzl ha).mono ?_
      rintro e w1 ⟨rfl, rfl⟩
      generalize addrOf (p.take j) at_ = a at *
      generalize bit z at_ = bt at *
      go_wp2
      go_round
      case rel => exact ⟨j + 1, by go_num, by omega, by rw [HST.out]; go_num⟩
      case measure => simp [intOf]; omega
    · obtain rfl : j = n := by omega
      have hl := HP.out.1
      have hpe : p.take j = p := List.take_of_length_le (by omega)
      rw [hpe]
      clear hl hpe
      go_wp2
      go_ret
      exact ⟨rfl, rfl⟩
set_option maxHeartbeats 1000000 in
set_option maxRecDepth 100000 in
theorem ref_part (A B : Option Addr) (k c d : Nat) (p q : List Nat) (w : World) (hp : Pt w A k p) (hq : Pt w B k q) (hk : k ≤ 40) :
    Calls Try.prog 53 #[.slice A k c, .slice B k d] w fun e w' => e = .returned (.int .i64 (part p q)) ∧ w = w' := by
  have HP := hide hp
  have HQ := hide hq
  clear hp hq
  go_enter Try.func53, Try.ntmps53
  go_wp2
  go_loop [5] (fun x => ∃ (j : Nat), x = .int .i64 ((j : Int) - 1) ∧ j ≤ 64 ∧ (∀ b, j ≤ b → b < 64 → addrOf p b = addrOf q b)) (fun x => (intOf x + 1).toNat)
  case atStart => exact ⟨64, by go_num, Nat.le_refl _, fun b h1 h2 => by omega⟩
  case round =>
    obtain ⟨j, rfl, hj, he⟩ := hrel
    have HE := hide he
    clear he
    rcases Nat.eq_zero_or_pos j with rfl | hj0
    · have hpt : part p q = -1 := by
        obtain ⟨g1, g2, g3, g4⟩ := part_spec p q (by rw [HP.out.1, HQ.out.1]) HP.out.2.2 HQ.out.2.2
        rcases Int.lt_or_le (part p q) 0 with h | h
        · omega
        · exact absurd (HE.out (part p q).toNat (by omega) (by omega)) (g4 h)
      have HPT := hide hpt
      clear hpt
      go_wp2
      go_ret
      rw [HPT.out]
      exact ⟨rfl, rfl⟩
    · obtain ⟨i, rfl⟩ : ∃ i, j = i + 1 := ⟨j - 1, by omega⟩
      have e0 : ((i + 1 : Nat) : Int) - 1 = (i : Int) := by omega
      rw [e0]
      have HA := hide (ref_addr A k c i p w HP.out hk (by omega))
      have HB := hide (ref_addr B k d i q w HQ.out hk (by omega))
      clear e0
      by_cases he : addrOf p i = addrOf q i
      · have HEI := hide he
        clear he
        rw [HEI.out] at HA
        go_wp2_with fail
        refine HA.out.mono ?_
        rintro e w1 ⟨rfl, rfl⟩
        go_wp2_with fail
        refine HB.out.mono ?_
        rintro e w1 ⟨rfl, rfl⟩
        go_wp2
        go_round
        case rel =>
          refine ⟨i, by go_num, by omega, fun b h1 h2 => ?_⟩
          rcases Nat.lt_or_ge i b with h3 | h3
          · exact HE.out b (by omega) h2
          · rw [show b = i by omega]
            exact HEI.out
        case measure => simp [intOf]
      · have hpt : part p q = (i : Int) := by
          refine part_unique HP.out.zp HQ.out.zp (fun b hb => ?_) he
          by_cases h64 : b < 64
          · exact HE.out b (by omega) h64
          · obtain ⟨g1, g2, g3, g4⟩ := part_spec p q (by rw [HP.out.1, HQ.out.1]) HP.out.2.2 HQ.out.2.2
            exact g3 b (by omega)
        have HPT := hide hpt
        have e1 : ((addrOf p i : Int) != (addrOf q i : Int)) = true := by simp; omega
        clear hpt
        generalize addrOf p i = a at *
        generalize addrOf q i = b at *
        clear he
        go_wp2_with fail
        refine HA.out.mono ?_
        rintro e w1 ⟨rfl, rfl⟩
        go_wp2_with fail
        refine HB.out.mono ?_
        rintro e w1 ⟨rfl, rfl⟩
        go_wp2
        go_ret
        rw [HPT.out]
        exact ⟨rfl, rfl⟩
set_option maxHeartbeats 1000000 in
set_option maxRecDepth 100000 in
theorem ref_cmp (A B : Option Addr) (k c d : Nat) (p q : List Nat) (w : World) (hp : Pt w A k p) (hq : Pt w B k q) (hk : k ≤ 40) :
    Calls Try.prog 141 #[.slice A k c, .slice B k d] w fun e w' => e = .returned (.int .i64 (cmp p q)) ∧ w = w' := by
  have HC := ref_part A B k c d p q w hp hq hk
  obtain ⟨g1, g2, g3, g4⟩ := part_spec p q (by rw [hp.1, hq.1]) hp.2.2 hq.2.2
  rcases Int.lt_or_le (part p q) 0 with h | h
  · have hpt : part p q = -1 := by omega
    have hc : cmp p q = 0 := by unfold cmp; rw [if_pos h]
    rw [hpt] at HC
    have HCC := hide HC
    have HR := hide hc
    clear HC hpt hc h g1 g2 g3 g4
    go_enter Try.func141, Try.ntmps141
    go_wp2_with fail
    refine HCC.out.mono ?_
    rintro e w1 ⟨rfl, rfl⟩
    go_wp2
    go_ret
    rw [HR.out]
    exact ⟨rfl, rfl⟩
  · obtain ⟨m, hm⟩ : ∃ m : Nat, part p q = (m : Int) := ⟨(part p q).toNat, by omega⟩
    have HA := hide (ref_addr A k c m p w hp hk (by omega))
    have HB := hide (ref_addr B k d m q w hq hk (by omega))
    have hne := g4 h
    rw [hm] at HC hne
    rw [Int.toNat_natCast] at hne
    have HCC := hide HC
    rcases Nat.lt_or_ge (addrOf p m) (addrOf q m) with hlt | hge
    · have hc : cmp p q = -1 := by unfold cmp; rw [if_neg (by omega), hm, Int.toNat_natCast, if_pos hlt]
      have HR := hide hc
      clear HC hc h g1 g2 g3 g4 hne hm
      generalize addrOf p m = a at *
      generalize addrOf q m = b at *
      go_enter Try.func141, Try.ntmps141
      go_wp2_with fail
      refine HCC.out.mono ?_
      rintro e w1 ⟨rfl, rfl⟩
      go_wp2_with fail
      refine HA.out.mono ?_
      rintro e w1 ⟨rfl, rfl⟩
      go_wp2_with fail
      refine HB.out.mono ?_
      rintro e w1 ⟨rfl, rfl⟩
      go_wp2
      go_ret
      rw [HR.out]
      exact ⟨rfl, rfl⟩
    · have hc : cmp p q = 1 := by unfold cmp; rw [if_neg (by omega), hm, Int.toNat_natCast, if_neg (by omega)]
      have HR := hide hc
      have hnl : ¬ addrOf p m < addrOf q m := by omega
      clear HC hc h g1 g2 g3 g4 hne hm hge
      generalize addrOf p m = a at *
      generalize addrOf q m = b at *
      go_enter Try.func141, Try.ntmps141
      go_wp2_with fail
      refine HCC.out.mono ?_
      rintro e w1 ⟨rfl, rfl⟩
      go_wp2_with fail
      refine HA.out.mono ?_
      rintro e w1 ⟨rfl, rfl⟩
      go_wp2_with fail
      refine HB.out.mono ?_
      rintro e w1 ⟨rfl, rfl⟩
      go_wp2
      go_ret
      rw [HR.out]
      exact ⟨rfl, rfl⟩
set_option maxHeartbeats 1000000 in
set_option maxRecDepth 100000 in
theorem ref_power (n : Nat) (w : World) (hn : n < 64) :
    Calls Try.prog 55 #[.int .i64 (n : Int)] w fun e w' => e = .returned (.int .u64 ((2 ^ n : Nat) : Int)) ∧ w = w' := by
  go_enter Try.func55, Try.ntmps55
  go_wp2
  go_loop [3, 4] (fun x3 x4 => ∃ (j : Nat), x4 = .int .i64 j ∧ j ≤ n ∧ x3 = .int .u64 ((2 ^ j : Nat) : Int)) (fun _ x => n - (intOf x).toNat)
  case atStart => exact ⟨0, rfl, Nat.zero_le _, rfl⟩
  case round =>
    obtain ⟨j, rfl, hj, rfl⟩ := hrel
    by_cases hjn : j < n
    · have h2 : 2 * 2 ^ j < 2 ^ 64 := by
        rw [← Nat.pow_succ']
        exact Nat.pow_lt_pow_right (by omega) (by omega)
      have hst : 2 ^ (j + 1) = 2 * 2 ^ j := Nat.pow_succ'
      have HST := hide hst
      clear hst
      generalize 2 ^ j = P at *
      go_wp2
      go_round
      case rel =>
        refine ⟨j + 1, by go_num, by omega, ?_⟩
        rw [HST.out]
        refine vI ?_
        omega
      case measure => simp [intOf]; omega
    · obtain rfl : j = n := by omega
      go_wp2
      go_ret
      exact ⟨rfl, rfl⟩
set_option maxHeartbeats 1000000 in
set_option maxRecDepth 100000 in
theorem ref_alike (A B : Option Addr) (n c m d : Nat) (w : World) :
    Calls Try.prog 36 #[.slice A n c, .slice B m d] w fun e w' => e = .returned (.bool (rightB n && decide (n = m))) ∧ w = w' := by
  have CR := ref_right A n c w
  cases h : rightB n with
  | false =>
    rw [h] at CR
    have HCR := hide CR
    clear CR h
    go_enter Try.func36, Try.ntmps36
    go_wp2_with fail
    refine HCR.out.mono ?_
    rintro e w1 ⟨rfl, rfl⟩
    go_wp2
    go_ret
    exact ⟨rfl, rfl⟩
  | true =>
    rw [h] at CR
    have HCR := hide CR
    clear CR h
    go_enter Try.func36, Try.ntmps36
    go_wp2_with fail
    refine HCR.out.mono ?_
    rintro e w1 ⟨rfl, rfl⟩
    go_wp2
    go_ret
    refine ⟨retB ?_, rfl⟩
    apply boolI
    simp
    omega
set_option maxHeartbeats 1000000 in
set_option maxRecDepth 100000 in
theorem ref_dense (k n : Nat) (w : World) (hk : k ≤ 16) (hn : n ≤ 70000) :
    Calls Try.prog 112 #[.int .i64 (k : Int), .int .i64 (n : Int)] w fun e w' => e = .returned (.bool (denseB k n)) ∧ w = w' := by
  by_cases h6 : k ≤ 6
  · have HP := hide (ref_power k w (by omega))
    have h64 : 2 ^ k ≤ 64 := pow_len_le h6
    by_cases hd : 2 ^ k < 2 * n
    · have HR := hide (show denseB k n = true by unfold denseB; simp; omega)
      generalize 2 ^ k = P at *
      go_enter Try.func112, Try.ntmps112
      go_wp2_with fail
      refine HP.out.mono ?_
      rintro e w1 ⟨rfl, rfl⟩
      go_wp2
      go_ret
      rw [HR.out]
      refine ⟨retB ?_, rfl⟩
      simp; go_num
    · have HR := hide (show denseB k n = false by unfold denseB; simp; omega)
      generalize 2 ^ k = P at *
      go_enter Try.func112, Try.ntmps112
      go_wp2_with fail
      refine HP.out.mono ?_
      rintro e w1 ⟨rfl, rfl⟩
      go_wp2
      go_ret
      rw [HR.out]
      refine ⟨retB ?_, rfl⟩
      simp; go_num
  · have HR := hide (show denseB k n = false by unfold denseB; simp; omega)
    go_enter Try.func112, Try.ntmps112
    go_wp2
    go_ret
    rw [HR.out]
    refine ⟨rfl, rfl⟩
end Go.Proofs.Ytkknfnjojamgjaa
