/- The references 01 and 06. -/
import Derived.Test.YtfkpanpageeklaaNdB
import Derived.Test.YtfkpanpageeklaaNdA
import Derived.Test.YtfkpanpageeklaaEnA
set_option linter.unusedSimpArgs false
set_option linter.unusedVariables false
namespace Go.Proofs.Ytfkpanpageeklaa
section
open Go.RowKit
theorem wrap64_of {n : Int} (h : -9223372036854775808 ≤ n ∧ n ≤ 9223372036854775807) : wrap64 n = n := by unfold wrap64; omega
set_option maxHeartbeats 1000000 in
set_option maxRecDepth 100000 in
theorem ref_bit (z at_ : Nat) (w : World) (hz : z < 2 ^ 64) (ha : at_ < 64) :
    Calls Try.prog 116 #[.int .u64 (z : Int), .int .i64 (at_ : Int)] w fun e w' => e = .returned (.int .i64 (bit z at_ : Nat)) ∧ w = w' := by
  go_enter Try.func116, Try.ntmps116
  go_wp2
  go_ret
  refine ⟨retI ?_, rfl⟩
  have e1 : ((z : Int) / 2 ^ at_) = ((z / 2 ^ at_ : Nat) : Int) := by simp
  have hb := bit_lt z at_
  have e2 : ((z / 2 ^ at_ : Nat) : Int).tmod 2 = (bit z at_ : Nat) := by
    rw [Int.tmod_eq_emod_of_nonneg (Int.natCast_nonneg _)]; unfold bit; omega
  rw [e1, e2, wrap64_of (by omega)]
set_option maxHeartbeats 1000000 in
set_option maxRecDepth 100000 in
theorem ref_addr (A : Option Addr) (n c at_ : Nat) (p : List Nat) (w : World) (hp : Pt w A n p) (hn : n ≤ 40) (ha : at_ < 64) :
    Calls Try.prog 108 #[.slice A n c, .int .i64 (at_ : Int)] w fun e w' => e = .returned (.int .i64 (addrOf p at_ : Nat)) ∧ w = w' := by
  have HP := hide hp
  have hlt : ∀ j, addrOf (p.take j) at_ < 2 ^ 40 := fun j => by
    have h1 := addrOf_lt (p.take j) at_
    refine Nat.lt_of_lt_of_le h1 (pow_len_le ?_)
    have := hp.1
    simp; omega
  have HLT := hide hlt
  clear hp hlt
  go_enter Try.func108, Try.ntmps108
  go_wp2
  go_loop [5, 6] (fun x5 x6 => ∃ (j : Nat), x6 = .int .i64 j ∧ j ≤ n ∧ x5 = .int .i64 (addrOf (p.take j) at_ : Nat)) (fun _ x => n - (intOf x).toNat)
  case atStart => exact ⟨0, rfl, Nat.zero_le _, rfl⟩
  case round =>
    obtain ⟨j, rfl, hj, rfl⟩ := hrel
    by_cases hjn : j < n
    · obtain ⟨b, o, z, rfl, hbl, hz, hzl, k0⟩ := HP.out.at_ hjn
      have hb := HLT.out j
      have hbit := bit_lt z at_
      have hst : addrOf (p.take (j + 1)) at_ = 2 * addrOf (p.take j) at_ + bit z at_ := by
        have hl := (List.getElem?_eq_some_iff.1 hz).1
        rw [addrOf_take p at_ j hl, (List.getElem?_eq_some_iff.1 hz).2]
      have HST := hide hst
      have hz' := hide hz
      clear hz hst
      go_wp2_with fail
      refine (ref_bit z at_ _ hzl ha).mono ?_
      rintro e w1 ⟨rfl, rfl⟩
      generalize addrOf (p.take j) at_ = a at *
      generalize bit z at_ = bt at *
      go_wp2
      go_round
      case rel => exact ⟨j + 1, by go_num, by omega, by rw [HST.out]; go_num⟩
      case measure => simp [intOf]; omega
    · obtain rfl : j = n := by omega
      have hl := HP.out.1
      have hpe : p.take j = p := List.take_of_length_le (by omega)
      rw [hpe]
      clear hl hpe
      go_wp2
      go_ret
      exact ⟨rfl, rfl⟩
set_option maxHeartbeats 1000000 in
set_option maxRecDepth 100000 in
theorem ref_part (A B : Option Addr) (k c d : Nat) (p q : List Nat) (w : World) (hp : Pt w A k p) (hq : Pt w B k q) (hk : k ≤ 40) :
    Calls Try.prog 107 #[.slice A k c, .slice B k d] w fun e w' => e = .returned (.int .i64 (part p q)) ∧ w = w' := by
  have HP := hide hp
  have HQ := hide hq
  clear hp hq
  go_enter Try.func107, Try.ntmps107
  go_wp2
  go_loop [5] (fun x => ∃ (j : Nat), x = .int .i64 ((j : Int) - 1) ∧ j ≤ 64 ∧ (∀ b, j ≤ b → b < 64 → addrOf p b = addrOf q b)) (fun x => (intOf x + 1).toNat)
  case atStart => exact ⟨64, by go_num, Nat.le_refl _, fun b h1 h2 => by omega⟩
  case round =>
    obtain ⟨j, rfl, hj, he⟩ := hrel
    have HE := hide he
    clear he
    rcases Nat.eq_zero_or_pos j with rfl | hj0
    · have hpt : part p q = -1 := by
        obtain ⟨g1, g2, g3, g4⟩ := part_spec p q (by rw [HP.out.1, HQ.out.1]) HP.out.2.2 HQ.out.2.2
        rcases Int.lt_or_le (part p q) 0 with h | h
        · omega
        · exact absurd (HE.out (part p q).toNat (by omega) (by omega)) (g4 h)
      have HPT := hide hpt
      clear hpt
      go_wp2
      go_ret
      rw [HPT.out]
      exact ⟨rfl, rfl⟩
    · obtain ⟨i, rfl⟩ : ∃ i, j = i + 1 := ⟨j - 1, by omega⟩
      have e0 : ((i + 1 : Nat) : Int) - 1 = (i : Int) := by omega
      rw [e0]
      have HA := hide (ref_addr A k c i p w HP.out hk (by omega))
      have HB := hide (ref_addr B k d i q w HQ.out hk (by omega))
      clear e0
      by_cases he : addrOf p i = addrOf q i
      · have HEI := hide he
        clear he
        rw [HEI.out] at HA
        go_wp2_with fail
        refine HA.out.mono ?_
        rintro e w1 ⟨rfl, rfl⟩
        go_wp2_with fail
        refine HB.out.mono ?_
        rintro e w1 ⟨rfl, rfl⟩
        go_wp2
        go_round
        case rel =>
          refine ⟨i, by go_num, by omega, fun b h1 h2 => ?_⟩
          rcases Nat.lt_or_ge i b with h3 | h3
          · exact HE.out b (by omega) h2
          · rw [show b = i by omega]
            exact HEI.out
        case measure => simp [intOf]
      · have hpt : part p q = (i : Int) := by
          refine part_unique HP.out.zp HQ.out.zp (fun b hb => ?_) he
          by_cases h64 : b < 64
          · exact HE.out b (by omega) h64
          · obtain ⟨g1, g2, g3, g4⟩ := part_spec p q (by rw [HP.out.1, HQ.out.1]) HP.out.2.2 HQ.out.2.2
            exact g3 b (by omega)
        have HPT := hide hpt
        have e1 : ((addrOf p i : Int) != (addrOf q i : Int)) = true := by simp; omega
        clear hpt
        generalize addrOf p i = a at *
        generalize addrOf q i = b at *
        clear he
        go_wp2_with fail
        refine HA.out.mono ?_
        rintro e w1 ⟨rfl, rfl⟩
        go_wp2_with fail
        refine HB.out.mono ?_
        rintro e w1 ⟨rfl, rfl⟩
        go_wp2
        go_ret
        rw [HPT.out]
        exact ⟨rfl, rfl⟩
set_option maxHeartbeats 1000000 in
set_option maxRecDepth 100000 in
theorem ref_cmp (A B : Option Addr) (k c d : Nat) (p q : List Nat) (w : World) (hp : Pt w A k p) (hq : Pt w B k q) (hk : k ≤ 40) :
    Calls Try.prog 86 #[.slice A k c, .slice B k d] w fun e w' => e = .returned (.int .i64 (cmp p q)) ∧ w = w' := by
  have HC := ref_part A B k c d p q w hp hq hk
  obtain ⟨g1, g2, g3, g4⟩ := part_spec p q (by rw [hp.1, hq.1]) hp.2.2 hq.2.2
  rcases Int.lt_or_le (part p q) 0 with h | h
  · have hpt : part p q = -1 := by omega
    have hc : cmp p q = 0 := by unfold cmp; rw [if_pos h]
    rw [hpt] at HC
    have HCC := hide HC
    have HR := hide hc
    clear HC hpt hc h g1 g2 g3 g4
    go_enter Try.func86, Try.ntmps86
    go_wp2_with fail
    refine HCC.out.mono ?_
    rintro e w1 ⟨rfl, rfl⟩
    go_wp2
    go_ret
    rw [HR.out]
    exact ⟨rfl, rfl⟩
  · obtain ⟨m, hm⟩ : ∃ m : Nat, part p q = (m : Int) := ⟨(part p q).toNat, by omega⟩
    have HA := hide (ref_addr A k c m p w hp hk (by omega))
    have HB := hide (ref_addr B k d m q w hq hk (by omega))
    have hne := g4 h
    rw [hm] at HC hne
    rw [Int.toNat_natCast] at hne
    have HCC := hide HC
    rcases Nat.lt_or_ge (addrOf p m) (addrOf q m) with hlt | hge
    · have hc : cmp p q = -1 := by unfold cmp; rw [if_neg (by omega), hm, Int.toNat_natCast, if_pos hlt]
      have HR := hide hc
      clear HC hc h g1 g2 g3 g4 hne hm
      generalize addrOf p m = a at *
      generalize addrOf q m = b at *
      go_enter Try.func86, Try.ntmps86
      go_wp2_with fail
      refine HCC.out.mono ?_
      rintro e w1 ⟨rfl, rfl⟩
      go_wp2_with fail
      refine HA.out.mono ?_
      rintro e w1 ⟨rfl, rfl⟩
      go_wp2_with fail
      refine HB.out.mono ?_
      rintro e w1 ⟨rfl, rfl⟩
      go_wp2
      go_ret
      rw [HR.out]
      exact ⟨rfl, rfl⟩
    · have hc : cmp p q = 1 := by unfold cmp; rw [if_neg (by omega), hm, Int.toNat_natCast, if_neg (by omega)]
      have HR := hide hc
      have hnl : ¬ addrOf p m < addrOf q m := by omega
      clear HC hc h g1 g2 g3 g4 hne hm hge
      generalize addrOf p m = a at *
      generalize addrOf q m = b at *
      go_enter Try.func86, Try.ntmps86
      go_wp2_with fail
      refine HCC.out.mono ?_
      rintro e w1 ⟨rfl, rfl⟩
      go_wp2_with fail
      refine HA.out.mono ?_
      rintro e w1 ⟨rfl, rfl⟩
      go_wp2_with fail
      refine HB.out.mono ?_
      rintro e w1 ⟨rfl, rfl⟩
      go_wp2
      go_ret
      rw [HR.out]
      exact ⟨rfl, rfl⟩
end
section
open Go.RowKit
/-- The bits from m up, below j. -/
def part_cut (m j z : Nat) : Nat := cutc m (z % 2 ^ j)
theorem part_cut_low (m z : Nat) (hm : m ≤ 64) : part_cut m m z = 0 := by
  unfold part_cut cutc
  rw [Nat.div_eq_of_lt (Nat.mod_lt _ (Nat.two_pow_pos _)), Nat.zero_mul]
theorem part_cut_step {m j : Nat} (z : Nat) (h : m ≤ j) : part_cut m (j + 1) z = part_cut m j z + bit z j * 2 ^ j := by
  unfold part_cut cutc bit
  have h1 : z % 2 ^ (j + 1) = z % 2 ^ j + 2 ^ j * (z / 2 ^ j % 2) := by
    rw [Nat.pow_succ, Nat.mod_mul]
  rw [h1]
  obtain ⟨d, rfl⟩ : ∃ d, j = m + d := ⟨j - m, by omega⟩
  generalize z / 2 ^ (m + d) % 2 = t
  rw [Nat.pow_add]
  have h2 : (z % (2 ^ m * 2 ^ d) + 2 ^ m * 2 ^ d * t) / 2 ^ m = z % (2 ^ m * 2 ^ d) / 2 ^ m + 2 ^ d * t := by
    rw [Nat.mul_assoc, Nat.add_mul_div_left _ _ (Nat.two_pow_pos m)]
  rw [h2, Nat.add_mul]
  congr 1
  simp only [Nat.mul_comm, Nat.mul_left_comm, Nat.mul_assoc]
theorem part_cut_top {m z : Nat} (hz : z < 2 ^ 64) : part_cut m 64 z = cutc m z := by
  unfold part_cut
  rw [Nat.mod_eq_of_lt hz]
theorem part_cut_le (m j z : Nat) : part_cut m j z < 2 ^ j := by
  unfold part_cut cutc
  exact Nat.lt_of_le_of_lt (Nat.div_mul_le_self _ _) (Nat.mod_lt _ (Nat.two_pow_pos _))
end
section
open Go.RowKit
theorem wrap_i64_sm {n : Int} (h0 : 0 ≤ n) (h1 : n ≤ 70368744177664) : IntKind.i64.wrap n = n := by rw [IntKind.wrap_i64]; omega
theorem wrap64_sm {n : Int} (h0 : 0 ≤ n) (h1 : n ≤ 70368744177664) : wrap64 n = n := by rw [wrap64_of (by omega)]
def notAhead (p : List Nat) (r : ER) : Bool := decide (0 ≤ cmp r.p p)
/-- Where a point stands or would stand. -/
def plR (rows : List ER) (p : List Nat) : Nat := rows.findIdx (notAhead p)
def hasR (rows : List ER) (p : List Nat) : Bool := match rows[plR rows p]? with | some r => decide (cmp r.p p = 0) | none => false
theorem plR_found {rows : List ER} {p : List Nat} {j : Nat} {r : ER} (hr : rows[j]? = some r) (h : 0 ≤ cmp r.p p) (hlt : ∀ (i : Nat) (s : ER), i < j → rows[i]? = some s → cmp s.p p < 0) :
    plR rows p = j ∧ hasR rows p = decide (cmp r.p p = 0) := by
  have hj := (List.getElem?_eq_some_iff.1 hr).1
  have hv := (List.getElem?_eq_some_iff.1 hr).2
  have h1 : plR rows p = j := by
    unfold plR
    rw [List.findIdx_eq hj]
    refine ⟨by rw [hv]; unfold notAhead; simpa using h, fun i hi => ?_⟩
    have hil : i < rows.length := by omega
    have := hlt i rows[i] hi (List.getElem?_eq_getElem hil)
    unfold notAhead
    simp; omega
  refine ⟨h1, ?_⟩
  unfold hasR
  rw [h1, hr]
theorem plR_none {rows : List ER} {p : List Nat} (hlt : ∀ (i : Nat) (s : ER), rows[i]? = some s → cmp s.p p < 0) : plR rows p = rows.length ∧ hasR rows p = false := by
  have h1 : plR rows p = rows.length := by
    unfold plR
    rw [List.findIdx_eq_length]
    intro r hr
    obtain ⟨i, hi⟩ := List.getElem?_of_mem hr
    have := hlt i r hi
    unfold notAhead
    simp; omega
  refine ⟨h1, ?_⟩
  unfold hasR
  rw [h1, List.getElem?_eq_none (Nat.le_refl _)]
set_option maxHeartbeats 2000000 in
set_option maxRecDepth 100000 in
theorem ref_place (A B : Option Addr) (n c k d : Nat) (rows : List ER) (p : List Nat) (w : World) (h : EntsAt w A n rows) (hk : ∀ r ∈ rows, r.n = k) (hp : Pt w B k p) (hk40 : k ≤ 40) (hn : n ≤ 70368744177664) :
    Calls Try.prog 56 #[.slice A n c, .slice B k d] w fun e w' => e = .returned (.tuple #[.int .i64 (plR rows p : Nat), .bool (hasR rows p)]) ∧ w = w' := by
  have HE := hide h
  have HP := hide hp
  have HK := hide hk
  clear h hp hk
  go_enter Try.func56, Try.ntmps56
  go_wp2
  go_loop [6] (fun x => ∃ (j : Nat), x = .int .i64 j ∧ j ≤ n ∧ ∀ (i : Nat) (s : ER), i < j → rows[i]? = some s → cmp s.p p < 0) (fun x => n - (intOf x).toNat)
  case atStart => exact ⟨0, rfl, Nat.zero_le _, fun i s hi => by omega⟩
  case round =>
    obtain ⟨j, rfl, hj, hlt⟩ := hrel
    have HLT := hide hlt
    clear hlt
    by_cases hjn : j < n
    · obtain ⟨b, o, r, rfl, hbl, hr, hok, k0, k1⟩ := HE.out.at_ hjn
      have hrk := HK.out r (List.mem_of_getElem? hr)
      have hpr := hok.1
      rw [hrk] at hpr k0
      have HC := hide (ref_cmp r.A B k r.c d r.p p w hpr HP.out hk40)
      have HR := hide hr
      clear hr hok hrk hpr k1
      rcases cmp_cases r.p p with hc | hc | hc
      · rw [hc] at HC
        have HCV := hide hc
        clear hc
        go_wp2_with fail
        refine HC.out.mono ?_
        rintro e w1 ⟨rfl, rfl⟩
        go_wp2
        go_round
        case rel =>
          refine ⟨j + 1, by go_num, by omega, fun i s hi hs => ?_⟩
          rcases Nat.lt_or_ge i j with h1 | h1
          · exact HLT.out i s h1 hs
          · have h2 := HR.out
            rw [show j = i by omega] at h2
            rw [h2] at hs
            injection hs with hs
            rw [← hs, HCV.out]
            omega
        case measure => simp [intOf]; omega
      · obtain ⟨g1, g2⟩ := plR_found HR.out (by omega : 0 ≤ cmp r.p p) HLT.out
        rw [hc] at HC
        have hc2 : hasR rows p = true := by rw [g2, hc]; rfl
        have HG := hide (And.intro g1 hc2)
        clear hc g1 g2 hc2
        go_wp2_with fail
        refine HC.out.mono ?_
        rintro e w1 ⟨rfl, rfl⟩
        go_wp2
        go_ret2
        rw [HG.out.1, HG.out.2]
        exact ⟨rfl, rfl⟩
      · obtain ⟨g1, g2⟩ := plR_found HR.out (by omega : 0 ≤ cmp r.p p) HLT.out
        rw [hc] at HC
        have hc2 : hasR rows p = false := by rw [g2, hc]; rfl
        have HG := hide (And.intro g1 hc2)
        clear hc g1 g2 hc2
        go_wp2_with fail
        refine HC.out.mono ?_
        rintro e w1 ⟨rfl, rfl⟩
        go_wp2
        go_ret2
        rw [HG.out.1, HG.out.2]
        exact ⟨rfl, rfl⟩
    · obtain rfl : j = n := by omega
      have hl := HE.out.len
      obtain ⟨g1, g2⟩ := plR_none (rows := rows) (p := p) fun i s hs => HLT.out i s (by have := (List.getElem?_eq_some_iff.1 hs).1; omega) hs
      rw [hl] at g1
      have HG := hide (And.intro g1 g2)
      clear hl g1 g2
      go_wp2
      go_ret2
      rw [HG.out.1, HG.out.2]
      exact ⟨rfl, rfl⟩
set_option maxHeartbeats 2000000 in
set_option maxRecDepth 100000 in
theorem ref_get (A B : Option Addr) (n c k d : Nat) (rows : List ER) (p : List Nat) (w : World) (h : EntsAt w A n rows) (hk : ∀ r ∈ rows, r.n = k) (hp : Pt w B k p) (hk40 : k ≤ 40) (hn : n ≤ 70368744177664) :
    Calls Try.prog 33 #[.slice A n c, .slice B k d] w fun e w' => (∃ (v : Nat) (ok : Bool), e = .returned (.tuple #[.int .u64 (v : Int), .bool ok]) ∧ ok = hasR rows p ∧ (ok = false → v = 0) ∧ (ok = true → ∃ r, rows[plR rows p]? = some r ∧ r.v = v)) ∧ w = w' := by
  have HC := hide (ref_place A B n c k d rows p w h hk hp hk40 hn)
  have HE := hide h
  clear h hp hk
  cases hh : hasR rows p with
  | false =>
    rw [hh] at HC
    clear hh
    go_enter Try.func33, Try.ntmps33
    go_wp2_with fail
    refine HC.out.mono ?_
    rintro e w1 ⟨rfl, rfl⟩
    go_wp2
    go_ret2
    exact ⟨⟨0, false, rfl, rfl, fun _ => rfl, fun h => by cases h⟩, rfl⟩
  | true =>
    have hlt : plR rows p < n := by
      unfold hasR at hh
      split at hh
      · rename_i r hr
        have := (List.getElem?_eq_some_iff.1 hr).1
        rwa [HE.out.len] at this
      · cases hh
    obtain ⟨b, o, r, rfl, hbl, hr, hok, k0, k1⟩ := HE.out.at_ hlt
    rw [hh] at HC
    have HR := hide hr
    clear hh hr hok
    generalize plR rows p = at_ at *
    go_enter Try.func33, Try.ntmps33
    go_wp2_with fail
    refine HC.out.mono ?_
    rintro e w1 ⟨rfl, rfl⟩
    go_wp2
    go_ret2
    exact ⟨⟨r.v, true, rfl, rfl, (fun h => by cases h), fun _ => ⟨r, HR.out, rfl⟩⟩, rfl⟩
end
section
open Go.RowKit
def delR (rows : List ER) (p : List Nat) : List ER := if hasR rows p then rows.take (plR rows p) ++ rows.drop (plR rows p + 1) else rows
def putR (rows : List ER) (r : ER) : List ER := (delR rows r.p).take (plR (delR rows r.p) r.p) ++ [r] ++ (delR rows r.p).drop (plR (delR rows r.p) r.p)
theorem info_e : (Try.prog.info? 63).map (fun i => (i.zero, i.size, i.bytes)) = some (some (.agg #[.slice none 0 0, .int .u64 0]), 2, 32) := by kernel_rfl
theorem flat_take (rows : List ER) (i : Nat) : (rows.flatMap entv).take (i * 2) = (rows.take i).flatMap entv := by
  induction rows generalizing i with
  | nil => simp
  | cons r rows ih =>
    cases i with
    | zero => simp
    | succ i =>
      rw [List.flatMap_cons, List.take_succ_cons, List.flatMap_cons, Nat.add_mul, Nat.add_comm (i * 2), List.take_append, ← ih i, List.take_of_length_le (by simp [entv])]
      simp [entv]
theorem flat_drop (rows : List ER) (i : Nat) : (rows.flatMap entv).drop (i * 2) = (rows.drop i).flatMap entv := by
  induction rows generalizing i with
  | nil => simp
  | cons r rows ih =>
    cases i with
    | zero => simp
    | succ i =>
      rw [List.flatMap_cons, List.drop_succ_cons, Nat.add_mul, Nat.add_comm (i * 2), List.drop_append, ← ih i]
      simp [entv]
theorem one_ents (rows : List ER) : ∀ u ∈ rows.flatMap entv, u.oneCell' = true := by
  intro u hu
  obtain ⟨r, _, hu⟩ := List.mem_flatMap.1 hu
  unfold entv at hu
  simp at hu
  rcases hu with rfl | rfl <;> rfl
theorem hasR_lt {rows : List ER} {p : List Nat} (h : hasR rows p = true) : plR rows p < rows.length := by
  unfold hasR at h
  split at h
  · rename_i r hr
    exact (List.getElem?_eq_some_iff.1 hr).1
  · cases h
theorem plR_le (rows : List ER) (p : List Nat) : plR rows p ≤ rows.length := List.findIdx_le_length
theorem mem_delR {rows : List ER} {p : List Nat} {r : ER} (h : r ∈ delR rows p) : r ∈ rows := by
  unfold delR at h
  split at h
  · rcases List.mem_append.1 h with h | h
    · exact List.mem_of_mem_take h
    · exact List.mem_of_mem_drop h
  · exact h
theorem mem_putR {rows : List ER} {q r : ER} (h : r ∈ putR rows q) : r = q ∨ r ∈ rows := by
  unfold putR at h
  rcases List.mem_append.1 h with h | h
  · rcases List.mem_append.1 h with h | h
    · exact .inr (mem_delR (List.mem_of_mem_take h))
    · exact .inl (by simpa using h)
  · exact .inr (mem_delR (List.mem_of_mem_drop h))
set_option maxHeartbeats 2000000 in
set_option maxRecDepth 100000 in
theorem ref_del (A B : Option Addr) (n c k d : Nat) (rows : List ER) (p : List Nat) (w : World) (h : EntsAt w A n rows) (hnc : n ≤ c) (hk : ∀ r ∈ rows, r.n = k) (hp : Pt w B k p) (hk40 : k ≤ 40) (hn : n ≤ 65536) :
    Calls Try.prog 51 #[.slice A n c, .slice B k d] w fun e w' => ∃ A' n' c', e = .returned (.slice A' n' c') ∧ EntsAt w' A' n' (delR rows p) ∧ n' ≤ c' ∧ n' ≤ n ∧ Below w.heap.size w w' := by
  have HC := hide (ref_place A B n c k d rows p w h hk hp hk40 (by omega))
  have HE := hide h
  have hl := h.len
  cases hh : hasR rows p with
  | false =>
    have HD := hide (show delR rows p = rows by unfold delR; rw [hh]; rfl)
    rw [hh] at HC
    have HNC := hide hnc
    clear hh h hk hp hl
    go_enter Try.func51, Try.ntmps51
    go_wp2_with fail
    refine HC.out.mono ?_
    rintro e w1 ⟨rfl, rfl⟩
    go_wp2
    go_ret
    refine ⟨A, n, c, rfl, ?_, HNC.out, Nat.le_refl _, Below.refl _ _⟩
    rw [HD.out]
    exact HE.out
  | true =>
    have hlt := hasR_lt hh
    rw [hl] at hlt
    have HD := hide (show delR rows p = rows.take (plR rows p) ++ rows.drop (plR rows p + 1) by unfold delR; rw [hh]; rfl)
    rw [hh] at HC
    generalize plR rows p = i at *
    have HNC := hide hnc
    have r1 := fun W => run_slice_to (P := Try.prog) (w := W) Try.underlying26 (sz := 2) Try.sizeOf63 A n c i (by omega)
    have r2 := fun W => run_slice_lo (P := Try.prog) (w := W) Try.underlying26 (sz := 2) Try.sizeOf63 A n c (i + 1) (by omega)
    simp only [Int.natCast_add, Int.cast_ofNat_Int] at r2
    have e5 : IntKind.i64.wrap ((i : Int) + 1) = (i : Int) + 1 := by rw [IntKind.wrap_i64]; omega
    have hb := ((Below.refl w.heap.size w).alloc (Nat.le_refl _) (.cells #[] 63)).drew
    have hE1 := HE.out.below hb
    have hT := hE1.1.take_ (i := i) (by omega)
    have hC := HE.out.1.cut (i := i + 1) (c := c) (by omega) hnc
    rw [flat_take] at hT
    rw [flat_drop] at hC
    have HT := hide hT
    have HCU := hide hC
    have HL := hide (And.intro hlt (And.intro hl hn))
    clear hh h hk hp hl hE1 hT hC hnc
    go_enter Try.func51, Try.ntmps51
    go_wp2_with fail
    refine HC.out.mono ?_
    rintro e w1 ⟨rfl, rfl⟩
    go_wp2
    go_region_held3 (fun _ => True)
      (first
        | go_keep
        | exact trivial)
      (first
        | (refine step_app _ (by rfl) (.tmp 16) (.tmp 19) _ (by rfl) w.heap.size 63 _ 2 32 Try.underlying26 info_e rfl (by omega) _ 0 [] (by rfl) (own_empty _ _ _) A i c ((rows.take i).flatMap entv) (by rfl) w hb (Nat.le_refl _) HT.out ?h2 (by have := HL.out; unfold maxLen; omega) (by have := HL.out; omega) ?_
           case h2 => exact one_ents _
           intro v2 w2 ho2 hb2 _
           have HO2 := hide ho2
           have HCC := hide (HCU.out.below hb2)
           clear ho2)
        | (refine step_app _ (by rfl) (.tmp 20) (.tmp 24) _ (by rfl) w.heap.size 63 _ 2 32 Try.underlying26 info_e rfl (by omega) _ (0 + i) _ (by rfl) HO2.out (cutA A c 2 (i + 1)) (n - (i + 1)) (c - (i + 1)) ((rows.drop (i + 1)).flatMap entv) (by rfl) w hb2 (Nat.le_refl _) HCC.out ?h2 (by have := HL.out; unfold maxLen; omega) (by have := HL.out; omega) ?_
           case h2 => exact one_ents _
           intro v3 w3 ho3 hb3 _))
    obtain ⟨A3, c3, rfl, hn3, hR3⟩ := Rw.of_own ho3
    have HB3 := hide hb3
    have hR := hide hR3
    clear ho3 hb3 hR3
    go_wp2
    go_ret
    obtain ⟨hlt, hl, hn⟩ := HL.out
    refine ⟨A3, 0 + i + (n - (i + 1)), c3, rfl, ⟨?_, fun r hr => (HE.out.2 r (mem_delR hr)).below HB3.out⟩, hn3, by omega, HB3.out⟩
    rw [HD.out, List.flatMap_append]
    have := hR.out
    rwa [List.nil_append] at this
set_option maxHeartbeats 2000000 in
set_option maxRecDepth 100000 in
theorem ref_put (A B : Option Addr) (n c k d v : Nat) (rows : List ER) (p : List Nat) (w : World) (h : EntsAt w A n rows) (hnc : n ≤ c) (hk : ∀ r ∈ rows, r.n = k) (hp : Pt w B k p) (hkd : k ≤ d) (hdm : d ≤ maxLen) (hk40 : k ≤ 40) (hn : n ≤ 65536) (hv : v < 2 ^ 64) :
    Calls Try.prog 52 #[.slice A n c, .slice B k d, .int .u64 (v : Int)] w fun e w' => ∃ A' n' c', e = .returned (.slice A' n' c') ∧ EntsAt w' A' n' (putR rows ⟨B, k, d, p, v⟩) ∧ n' ≤ c' ∧ n' ≤ n + 1 ∧ Below w.heap.size w w' := by
  have HD := hide (ref_del A B n c k d rows p w h hnc hk hp hk40 hn)
  have HP := hide hp
  have HK := hide (fun r hr => hk r (mem_delR (p := p) hr))
  have HNN := hide hn
  have HV := hide (And.intro hkd (And.intro hdm hv))
  clear h hnc hk hp hn hkd hdm hv
  go_enter Try.func52, Try.ntmps52
  go_wp2_with fail
  refine HD.out.mono ?_
  rintro e w1 ⟨A1, n1, c1, rfl, hE1, hnc1, hnn1, hb1⟩
  have hn16 : n1 ≤ 65537 := by have := HNN.out; omega
  have HC := hide (ref_place A1 B n1 c1 k d (delR rows p) p w1 hE1 HK.out (HP.out.below hb1) hk40 (by omega))
  have hl := hE1.len
  have hpl := plR_le (delR rows p) p
  rw [hl] at hpl
  have hput : putR rows ⟨B, k, d, p, v⟩ = (delR rows p).take (plR (delR rows p) p) ++ [⟨B, k, d, p, v⟩] ++ (delR rows p).drop (plR (delR rows p) p) := rfl
  have HPUT := hide hput
  have HE1 := hide hE1
  generalize delR rows p = dr at *
  generalize plR dr p = i at *
  generalize hasR dr p = hb at *
  have r1 := fun W => run_slice_to (P := Try.prog) (w := W) Try.underlying26 (sz := 2) Try.sizeOf63 A1 n1 c1 i (by omega)
  have r2 := fun W => run_slice_lo (P := Try.prog) (w := W) Try.underlying26 (sz := 2) Try.sizeOf63 A1 n1 c1 i (by omega)
  have b2 := (Below.refl w1.heap.size w1).alloc (Nat.le_refl _) (.cells #[] 63)
  have hE2 := hE1.below b2
  have hT := hE2.1.take_ (i := i) (by omega)
  have hC := hE1.1.cut (i := i) (c := c1) (by omega) hnc1
  rw [flat_take] at hT
  rw [flat_drop] at hC
  have HT := hide hT
  have HCU := hide hC
  have HL := hide (And.intro hpl (And.intro hl hn16))
  have HNC := hide hnc1
  have HNI := hide hnn1
  clear hE1 hl hpl hput hE2 hT hC hnc1 hnn1
  go_wp2_with fail
  refine HC.out.mono ?_
  rintro e w2 ⟨rfl, rfl⟩
  go_wp2_with (first
    | (at_builtin
       refine app_b _ rfl (.tmp 19) (.tmp 22) _ rfl w1.heap.size 63 _ 2 32 Try.underlying26 info_e rfl (by omega) _ 0 [] rfl (own_empty _ _ _) A1 i c1 ((dr.take i).flatMap entv) rfl w1 b2 (Nat.le_refl _) HT.out ?h2 (by have := HL.out; unfold maxLen; omega) (by have := HL.out; omega) ?_
       case h2 => exact one_ents _
       intro v3 w3 ho3 hb3 _
       have HB3 := hide hb3
       clear hb3)
    | (at_builtin
       refine app_b _ rfl (.tmp 23) (.tmp 27) _ rfl w1.heap.size 63 _ 2 32 Try.underlying26 info_e rfl (by omega) _ (0 + i) _ rfl (ho3.alloc _) (some ⟨w3.heap.size, 0, none⟩) 1 1 [.slice B k d, .int .u64 (v : Int)] rfl w1 (below_alloc HB3.out (Nat.le_refl _) _) (Nat.le_refl _) (Rw.new1 w3 63 #[.slice B k d, .int .u64 (v : Int)] (sz := 2) rfl) ?h2 (by have := HL.out; unfold maxLen; omega) (by have := HL.out; omega) ?_
       case h2 => exact one_ents [⟨B, k, d, p, v⟩]
       intro v4 w4 ho4 hb4 _
       have HB4 := hide hb4
       have HC4 := hide (HCU.out.below hb4)
       clear hb4 ho3)
    | (at_builtin
       refine app_b _ rfl (.tmp 29) (.tmp 32) _ rfl w1.heap.size 63 _ 2 32 Try.underlying26 info_e rfl (by omega) _ (0 + i + 1) _ rfl ho4 (cutA A1 c1 2 i) (n1 - i) (c1 - i) ((dr.drop i).flatMap entv) rfl w1 HB4.out (Nat.le_refl _) HC4.out ?h2 (by have := HL.out; unfold maxLen; omega) (by have := HL.out; omega) ?_
       case h2 => exact one_ents _
       intro v5 w5 ho5 hb5 _
       obtain ⟨A5, c5, rfl, hn5, hR5⟩ := Rw.of_own ho5
       simp only [Nat.zero_add] at hn5 hR5
       have HB5 := hide hb5
       have hR := hide hR5
       clear ho5 hb5 hR5 ho4)
    | fail)
  go_ret
  obtain ⟨hlt, hl, hn⟩ := HL.out
  have hbt := below_then hb1 HB5.out
  refine ⟨A5, i + 1 + (n1 - i), c5, rfl, ⟨?_, fun r hr => ?_⟩, hn5, by have := HNI.out; omega, hbt⟩
  · rw [HPUT.out, List.flatMap_append, List.flatMap_append]
    have := hR.out
    rw [List.nil_append] at this
    simpa [entv] using this
  · rw [HPUT.out] at hr
    rcases List.mem_append.1 hr with hr | hr
    · rcases List.mem_append.1 hr with hr | hr
      · exact (HE1.out.2 r (List.mem_of_mem_take hr)).below HB5.out
      · rw [List.mem_singleton] at hr
        subst hr
        exact ⟨HP.out.below hbt, HV.out.1, HV.out.2.1, HV.out.2.2⟩
    · exact (HE1.out.2 r (List.mem_of_mem_drop hr)).below HB5.out
end
section
open Go.RowKit
/-- Sorted rows of k coordinates. -/
def SortR (k : Nat) (rows : List ER) : Prop := (∀ r ∈ rows, Zp k r.p) ∧ rows.Pairwise fun a b => Zlt a.p b.p
theorem SortR.nil (k : Nat) : SortR k [] := ⟨fun r h => by (cases h), List.Pairwise.nil⟩
theorem cmp_ge {k : Nat} {p q : List Nat} (hp : Zp k p) (hq : Zp k q) : 0 ≤ cmp p q ↔ p = q ∨ Zlt q p := by
  rcases cmp_cases p q with h | h | h
  · rw [h]
    constructor
    · intro h'; omega
    · rintro (h' | h')
      · rw [(cmp_eq hp hq).2 h'] at h; omega
      · rw [(cmp_gt hp hq).2 h'] at h; omega
  · exact ⟨fun _ => .inl ((cmp_eq hp hq).1 h), fun _ => by omega⟩
  · exact ⟨fun _ => .inr ((cmp_gt hp hq).1 h), fun _ => by omega⟩
theorem cmp_neg {k : Nat} {p q : List Nat} (hp : Zp k p) (hq : Zp k q) (h : ¬ 0 ≤ cmp p q) : Zlt p q := by
  rcases cmp_cases p q with h' | h' | h'
  · exact (cmp_lt hp hq).1 h'
  · omega
  · omega
theorem pl_take {k : Nat} {rows : List ER} {p : List Nat} (hS : SortR k rows) (hp : Zp k p) : ∀ r ∈ rows.take (plR rows p), Zlt r.p p := by
  intro r hr
  obtain ⟨i, hi⟩ := List.getElem?_of_mem hr
  have hil := (List.getElem?_eq_some_iff.1 hi).1
  have hiv := (List.getElem?_eq_some_iff.1 hi).2
  rw [List.length_take] at hil
  have hlt : i < plR rows p := by omega
  have := List.not_of_lt_findIdx (p := notAhead p) (xs := rows) hlt
  rw [List.getElem_take] at hiv
  rw [hiv] at this
  unfold notAhead at this
  exact cmp_neg (hS.1 r (List.mem_of_mem_take hr)) hp (by simpa using this)
theorem pl_at {k : Nat} {rows : List ER} {p : List Nat} (hS : SortR k rows) (hp : Zp k p) {r : ER} (h : rows[plR rows p]? = some r) : r.p = p ∨ Zlt p r.p := by
  have hl := (List.getElem?_eq_some_iff.1 h).1
  have hv := (List.getElem?_eq_some_iff.1 h).2
  have := List.findIdx_getElem (p := notAhead p) (xs := rows) (w := hl)
  have hv' : rows[List.findIdx (notAhead p) rows]'hl = r := hv
  rw [hv'] at this
  unfold notAhead at this
  exact (cmp_ge (hS.1 r (List.mem_of_getElem? h)) hp).1 (by simpa using this)
theorem pl_drop {k : Nat} {rows : List ER} {p : List Nat} (hS : SortR k rows) (hp : Zp k p) : ∀ r ∈ rows.drop (plR rows p + 1), Zlt p r.p := by
  intro r hr
  rcases Nat.lt_or_ge (plR rows p) rows.length with hl | hl
  · have h0 : rows[plR rows p]? = some rows[plR rows p] := List.getElem?_eq_getElem hl
    have hd : rows.drop (plR rows p) = rows[plR rows p] :: rows.drop (plR rows p + 1) := List.drop_eq_getElem_cons hl
    have hpw : (rows.drop (plR rows p)).Pairwise fun a b => Zlt a.p b.p := hS.2.sublist (List.drop_sublist _ _)
    rw [hd] at hpw
    have h1 := (List.pairwise_cons.1 hpw).1 r hr
    rcases pl_at hS hp h0 with h2 | h2
    · rw [← h2]; exact h1
    · exact zlt_trans h2 h1
  · rw [List.drop_of_length_le (by omega)] at hr
    cases hr
theorem has_spec {k : Nat} {rows : List ER} {p : List Nat} (hS : SortR k rows) (hp : Zp k p) : (hasR rows p = true ↔ ∃ r, rows[plR rows p]? = some r ∧ r.p = p) ∧ (hasR rows p = true ↔ ∃ r ∈ rows, r.p = p) := by
  have h1 : hasR rows p = true ↔ ∃ r, rows[plR rows p]? = some r ∧ r.p = p := by
    unfold hasR
    cases h : rows[plR rows p]? with
    | none => simp
    | some r =>
      simp only [decide_eq_true_eq, Option.some.injEq, exists_eq_left']
      exact cmp_eq (hS.1 r (List.mem_of_getElem? h)) hp
  refine ⟨h1, h1.trans ⟨fun ⟨r, hr, he⟩ => ⟨r, List.mem_of_getElem? hr, he⟩, fun ⟨r, hr, he⟩ => ?_⟩⟩
  rw [← List.take_append_drop (plR rows p) rows] at hr
  rcases List.mem_append.1 hr with hr | hr
  · have := pl_take hS hp r hr
    rw [he] at this
    exact absurd this (zlt_irrefl p)
  · rcases Nat.lt_or_ge (plR rows p) rows.length with hl | hl
    · rw [List.drop_eq_getElem_cons hl] at hr
      rcases List.mem_cons.1 hr with hr | hr
      · exact ⟨r, by rw [hr]; exact List.getElem?_eq_getElem hl, he⟩
      · have := pl_drop hS hp r hr
        rw [he] at this
        exact absurd this (zlt_irrefl p)
    · rw [List.drop_of_length_le hl] at hr
      cases hr
theorem del_spec {k : Nat} {rows : List ER} {p : List Nat} (hS : SortR k rows) (hp : Zp k p) : SortR k (delR rows p) ∧ ∀ r, r ∈ delR rows p ↔ r ∈ rows ∧ r.p ≠ p := by
  obtain ⟨h1, h2⟩ := has_spec hS hp
  unfold delR
  cases hh : hasR rows p with
  | false =>
    rw [if_neg (by simp)]
    refine ⟨hS, fun r => ⟨fun hr => ⟨hr, fun he => ?_⟩, fun hr => hr.1⟩⟩
    have := h2.2 ⟨r, hr, he⟩
    rw [hh] at this
    cases this
  | true =>
    rw [if_pos rfl]
    obtain ⟨r0, hr0, he0⟩ := h1.1 hh
    have hl := (List.getElem?_eq_some_iff.1 hr0).1
    have hv := (List.getElem?_eq_some_iff.1 hr0).2
    have hsplit : rows = rows.take (plR rows p) ++ (r0 :: rows.drop (plR rows p + 1)) := by
      conv => lhs; rw [← List.take_append_drop (plR rows p) rows, List.drop_eq_getElem_cons hl, hv]
    have hT := pl_take hS hp
    have hD := pl_drop hS hp
    have hmem : ∀ r, r ∈ rows ↔ r ∈ rows.take (plR rows p) ∨ r = r0 ∨ r ∈ rows.drop (plR rows p + 1) := fun r => by
      conv => lhs; rw [hsplit]
      rw [List.mem_append, List.mem_cons]
    refine ⟨⟨fun r hr => ?_, ?_⟩, fun r => ?_⟩
    · rcases List.mem_append.1 hr with hr | hr
      · exact hS.1 r (List.mem_of_mem_take hr)
      · exact hS.1 r (List.mem_of_mem_drop hr)
    · rw [List.pairwise_append]
      refine ⟨hS.2.sublist (List.take_sublist _ _), hS.2.sublist (List.drop_sublist _ _), fun a ha b hb => zlt_trans (hT a ha) (hD b hb)⟩
    · rw [hmem, List.mem_append]
      constructor
      · rintro (h | h)
        · exact ⟨.inl h, fun he => zlt_irrefl p (by have := hT r h; rwa [he] at this)⟩
        · exact ⟨.inr (.inr h), fun he => zlt_irrefl p (by have := hD r h; rwa [he] at this)⟩
      · rintro ⟨h | h | h, hne⟩
        · exact .inl h
        · rw [h] at hne; exact absurd he0 hne
        · exact .inr h
theorem put_spec {k : Nat} {rows : List ER} {q : ER} (hS : SortR k rows) (hq : Zp k q.p) : SortR k (putR rows q) ∧ ∀ r, r ∈ putR rows q ↔ r = q ∨ (r ∈ rows ∧ r.p ≠ q.p) := by
  obtain ⟨hS1, hm⟩ := del_spec hS hq
  have hT := pl_take hS1 hq
  have hD : ∀ r ∈ (delR rows q.p).drop (plR (delR rows q.p) q.p), Zlt q.p r.p := by
    intro r hr
    rcases Nat.lt_or_ge (plR (delR rows q.p) q.p) (delR rows q.p).length with hl | hl
    · rw [List.drop_eq_getElem_cons hl] at hr
      rcases List.mem_cons.1 hr with hr | hr
      · rcases pl_at hS1 hq (List.getElem?_eq_getElem hl) with h1 | h1
        · have := (hm _).1 (List.getElem_mem hl)
          exact absurd h1 this.2
        · rw [hr]; exact h1
      · exact pl_drop hS1 hq r hr
    · rw [List.drop_of_length_le hl] at hr
      cases hr
  unfold putR
  refine ⟨⟨fun r hr => ?_, ?_⟩, fun r => ?_⟩
  · rcases List.mem_append.1 hr with hr | hr
    · rcases List.mem_append.1 hr with hr | hr
      · exact hS1.1 r (List.mem_of_mem_take hr)
      · rw [List.mem_singleton] at hr
        rw [hr]; exact hq
    · exact hS1.1 r (List.mem_of_mem_drop hr)
  · rw [List.pairwise_append, List.pairwise_append]
    refine ⟨⟨hS1.2.sublist (List.take_sublist _ _), List.pairwise_singleton _ _, fun a ha b hb => ?_⟩, hS1.2.sublist (List.drop_sublist _ _), fun a ha b hb => ?_⟩
    · rw [List.mem_singleton] at hb
      rw [hb]; exact hT a ha
    · rcases List.mem_append.1 ha with ha | ha
      · exact zlt_trans (hT a ha) (hD b hb)
      · rw [List.mem_singleton] at ha
        rw [ha]; exact hD b hb
  · rw [List.mem_append, List.mem_append, List.mem_singleton, ← hm r]
    conv => rhs; rhs; rw [← List.take_append_drop (plR (delR rows q.p) q.p) (delR rows q.p)]
    rw [List.mem_append]
    constructor
    · rintro ((h | h) | h)
      · exact .inr (.inl h)
      · exact .inl h
      · exact .inr (.inr h)
    · rintro (h | h | h)
      · exact .inl (.inr h)
      · exact .inl (.inl h)
      · exact .inr h
theorem SortR.ents {k : Nat} {rows : List ER} (h : SortR k rows) : Zsorted (ents rows) := by
  unfold Zsorted Go.Proofs.Ytfkpanpageeklaa.ents
  rw [List.pairwise_map]
  exact h.2
/-- Entries put one after the other. -/
def allR (k : Nat) (rows : List ER) : List ER := rows.foldl (fun acc r => if r.n = k then putR acc r else acc) []
theorem allR_snoc (k : Nat) (rows : List ER) (r : ER) : allR k (rows ++ [r]) = if r.n = k then putR (allR k rows) r else allR k rows := by
  unfold allR
  rw [List.foldl_append]; rfl
theorem allR_sub (k : Nat) (rows : List ER) : ∀ r ∈ allR k rows, r ∈ rows ∧ r.n = k := by
  suffices h : ∀ (l acc : List ER), (∀ r ∈ acc, r ∈ rows ∧ r.n = k) → (∀ r ∈ l, r ∈ rows) → ∀ r ∈ l.foldl (fun acc r => if r.n = k then putR acc r else acc) acc, r ∈ rows ∧ r.n = k from
    h rows [] (fun r h => by cases h) (fun r h => h)
  intro l
  induction l with
  | nil => intro acc h _; exact h
  | cons x l ih =>
    intro acc h hl
    rw [List.foldl_cons]
    refine ih _ ?_ fun r hr => hl r (List.mem_cons_of_mem _ hr)
    split
    · rename_i hx
      intro r hr
      rcases mem_putR hr with rfl | hr
      · exact ⟨hl _ List.mem_cons_self, hx⟩
      · exact h r hr
    · exact h
theorem delR_len (rows : List ER) (p : List Nat) : (delR rows p).length ≤ rows.length := by
  unfold delR
  split
  · simp; omega
  · exact Nat.le_refl _
theorem putR_len (rows : List ER) (r : ER) : (putR rows r).length ≤ rows.length + 1 := by
  have := delR_len rows r.p
  unfold putR
  simp; omega
theorem allR_len (k : Nat) (rows : List ER) : (allR k rows).length ≤ rows.length := by
  suffices h : ∀ (l acc : List ER), (l.foldl (fun acc r => if r.n = k then putR acc r else acc) acc).length ≤ acc.length + l.length from by
    have := h rows []
    simpa [allR] using this
  intro l
  induction l with
  | nil => intro acc; simp
  | cons x l ih =>
    intro acc
    rw [List.foldl_cons]
    refine Nat.le_trans (ih _) ?_
    split
    · have := putR_len acc x; simp; omega
    · simp
end
section
open Go.RowKit
theorem run_slice_mid {P : Program} {t e sz : Nat} (ht : P.underlying t = some (.slice e)) (hz : ∀ w, (sizeOf e).run P w = .ok sz w) (A : Option Addr) (n c i j : Nat) (hij : i ≤ j) (hj : j ≤ c) (w : World) :
    (Instr.slice t (.slice A n c) (some (.int .i64 (i : Int))) (some (.int .i64 (j : Int))) none).run P w = .ok (.slice (cutA A c sz i) (j - i) (c - i)) w := by
  have h0 : (0 : Int) ≤ (i : Int) := by omega
  have h1 : (i : Int) ≤ (j : Int) := by omega
  have h2 : (0 : Int) ≤ (j : Int) := by omega
  have h3 : (j : Int) ≤ (c : Int) := by omega
  simp [Instr.slice, run_underlying ht, Instr.sliceBounds, Instr.sliceBound, asIntOf, h0, h1, h2, h3, hz, cutA]
  rw [if_pos hj, if_pos hij]
theorem calls_args {P : Program} {f : FuncId} {args args' : Array Value} {w : World} {Q : Ending → World → Prop} (h : Calls P f args w Q) (e : args = args') : Calls P f args' w Q := e ▸ h
section
variable {α : Type}
def fl (G : List (List α)) (t : Nat) : Nat := (G.take t).flatten.length
theorem fl_zero (G : List (List α)) : fl G 0 = 0 := by simp [fl]
theorem seg_split {G : List (List α)} {t : Nat} {g : List α} (h : G[t]? = some g) : G = G.take t ++ g :: G.drop (t + 1) := by
  have ht := (List.getElem?_eq_some_iff.1 h).1
  have hg := (List.getElem?_eq_some_iff.1 h).2
  conv => lhs; rw [← List.take_append_drop t G, List.drop_eq_getElem_cons ht, hg]
theorem fl_succ {G : List (List α)} {t : Nat} {g : List α} (h : G[t]? = some g) : fl G (t + 1) = fl G t + g.length := by
  unfold fl
  rw [List.take_add_one, h]
  simp
theorem fl_all (G : List (List α)) {t : Nat} (h : G.length ≤ t) : fl G t = G.flatten.length := by
  unfold fl
  rw [List.take_of_length_le h]
theorem fl_get {G : List (List α)} {t : Nat} {g : List α} (h : G[t]? = some g) {d : Nat} (hd : d < g.length) : G.flatten[fl G t + d]? = g[d]? := by
  unfold fl
  conv => lhs; rw [seg_split h]
  rw [List.flatten_append, List.flatten_cons]
  rw [List.take_left' (by have := (List.getElem?_eq_some_iff.1 h).1; simp; omega)]
  rw [List.getElem?_append_right (by omega), Nat.add_sub_cancel_left, List.getElem?_append_left hd]
theorem fl_le {G : List (List α)} {t : Nat} {g : List α} (h : G[t]? = some g) : fl G t + g.length ≤ G.flatten.length := by
  have : G.flatten.length = (G.take t).flatten.length + (g.length + (G.drop (t + 1)).flatten.length) := by
    conv => lhs; rw [seg_split h]
    simp
  unfold fl
  omega
theorem fl_seg {G : List (List α)} {t : Nat} {g : List α} (h : G[t]? = some g) : (G.flatten.drop (fl G t)).take g.length = g := by
  have e : G.flatten = (G.take t).flatten ++ (g ++ (G.drop (t + 1)).flatten) := by
    conv => lhs; rw [seg_split h]
    rw [List.flatten_append, List.flatten_cons]
  unfold fl
  rw [e, List.drop_left' rfl, List.take_left' rfl]
end
/-- The slice of one kid's entries. -/
def segv (A : Option Addr) (c : Nat) (G : List (List ER)) (t : Nat) : Value := .slice (cutA A c 2 (fl G t)) ((G[t]?.getD []).length) (c - fl G t)
def segvs (A : Option Addr) (c : Nat) (G : List (List ER)) (m : Nat) : List Value := (List.range m).map (segv A c G)
theorem segvs_succ (A : Option Addr) (c : Nat) (G : List (List ER)) (m : Nat) : segvs A c G (m + 1) = segvs A c G m ++ [segv A c G m] := by
  unfold segvs
  rw [List.range_succ, List.map_append]
  rfl
/-- A kid's entries in memory. -/
theorem EntsAt.seg {w : World} {A : Option Addr} {n c t : Nat} {G : List (List ER)} {g : List ER} (h : EntsAt w A n G.flatten) (hnc : n ≤ c) (hg : G[t]? = some g) :
    segv A c G t = .slice (cutA A c 2 (fl G t)) g.length (c - fl G t) ∧ EntsAt w (cutA A c 2 (fl G t)) g.length g ∧ g.length ≤ c - fl G t := by
  have hl := h.len
  have hle := fl_le hg
  refine ⟨by unfold segv; rw [hg]; rfl, ⟨?_, fun r hr => h.2 r ?_⟩, by omega⟩
  · have h1 := h.1.cut (i := fl G t) (c := c) (by omega) hnc
    have h2 := h1.take_ (i := g.length) (by omega)
    rw [flat_drop, flat_take, fl_seg hg] at h2
    exact h2
  · exact List.mem_flatten.2 ⟨g, List.mem_of_getElem? hg, hr⟩
theorem info_es : (Try.prog.info? 26).map (fun i => (i.zero, i.size, i.bytes)) = some (some (.slice none 0 0), 1, 24) := by kernel_rfl
/-- These are the kids' lists at a level. -/
structure Parts (G : List (List ER)) (lv : Nat) : Prop where
  ne : ∀ g ∈ G, g ≠ []
  same : ∀ g ∈ G, ∀ r ∈ g, ∀ s ∈ g, addrOf r.p lv = addrOf s.p lv
  diff : G.Pairwise fun g h => ∀ r ∈ g, ∀ s ∈ h, addrOf r.p lv ≠ addrOf s.p lv
end
end Go.Proofs.Ytfkpanpageeklaa
