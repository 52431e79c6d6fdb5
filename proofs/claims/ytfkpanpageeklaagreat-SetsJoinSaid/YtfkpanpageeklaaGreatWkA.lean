/- walk: Cmp, the entries that are compared, All. -/
import Derived.Test.YtfkpanpageeklaaGreatPlW
import Derived.Test.YtfkpanpageeklaaGreatKe
set_option linter.unusedSimpArgs false
set_option linter.unusedVariables false
namespace Go.Proofs.YtfkpanpageeklaaGreat
open Go.RowKit
theorem xor_shr (z z' a : Nat) : (z ^^^ z') / 2 ^ a = 0 ↔ z / 2 ^ a = z' / 2 ^ a := by
  rw [← Nat.shiftRight_eq_div_pow, ← Nat.shiftRight_eq_div_pow, ← Nat.shiftRight_eq_div_pow, Nat.shiftRight_xor_distrib]
  generalize z >>> a = x
  generalize z' >>> a = y
  constructor
  · intro h
    refine Nat.eq_of_testBit_eq fun i => ?_
    have h1 := congrArg (fun n => Nat.testBit n i) h
    simp only [Nat.testBit_xor, Nat.zero_testBit] at h1
    revert h1
    cases x.testBit i <;> cases y.testBit i <;> simp
  · rintro rfl
    exact Nat.xor_self x
theorem div_bit (z a : Nat) : z / 2 ^ a = 2 * (z / 2 ^ (a + 1)) + bit z a := by
  unfold bit
  rw [Nat.pow_succ, ← Nat.div_div_eq_div_mul]
  omega
set_option maxHeartbeats 1000000 in
set_option maxRecDepth 100000 in
theorem zb_cmp (A B : Option Addr) (n c d : Nat) (p q : List Nat) (w : World) (hp : Pt w A n p) (hq : Pt w B n q) (h1 : 1 ≤ n) (h2 : n ≤ 16) :
    Calls Tryz.prog 115 #[.slice A n c, .slice B n d] w fun e w' => e = .returned (.tuple #[.int .i64 (cmp p q), .int .i64 0]) ∧ w = w' := by
  have hl : p.length = q.length := hp.len.trans hq.len.symm
  obtain ⟨g1, g2, g3, g4⟩ := part_spec p q hl hp.2.2 hq.2.2
  by_cases hneg : part p q < 0
  · have HP := hide (zb_part A B n c d p q w hp hq h1 h2)
    have HC := hide (show cmp p q = 0 by simp [cmp, hneg])
    have e1 : decide (part p q < 0) = true := by simpa using hneg
    clear g1 g2 g3 g4 hneg
    go_enter Tryz.func115, Tryz.ntmps115
    go_wp2_with fail
    refine HP.out.mono ?_
    rintro e w' ⟨rfl, rfl⟩
    go_wp2
    go_ret2
    exact ⟨by rw [HC.out]; rfl, rfl⟩
  · obtain ⟨a, ha⟩ := Int.eq_ofNat_of_zero_le (show 0 ≤ part p q by omega)
    have ha' : a < 64 := by omega
    have hd : decide ((a : Int) < 0) = false := by simp
    have HK := hide (fun (k z z' : Nat) (hz : p[k]? = some z) (hz' : q[k]? = some z') => cmp_step p q hl a ha k z z' hp.2.2 hq.2.2 hz hz')
    have HG := hide (g4 (by omega))
    rw [ha] at HG
    have hpart := zb_part A B n c d p q w hp hq h1 h2
    rw [ha] at hpart
    have HP := hide hpart
    clear g1 g2 g3 g4 hneg hpart ha
    go_enter Tryz.func115, Tryz.ntmps115
    go_wp2_with fail
    refine HP.out.mono ?_
    rintro e w' ⟨rfl, rfl⟩
    go_wp2
    go_loop [25] (fun i => ∃ (k : Nat), k ≤ n ∧ i = .int .i64 k ∧ addrOf (p.take k) a = addrOf (q.take k) a) (fun i => n - (intOf i).toNat)
    case atStart => exact ⟨0, by omega, rfl, rfl⟩
    case round =>
      obtain ⟨k, hk, rfl, hak⟩ := hrel
      have HA := hide hak
      clear hak
      by_cases hlt : k < n
      · obtain ⟨b, o, z, rfl, hb, hz, hzl, hc⟩ := hp.at_ hlt
        obtain ⟨b', o', z', rfl, hb', hz', hzl', hc'⟩ := hq.at_ hlt
        obtain ⟨s1, s2, s3⟩ := HK.out k z z' hz hz'
        have hx : bits .xor .u64 (z : Int) (z' : Int) = ((z ^^^ z' : Nat) : Int) := u64_xor_nat _ _ hzl hzl'
        have hxl := Nat.xor_lt_two_pow (n := 64) hzl hzl'
        have hsh := shr_nat (z ^^^ z') a
        have d1 := div_bit z a
        have d2 := div_bit z' a
        have S2 := hide (s2 HA.out)
        have S3 := hide (s3 HA.out)
        have hxs := xor_shr z z' a
        by_cases hbit : bit z a = bit z' a
        · have e2 : (((z ^^^ z' : Nat) : Int) / 2 ^ a == 0) = true := by
            rw [hsh, hxs.2 (by rw [d1, d2, s1, hbit])]
            rfl
          have HN := hide (S3.out hbit)
          clear s1 s2 s3 hz hz' hsh hxs d1 d2 hbit
          go_wp2
          go_round
          case rel => exact ⟨k + 1, by omega, by go_num, HN.out⟩
          case measure => simp [intOf]; omega
        · have e2 : (((z ^^^ z' : Nat) : Int) / 2 ^ a == 0) = false := by
            rw [hsh]
            have : (z ^^^ z') / 2 ^ a ≠ 0 := by
              rw [ne_eq, hxs, d1, d2, s1]
              omega
            simp only [beq_eq_false_iff_ne, ne_eq]
            omega
          have HN := hide (S2.out hbit)
          clear s1 s2 s3 hz hz' hsh hxs d1 d2 hbit
          by_cases hzz : z < z'
          · have e3 : decide (z < z') = true := by simpa using hzz
            have HC := hide (show cmp p q = -1 by rw [HN.out, if_pos hzz])
            clear hzz
            go_wp2
            go_ret2
            exact ⟨by rw [HC.out]; rfl, rfl⟩
          · have e3 : decide (z < z') = false := by simpa using hzz
            have HC := hide (show cmp p q = 1 by rw [HN.out, if_neg hzz])
            clear hzz
            go_wp2
            go_ret2
            exact ⟨by rw [HC.out]; rfl, rfl⟩
      · exfalso
        have h5 := HA.out
        rw [List.take_of_length_le (by have := hp.len; omega), List.take_of_length_le (by have := hq.len; omega)] at h5
        exact HG.out (by simpa using h5)
theorem same_pt {w : World} {A B : Option Addr} {n m c d : Nat} {p q : List Nat} (hA : Pt w A n p) (hB : Pt w B m q) (hn : n ≤ 70368744177664) (hm : m ≤ 70368744177664) :
    Calls Tryz.prog 51 #[.slice A n c, .slice B m d] w fun e w' => e = .returned (.bool (decide (p = q))) ∧ Below w.heap.size w w' := by
  have hu : ∀ (p : List Nat), u64s p = (p.map fun (x : Nat) => (x : Int)).map fun z => Value.int .u64 z := fun p => by unfold u64s; rw [List.map_map]; rfl
  have h1 := hA.2.1
  have h2 := hB.2.1
  rw [hu] at h1 h2
  have h := same_u64 A B n c m d _ _ w h1 h2 hn hm
  have hs : sameB (p.map fun (x : Nat) => (x : Int)) (q.map fun (x : Nat) => (x : Int)) = decide (p = q) := by
    unfold sameB
    have : ((p.map fun (x : Nat) => (x : Int)) = (q.map fun (x : Nat) => (x : Int))) ↔ p = q := List.map_inj_right fun x y h => Int.ofNat.inj h
    simp only [this]
  rw [hs] at h
  exact h
theorem ents_ne {ra rb : List ER} {j : Nat} {r s : ER} (hr : ra[j]? = some r) (hs : rb[j]? = some s) (h : r.e ≠ s.e) : decide (ents ra = ents rb) = false := by
  simp only [decide_eq_false_iff_not]
  intro e
  have h1 : (ents ra)[j]? = some r.e := by unfold ents; rw [List.getElem?_map, hr]; rfl
  have h2 : (ents rb)[j]? = some s.e := by unfold ents; rw [List.getElem?_map, hs]; rfl
  rw [e, h2] at h1
  injection h1 with h1
  exact h h1.symm
end Go.Proofs.YtfkpanpageeklaaGreat
