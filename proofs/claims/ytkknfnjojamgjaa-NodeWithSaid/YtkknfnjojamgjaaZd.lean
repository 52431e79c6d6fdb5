/- zbits.above, Cut. -/
import Derived.Test.YtkknfnjojamgjaaZc
import Derived.StillTailTactics
set_option linter.unusedSimpArgs false
set_option linter.unusedVariables false
namespace Go.Proofs.Ytkknfnjojamgjaa
open Go.RowKit
def aboveN (m : Nat) : Nat := 18446744073709551615 * 2 ^ m % 18446744073709551616
def cutc (m c : Nat) : Nat := c / 2 ^ m * 2 ^ m
theorem and_above (m c : Nat) (hc : c < 2 ^ 64) : c &&& aboveN m = cutc m c := by
  apply Nat.eq_of_testBit_eq
  intro i
  unfold aboveN cutc
  rw [Nat.testBit_and, show (18446744073709551616 : Nat) = 2 ^ 64 by rfl, show (18446744073709551615 : Nat) = 2 ^ 64 - 1 by rfl, Nat.testBit_mod_two_pow, Nat.mul_comm (2 ^ 64 - 1), Nat.testBit_two_pow_mul, Nat.testBit_two_pow_sub_one, Nat.mul_comm, Nat.testBit_two_pow_mul, Nat.testBit_div_two_pow]
  by_cases h1 : m ≤ i
  · rw [show i - m + m = i by omega]
    by_cases h2 : i < 64
    · have : i - m < 64 := by omega
      simp [h1, h2, this]
    · have : c.testBit i = false := Nat.testBit_lt_two_pow (Nat.lt_of_lt_of_le hc (pow_len_le (by omega)))
      simp [this]
  · simp [h1]
theorem cutc_lt (m c : Nat) (hc : c < 2 ^ 64) : cutc m c < 2 ^ 64 := Nat.lt_of_le_of_lt (Nat.div_mul_le_self _ _) hc
def cut (m : Nat) (p : List Nat) : List Nat := p.map (cutc m)
set_option maxHeartbeats 400000 in
theorem zb_above (m : Nat) (h2 : m ≤ 64) (w : World) :
    Calls Try.prog 135 #[.int .i64 ((m : Int) - 1)] w fun e w' => e = .returned (.int .u64 (aboveN m : Nat)) ∧ w = w' := by
  by_cases h3 : m = 64
  · subst h3
    go_enter Try.func135, Try.ntmps135
    go_wp2
    go_ret
    exact ⟨rfl, rfl⟩
  · have e1 : (((m : Int) - 1) == 63) = false := by simp; omega
    
    go_enter Try.func135, Try.ntmps135
    go_wp2
    go_ret
    exact ⟨retI (by unfold aboveN; simp [IntKind.wrap, IntKind.signed, IntKind.bits]), rfl⟩
theorem u64s_set (p : List Nat) (m k z : Nat) (hz : p[k]? = some z) : (u64s (cut m (p.take k) ++ p.drop k)).set k (.int .u64 (cutc m z : Nat)) = u64s (cut m (p.take (k + 1)) ++ p.drop (k + 1)) := by
  obtain ⟨hk, rfl⟩ := List.getElem?_eq_some_iff.1 hz
  rw [List.take_succ_eq_append_getElem hk, List.drop_eq_getElem_cons hk]
  unfold u64s cut
  simp only [List.map_append, List.map_cons, List.map_nil, List.append_assoc, List.singleton_append]
  rw [List.set_append_right _ _ (by simp; omega)]
  simp [Nat.min_eq_left (Nat.le_of_lt hk)]
theorem u64s_at (p : List Nat) (m k z : Nat) (hz : p[k]? = some z) : (u64s (cut m (p.take k) ++ p.drop k))[k]? = some (.int .u64 (z : Int)) := by
  obtain ⟨hk, rfl⟩ := List.getElem?_eq_some_iff.1 hz
  unfold u64s cut
  rw [List.getElem?_map, List.getElem?_append_right (by simp; omega)]
  simp [Nat.min_eq_left (Nat.le_of_lt hk), hk]
set_option maxHeartbeats 400000 in
set_option maxRecDepth 100000 in
theorem zb_cut (A : Option Addr) (n c : Nat) (p : List Nat) (m : Nat) (w : World) (hp : Pt w A n p) (h1 : 1 ≤ n) (h2 : n ≤ 16) (hm : m ≤ 64) :
    Calls Try.prog 96 #[.slice A n c, .int .i64 ((m : Int) - 1)] w fun e w' => ∃ v, e = .returned (.tuple #[v, .int .i64 0]) ∧ w'.ownsRow w.heap.size 28 1 v n (u64s (cut m p)) ∧ Below w.heap.size w w' := by
  have e1 : rightB n = true := by simp [rightB, h1, h2]
  have hl := hp.len
  have HL := hide hl
  clear hl
  rcases Nat.lt_or_ge 0 m with hm0 | hm0
  · have e2 : (((m : Int) - 1) != -1) = true := by simp; omega
    have e3 : levelB ((m : Int) - 1) = true := by simp [levelB]; omega
    go_enter Try.func96, Try.ntmps96
    go_wp2_with (first | (go_at_call 106; refine (zb_right _ _ _ _).mono ?_; rintro e w' ⟨rfl, rfl⟩) | (go_at_call 134; refine (zb_level _ _).mono ?_; rintro e w' ⟨rfl, rfl⟩) | (go_at_call 103; refine (clone_u64 _ _ _ p _ hp (by omega)).mono ?_; rintro e w1 ⟨v, rfl, ho, hb⟩; obtain ⟨g, cap, hv, hg1, hg2⟩ := ho.form (by omega); subst hv))
    go_loopw [24] (fun i wr => ∃ (k : Nat), k ≤ n ∧ i = .int .i64 k ∧ wr.ownsRow w.heap.size 28 1 (.slice (some ⟨g, 0, none⟩) n cap) n (u64s (cut m (p.take k) ++ p.drop k)) ∧ Below w.heap.size w wr) (fun i _ => n - (intOf i).toNat)
    case atStart => exact ⟨0, by omega, rfl, by simpa [cut] using ho, hb⟩
    case round =>
      obtain ⟨k, hk, rfl, hoR, hbR⟩ := hrel
      clear ho hb
      by_cases hlt : k < n
      · obtain ⟨z, hz, hzl⟩ := hp.z_ hlt
        have hc := (hoR.cellAt k (by omega)).trans (u64s_at p m k z hz)
        have hf := hoR.frozenAt k
        have hst := hide (hoR.stored k (.int .u64 (cutc m z : Nat)))
        have hab := and_above m z hzl
        have HZ := hide hz
        clear hz hoR
        go_wp2
        go_still_tail 8, (by kernel_rfl)
        still_call (still_of (zb_above m hm _))
        repeat still_step
        refine wpStill_nil ?_
        change wpList _ _ _ _ _ wr.drew
        go_wp2
        go_roundw
        case rel =>
          refine ⟨k + 1, by omega, by go_num, ?_, ?_⟩
          · rw [u64_and_nat z (aboveN m) hzl (Nat.mod_lt _ (by omega)), hab]
            have := hst.out.1
            rw [u64s_set p m k z HZ.out] at this
            exact this.drew
          · exact (hbR.setCell (p := ⟨g, k, none⟩) hg1 _).drew
        case measure => simp [intOf]; omega
      · have hk' : k = n := by omega
        subst hk'
        go_wp2
        go_ret2
        refine ⟨_, rfl, ?_, hbR⟩
        have hl := HL.out
        rw [List.take_of_length_le (by omega), List.drop_of_length_le (by omega), List.append_nil] at hoR
        exact hoR
  · have e2 : (((m : Int) - 1) != -1) = false := by simp; omega
    go_enter Try.func96, Try.ntmps96
    go_wp2_with (first | (go_at_call 106; refine (zb_right _ _ _ _).mono ?_; rintro e w' ⟨rfl, rfl⟩) | (go_at_call 134; refine (zb_level _ _).mono ?_; rintro e w' ⟨rfl, rfl⟩) | (go_at_call 103; refine (clone_u64 _ _ _ p _ hp (by omega)).mono ?_; rintro e w1 ⟨v, rfl, ho, hb⟩; obtain ⟨g, cap, hv, hg1, hg2⟩ := ho.form (by omega); subst hv))
    go_loopw [24] (fun i wr => ∃ (k : Nat), k ≤ n ∧ i = .int .i64 k ∧ wr.ownsRow w.heap.size 28 1 (.slice (some ⟨g, 0, none⟩) n cap) n (u64s (cut m (p.take k) ++ p.drop k)) ∧ Below w.heap.size w wr) (fun i _ => n - (intOf i).toNat)
    case atStart => exact ⟨0, by omega, rfl, by simpa [cut] using ho, hb⟩
    case round =>
      obtain ⟨k, hk, rfl, hoR, hbR⟩ := hrel
      clear ho hb
      by_cases hlt : k < n
      · obtain ⟨z, hz, hzl⟩ := hp.z_ hlt
        have hc := (hoR.cellAt k (by omega)).trans (u64s_at p m k z hz)
        have hf := hoR.frozenAt k
        have hst := hide (hoR.stored k (.int .u64 (cutc m z : Nat)))
        have hab := and_above m z hzl
        have HZ := hide hz
        clear hz hoR
        go_wp2
        go_still_tail 8, (by kernel_rfl)
        still_call (still_of (zb_above m hm _))
        repeat still_step
        refine wpStill_nil ?_
        change wpList _ _ _ _ _ wr.drew
        go_wp2
        go_roundw
        case rel =>
          refine ⟨k + 1, by omega, by go_num, ?_, ?_⟩
          · rw [u64_and_nat z (aboveN m) hzl (Nat.mod_lt _ (by omega)), hab]
            have := hst.out.1
            rw [u64s_set p m k z HZ.out] at this
            exact this.drew
          · exact (hbR.setCell (p := ⟨g, k, none⟩) hg1 _).drew
        case measure => simp [intOf]; omega
      · have hk' : k = n := by omega
        subst hk'
        go_wp2
        go_ret2
        refine ⟨_, rfl, ?_, hbR⟩
        have hl := HL.out
        rw [List.take_of_length_le (by omega), List.drop_of_length_le (by omega), List.append_nil] at hoR
        exact hoR
end Go.Proofs.Ytkknfnjojamgjaa
