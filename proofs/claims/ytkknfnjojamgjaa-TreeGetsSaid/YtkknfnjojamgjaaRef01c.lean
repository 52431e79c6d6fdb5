/- pantileref01.Cut. -/
import Derived.Test.YtkknfnjojamgjaaRef01
import Derived.Test.YtkknfnjojamgjaaNdA
set_option linter.unusedSimpArgs false
set_option linter.unusedVariables false
namespace Go.Proofs.Ytkknfnjojamgjaa
open Go.RowKit
/-- The bits from m up, below j. -/
def part_cut (m j z : Nat) : Nat := cutc m (z % 2 ^ j)
theorem part_cut_low (m z : Nat) (hm : m ≤ 64) : part_cut m m z = 0 := by
  unfold part_cut cutc
  rw [Nat.div_eq_of_lt (Nat.mod_lt _ (Nat.two_pow_pos _)), Nat.zero_mul]
theorem part_cut_step {m j : Nat} (z : Nat) (h : m ≤ j) : part_cut m (j + 1) z = part_cut m j z + bit z j * 2 ^ j := by
  unfold part_cut cutc bit
  have h1 : z % 2 ^ (j + 1) = z % 2 ^ j + 2 ^ j * (z / 2 ^ j % 2) := by
    rw [Nat.pow_succ, Nat.mod_mul]
  rw [h1]
  obtain ⟨d, rfl⟩ : ∃ d, j = m + d := ⟨j - m, by omega⟩
  generalize z / 2 ^ (m + d) % 2 = t
  rw [Nat.pow_add]
  have h2 : (z % (2 ^ m * 2 ^ d) + 2 ^ m * 2 ^ d * t) / 2 ^ m = z % (2 ^ m * 2 ^ d) / 2 ^ m + 2 ^ d * t := by
    rw [Nat.mul_assoc, Nat.add_mul_div_left _ _ (Nat.two_pow_pos m)]
  rw [h2, Nat.add_mul]
  congr 1
  simp only [Nat.mul_comm, Nat.mul_left_comm, Nat.mul_assoc]
theorem part_cut_top {m z : Nat} (hz : z < 2 ^ 64) : part_cut m 64 z = cutc m z := by
  unfold part_cut
  rw [Nat.mod_eq_of_lt hz]
theorem part_cut_le (m j z : Nat) : part_cut m j z < 2 ^ j := by
  unfold part_cut cutc
  exact Nat.lt_of_le_of_lt (Nat.div_mul_le_self _ _) (Nat.mod_lt _ (Nat.two_pow_pos _))
set_option maxHeartbeats 2000000 in
set_option maxRecDepth 100000 in
theorem ref_cut (A : Option Addr) (n c m : Nat) (p : List Nat) (w : World) (hp : Pt w A n p) (hn : n ≤ 40) (hm : m ≤ 64) :
    Calls Try.prog 41 #[.slice A n c, .int .i64 ((m : Int) - 1)] w fun e w' => ∃ v, e = .returned v ∧ w'.ownsRow w.heap.size 28 1 v n (u64s (cut m p)) ∧ Below w.heap.size w w' := by
  have HP := hide hp
  have b1 := (Below.refl w.heap.size w).alloc (Nat.le_refl _) (.cells #[] 28)
  have HO1 := hide (own_empty w 28 1)
  have hw1 : wrap64 ((m : Int) - 1 + 1) = (m : Int) := by rw [wrap64_of (by omega)]; omega
  clear hp
  go_enter Try.func41, Try.ntmps41
  go_wp2
  go_loopw [5, 6] (fun x5 x6 wr => ∃ (j : Nat), x6 = .int .i64 j ∧ j ≤ n ∧ wr.ownsRow w.heap.size 28 1 x5 j (u64s (cut m (p.take j))) ∧ Below w.heap.size w wr) (fun _ x _ => n - (intOf x).toNat)
  case atStart => exact ⟨0, rfl, Nat.zero_le _, HO1.out, b1⟩
  case round =>
    obtain ⟨j, rfl, hj, hO, hb⟩ := hrel
    have HO := hide hO
    have HB := hide hb
    clear hO
    by_cases hjn : j < n
    · obtain ⟨b, o, z, rfl, hbl, hz, hzl, k0⟩ := (HP.out.below hb).at_ hjn
      have HZ := hide hz
      clear hz
      rename World => w1
      have hzz : (0 : Int) = (part_cut m m z : Nat) := by rw [part_cut_low m z hm]; rfl
      go_wp2
      go_loop [7, 8] (fun x7 x8 => ∃ (i : Nat), x8 = .int .i64 i ∧ m ≤ i ∧ i ≤ 64 ∧ x7 = .int .u64 (part_cut m i z : Nat)) (fun _ x => 64 - (intOf x).toNat)
      case atStart => exact ⟨m, by go_num, Nat.le_refl _, hm, by rw [part_cut_low m z hm]; rfl⟩
      case round =>
        obtain ⟨i, rfl, hmi, hi, rfl⟩ := hrel
        by_cases hi64 : i < 64
        · have hst := part_cut_step z hmi
          have hlt1 := part_cut_le m (i + 1) z
          have hlt2 : part_cut m (i + 1) z < 2 ^ 64 := Nat.lt_of_lt_of_le hlt1 (pow_len_le (by omega))
          have hbit := bit_lt z i
          have HST := hide hst
          clear hst hlt1
          go_wp2_with fail
          refine (ref_bit z i _ hzl hi64).mono ?_
          rintro e w2 ⟨rfl, rfl⟩
          go_wp2
          go_round
          case rel =>
            refine ⟨i + 1, by go_num, by omega, by omega, ?_⟩
            have hs := HST.out
            have e1 : ((bit z i : Nat) : Int) * 2 ^ i = ((bit z i * 2 ^ i : Nat) : Int) := by simp
            rw [e1]
            refine vI ?_
            rw [IntKind.wrap_u64, IntKind.wrap_u64]
            omega
          case measure => simp [intOf]; omega
        · obtain rfl : i = 64 := by omega
          rw [part_cut_top hzl]
          have hb2 := below_alloc HB.out (Nat.le_refl _) (.cells #[.int .u64 (cutc m z : Nat)] 28)
          go_wp2_with (first
            | (at_builtin
               refine app_b _ rfl (.tmp 33) (.tmp 35) _ rfl w.heap.size 28 _ 1 8 Try.underlying30 info_u rfl (by omega) _ j _ rfl (HO.out.alloc _) (some ⟨w1.heap.size, 0, none⟩) 1 1 [.int .u64 (cutc m z : Nat)] rfl w hb2 (Nat.le_refl _) (Rw.new1 w1 28 #[.int .u64 (cutc m z : Nat)] rfl) ?h2 (by unfold maxLen; omega) (by omega) ?_
               case h2 =>
                 intro u hu
                 rw [List.mem_singleton] at hu
                 rw [hu]
                 rfl
               intro v5 w5 ho5 hb5 _
               have HO5 := hide ho5
               have HB5 := hide hb5
               clear ho5 hb5)
            | fail)
          go_roundw
          case rel =>
            refine ⟨j + 1, by go_num, by omega, ?_, HB5.out⟩
            have hl := (List.getElem?_eq_some_iff.1 HZ.out).1
            have he := (List.getElem?_eq_some_iff.1 HZ.out).2
            have : u64s (cut m (p.take (j + 1))) = u64s (cut m (p.take j)) ++ [.int .u64 (cutc m z : Nat)] := by
              rw [List.take_succ_eq_append_getElem hl, he]
              simp [cut, u64s]
            rw [this]
            exact HO5.out
          case measure => simp [intOf]; omega
    · have hj' : j = n := by omega
      have hO := HO.out
      have hl := HP.out.1
      rw [hj', List.take_of_length_le (by omega)] at hO
      have HO' := hide hO
      clear hO hl hj'
      go_wp2
      go_ret
      exact ⟨_, rfl, HO'.out, HB.out⟩
end Go.Proofs.Ytkknfnjojamgjaa
