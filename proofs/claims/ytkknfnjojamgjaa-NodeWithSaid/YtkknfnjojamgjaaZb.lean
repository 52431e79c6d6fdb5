/- zbits: the walks. -/
import Derived.Test.YtkknfnjojamgjaaProg
import Derived.Test.YtkknfnjojamgjaaBase
import Derived.Shelf.Strconv.Itoa0
set_option linter.unusedSimpArgs false
set_option linter.unusedVariables false
namespace Go.Proofs.Ytkknfnjojamgjaa
open Go.RowKit
def rightB (n : Nat) : Bool := decide (1 ≤ n ∧ n ≤ 16)
def levelB (n : Int) : Bool := decide (0 ≤ n ∧ n < 64)
theorem i64_or_even (y b : Nat) (hy : y < 65536) (hb : b < 2) : bits .or .i64 ((y : Int) * 2) (b : Int) = ((2 * y + b : Nat) : Int) := by
  rw [← even_or y b hb, show ((y : Int) * 2) = ((2 * y : Nat) : Int) by omega]
  have hx : 2 * y ||| b < 2 ^ 63 := Nat.or_lt_two_pow (by omega) (by omega)
  show IntKind.i64.wrap ((BitVec.ofInt 64 ((2 * y : Nat) : Int) ||| BitVec.ofInt 64 (b : Int)).toNat : Int) = _
  have h1 : ∀ a : Nat, a < 9223372036854775808 → (BitVec.ofInt 64 (a : Int)).toNat = a := fun a ha => by
    rw [BitVec.ofInt_natCast, BitVec.toNat_ofNat]; exact Nat.mod_eq_of_lt (by omega)
  rw [BitVec.toNat_or, h1 _ (by omega), h1 _ (by omega), IntKind.wrap_i64]
  omega
theorem shr_nat (z at_ : Nat) : (z : Int) / 2 ^ at_ = ((z / 2 ^ at_ : Nat) : Int) := by push_cast; rfl
theorem and_bit (z at_ : Nat) (hz : z < 18446744073709551616) : wrap64 (bits .and .u64 ((z : Int) / 2 ^ at_) 1) = (bit z at_ : Nat) := by
  have h1 : z / 2 ^ at_ ≤ z := Nat.div_le_self _ _
  have h2 := bit_lt z at_
  rw [shr_nat, show (1 : Int) = ((1 : Nat) : Int) by rfl, u64_and_nat _ _ (by omega) (by omega), Nat.and_one_is_mod]
  change bit z at_ < 2 at h2
  unfold bit at *
  unfold wrap64
  omega
set_option maxHeartbeats 400000 in
theorem zb_right (A : Option Addr) (n c : Nat) (w : World) :
    Calls Try.prog 106 #[.slice A n c] w fun e w' => e = .returned (.bool (rightB n)) ∧ w = w' := by
  by_cases h1 : 1 ≤ n
  · by_cases h2 : n ≤ 16
    · go_enter Try.func106, Try.ntmps106
      go_wp2
      go_ret
      exact ⟨retB (boolI (by simp [rightB]; omega)), rfl⟩
    · go_enter Try.func106, Try.ntmps106
      go_wp2
      go_ret
      exact ⟨retB (boolI (by simp [rightB]; omega)), rfl⟩
  · go_enter Try.func106, Try.ntmps106
    go_wp2
    go_ret
    exact ⟨retB (boolI (by simp [rightB]; omega)), rfl⟩
set_option maxHeartbeats 400000 in
theorem zb_level (n : Int) (w : World) :
    Calls Try.prog 134 #[.int .i64 n] w fun e w' => e = .returned (.bool (levelB n)) ∧ w = w' := by
  by_cases h1 : 0 ≤ n
  · go_enter Try.func134, Try.ntmps134
    go_wp2
    go_ret
    exact ⟨retB (boolI (by simp [levelB]; omega)), rfl⟩
  · go_enter Try.func134, Try.ntmps134
    go_wp2
    go_ret
    exact ⟨retB (boolI (by simp [levelB]; omega)), rfl⟩
set_option maxHeartbeats 400000 in
theorem zb_addr (A : Option Addr) (n : Nat) (p : List Nat) (c : Nat) (at_ : Nat) (w : World) (hp : Pt w A n p) (h1 : 1 ≤ n) (h2 : n ≤ 16) (hat : at_ < 64) :
    Calls Try.prog 122 #[.slice A n c, .int .i64 at_] w fun e w' => e = .returned (.tuple #[.int .i64 (addrOf p at_ : Nat), .int .i64 0]) ∧ w = w' := by
  have e1 : rightB n = true := by simp [rightB, h1, h2]
  have e2 : levelB at_ = true := by simp [levelB]; omega
  go_enter Try.func122, Try.ntmps122
  go_wp2_with (first | (go_at_call 106; refine (zb_right _ _ _ _).mono ?_; rintro e w' ⟨rfl, rfl⟩) | (go_at_call 134; refine (zb_level _ _).mono ?_; rintro e w' ⟨rfl, rfl⟩))
  go_loop [6, 19] (fun x i => ∃ (k : Nat), k ≤ n ∧ i = .int .i64 k ∧ x = .int .i64 (addrOf (p.take k) at_ : Nat)) (fun _ i => n - (intOf i).toNat)
  case atStart => exact ⟨0, by omega, rfl, rfl⟩
  case round =>
    obtain ⟨k, hk, rfl, rfl⟩ := hrel
    have hy1 := addrOf_le (p.take k) at_ (by have := hp.len; simp; omega)
    by_cases hlt : k < n
    · obtain ⟨b, o, z, rfl, hb, hz, hzl, hc⟩ := hp.at_ hlt
      have hS := hide (addrOf_take? p at_ k z hz)
      clear hz
      generalize addrOf (p.take k) at_ = y at *
      go_wp2
      go_round
      case rel =>
        refine ⟨k + 1, by omega, by go_num, ?_⟩
        rw [hS.out, and_bit z at_ hzl, i64_or_even y _ (by omega) (bit_lt _ _)]
      case measure => simp [intOf]; omega
    · go_wp2
      go_ret2
      rw [List.take_of_length_le (by have := hp.len; omega)]
      exact ⟨rfl, rfl⟩
end Go.Proofs.Ytkknfnjojamgjaa
