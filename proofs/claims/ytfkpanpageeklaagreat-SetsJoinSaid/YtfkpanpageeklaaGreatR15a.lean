/- pantileref15: of two values, by a rule. -/
import Derived.Test.YtfkpanpageeklaaGreatStA
set_option linter.unusedSimpArgs false
set_option linter.unusedVariables false
namespace Go.Proofs.YtfkpanpageeklaaGreat
open Go.RowKit
set_option maxHeartbeats 8000000 in
set_option maxRecDepth 100000 in
theorem ref15_value (w : World) (r a b : Nat) (h1 : 1 ≤ r) (h6 : r ≤ 6) (ha : a < 2 ^ 64) (hb : b < 2 ^ 64) : Calls Tryz.prog 43 #[.int .i64 (r : Int), .int .u64 (a : Int), .int .u64 (b : Int)] w fun e w' => e = .returned (.int .u64 (stval r a b : Nat)) ∧ w = w' := by
  have hadd := wrap_u64_nat' a b
  have hr : r = 1 ∨ r = 2 ∨ r = 3 ∨ r = 4 ∨ r = 5 ∨ r = 6 := by omega
  by_cases hab : b < a
  · have e1 : decide (b < a) = true := by simpa using hab
    have hsub : IntKind.u64.wrap ((a : Int) - (b : Int)) = ((a - b : Nat) : Int) := by
      have h := wrap_u64_nat' (a - b) 0
      rw [Nat.add_zero, Nat.mod_eq_of_lt (by omega), Int.natCast_zero, Int.add_zero] at h
      rw [show (a : Int) - (b : Int) = ((a - b : Nat) : Int) by omega]
      exact h
    have hmin : min a b = b := by omega
    have hmax : max a b = a := by omega
    rcases hr with rfl | rfl | rfl | rfl | rfl | rfl
    · have HM := hide (And.intro hmin hmax)
      have HADD := hide hadd
      have HSUB := hide hsub
      clear hmin hmax hadd hsub hab h1 h6 ha hb
      go_enter Tryz.func43, Tryz.ntmps43
      go_wp2
      go_ret
      exact ⟨rfl, rfl⟩
    · have HM := hide (And.intro hmin hmax)
      have HADD := hide hadd
      have HSUB := hide hsub
      clear hmin hmax hadd hsub hab h1 h6 ha hb
      go_enter Tryz.func43, Tryz.ntmps43
      go_wp2
      go_ret
      exact ⟨rfl, rfl⟩
    · have HM := hide (And.intro hmin hmax)
      have HADD := hide hadd
      have HSUB := hide hsub
      clear hmin hmax hadd hsub hab h1 h6 ha hb
      go_enter Tryz.func43, Tryz.ntmps43
      go_wp2
      go_ret
      exact ⟨by show _ = Ending.returned (.int .u64 ((min a b : Nat) : Int)); rw [HM.out.1]; rfl, rfl⟩
    · have HM := hide (And.intro hmin hmax)
      have HADD := hide hadd
      have HSUB := hide hsub
      clear hmin hmax hadd hsub hab h1 h6 ha hb
      go_enter Tryz.func43, Tryz.ntmps43
      go_wp2
      go_ret
      exact ⟨by show _ = Ending.returned (.int .u64 ((max a b : Nat) : Int)); rw [HM.out.2]; rfl, rfl⟩
    · have HM := hide (And.intro hmin hmax)
      have HADD := hide hadd
      have HSUB := hide hsub
      clear hmin hmax hadd hsub hab h1 h6 ha hb
      go_enter Tryz.func43, Tryz.ntmps43
      go_wp2
      go_ret
      exact ⟨by show _ = Ending.returned (.int .u64 (((a + b) % 2 ^ 64 : Nat) : Int)); rw [← HADD.out]; rfl, rfl⟩
    · have HM := hide (And.intro hmin hmax)
      have HADD := hide hadd
      have HSUB := hide hsub
      clear hmin hmax hadd hsub hab h1 h6 ha hb
      go_enter Tryz.func43, Tryz.ntmps43
      go_wp2
      go_ret
      exact ⟨by show _ = Ending.returned (.int .u64 ((max a b - min a b : Nat) : Int)); rw [HM.out.1, HM.out.2, ← HSUB.out]; rfl, rfl⟩
  · have e1 : decide (b < a) = false := by simpa using hab
    have hsub : IntKind.u64.wrap ((b : Int) - (a : Int)) = ((b - a : Nat) : Int) := by
      have h := wrap_u64_nat' (b - a) 0
      rw [Nat.add_zero, Nat.mod_eq_of_lt (by omega), Int.natCast_zero, Int.add_zero] at h
      rw [show (b : Int) - (a : Int) = ((b - a : Nat) : Int) by omega]
      exact h
    have hmin : min a b = a := by omega
    have hmax : max a b = b := by omega
    rcases hr with rfl | rfl | rfl | rfl | rfl | rfl
    · have HM := hide (And.intro hmin hmax)
      have HADD := hide hadd
      have HSUB := hide hsub
      clear hmin hmax hadd hsub hab h1 h6 ha hb
      go_enter Tryz.func43, Tryz.ntmps43
      go_wp2
      go_ret
      exact ⟨rfl, rfl⟩
    · have HM := hide (And.intro hmin hmax)
      have HADD := hide hadd
      have HSUB := hide hsub
      clear hmin hmax hadd hsub hab h1 h6 ha hb
      go_enter Tryz.func43, Tryz.ntmps43
      go_wp2
      go_ret
      exact ⟨rfl, rfl⟩
    · have HM := hide (And.intro hmin hmax)
      have HADD := hide hadd
      have HSUB := hide hsub
      clear hmin hmax hadd hsub hab h1 h6 ha hb
      go_enter Tryz.func43, Tryz.ntmps43
      go_wp2
      go_ret
      exact ⟨by show _ = Ending.returned (.int .u64 ((min a b : Nat) : Int)); rw [HM.out.1]; rfl, rfl⟩
    · have HM := hide (And.intro hmin hmax)
      have HADD := hide hadd
      have HSUB := hide hsub
      clear hmin hmax hadd hsub hab h1 h6 ha hb
      go_enter Tryz.func43, Tryz.ntmps43
      go_wp2
      go_ret
      exact ⟨by show _ = Ending.returned (.int .u64 ((max a b : Nat) : Int)); rw [HM.out.2]; rfl, rfl⟩
    · have HM := hide (And.intro hmin hmax)
      have HADD := hide hadd
      have HSUB := hide hsub
      clear hmin hmax hadd hsub hab h1 h6 ha hb
      go_enter Tryz.func43, Tryz.ntmps43
      go_wp2
      go_ret
      exact ⟨by show _ = Ending.returned (.int .u64 (((a + b) % 2 ^ 64 : Nat) : Int)); rw [← HADD.out]; rfl, rfl⟩
    · have HM := hide (And.intro hmin hmax)
      have HADD := hide hadd
      have HSUB := hide hsub
      clear hmin hmax hadd hsub hab h1 h6 ha hb
      go_enter Tryz.func43, Tryz.ntmps43
      go_wp2
      go_ret
      exact ⟨by show _ = Ending.returned (.int .u64 ((max a b - min a b : Nat) : Int)); rw [HM.out.1, HM.out.2, ← HSUB.out]; rfl, rfl⟩
end Go.Proofs.YtfkpanpageeklaaGreat
