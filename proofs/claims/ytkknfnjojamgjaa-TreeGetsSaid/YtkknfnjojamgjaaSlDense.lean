/- slots.dense. -/
import Derived.Test.YtkknfnjojamgjaaProg
import Derived.Test.YtkknfnjojamgjaaCells
set_option linter.unusedSimpArgs false
set_option linter.unusedVariables false
namespace Go.Proofs.Ytkknfnjojamgjaa
open Go.RowKit
theorem wrap_pow {k : Nat} (h : k ≤ 16) : wrap64 ((2 : Int) ^ k) = ((2 ^ k : Nat) : Int) := by
  have h1 := pow16 h
  have h2 : ((2 : Int) ^ k) = ((2 ^ k : Nat) : Int) := by push_cast; rfl
  rw [h2]
  generalize 2 ^ k = m at *
  unfold wrap64
  omega
set_option maxHeartbeats 1000000 in
set_option maxRecDepth 100000 in
theorem dense_any (k n : Nat) (w : World) (hk : k ≤ 16) (hn : n ≤ 70000) :
    Calls Try.prog 91 #[.int .i64 k, .int .i64 n] w fun e w' => e = .returned (.bool (denseB k n)) ∧ w = w' := by
  have hw := wrap_pow hk
  by_cases h6 : k ≤ 6
  · go_enter Try.func91, Try.ntmps91
    go_wp2
    go_ret
    refine ⟨retB (boolI ?_), rfl⟩
    unfold denseB
    simp only [decide_eq_true_eq, gt_iff_lt]
    have h2 : ((2 : Int) ^ k) = ((2 ^ k : Nat) : Int) := by push_cast; rfl
    rw [h2]
    clear hw
    generalize 2 ^ k = m at *
    omega
  · clear hw
    go_enter Try.func91, Try.ntmps91
    go_wp2
    go_ret
    refine ⟨retB (boolI ?_), rfl⟩
    simp [denseB]
    omega
end Go.Proofs.Ytkknfnjojamgjaa
