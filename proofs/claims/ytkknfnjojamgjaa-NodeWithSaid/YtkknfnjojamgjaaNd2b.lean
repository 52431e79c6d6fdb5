/- node.Leaf: the entry's point is the call's own. pantileref01.Right. -/
import Derived.Test.YtkknfnjojamgjaaFork
set_option linter.unusedSimpArgs false
set_option linter.unusedVariables false
namespace Go.Proofs.Ytkknfnjojamgjaa
open Go.RowKit
set_option maxHeartbeats 1000000 in
set_option maxRecDepth 100000 in
theorem nd_leaf_own (A : Option Addr) (n c : Nat) (p : List Nat) (v : Nat) (w : World) (hp : Pt w A n p) (h1 : 1 ≤ n) (h2 : n ≤ 16) :
    Calls Try.prog 46 #[.slice A n c, .int .u64 (v : Int)] w fun e w' => ∃ g A2 c2, e = .returned (.tuple #[.pointer (some ⟨g, 0, none⟩), .int .i64 0]) ∧ Blk w' g 139 (nodeCells (-1) A2 n c2 v none ⟨1, v, v, v⟩) ∧ n ≤ c2 ∧ w'.ownsRow w.heap.size 28 1 (.slice A2 n c2) n (u64s p) ∧ w.heap.size ≤ g ∧ Below w.heap.size w w' := by
  have HC := zb_right A n c w
  rw [show rightB n = true by unfold rightB; simp; omega] at HC
  have HC' := hide HC
  have HD := hide (clone_u64 A n c p w hp (by omega))
  have HP := hide hp
  clear HC hp
  go_enter Try.func46, Try.ntmps46
  go_wp2_with fail
  refine HC'.out.mono ?_
  rintro e w1 ⟨rfl, rfl⟩
  go_wp2_with fail
  refine HD.out.mono ?_
  rintro e w2 ⟨v2, rfl, ho, hb⟩
  obtain ⟨A2, c2, rfl, hc2, hR⟩ := Rw.of_own ho
  have HO := hide ho
  clear ho hR
  go_wp2
  go_ret2
  have b3 := (Below.refl w2.heap.size w2).alloc (Nat.le_refl _) (.cells (nodeCells (-1) A2 n c2 v none ⟨1, v, v, v⟩) 139)
  refine ⟨_, A2, c2, rfl, Blk.new w2 _ _, hc2, own_below HO.out b3, hb.size, below_then hb b3⟩
set_option maxHeartbeats 1000000 in
set_option maxRecDepth 100000 in
theorem ref_right (A : Option Addr) (n c : Nat) (w : World) :
    Calls Try.prog 47 #[.slice A n c] w fun e w' => e = .returned (.bool (rightB n)) ∧ w = w' := by
  by_cases h1 : 1 ≤ n
  · by_cases h2 : n ≤ 16
    · have g1 : 0 < n := by omega
      have e2 : decide ((n : Int) < 17) = true := by simp; omega
      have HR := hide (show rightB n = true by unfold rightB; simp; omega)
      clear h1 h2
      go_enter Try.func47, Try.ntmps47
      go_wp2
      go_ret
      exact ⟨retB HR.out.symm, rfl⟩
    · have g1 : 0 < n := by omega
      have e2 : decide ((n : Int) < 17) = false := by simp; omega
      have HR := hide (show rightB n = false by unfold rightB; simp; omega)
      clear h1 h2
      go_enter Try.func47, Try.ntmps47
      go_wp2
      go_ret
      exact ⟨retB HR.out.symm, rfl⟩
  · have g1 : ¬ 0 < n := by omega
    have HR := hide (show rightB n = false by unfold rightB; simp; omega)
    clear h1
    go_enter Try.func47, Try.ntmps47
    go_wp2
    go_ret
    exact ⟨retB HR.out.symm, rfl⟩
end Go.Proofs.Ytkknfnjojamgjaa
