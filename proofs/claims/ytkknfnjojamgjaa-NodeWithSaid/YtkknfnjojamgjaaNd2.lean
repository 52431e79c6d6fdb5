/- Nodes: Leaf, Kid, From, UpTo; what is not there. -/
import Derived.Test.YtkknfnjojamgjaaNd1
set_option linter.unusedSimpArgs false
set_option linter.unusedVariables false
namespace Go.Proofs.Ytkknfnjojamgjaa
open Go.RowKit
set_option maxHeartbeats 1000000 in
set_option maxRecDepth 100000 in
theorem nd_leaf_bad (A : Option Addr) (n c : Nat) (v : Int) (w : World) (h : rightB n = false) :
    Calls Try.prog 46 #[.slice A n c, .int .u64 v] w fun e w' => e = .returned (.tuple #[.pointer none, .int .i64 2]) ∧ w = w' := by
  have HC := zb_right A n c w
  rw [h] at HC
  have HC' := hide HC
  clear HC h
  go_enter Try.func46, Try.ntmps46
  go_wp2_with fail
  refine HC'.out.mono ?_
  rintro e w1 ⟨rfl, rfl⟩
  go_wp2
  go_ret2
  exact ⟨rfl, rfl⟩
set_option maxHeartbeats 1000000 in
set_option maxRecDepth 100000 in
theorem nd_leaf (A : Option Addr) (n c : Nat) (p : List Nat) (v : Nat) (w : World) (hp : Pt w A n p) (hv : v < 2 ^ 64) (h1 : 1 ≤ n) (h2 : n ≤ 16) :
    Calls Try.prog 46 #[.slice A n c, .int .u64 (v : Int)] w fun e w' => ∃ g, e = .returned (.tuple #[.pointer (some ⟨g, 0, none⟩), .int .i64 0]) ∧ NodeOf w' n g (-1) p [(p, v)] ∧ w.heap.size ≤ g ∧ Below w.heap.size w w' := by
  have HC := zb_right A n c w
  rw [show rightB n = true by unfold rightB; simp; omega] at HC
  have HC' := hide HC
  have HD := hide (clone_u64 A n c p w hp (by omega))
  have HP := hide hp
  clear HC hp
  go_enter Try.func46, Try.ntmps46
  go_wp2_with fail
  refine HC'.out.mono ?_
  rintro e w1 ⟨rfl, rfl⟩
  go_wp2_with fail
  refine HD.out.mono ?_
  rintro e w2 ⟨v2, rfl, ho, hb⟩
  obtain ⟨A2, c2, rfl, hc2, hR⟩ := Rw.of_own ho
  have HR := hide hR
  clear ho hR
  go_wp2
  go_ret2
  have b3 := (Below.refl w2.heap.size w2).alloc (Nat.le_refl _) (.cells (nodeCells (-1) A2 n c2 v none ⟨1, v, v, v⟩) 139)
  refine ⟨_, rfl, .leaf hv ⟨HP.out.1, HR.out.below b3, HP.out.2.2⟩ hc2 (Blk.new w2 _ _), hb.size, below_then hb b3⟩
end Go.Proofs.Ytkknfnjojamgjaa
