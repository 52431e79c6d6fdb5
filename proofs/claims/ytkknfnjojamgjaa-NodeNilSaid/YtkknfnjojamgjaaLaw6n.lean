/- pantilelaw06.NodeNil: a node that isn't there. -/
import Derived.Test.YtkknfnjojamgjaaLaw6a
import Derived.Test.YtkknfnjojamgjaaOpenPt
import Derived.Laws.StructEq
set_option linter.unusedSimpArgs false
set_option linter.unusedVariables false
namespace Go.Proofs.Ytkknfnjojamgjaa
open Go.RowKit
set_option maxHeartbeats 4000000 in
set_option maxRecDepth 100000 in
theorem node_nil (A : Option Addr) (n c : Nat) (p : List Nat) (w : World) (h : Pt w A n p ∧ n ≤ c ∧ c ≤ maxLen) (addr : Int) (_ : (Lit.int .i64 addr).wf = true) :
    Calls Try.prog 8 #[.slice A n c, .int .i64 addr] w fun e w' => e = .returned (.bool true) ∧ Below w.heap.size w w' := by
  have HA := hide (awake6 w)
  clear h
  by_cases hn : 40 < n
  · have e1 : decide ((40 : Int) < (n : Int)) = true := by simp; omega
    clear hn
    go_enter Try.func8, Try.ntmps8
    go_wp2_with fail
    refine HA.out.mono ?_
    rintro e w1 ⟨rfl, hb1⟩
    go_wp2
    go_ret
    exact ⟨rfl, hb1⟩
  · have e1 : decide ((40 : Int) < (n : Int)) = false := by simp; omega
    clear hn
    go_enter Try.func8, Try.ntmps8
    go_wp2_with fail
    refine HA.out.mono ?_
    rintro e w1 ⟨rfl, hb1⟩
    have b2 := (Below.refl w1.heap.size w1).alloc (Nat.le_refl _) (.cells #[.int .u64 1] 28)
    have hN1 := Blk.new w1 28 #[.int .u64 1]
    have hP1 : Pt (w1.alloc (.cells #[.int .u64 1] 28)) (some ⟨w1.heap.size, 0, none⟩) 1 [1] := by
      refine ⟨rfl, Rw.of_blk hN1 rfl ?_, by decide⟩
      intro j u h
      simpa [u64s] using h
    have HL := hide (nd_leaf _ 1 1 [1] 2 _ hP1 (by omega) (by omega) (by omega))
    clear hN1 hP1 HA
    go_wp2_with fail
    refine HL.out.mono ?_
    rintro e w2 ⟨g, rfl, hn2, hg, hb2⟩
    have hc2 := below_then (below_then hb1 b2) hb2
    clear hn2 hg hb2 b2 hb1 HL
    go_wp2_with fail
    refine (nd_pair_nil1 _ ⟨_, rfl⟩ _).mono ?_
    rintro e w3 ⟨rfl, rfl⟩
    go_wp2_with fail
    refine (nd_pair_nil2 _ _).mono ?_
    rintro e w3 ⟨rfl, rfl⟩
    go_wp2_with fail
    refine (nd_with_nil1 _ _).mono ?_
    rintro e w3 ⟨rfl, rfl⟩
    go_wp2_with fail
    refine (nd_with_nil2 _ _).mono ?_
    rintro e w3 ⟨rfl, rfl⟩
    go_wp2_with fail
    refine (nd_without_nil _ _).mono ?_
    rintro e w3 ⟨rfl, rfl⟩
    go_wp2_with fail
    refine (nd_entry_nil _).mono ?_
    rintro e w3 ⟨rfl, hb3⟩
    have hc3 := below_then hc2 hb3
    clear hc2 hb3
    go_upto_region 13 with fail
    have hc4 := below_alloc hc3 (Nat.le_refl _) (.cells #[.slice none 0 0, .int .u64 0] 59)
    have hE : (w3.alloc (.cells #[.slice none 0 0, .int .u64 0] 59)).cell? ⟨w3.heap.size, 0, none⟩ = some (.slice none 0 0) := (Blk.new w3 _ _).cell 0
    generalize w3.alloc (.cells #[.slice none 0 0, .int .u64 0] 59) = w4 at *
    go_wp2_with fail
    refine (nd_from_nil _ _).mono ?_
    rintro e w5 ⟨rfl, rfl⟩
    go_wp2_with fail
    refine (nd_upto_nil _ _).mono ?_
    rintro e w5 ⟨rfl, rfl⟩
    go_wp2_with fail
    refine (nd_k_nil _).mono ?_
    rintro e w5 ⟨rfl, rfl⟩
    go_wp2_with fail
    refine (nd_level_nil _).mono ?_
    rintro e w5 ⟨rfl, rfl⟩
    go_wp2_with fail
    refine (nd_prefix_nil _).mono ?_
    rintro e w5 ⟨rfl, rfl⟩
    go_wp2_with fail
    refine (nd_kid_nil _ _).mono ?_
    rintro e w5 ⟨rfl, rfl⟩
    go_wp2_with fail
    refine (nd_covers_nil _ _ _ _).mono ?_
    rintro e w5 ⟨rfl, rfl⟩
    go_wp2_with fail
    refine (nd_sums_nil _).mono ?_
    rintro e w5 ⟨rfl, hb5⟩
    have hc5 := below_then hc4 hb5
    clear hc3 hc4 hb5 hE
    unfold Sum4.val
    go_wp2_with fail
    refine (nd_shape_nil _).mono ?_
    rintro e w6 ⟨rfl, hb6⟩
    have hc6 := below_then hc5 hb6
    clear hc5 hb6
    go_wp2_with fail
    refine (same_shape none none none none 0 0 0 0 0 0 0 false 0 [] [] _ (Rw.nil _ _ _) (Rw.nil _ _ _) (Rw.nil _ _ _) (Rw.nil _ _ _) (by omega) (by omega)).mono ?_
    rintro e w7 ⟨rfl, hb7⟩
    go_wp2
    go_ret
    exact ⟨rfl, below_then hc6 hb7⟩
end Go.Proofs.Ytkknfnjojamgjaa
