/- pantilelaw07.TreeNil: a tree that isn't there has no entries: for every point and value. -/
import Derived.Test.YtkknfnjojamgjaaTrD
set_option linter.unusedSimpArgs false
set_option linter.unusedVariables false
namespace Go.Proofs.Ytkknfnjojamgjaa
open Go.RowKit
set_option maxHeartbeats 4000000 in
set_option maxRecDepth 100000 in
theorem tree_nil (w : World) (A : Option Addr) (n c : Nat) (p : List Nat) (h : Pt w A n p ∧ n ≤ c ∧ c ≤ maxLen) (v : Int) (_ : (Lit.int .u64 v).wf = true) :
    Calls Try.prog 12 #[.slice A n c, .int .u64 v] w fun e w' => e = .returned (.bool true) ∧ Below w.heap.size w w' := by
  clear h
  go_enter Try.func12, Try.ntmps12
  go_wp2_with fail
  refine (awake7 w).mono ?_
  rintro e w1 ⟨rfl, hb1⟩
  have HB1 := hide hb1
  clear hb1
  by_cases hn : 40 < n
  · have e1 : decide ((40 : Int) < (n : Int)) = true := by simp; omega
    go_wp2
    go_ret
    exact ⟨rfl, HB1.out⟩
  · have e1 : decide ((40 : Int) < (n : Int)) = false := by simp; omega
    go_wp2_with fail
    refine (tr_get_nil _ _ _ _).mono ?_
    rintro e w2 ⟨rfl, rfl⟩
    go_wp2_with fail
    refine (tr_put_nil _ _ _ _ _).mono ?_
    rintro e w2 ⟨rfl, rfl⟩
    go_wp2_with fail
    refine (tr_del_nil _ _ _ _).mono ?_
    rintro e w2 ⟨rfl, rfl⟩
    go_wp2_with fail
    refine (tr_path_nil _ _ _ _).mono ?_
    rintro e w2 ⟨rfl, rfl⟩
    go_wp2_with fail
    refine (tr_k_nil _).mono ?_
    rintro e w2 ⟨rfl, rfl⟩
    go_wp2_with fail
    refine (tr_root_nil _).mono ?_
    rintro e w2 ⟨rfl, rfl⟩
    go_wp2_with fail
    refine (tr_len_nil _).mono ?_
    rintro e w2 ⟨rfl, hb2⟩
    have HB2 := hide (below_then HB1.out hb2)
    clear hb2
    go_wp2_with fail
    refine (tr_shapes_none (tr_root_nil w2)).mono ?_
    rintro e w3 ⟨rfl, hb3⟩
    have HB3 := hide (below_then HB2.out hb3)
    clear hb3
    go_wp2
    go_ret
    exact ⟨rfl, HB3.out⟩
end Go.Proofs.Ytkknfnjojamgjaa
