/- The awake example of chapter 5, and slots that are not there. -/
import Derived.Test.YtkknfnjojamgjaaSlAllU
import Derived.Test.YtkknfnjojamgjaaSlK
set_option linter.unusedSimpArgs false
set_option linter.unusedVariables false
namespace Go.Proofs.Ytkknfnjojamgjaa
open Go.RowKit
set_option maxHeartbeats 1000000 in
set_option maxRecDepth 100000 in
theorem awake5 (w : World) :
    Calls Try.prog 15 #[] w fun e w' => e = .returned (.bool true) ∧ Below w.heap.size w w' := by
  go_enter Try.func15, Try.ntmps15
  go_wp2_with fail
  refine (new_u 1 _ (by decide) (by decide)).mono ?_
  rintro e0 w0 ⟨rfl, h0, b0⟩
  go_wp2_with fail
  refine (put_u _ _ _ 0 7 _ h0 (by decide)).mono ?_
  rintro e1 w1 ⟨g1, rfl, h1, l1, b1⟩
  go_wp2_with fail
  refine (put_u _ _ _ 1 8 _ h1 (by decide)).mono ?_
  rintro e2 w2 ⟨g2, rfl, h2, l2, b2⟩
  rw [show insTh [] 0 (Value.int IntKind.u64 7) = [(0, .int .u64 7)] from rfl] at h1 h2
  rw [show insTh [(0, Value.int .u64 7)] 1 (Value.int IntKind.u64 8) = [(0, .int .u64 7), (1, .int .u64 8)] from rfl] at h2
  have k1 := hide (h1.below b2)
  have k2 := hide h2
  have B := hide (((b0.trans (b1.mono b0.size)).trans (b2.mono (Nat.le_trans b0.size b1.size))))
  clear h0 h1 h2 b0 b1 b2 l1 l2
  go_wp2_with fail
  refine (denseM_u _ _ _ _ k1.out).mono ?_
  rintro e3 w3 ⟨rfl, b3⟩
  rw [show denseB (Int.toNat 1) (List.length [(0, Value.int .u64 7)]) = false from rfl]
  go_wp2_with fail
  refine (denseM_u _ _ _ _ (k2.out.below b3)).mono ?_
  rintro e4 w4 ⟨rfl, b4⟩
  rw [show denseB (Int.toNat 1) (List.length [(0, Value.int .u64 7), (1, Value.int .u64 8)]) = true from rfl]
  go_wp2_with fail
  refine (len_u _ _ _ _ ((k1.out.below b3).below b4)).mono ?_
  rintro e5 w5 ⟨rfl, rfl⟩
  go_wp2
  go_ret
  exact ⟨rfl, B.out.trans ((b3.trans (b4.mono b3.size)).mono (B.out.size))⟩
set_option maxHeartbeats 1000000 in
set_option maxRecDepth 100000 in
theorem slots_nil (a0 : Int) (_ : (Lit.int .i64 a0).wf = true) (a1 : Int) (_ : (Lit.int .u64 a1).wf = true) (w : World) :
    Calls Try.prog 4 #[.int .i64 a0, .int .u64 a1] w fun e w' => e = .returned (.bool true) ∧ Below w.heap.size w w' := by
  go_enter Try.func4, Try.ntmps4
  go_wp2_with fail
  refine (awake5 _).mono ?_
  rintro e0 w0 ⟨rfl, b0⟩
  go_wp2_with fail
  refine (put_nil_u _ _ _).mono ?_
  rintro e1 w1 ⟨rfl, rfl⟩
  go_wp2_with fail
  refine (del_nil_u _ _).mono ?_
  rintro e2 w2 ⟨rfl, b2⟩
  go_wp2_with fail
  refine (get_nil_u _ _).mono ?_
  rintro e3 w3 ⟨rfl, rfl⟩
  go_wp2_with fail
  refine (from_nil_u _ _).mono ?_
  rintro e4 w4 ⟨rfl, rfl⟩
  go_wp2_with fail
  refine (upto_nil_u _ _).mono ?_
  rintro e5 w5 ⟨rfl, rfl⟩
  go_wp2_with fail
  refine (k_nil_u _).mono ?_
  rintro e6 w6 ⟨rfl, rfl⟩
  go_wp2_with fail
  refine (len_nil_u _).mono ?_
  rintro e7 w7 ⟨rfl, rfl⟩
  go_wp2_with fail
  refine (denseM_nil_u _).mono ?_
  rintro e8 w8 ⟨rfl, b8⟩
  go_wp2_with fail
  refine (places_nil_u _).mono ?_
  rintro e9 w9 ⟨rfl, rfl⟩
  go_wp2_with fail
  refine (all_nil_u _).mono ?_
  rintro e10 w10 ⟨rfl, rfl⟩
  go_wp2
  go_ret
  exact ⟨rfl, b0.trans ((b2.trans (b8.mono b2.size)).mono b0.size)⟩
end Go.Proofs.Ytkknfnjojamgjaa
