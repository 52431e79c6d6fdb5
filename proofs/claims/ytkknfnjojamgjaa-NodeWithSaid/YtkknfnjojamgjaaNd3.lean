/- Nodes: Kid, From, UpTo; a node that is not there. -/
import Derived.Test.YtkknfnjojamgjaaNd2
import Derived.Test.YtkknfnjojamgjaaRowK
set_option linter.unusedSimpArgs false
set_option linter.unusedVariables false
namespace Go.Proofs.Ytkknfnjojamgjaa
open Go.RowKit
set_option maxHeartbeats 1000000 in
set_option maxRecDepth 100000 in
theorem nd_kid {w : World} {g : Nat} {lv : Int} {A : Option Addr} {k c v : Nat} {s : Sum4} {gs : Nat} {L : Th} (hB : Blk w g 139 (nodeCells lv A k c v (some ⟨gs, 0, none⟩) s)) (hS : SlotsAt_n w gs k L) (addr : Int) :
    Calls Try.prog 44 #[.pointer (some ⟨g, 0, none⟩), .int .i64 addr] w fun e w' => e = .returned ((getTh L addr).getD (.pointer none)) ∧ Below w.heap.size w w' := by
  have HC := hide (nd_slots hB)
  have HG := hide (get_n gs k L addr w hS)
  generalize (getTh L addr).getD (.pointer none) = x at HG ⊢
  generalize (getTh L addr).isSome = b at HG
  clear hB hS
  go_enter Try.func44, Try.ntmps44
  go_wp2_with fail
  refine HC.out.mono ?_
  rintro e w1 ⟨rfl, rfl⟩
  go_wp2_with fail
  refine HG.out.mono ?_
  rintro e w1 ⟨rfl, hb⟩
  go_wp2
  go_ret
  exact ⟨rfl, hb⟩
set_option maxHeartbeats 1000000 in
set_option maxRecDepth 100000 in
theorem nd_kid_leaf {w : World} {g : Nat} {lv : Int} {A : Option Addr} {k c v : Nat} {s : Sum4} (hB : Blk w g 139 (nodeCells lv A k c v none s)) (addr : Int) :
    Calls Try.prog 44 #[.pointer (some ⟨g, 0, none⟩), .int .i64 addr] w fun e w' => e = .returned (.pointer none) ∧ w = w' := by
  have HC := hide (nd_slots hB)
  have HG := hide (get_nil_n addr w)
  clear hB
  go_enter Try.func44, Try.ntmps44
  go_wp2_with fail
  refine HC.out.mono ?_
  rintro e w1 ⟨rfl, rfl⟩
  go_wp2_with fail
  refine HG.out.mono ?_
  rintro e w1 ⟨rfl, rfl⟩
  go_wp2
  go_ret
  exact ⟨rfl, rfl⟩
set_option maxHeartbeats 1000000 in
set_option maxRecDepth 100000 in
theorem nd_from {w : World} {g : Nat} {lv : Int} {A : Option Addr} {k c v : Nat} {s : Sum4} {gs : Nat} {L : Th} (hB : Blk w g 139 (nodeCells lv A k c v (some ⟨gs, 0, none⟩) s)) (hS : SlotsAt_n w gs k L) (addr : Int) :
    Calls Try.prog 51 #[.pointer (some ⟨g, 0, none⟩), .int .i64 addr] w fun e w' => (∃ (a : Nat) (x : Value), e = .returned (.tuple #[.int .i64 a, x]) ∧ (fromTh L addr = some (a, x) ∨ (fromTh L addr = none ∧ a = 0 ∧ x = .pointer none))) ∧ Below w.heap.size w w' := by
  have HC := hide (nd_slots hB)
  have HG := hide (from_n gs k L addr w hS)
  clear hB hS
  go_enter Try.func51, Try.ntmps51
  go_wp2_with fail
  refine HC.out.mono ?_
  rintro e w1 ⟨rfl, rfl⟩
  go_wp2_with fail
  refine HG.out.mono ?_
  rintro e w1 ⟨⟨a, x, ok, rfl, h1, h2⟩, hb⟩
  have H1 := hide h1
  have H2 := hide h2
  clear h1 h2
  go_wp2
  go_ret2
  refine ⟨⟨a, x, rfl, ?_⟩, hb⟩
  cases ok with
  | true => exact .inl (H1.out rfl)
  | false => exact .inr (H2.out rfl)
set_option maxHeartbeats 1000000 in
set_option maxRecDepth 100000 in
theorem nd_from_leaf {w : World} {g : Nat} {lv : Int} {A : Option Addr} {k c v : Nat} {s : Sum4} (hB : Blk w g 139 (nodeCells lv A k c v none s)) (addr : Int) :
    Calls Try.prog 51 #[.pointer (some ⟨g, 0, none⟩), .int .i64 addr] w fun e w' => e = .returned (.tuple #[.int .i64 0, .pointer none]) ∧ w = w' := by
  have HC := hide (nd_slots hB)
  have HG := hide (from_nil_n addr w)
  clear hB
  go_enter Try.func51, Try.ntmps51
  go_wp2_with fail
  refine HC.out.mono ?_
  rintro e w1 ⟨rfl, rfl⟩
  go_wp2_with fail
  refine HG.out.mono ?_
  rintro e w1 ⟨rfl, rfl⟩
  go_wp2
  go_ret2
  exact ⟨rfl, rfl⟩
set_option maxHeartbeats 1000000 in
set_option maxRecDepth 100000 in
theorem nd_upto {w : World} {g : Nat} {lv : Int} {A : Option Addr} {k c v : Nat} {s : Sum4} {gs : Nat} {L : Th} (hB : Blk w g 139 (nodeCells lv A k c v (some ⟨gs, 0, none⟩) s)) (hS : SlotsAt_n w gs k L) (addr : Int) :
    Calls Try.prog 52 #[.pointer (some ⟨g, 0, none⟩), .int .i64 addr] w fun e w' => (∃ (a : Nat) (x : Value), e = .returned (.tuple #[.int .i64 a, x]) ∧ (upTh L addr = some (a, x) ∨ (upTh L addr = none ∧ a = 0 ∧ x = .pointer none))) ∧ Below w.heap.size w w' := by
  have HC := hide (nd_slots hB)
  have HG := hide (upto_n gs k L addr w hS)
  clear hB hS
  go_enter Try.func52, Try.ntmps52
  go_wp2_with fail
  refine HC.out.mono ?_
  rintro e w1 ⟨rfl, rfl⟩
  go_wp2_with fail
  refine HG.out.mono ?_
  rintro e w1 ⟨⟨a, x, ok, rfl, h1, h2⟩, hb⟩
  have H1 := hide h1
  have H2 := hide h2
  clear h1 h2
  go_wp2
  go_ret2
  refine ⟨⟨a, x, rfl, ?_⟩, hb⟩
  cases ok with
  | true => exact .inl (H1.out rfl)
  | false => exact .inr (H2.out rfl)
set_option maxHeartbeats 1000000 in
set_option maxRecDepth 100000 in
theorem nd_upto_leaf {w : World} {g : Nat} {lv : Int} {A : Option Addr} {k c v : Nat} {s : Sum4} (hB : Blk w g 139 (nodeCells lv A k c v none s)) (addr : Int) :
    Calls Try.prog 52 #[.pointer (some ⟨g, 0, none⟩), .int .i64 addr] w fun e w' => e = .returned (.tuple #[.int .i64 0, .pointer none]) ∧ w = w' := by
  have HC := hide (nd_slots hB)
  have HG := hide (upto_nil_n addr w)
  clear hB
  go_enter Try.func52, Try.ntmps52
  go_wp2_with fail
  refine HC.out.mono ?_
  rintro e w1 ⟨rfl, rfl⟩
  go_wp2_with fail
  refine HG.out.mono ?_
  rintro e w1 ⟨rfl, rfl⟩
  go_wp2
  go_ret2
  exact ⟨rfl, rfl⟩
set_option maxHeartbeats 1000000 in
set_option maxRecDepth 100000 in
theorem nd_slots_nil (w : World) : Calls Try.prog 104 #[.pointer none] w fun e w' => e = .returned (.pointer none) ∧ w = w' := by
  go_enter Try.func104, Try.ntmps104
  go_wp2
  go_ret
  exact ⟨rfl, rfl⟩
set_option maxHeartbeats 1000000 in
set_option maxRecDepth 100000 in
theorem nd_k_nil (w : World) : Calls Try.prog 56 #[.pointer none] w fun e w' => e = .returned (.int .i64 0) ∧ w = w' := by
  go_enter Try.func56, Try.ntmps56
  go_wp2
  go_ret
  exact ⟨rfl, rfl⟩
set_option maxHeartbeats 1000000 in
set_option maxRecDepth 100000 in
theorem nd_level_nil (w : World) : Calls Try.prog 42 #[.pointer none] w fun e w' => e = .returned (.int .i64 (-1)) ∧ w = w' := by
  go_enter Try.func42, Try.ntmps42
  go_wp2
  go_ret
  exact ⟨rfl, rfl⟩
set_option maxHeartbeats 1000000 in
set_option maxRecDepth 100000 in
theorem nd_prefix_nil (w : World) : Calls Try.prog 43 #[.pointer none] w fun e w' => e = .returned (.slice none 0 0) ∧ w = w' := by
  go_enter Try.func43, Try.ntmps43
  go_wp2
  go_ret
  exact ⟨rfl, rfl⟩
set_option maxHeartbeats 1000000 in
set_option maxRecDepth 100000 in
theorem nd_kid_nil (addr : Int) (w : World) : Calls Try.prog 44 #[.pointer none, .int .i64 addr] w fun e w' => e = .returned (.pointer none) ∧ w = w' := by
  go_enter Try.func44, Try.ntmps44
  go_wp2_with fail
  refine (nd_slots_nil _).mono ?_
  rintro e w1 ⟨rfl, rfl⟩
  go_wp2_with fail
  refine (get_nil_n _ _).mono ?_
  rintro e w1 ⟨rfl, rfl⟩
  go_wp2
  go_ret
  exact ⟨rfl, rfl⟩
set_option maxHeartbeats 1000000 in
set_option maxRecDepth 100000 in
theorem nd_from_nil (addr : Int) (w : World) : Calls Try.prog 51 #[.pointer none, .int .i64 addr] w fun e w' => e = .returned (.tuple #[.int .i64 0, .pointer none]) ∧ w = w' := by
  go_enter Try.func51, Try.ntmps51
  go_wp2_with fail
  refine (nd_slots_nil _).mono ?_
  rintro e w1 ⟨rfl, rfl⟩
  go_wp2_with fail
  refine (from_nil_n _ _).mono ?_
  rintro e w1 ⟨rfl, rfl⟩
  go_wp2
  go_ret2
  exact ⟨rfl, rfl⟩
set_option maxHeartbeats 1000000 in
set_option maxRecDepth 100000 in
theorem nd_upto_nil (addr : Int) (w : World) : Calls Try.prog 52 #[.pointer none, .int .i64 addr] w fun e w' => e = .returned (.tuple #[.int .i64 0, .pointer none]) ∧ w = w' := by
  go_enter Try.func52, Try.ntmps52
  go_wp2_with fail
  refine (nd_slots_nil _).mono ?_
  rintro e w1 ⟨rfl, rfl⟩
  go_wp2_with fail
  refine (upto_nil_n _ _).mono ?_
  rintro e w1 ⟨rfl, rfl⟩
  go_wp2
  go_ret2
  exact ⟨rfl, rfl⟩
set_option maxHeartbeats 1000000 in
set_option maxRecDepth 100000 in
theorem nd_covers_nil (A : Option Addr) (n c : Nat) (w : World) : Calls Try.prog 40 #[.pointer none, .slice A n c] w fun e w' => e = .returned (.bool false) ∧ w = w' := by
  go_enter Try.func40, Try.ntmps40
  go_wp2
  go_ret
  exact ⟨rfl, rfl⟩
end Go.Proofs.Ytkknfnjojamgjaa
