/- Nodes: With, Without where there is an error. -/
import Derived.Test.YtkknfnjojamgjaaNdB
set_option linter.unusedSimpArgs false
set_option linter.unusedVariables false
namespace Go.Proofs.Ytkknfnjojamgjaa
open Go.RowKit
set_option maxHeartbeats 1000000 in
set_option maxRecDepth 100000 in
theorem nd_with_nil1 (a : Option Addr) (w : World) : Calls Try.prog 49 #[.pointer none, .pointer a] w fun e w' => e = .returned (.tuple #[.pointer none, .int .i64 1]) ∧ w = w' := by
  go_enter Try.func49, Try.ntmps49
  go_wp2
  go_ret2
  exact ⟨rfl, rfl⟩
set_option maxHeartbeats 1000000 in
set_option maxRecDepth 100000 in
theorem nd_with_nil2 (a : Addr) (w : World) : Calls Try.prog 49 #[.pointer (some a), .pointer none] w fun e w' => e = .returned (.tuple #[.pointer none, .int .i64 1]) ∧ w = w' := by
  go_enter Try.func49, Try.ntmps49
  go_wp2
  go_ret2
  exact ⟨rfl, rfl⟩
set_option maxHeartbeats 1000000 in
set_option maxRecDepth 100000 in
theorem nd_with_leaf {w : World} {g : Nat} {lv : Int} {A : Option Addr} {k c v : Nat} {s : Sum4} (hB : Blk w g 139 (nodeCells lv A k c v none s)) (a : Addr) :
    Calls Try.prog 49 #[.pointer (some ⟨g, 0, none⟩), .pointer (some a)] w fun e w' => e = .returned (.tuple #[.pointer none, .int .i64 3]) ∧ w = w' := by
  have c3 := hB.cell 3
  simp [nodeCells] at c3
  clear hB
  go_enter Try.func49, Try.ntmps49
  go_wp2
  go_ret2
  exact ⟨rfl, rfl⟩
set_option maxHeartbeats 1000000 in
set_option maxRecDepth 100000 in
theorem nd_without_nil (addr : Int) (w : World) : Calls Try.prog 50 #[.pointer none, .int .i64 addr] w fun e w' => e = .returned (.tuple #[.pointer none, .int .i64 1]) ∧ w = w' := by
  go_enter Try.func50, Try.ntmps50
  go_wp2
  go_ret2
  exact ⟨rfl, rfl⟩
set_option maxHeartbeats 1000000 in
set_option maxRecDepth 100000 in
theorem nd_without_leaf {w : World} {g : Nat} {lv : Int} {A : Option Addr} {k c v : Nat} {s : Sum4} (hB : Blk w g 139 (nodeCells lv A k c v none s)) (addr : Int) :
    Calls Try.prog 50 #[.pointer (some ⟨g, 0, none⟩), .int .i64 addr] w fun e w' => e = .returned (.tuple #[.pointer none, .int .i64 3]) ∧ w = w' := by
  have c3 := hB.cell 3
  simp [nodeCells] at c3
  clear hB
  go_enter Try.func50, Try.ntmps50
  go_wp2
  go_ret2
  exact ⟨rfl, rfl⟩
end Go.Proofs.Ytkknfnjojamgjaa
