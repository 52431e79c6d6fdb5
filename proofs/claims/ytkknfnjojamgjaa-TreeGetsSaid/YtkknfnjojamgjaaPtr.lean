/- Pointers to nodes, compared. -/
import Derived.Test.YtkknfnjojamgjaaBase
import Derived.Test.YtkknfnjojamgjaaProg
import Derived.LaidEqlPtr
set_option linter.unusedSimpArgs false
set_option linter.unusedVariables false
namespace Go.Proofs.Ytkknfnjojamgjaa
open Go.RowKit
theorem node_info : ∃ j, Try.prog.info? 139 = some j ∧ j.size ≠ 0 := by
  have h : (Try.prog.info? 139).map (fun j => j.size) = some 8 := by kernel_rfl
  obtain ⟨j, hj, h8⟩ := Option.map_eq_some_iff.1 h
  exact ⟨j, hj, by omega⟩
theorem ptr_same (a : Addr) (w : World) : (binOp .eql 54 (.pointer (some a)) (.pointer (some a))).run Try.prog w = .ok (.bool true) w := by
  obtain ⟨j, hj, _⟩ := node_info
  exact run_eql_ptr_same w a Try.underlying54 hj
theorem ptr_same_neq (a : Addr) (w : World) : (binOp .neq 54 (.pointer (some a)) (.pointer (some a))).run Try.prog w = .ok (.bool false) w := by
  obtain ⟨j, hj, _⟩ := node_info
  have h : ∀ d : Nat, (Op.equalIn (d + 1) 54 (.pointer (some a)) (.pointer (some a))).run Try.prog w = .ok true w := fun d => by
    simp [Op.equalIn, run_underlying Try.underlying54, sizeOf, typeInfo, hj, run_sameAddr_same]
  simp only [binOp]
  simp [Op.equal, Op.maxDepth, h 9999]
theorem ptr_other {w : World} {a b : Nat} {ca cb : Array Value} {ta tb : TypeId} (hne : a ≠ b) (ha : Blk w a ta ca) (hb : Blk w b tb cb) : (binOp .eql 54 (.pointer (some ⟨a, 0, none⟩)) (.pointer (some ⟨b, 0, none⟩))).run Try.prog w = .ok (.bool false) w := by
  obtain ⟨j, hj, h0⟩ := node_info
  exact run_eql_ptr_other w Try.underlying54 hj h0 (fun h => hne (by injection h)) ha hb
end Go.Proofs.Ytkknfnjojamgjaa
