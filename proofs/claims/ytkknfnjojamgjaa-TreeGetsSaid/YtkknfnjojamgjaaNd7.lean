/- Nodes: Pair. -/
import Derived.Test.YtkknfnjojamgjaaNdB
set_option linter.unusedSimpArgs false
set_option linter.unusedVariables false
namespace Go.Proofs.Ytkknfnjojamgjaa
open Go.RowKit
set_option maxHeartbeats 1000000 in
set_option maxRecDepth 100000 in
theorem nd_pair_nil1 (v : Value) (hv : ∃ a, v = .pointer a) (w : World) : Calls Try.prog 35 #[.pointer none, v] w fun e w' => e = .returned (.tuple #[.pointer none, .int .i64 1]) ∧ w = w' := by
  obtain ⟨a, rfl⟩ := hv
  go_enter Try.func35, Try.ntmps35
  go_wp2
  go_ret2
  exact ⟨rfl, rfl⟩
set_option maxHeartbeats 1000000 in
set_option maxRecDepth 100000 in
theorem nd_pair_nil2 (a : Addr) (w : World) : Calls Try.prog 35 #[.pointer (some a), .pointer none] w fun e w' => e = .returned (.tuple #[.pointer none, .int .i64 1]) ∧ w = w' := by
  go_enter Try.func35, Try.ntmps35
  go_wp2
  go_ret2
  exact ⟨rfl, rfl⟩
set_option maxHeartbeats 1000000 in
set_option maxRecDepth 100000 in
theorem nd_pair_dim {w : World} {k k' g g' : Nat} {lv lv' : Int} {pre pre' : List Nat} {es es' : List Ent} (h : NodeOf w k g lv pre es) (h' : NodeOf w k' g' lv' pre' es') (hk : k ≠ k') :
    Calls Try.prog 35 #[.pointer (some ⟨g, 0, none⟩), .pointer (some ⟨g', 0, none⟩)] w fun e w' => e = .returned (.tuple #[.pointer none, .int .i64 2]) ∧ Below w.heap.size w w' := by
  obtain ⟨A, c, v, kids, hB, -⟩ := h.head
  obtain ⟨A', c', v', kids', hB', -⟩ := h'.head
  have c1 := hB.cell 1
  have d1 := hB'.cell 1
  simp [nodeCells] at c1 d1
  clear hB hB' h h'
  go_enter Try.func35, Try.ntmps35
  go_wp2_with fail
  go_region_held3 (fun w' => w'.cell? ⟨g, 1, none⟩ = some (.slice A k c) ∧ w'.cell? ⟨g', 1, none⟩ = some (.slice A' k' c'))
    (first
      | go_keep)
    (first
      | (go_at_call 92
         refine (zb_part_bad A A' k c k' c' w.drew (.inr hk)).mono ?_
         rintro e w2 ⟨rfl, rfl⟩))
  go_wp2
  go_ret2
  exact ⟨rfl, (Below.refl _ _).drew⟩
set_option maxHeartbeats 1000000 in
set_option maxRecDepth 100000 in
theorem nd_pair_arg {w : World} {k g g' : Nat} {lv lv' : Int} {pre pre' : List Nat} {es es' : List Ent} (h : NodeOf w k g lv pre es) (h' : NodeOf w k g' lv' pre' es') (hk1 : 1 ≤ k) (hk : k ≤ 16)
    (hlv : part pre pre' ≤ lv ∨ part pre pre' ≤ lv') :
    Calls Try.prog 35 #[.pointer (some ⟨g, 0, none⟩), .pointer (some ⟨g', 0, none⟩)] w fun e w' => e = .returned (.tuple #[.pointer none, .int .i64 3]) ∧ Below w.heap.size w w' := by
  obtain ⟨A, c, v, kids, hB, hp, -⟩ := h.head
  obtain ⟨A', c', v', kids', hB', hp', -⟩ := h'.head
  have c0 := hB.cell 0
  have d0 := hB'.cell 0
  have c1 := hB.cell 1
  have d1 := hB'.cell 1
  simp [nodeCells] at c0 d0 c1 d1
  clear hB hB' h h'
  have e1 : decide (part pre pre' ≤ max lv lv') = true := by simp; omega
  clear hlv
  go_enter Try.func35, Try.ntmps35
  go_wp2_with fail
  go_region_held3 (fun w' => w'.cell? ⟨g, 1, none⟩ = some (.slice A k c) ∧ w'.cell? ⟨g', 1, none⟩ = some (.slice A' k c'))
    (first
      | go_keep)
    (first
      | (go_at_call 92
         refine (zb_part A A' k c c' pre pre' w.drew (hp.below (Below.refl _ w).drew) (hp'.below (Below.refl _ w).drew) hk1 hk).mono ?_
         rintro e w2 ⟨rfl, rfl⟩))
  go_wp2
  go_quiet (fail)
  go_wp2
  go_ret2
  exact ⟨rfl, below_drewN (Below.refl _ _).drew _⟩
end Go.Proofs.Ytkknfnjojamgjaa
