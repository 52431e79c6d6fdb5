/- Slots of nodes: every function. -/
import Derived.Test.YtlgdllohmmmegaaProg
import Derived.Test.YtlgdllohmmmegaaBaA
import Derived.StillTailTactics
import Derived.Deep.RegionHeld3
set_option linter.unusedSimpArgs false
set_option linter.unusedVariables false
namespace Go.Proofs.Ytlgdllohmmmegaa
section
open Go.RowKit
def IsX_n (cs : List Cl) : Prop := ∀ c ∈ cs, ∃ y, c.x = .pointer y
end
section
open Go.RowKit
theorem isx_one_n {cs : List Cl} (h : IsX_n cs) : ∀ c ∈ cs, c.x.oneCell' = true := by
  intro c hc
  obtain ⟨y, hy⟩ := h c hc
  rw [hy]
  rfl
end
section
open Go.RowKit
theorem isx_cells_n {k : Nat} {L : Th} (h : IsX_n (mkC L)) : IsX_n (cellsOf (.pointer none) k L) := by
  unfold cellsOf
  split
  · intro c hc
    obtain ⟨i, _, rfl⟩ := List.mem_map.1 hc
    unfold cellAt
    split
    · rename_i t ht
      exact h ⟨t.1, t.2, true⟩ (List.mem_map.2 ⟨t, List.mem_of_find?_eq_some ht, rfl⟩)
    · exact ⟨_, rfl⟩
  · exact h
end
section
open Go.RowKit
end
section
open Go.RowKit
end
section
open Go.RowKit
theorem zc_n (m : Nat) : (Builtin.zeroCells (Value.agg #[.int .i64 0, (.pointer none), .bool false]).cells m).toList = clv (List.replicate m ⟨0, (.pointer none), false⟩) := by
  have h := made_clv (.pointer none) m
  rw [laidTo_zero] at h
  rw [← h]
  rfl
theorem clv_one_n {cs : List Cl} (h : IsX_n cs) : ∀ u ∈ clv cs, u.oneCell' = true := by
  intro u hu
  obtain ⟨c, hc, hu⟩ := List.mem_flatMap.1 hu
  exact vals_one c (isx_one_n h c hc) u hu
theorem isx_rep_n (m : Nat) : IsX_n (List.replicate m ⟨0, (.pointer none), false⟩) := by
  intro c hc
  rw [(List.mem_replicate.1 hc).2]
  exact ⟨_, rfl⟩
end
section
open Go.RowKit
theorem isx_ins_n {L : Th} {a : Nat} {y} (h : IsX_n (mkC L)) : IsX_n (mkC (insTh L a (.pointer y))) := by
  intro c hc
  obtain ⟨t, ht, rfl⟩ := List.mem_map.1 hc
  unfold insTh at ht
  rcases List.mem_append.1 ht with ht | ht
  · rcases List.mem_append.1 ht with ht | ht
    · exact h _ (List.mem_map.2 ⟨t, (List.mem_filter.1 ht).1, rfl⟩)
    · simp at ht
      rw [ht]
      exact ⟨_, rfl⟩
  · exact h _ (List.mem_map.2 ⟨t, (List.mem_filter.1 ht).1, rfl⟩)
end
section
open Go.RowKit
theorem isx_del_n {L : Th} {a : Nat} (h : IsX_n (mkC L)) : IsX_n (mkC (delTh L a)) := by
  intro c hc
  obtain ⟨t, ht, rfl⟩ := List.mem_map.1 hc
  exact h _ (List.mem_map.2 ⟨t, (List.mem_filter.1 ht).1, rfl⟩)
end
section
open Go.RowKit
theorem info_int_n : (Try.prog.info? 3).map (fun i => (i.zero, i.size, i.bytes)) = some (some (.int .i64 0), 1, 8) := by kernel_rfl
end
end Go.Proofs.Ytlgdllohmmmegaa
