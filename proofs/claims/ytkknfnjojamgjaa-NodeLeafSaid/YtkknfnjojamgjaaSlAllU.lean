/- slots: Places, All, K, and what isn't there, at uint64. -/
import Derived.Test.YtkknfnjojamgjaaSlDelU
set_option linter.unusedSimpArgs false
set_option linter.unusedVariables false
namespace Go.Proofs.Ytkknfnjojamgjaa
open Go.RowKit
theorem info_int_u : (Try.prog.info? 3).map (fun i => (i.zero, i.size, i.bytes)) = some (some (.int .i64 0), 1, 8) := by kernel_rfl
theorem info_x_u : (Try.prog.info? 28).map (fun i => (i.zero, i.size, i.bytes)) = some (some (.int .u64 0), 1, 8) := by kernel_rfl
set_option maxHeartbeats 1000000 in
set_option maxRecDepth 100000 in
theorem places_u (g k : Nat) (L : Th) (w : World) (h : SlotsAt_u w g k L) :
    Calls Try.prog 30 #[.pointer (some ⟨g, 0, none⟩)] w fun e w' => ∃ v, e = .returned v ∧ w'.ownsRow w.heap.size 3 1 v L.length (L.map fun t => .int .i64 (t.1 : Int)) ∧ Below w.heap.size w w' := by
  have hO := h.ok
  have hXL := h.2.2.2.1
  have hl16 : L.length ≤ 65536 := by have := len_le_of_ok hO; have := pow16 h.2.1; omega
  obtain ⟨A, m, c, hB, hR, hm, hX, -, hLv, -⟩ := h.cells
  have HLv := hide hLv
  have hbT := things_u g _ _ A m c _ w hB hR hX (by omega)
  rw [hLv, mkC_length] at hbT
  have HT := hide hbT
  clear hbT hLv hR hX hB h
  go_enter Try.func30, Try.ntmps30
  go_wp2_with fail
  refine HT.out.mono ?_
  rintro e w1 ⟨v, rfl, ho1, hb1⟩
  obtain ⟨A1, c1, rfl, _, hR1⟩ := Rw.of_own ho1
  clear ho1
  go_wp2
  go_loopw [3, 11] (fun v i wr => ∃ (j : Nat), j ≤ L.length ∧ i = .int .i64 j ∧ wr.ownsRow w1.heap.size 3 1 v j ((L.take j).map fun t => .int .i64 (t.1 : Int)) ∧ Below w1.heap.size w1 wr) (fun _ i _ => L.length - (intOf i).toNat)
  case atStart => exact ⟨0, Nat.zero_le _, rfl, own_nil _ _ _ _, Below.refl _ _⟩
  case round =>
    obtain ⟨j, hj, rfl, hoR, hbR⟩ := hrel
    by_cases hlt : j < L.length
    · obtain ⟨b, o, d, rfl, hbl, hd, k0, k1, k2⟩ := (hR1.below hbR).cl hlt
      obtain ⟨y, hy⟩ := hXL d (List.mem_of_getElem? hd)
      rw [hy] at k1
      rw [mkC_get, List.getElem?_eq_getElem hlt] at hd
      injection hd with hd
      have hda : d.a = L[j].1 := by rw [← hd]
      have HD := hide hda
      clear hd hda hy
      go_wp2_with (at_builtin
                   refine app_any _ rfl (.tmp 15) (.tmp 18) _ rfl w1.heap.size 3 _ 1 8 Try.underlying29 info_int_u rfl (by omega) _ _ _ rfl ((hoR.alloc _).alloc _) (some ⟨wr.heap.size + 1, 0, none⟩) 1 1 [.int .i64 (d.a : Int)] rfl ?hr ?h1 ?c1 ?c2 ?c3 ?_
                   case hr => exact Rw.of_blk (t := 3) (cs := #[.int .i64 (d.a : Int)]) (by simpa using Blk.new (wr.alloc _) _ _) rfl (fun j u h => by simpa using h)
                   case h1 => intro u hu; rw [List.mem_singleton] at hu; rw [hu]; rfl
                   case c1 => simp only [maxLen]; omega
                   case c2 => omega
                   case c3 => exact (below_alloc (below_alloc hbR (Nat.le_refl _) _) (Nat.le_refl _) _).size
                   intro v' w' ho' hg' _)
      go_roundw
      case rel =>
        refine ⟨j + 1, by omega, by go_num, ?_, ?_⟩
        · rw [List.take_succ_eq_append_getElem hlt, List.map_append, List.map_singleton, ← HD.out]
          exact ho'
        · exact (below_alloc (below_alloc hbR (Nat.le_refl _) _) (Nat.le_refl _) _).grown hg' (below_alloc (below_alloc hbR (Nat.le_refl _) _) (Nat.le_refl _) _).size (own_base hoR)
      case measure => simp [intOf]; omega
    · have hj' : j = L.length := by omega
      rw [hj', List.take_of_length_le (Nat.le_refl _)] at hoR
      have HO := hide hoR
      clear hj' hoR
      go_wp2
      go_ret
      exact ⟨_, rfl, own_lower HO.out hb1.size, below_then hb1 hbR⟩
set_option maxHeartbeats 1000000 in
set_option maxRecDepth 100000 in
theorem all_u (g k : Nat) (L : Th) (w : World) (h : SlotsAt_u w g k L) :
    Calls Try.prog 31 #[.pointer (some ⟨g, 0, none⟩)] w fun e w' => ∃ v, e = .returned v ∧ w'.ownsRow w.heap.size 28 1 v L.length (L.map fun t => t.2) ∧ Below w.heap.size w w' := by
  have hO := h.ok
  have hXL := h.2.2.2.1
  have hl16 : L.length ≤ 65536 := by have := len_le_of_ok hO; have := pow16 h.2.1; omega
  obtain ⟨A, m, c, hB, hR, hm, hX, -, hLv, -⟩ := h.cells
  have HLv := hide hLv
  have hbT := things_u g _ _ A m c _ w hB hR hX (by omega)
  rw [hLv, mkC_length] at hbT
  have HT := hide hbT
  clear hbT hLv hR hX hB h
  go_enter Try.func31, Try.ntmps31
  go_wp2_with fail
  refine HT.out.mono ?_
  rintro e w1 ⟨v, rfl, ho1, hb1⟩
  obtain ⟨A1, c1, rfl, _, hR1⟩ := Rw.of_own ho1
  clear ho1
  go_wp2
  go_loopw [3, 11] (fun v i wr => ∃ (j : Nat), j ≤ L.length ∧ i = .int .i64 j ∧ wr.ownsRow w1.heap.size 28 1 v j ((L.take j).map fun t => t.2) ∧ Below w1.heap.size w1 wr) (fun _ i _ => L.length - (intOf i).toNat)
  case atStart => exact ⟨0, Nat.zero_le _, rfl, own_nil _ _ _ _, Below.refl _ _⟩
  case round =>
    obtain ⟨j, hj, rfl, hoR, hbR⟩ := hrel
    by_cases hlt : j < L.length
    · obtain ⟨b, o, d, rfl, hbl, hd, k0, k1, k2⟩ := (hR1.below hbR).cl hlt
      obtain ⟨y, hy⟩ := hXL d (List.mem_of_getElem? hd)
      rw [hy] at k1
      rw [mkC_get, List.getElem?_eq_getElem hlt] at hd
      injection hd with hd
      have hda : .int .u64 y = L[j].2 := by rw [← hy, ← hd]
      have HD := hide hda
      clear hd hda hy
      go_wp2_with (at_builtin
                   refine app_any _ rfl (.tmp 15) (.tmp 18) _ rfl w1.heap.size 28 _ 1 8 Try.underlying30 info_x_u rfl (by omega) _ _ _ rfl ((hoR.alloc _).alloc _) (some ⟨wr.heap.size + 1, 0, none⟩) 1 1 [.int .u64 y] rfl ?hr ?h1 ?c1 ?c2 ?c3 ?_
                   case hr => exact Rw.of_blk (t := 28) (cs := #[.int .u64 y]) (by simpa using Blk.new (wr.alloc _) _ _) rfl (fun j u h => by simpa using h)
                   case h1 => intro u hu; rw [List.mem_singleton] at hu; rw [hu]; rfl
                   case c1 => simp only [maxLen]; omega
                   case c2 => omega
                   case c3 => exact (below_alloc (below_alloc hbR (Nat.le_refl _) _) (Nat.le_refl _) _).size
                   intro v' w' ho' hg' _)
      go_roundw
      case rel =>
        refine ⟨j + 1, by omega, by go_num, ?_, ?_⟩
        · rw [List.take_succ_eq_append_getElem hlt, List.map_append, List.map_singleton, ← HD.out]
          exact ho'
        · exact (below_alloc (below_alloc hbR (Nat.le_refl _) _) (Nat.le_refl _) _).grown hg' (below_alloc (below_alloc hbR (Nat.le_refl _) _) (Nat.le_refl _) _).size (own_base hoR)
      case measure => simp [intOf]; omega
    · have hj' : j = L.length := by omega
      rw [hj', List.take_of_length_le (Nat.le_refl _)] at hoR
      have HO := hide hoR
      clear hj' hoR
      go_wp2
      go_ret
      exact ⟨_, rfl, own_lower HO.out hb1.size, below_then hb1 hbR⟩
set_option maxHeartbeats 1000000 in
set_option maxRecDepth 100000 in
theorem get_nil_u (addr : Int) (w : World) :
    Calls Try.prog 24 #[.pointer none, .int .i64 addr] w fun e w' => e = .returned (.tuple #[(.int .u64 0), .bool false]) ∧ w = w' := by
  go_enter Try.func24, Try.ntmps24
  go_wp2
  go_ret2
  exact ⟨rfl, rfl⟩
set_option maxHeartbeats 1000000 in
set_option maxRecDepth 100000 in
theorem from_nil_u (addr : Int) (w : World) :
    Calls Try.prog 25 #[.pointer none, .int .i64 addr] w fun e w' => e = .returned (.tuple #[.int .i64 0, (.int .u64 0), .bool false]) ∧ w = w' := by
  go_enter Try.func25, Try.ntmps25
  go_wp2
  go_ret3
  exact ⟨rfl, rfl⟩
set_option maxHeartbeats 1000000 in
set_option maxRecDepth 100000 in
theorem upto_nil_u (addr : Int) (w : World) :
    Calls Try.prog 26 #[.pointer none, .int .i64 addr] w fun e w' => e = .returned (.tuple #[.int .i64 0, (.int .u64 0), .bool false]) ∧ w = w' := by
  go_enter Try.func26, Try.ntmps26
  go_wp2
  go_ret3
  exact ⟨rfl, rfl⟩
set_option maxHeartbeats 1000000 in
set_option maxRecDepth 100000 in
theorem places_nil_u (w : World) :
    Calls Try.prog 30 #[.pointer none] w fun e w' => e = .returned (.slice none 0 0) ∧ w = w' := by
  go_enter Try.func30, Try.ntmps30
  go_wp2
  go_ret
  exact ⟨rfl, rfl⟩
set_option maxHeartbeats 1000000 in
set_option maxRecDepth 100000 in
theorem all_nil_u (w : World) :
    Calls Try.prog 31 #[.pointer none] w fun e w' => e = .returned (.slice none 0 0) ∧ w = w' := by
  go_enter Try.func31, Try.ntmps31
  go_wp2
  go_ret
  exact ⟨rfl, rfl⟩
set_option maxHeartbeats 1000000 in
set_option maxRecDepth 100000 in
theorem len_nil_u (w : World) :
    Calls Try.prog 28 #[.pointer none] w fun e w' => e = .returned (.int .i64 0) ∧ w = w' := by
  go_enter Try.func28, Try.ntmps28
  go_wp2
  go_ret
  exact ⟨rfl, rfl⟩
set_option maxHeartbeats 1000000 in
set_option maxRecDepth 100000 in
theorem denseM_nil_u (w : World) :
    Calls Try.prog 29 #[.pointer none] w fun e w' => e = .returned (.bool false) ∧ Below w.heap.size w w' := by
  go_enter Try.func29, Try.ntmps29
  go_wp2_with fail
  go_quiet (fail)
  go_wp2
  go_ret
  exact ⟨rfl, below_drewN (Below.refl _ _) _⟩
end Go.Proofs.Ytkknfnjojamgjaa
