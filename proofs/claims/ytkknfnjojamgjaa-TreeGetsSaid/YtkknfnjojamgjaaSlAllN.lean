/- slots: Places, All, K, and what isn't there, at *pantile/node.Node. -/
import Derived.Test.YtkknfnjojamgjaaSlDelN
set_option linter.unusedSimpArgs false
set_option linter.unusedVariables false
namespace Go.Proofs.Ytkknfnjojamgjaa
open Go.RowKit
theorem info_int_n : (Try.prog.info? 3).map (fun i => (i.zero, i.size, i.bytes)) = some (some (.int .i64 0), 1, 8) := by kernel_rfl
theorem info_x_n : (Try.prog.info? 54).map (fun i => (i.zero, i.size, i.bytes)) = some (some (.pointer none), 1, 8) := by kernel_rfl
set_option maxHeartbeats 1000000 in
set_option maxRecDepth 100000 in
theorem places_n (g k : Nat) (L : Th) (w : World) (h : SlotsAt_n w g k L) :
    Calls Try.prog 113 #[.pointer (some ⟨g, 0, none⟩)] w fun e w' => ∃ v, e = .returned v ∧ w'.ownsRow w.heap.size 3 1 v L.length (L.map fun t => .int .i64 (t.1 : Int)) ∧ Below w.heap.size w w' := by
  have hO := h.ok
  have hXL := h.2.2.2.1
  have hl16 : L.length ≤ 65536 := by have := len_le_of_ok hO; have := pow16 h.2.1; omega
  obtain ⟨A, m, c, hB, hR, hm, hX, -, hLv, -⟩ := h.cells
  have HLv := hide hLv
  have hbT := things_n g _ _ A m c _ w hB hR hX (by omega)
  rw [hLv, mkC_length] at hbT
  have HT := hide hbT
  clear hbT hLv hR hX hB h
  go_enter Try.func113, Try.ntmps113
  go_wp2_with fail
  refine HT.out.mono ?_
  rintro e w1 ⟨v, rfl, ho1, hb1⟩
  obtain ⟨A1, c1, rfl, _, hR1⟩ := Rw.of_own ho1
  clear ho1
  go_wp2
  go_loopw [3, 11] (fun v i wr => ∃ (j : Nat), j ≤ L.length ∧ i = .int .i64 j ∧ wr.ownsRow w1.heap.size 3 1 v j ((L.take j).map fun t => .int .i64 (t.1 : Int)) ∧ Below w1.heap.size w1 wr) (fun _ i _ => L.length - (intOf i).toNat)
  case atStart => exact ⟨0, Nat.zero_le _, rfl, own_nil _ _ _ _, Below.refl _ _⟩
  case round =>
    obtain ⟨j, hj, rfl, hoR, hbR⟩ := hrel
    by_cases hlt : j < L.length
    · obtain ⟨b, o, d, rfl, hbl, hd, k0, k1, k2⟩ := (hR1.below hbR).cl hlt
      obtain ⟨y, hy⟩ := hXL d (List.mem_of_getElem? hd)
      rw [hy] at k1
      rw [mkC_get, List.getElem?_eq_getElem hlt] at hd
      injection hd with hd
      have hda : d.a = L[j].1 := by rw [← hd]
      have HD := hide hda
      clear hd hda hy
      go_wp2_with (at_builtin
                   refine app_any _ rfl (.tmp 15) (.tmp 18) _ rfl w1.heap.size 3 _ 1 8 Try.underlying29 info_int_n rfl (by omega) _ _ _ rfl ((hoR.alloc _).alloc _) (some ⟨wr.heap.size + 1, 0, none⟩) 1 1 [.int .i64 (d.a : Int)] rfl ?hr ?h1 ?c1 ?c2 ?c3 ?_
                   case hr => exact Rw.of_blk (t := 3) (cs := #[.int .i64 (d.a : Int)]) (by simpa using Blk.new (wr.alloc _) _ _) rfl (fun j u h => by simpa using h)
                   case h1 => intro u hu; rw [List.mem_singleton] at hu; rw [hu]; rfl
                   case c1 => simp only [maxLen]; omega
                   case c2 => omega
                   case c3 => exact (below_alloc (below_alloc hbR (Nat.le_refl _) _) (Nat.le_refl _) _).size
                   intro v' w' ho' hg' _)
      go_roundw
      case rel =>
        refine ⟨j + 1, by omega, by go_num, ?_, ?_⟩
        · rw [List.take_succ_eq_append_getElem hlt, List.map_append, List.map_singleton, ← HD.out]
          exact ho'
        · exact (below_alloc (below_alloc hbR (Nat.le_refl _) _) (Nat.le_refl _) _).grown hg' (below_alloc (below_alloc hbR (Nat.le_refl _) _) (Nat.le_refl _) _).size (own_base hoR)
      case measure => simp [intOf]; omega
    · have hj' : j = L.length := by omega
      rw [hj', List.take_of_length_le (Nat.le_refl _)] at hoR
      have HO := hide hoR
      clear hj' hoR
      go_wp2
      go_ret
      exact ⟨_, rfl, own_lower HO.out hb1.size, below_then hb1 hbR⟩
set_option maxHeartbeats 1000000 in
set_option maxRecDepth 100000 in
theorem all_n (g k : Nat) (L : Th) (w : World) (h : SlotsAt_n w g k L) :
    Calls Try.prog 109 #[.pointer (some ⟨g, 0, none⟩)] w fun e w' => ∃ v, e = .returned v ∧ w'.ownsRow w.heap.size 54 1 v L.length (L.map fun t => t.2) ∧ Below w.heap.size w w' := by
  have hO := h.ok
  have hXL := h.2.2.2.1
  have hl16 : L.length ≤ 65536 := by have := len_le_of_ok hO; have := pow16 h.2.1; omega
  obtain ⟨A, m, c, hB, hR, hm, hX, -, hLv, -⟩ := h.cells
  have HLv := hide hLv
  have hbT := things_n g _ _ A m c _ w hB hR hX (by omega)
  rw [hLv, mkC_length] at hbT
  have HT := hide hbT
  clear hbT hLv hR hX hB h
  go_enter Try.func109, Try.ntmps109
  go_wp2_with fail
  refine HT.out.mono ?_
  rintro e w1 ⟨v, rfl, ho1, hb1⟩
  obtain ⟨A1, c1, rfl, _, hR1⟩ := Rw.of_own ho1
  clear ho1
  go_wp2
  go_loopw [3, 11] (fun v i wr => ∃ (j : Nat), j ≤ L.length ∧ i = .int .i64 j ∧ wr.ownsRow w1.heap.size 54 1 v j ((L.take j).map fun t => t.2) ∧ Below w1.heap.size w1 wr) (fun _ i _ => L.length - (intOf i).toNat)
  case atStart => exact ⟨0, Nat.zero_le _, rfl, own_nil _ _ _ _, Below.refl _ _⟩
  case round =>
    obtain ⟨j, hj, rfl, hoR, hbR⟩ := hrel
    by_cases hlt : j < L.length
    · obtain ⟨b, o, d, rfl, hbl, hd, k0, k1, k2⟩ := (hR1.below hbR).cl hlt
      obtain ⟨y, hy⟩ := hXL d (List.mem_of_getElem? hd)
      rw [hy] at k1
      rw [mkC_get, List.getElem?_eq_getElem hlt] at hd
      injection hd with hd
      have hda : .pointer y = L[j].2 := by rw [← hy, ← hd]
      have HD := hide hda
      clear hd hda hy
      go_wp2_with (at_builtin
                   refine app_any _ rfl (.tmp 15) (.tmp 18) _ rfl w1.heap.size 54 _ 1 8 Try.underlying51 info_x_n rfl (by omega) _ _ _ rfl ((hoR.alloc _).alloc _) (some ⟨wr.heap.size + 1, 0, none⟩) 1 1 [.pointer y] rfl ?hr ?h1 ?c1 ?c2 ?c3 ?_
                   case hr => exact Rw.of_blk (t := 54) (cs := #[.pointer y]) (by simpa using Blk.new (wr.alloc _) _ _) rfl (fun j u h => by simpa using h)
                   case h1 => intro u hu; rw [List.mem_singleton] at hu; rw [hu]; rfl
                   case c1 => simp only [maxLen]; omega
                   case c2 => omega
                   case c3 => exact (below_alloc (below_alloc hbR (Nat.le_refl _) _) (Nat.le_refl _) _).size
                   intro v' w' ho' hg' _)
      go_roundw
      case rel =>
        refine ⟨j + 1, by omega, by go_num, ?_, ?_⟩
        · rw [List.take_succ_eq_append_getElem hlt, List.map_append, List.map_singleton, ← HD.out]
          exact ho'
        · exact (below_alloc (below_alloc hbR (Nat.le_refl _) _) (Nat.le_refl _) _).grown hg' (below_alloc (below_alloc hbR (Nat.le_refl _) _) (Nat.le_refl _) _).size (own_base hoR)
      case measure => simp [intOf]; omega
    · have hj' : j = L.length := by omega
      rw [hj', List.take_of_length_le (Nat.le_refl _)] at hoR
      have HO := hide hoR
      clear hj' hoR
      go_wp2
      go_ret
      exact ⟨_, rfl, own_lower HO.out hb1.size, below_then hb1 hbR⟩
set_option maxHeartbeats 1000000 in
set_option maxRecDepth 100000 in
theorem get_nil_n (addr : Int) (w : World) :
    Calls Try.prog 105 #[.pointer none, .int .i64 addr] w fun e w' => e = .returned (.tuple #[(.pointer none), .bool false]) ∧ w = w' := by
  go_enter Try.func105, Try.ntmps105
  go_wp2
  go_ret2
  exact ⟨rfl, rfl⟩
set_option maxHeartbeats 1000000 in
set_option maxRecDepth 100000 in
theorem from_nil_n (addr : Int) (w : World) :
    Calls Try.prog 110 #[.pointer none, .int .i64 addr] w fun e w' => e = .returned (.tuple #[.int .i64 0, (.pointer none), .bool false]) ∧ w = w' := by
  go_enter Try.func110, Try.ntmps110
  go_wp2
  go_ret3
  exact ⟨rfl, rfl⟩
set_option maxHeartbeats 1000000 in
set_option maxRecDepth 100000 in
theorem upto_nil_n (addr : Int) (w : World) :
    Calls Try.prog 111 #[.pointer none, .int .i64 addr] w fun e w' => e = .returned (.tuple #[.int .i64 0, (.pointer none), .bool false]) ∧ w = w' := by
  go_enter Try.func111, Try.ntmps111
  go_wp2
  go_ret3
  exact ⟨rfl, rfl⟩
set_option maxHeartbeats 1000000 in
set_option maxRecDepth 100000 in
theorem places_nil_n (w : World) :
    Calls Try.prog 113 #[.pointer none] w fun e w' => e = .returned (.slice none 0 0) ∧ w = w' := by
  go_enter Try.func113, Try.ntmps113
  go_wp2
  go_ret
  exact ⟨rfl, rfl⟩
set_option maxHeartbeats 1000000 in
set_option maxRecDepth 100000 in
theorem all_nil_n (w : World) :
    Calls Try.prog 109 #[.pointer none] w fun e w' => e = .returned (.slice none 0 0) ∧ w = w' := by
  go_enter Try.func109, Try.ntmps109
  go_wp2
  go_ret
  exact ⟨rfl, rfl⟩
set_option maxHeartbeats 1000000 in
set_option maxRecDepth 100000 in
theorem len_nil_n (w : World) :
    Calls Try.prog 108 #[.pointer none] w fun e w' => e = .returned (.int .i64 0) ∧ w = w' := by
  go_enter Try.func108, Try.ntmps108
  go_wp2
  go_ret
  exact ⟨rfl, rfl⟩
set_option maxHeartbeats 1000000 in
set_option maxRecDepth 100000 in
theorem denseM_nil_n (w : World) :
    Calls Try.prog 114 #[.pointer none] w fun e w' => e = .returned (.bool false) ∧ Below w.heap.size w w' := by
  go_enter Try.func114, Try.ntmps114
  go_wp2_with fail
  go_quiet (fail)
  go_wp2
  go_ret
  exact ⟨rfl, below_drewN (Below.refl _ _) _⟩
end Go.Proofs.Ytkknfnjojamgjaa
