/- slots.Put at *pantile/node.Node. -/
import Derived.Test.YtkknfnjojamgjaaSlInsN
set_option linter.unusedSimpArgs false
set_option linter.unusedVariables false
namespace Go.Proofs.Ytkknfnjojamgjaa
open Go.RowKit
theorem isx_ins_n {L : Th} {a : Nat} {y} (h : IsX_n (mkC L)) : IsX_n (mkC (insTh L a (.pointer y))) := by
  intro c hc
  obtain ⟨t, ht, rfl⟩ := List.mem_map.1 hc
  unfold insTh at ht
  rcases List.mem_append.1 ht with ht | ht
  · rcases List.mem_append.1 ht with ht | ht
    · exact h _ (List.mem_map.2 ⟨t, (List.mem_filter.1 ht).1, rfl⟩)
    · simp at ht
      rw [ht]
      exact ⟨_, rfl⟩
  · exact h _ (List.mem_map.2 ⟨t, (List.mem_filter.1 ht).1, rfl⟩)
set_option maxHeartbeats 2000000 in
set_option maxRecDepth 100000 in
theorem put_n (g k : Nat) (L : Th) (a : Nat) (y) (w : World) (h : SlotsAt_n w g k L) (ha : a < 2 ^ k) :
    Calls Try.prog 94 #[.pointer (some ⟨g, 0, none⟩), .int .i64 (a : Int), .pointer y] w fun e w' => ∃ g', e = .returned (.tuple #[.pointer (some ⟨g', 0, none⟩), .int .i64 0]) ∧ SlotsAt_n w' g' k (insTh L a (.pointer y)) ∧ w.heap.size ≤ g' ∧ Below w.heap.size w w' := by
  have hO := h.ok
  have hk1 := h.1
  have hk := h.2.1
  have hXL := h.2.2.2.1
  have hp16 := pow16 hk
  have hll := len_le_of_ok hO
  have ha16 : a < 65536 := by omega
  have hl16 : L.length ≤ 65536 := by omega
  have hc0 : chk k a = 0 := by unfold chk; rw [if_pos ⟨by omega, by omega⟩]
  obtain ⟨A, m, c, hB, hR, hm, hX, hS, hLv, -⟩ := h.cells
  have HLv := hide hLv
  have HO' := insTh_ok (.pointer y) hO ha
  have hcheck := check_n g k L a w h
  generalize cellsOf (.pointer none) k L = cs at *
  have HC := hide hcheck
  have HA := hide ha
  clear hcheck h hLv hp16 hll ha
  go_enter Try.func94, Try.ntmps94
  go_wp2_with fail
  refine HC.out.mono ?_
  rintro e w0 ⟨rfl, rfl⟩
  go_wp2_with fail
  refine (things_n g _ _ A m c cs w hB hR hX (by omega)).mono ?_
  rintro e w1 ⟨v, rfl, ho, hb⟩
  rw [HLv.out, mkC_length] at ho
  obtain ⟨A1, c1, rfl, hnc1, hR1⟩ := Rw.of_own ho
  go_wp2_with fail
  refine (bsearch_n A1 L.length c1 L k a w1 hR1 hXL hO hk (by omega) (by omega)).mono ?_
  rintro e w2 ⟨at_, ok, rfl, hF, hb2⟩
  have ho2 := own_below ho hb2
  have hbb := below_then hb hb2
  have hH0 := (hB.below hbb).cell 0
  simp at hH0
  have HO2 := hide ho2
  have HBB := hide hbb
  have hBW := hide (hB.below hbb)
  have hwle := hbb.size
  clear ho ho2 hbb hb hb2 hR1 HC
  cases ok with
  | true =>
    obtain ⟨hlt, hset⟩ := ins_old (.pointer y) hO hF
    obtain ⟨g1, cap1, hv, hg1, hg2⟩ := HO2.out.form (by omega)
    injection hv with hA1 _ hc1
    subst hA1 hc1
    obtain ⟨d, hd, k0, k1, k2, f0, f1, f2⟩ := own_cells HO2.out hlt
    have hda : (⟨d.a, .pointer y, d.h⟩ : Cl) = ⟨a, .pointer y, true⟩ := by
      have h4 := hF.2.2.2
      rw [hd] at h4
      simp at h4
      have e1 : d.a = a := by omega
      rw [e1, h4.2]
    have HS := hide ((HO2.out.stored (at_ * 3 + 1) (.pointer y)).1)
    have HE := hide (clv_set_x (mkC L) at_ (.pointer y) d hd)
    have HD := hide hda
    have HSet := hide hset
    have hgne : g ≠ g1 := fun e => by have := hB.lt; omega
    have hH0' := (hBW.out.set_ g1 (at_ * 3 + 1) (.pointer y) hgne).cell 0
    simp at hH0'
    clear hF hd hda k0 k2 f0 f2 hset
    go_wp2_with fail
    have hrow : Rw (w2.setCell ⟨g1, at_ * 3 + 1, none⟩ (.pointer y)) 3 (some ⟨g1, 0, none⟩) L.length (clv (mkC (insTh L a (.pointer y)))) := by
      have h1 := HS.out
      rw [HE.out, HD.out, HSet.out] at h1
      obtain ⟨A', c', hv', _, hr'⟩ := Rw.of_own h1
      injection hv' with hA' _ _
      rw [hA']
      exact hr'
    refine (kept_n k (some ⟨g1, 0, none⟩) L.length c1 (insTh L a (.pointer y)) _ hk1 hk hrow (isx_ins_n hXL) HO').mono ?_
    rintro e w3 ⟨g', rfl, hs', hg', hb3⟩
    have HS' := hide hs'
    clear hs' hrow
    have hb4 : Below w.heap.size w (w2.setCell ⟨g1, at_ * 3 + 1, none⟩ (.pointer y)) := HBB.out.setCell hg1 _
    have hb5 := below_then hb4 hb3
    have hsz := hb4.size
    clear hb3
    go_wp2
    go_ret2
    exact ⟨g', rfl, HS'.out, by omega, hb5⟩
  | false =>
    have hins := ins_new (.pointer y) hO hF
    have hle : at_ ≤ L.length := by have := hF.1; rw [mkC_length] at this; exact this
    have HI := hide hins
    clear hF hins
    go_wp2_with fail
    refine (insert_n w.heap.size A1 L.length c1 at_ (mkC L) a y true w2.heap.size _ (HO2.out.alloc _) hXL hl16 hle (Blk.new _ _ _) (fun e => by have := own_block_lt HO2.out _ e; omega) (by simp; omega)).mono ?_
    rintro e w3 ⟨v, rfl, ho3, hb3⟩
    rw [HI.out] at ho3
    have hlen : (insTh L a (.pointer y)).length = L.length + 1 := by
      have h1 := congrArg List.length HI.out
      simp [mkC_length] at h1
      omega
    obtain ⟨A3, c3, rfl, _, hR3⟩ := Rw.of_own ho3
    have hH0' := (((hBW.out).alloc (.cells #[.int .i64 (a : Int), .pointer y, .bool true] 182)).belowB hb3 hB.lt).cell 0
    simp at hH0'
    have hb4 : Below w.heap.size w w3 := (below_alloc HBB.out (Nat.le_refl _) _).trans hb3
    have HL := hide hlen
    clear hlen hb3 ho3
    go_wp2_with fail
    refine (kept_n k A3 (L.length + 1) c3 (insTh L a (.pointer y)) _ hk1 hk hR3 (isx_ins_n hXL) HO').mono ?_
    rintro e w4 ⟨g', rfl, hs', hg', hb5⟩
    have HS' := hide hs'
    have hb6 := below_then hb4 hb5
    have hsz := hb4.size
    clear hs' hb5
    go_wp2
    go_ret2
    exact ⟨g', rfl, HS'.out, by omega, hb6⟩
set_option maxHeartbeats 2000000 in
set_option maxRecDepth 100000 in
theorem put_bad_n (g k : Nat) (L : Th) (addr : Int) (x : Value) (w : World) (h : SlotsAt_n w g k L) (ha : chk k addr = 3) :
    Calls Try.prog 94 #[.pointer (some ⟨g, 0, none⟩), .int .i64 addr, x] w fun e w' => e = .returned (.tuple #[.pointer none, .int .i64 3]) ∧ w = w' := by
  have HC := hide (check_n g k L addr w h)
  clear h
  go_enter Try.func94, Try.ntmps94
  go_wp2_with fail
  refine HC.out.mono ?_
  rintro e w0 ⟨rfl, rfl⟩
  go_wp2
  go_ret2
  exact ⟨rfl, rfl⟩
set_option maxHeartbeats 2000000 in
set_option maxRecDepth 100000 in
theorem put_nil_n (addr : Int) (x : Value) (w : World) :
    Calls Try.prog 94 #[.pointer none, .int .i64 addr, x] w fun e w' => e = .returned (.tuple #[.pointer none, .int .i64 1]) ∧ w = w' := by
  go_enter Try.func94, Try.ntmps94
  go_wp2_with fail
  refine (check_nil_n addr w).mono ?_
  rintro e w0 ⟨rfl, rfl⟩
  go_wp2
  go_ret2
  exact ⟨rfl, rfl⟩
end Go.Proofs.Ytkknfnjojamgjaa
