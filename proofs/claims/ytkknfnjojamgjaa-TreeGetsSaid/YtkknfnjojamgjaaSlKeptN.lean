/- slots.dense, slots.kept at *pantile/node.Node. -/
import Derived.Test.YtkknfnjojamgjaaSlThingsN
import Derived.Test.YtkknfnjojamgjaaSlDense
import Derived.StillTailTactics
set_option linter.unusedSimpArgs false
set_option linter.unusedVariables false
namespace Go.Proofs.Ytkknfnjojamgjaa
open Go.RowKit
def SlotsAt_n (w : World) (g k : Nat) (L : Th) : Prop :=
  1 ≤ k ∧ k ≤ 16 ∧ OkTh k L ∧ IsX_n (mkC L) ∧ ∃ A m c, Blk w g 178 #[.int .i64 (k : Nat), .int .i64 (L.length : Nat), .slice A m c] ∧ Rw w 3 A m (clv (cellsOf (.pointer none) k L)) ∧ m ≤ 65536
theorem SlotsAt_n.below {w w' : World} {g k : Nat} {L : Th} (h : SlotsAt_n w g k L) (hb : Below w.heap.size w w') : SlotsAt_n w' g k L := by
  obtain ⟨h1, h2, h3, h4, A, m, c, h5, h6, h7⟩ := h
  exact ⟨h1, h2, h3, h4, A, m, c, h5.below hb, h6.below hb, h7⟩
theorem isx_cells_n {k : Nat} {L : Th} (h : IsX_n (mkC L)) : IsX_n (cellsOf (.pointer none) k L) := by
  unfold cellsOf
  split
  · intro c hc
    obtain ⟨i, _, rfl⟩ := List.mem_map.1 hc
    unfold cellAt
    split
    · rename_i t ht
      exact h ⟨t.1, t.2, true⟩ (List.mem_map.2 ⟨t, List.mem_of_find?_eq_some ht, rfl⟩)
    · exact ⟨_, rfl⟩
  · exact h
set_option maxHeartbeats 1000000 in
set_option maxRecDepth 100000 in
theorem kept_n (k : Nat) (A : Option Addr) (n c : Nat) (L : Th) (w : World) (hk : 1 ≤ k) (hk2 : k ≤ 16) (hR : Rw w 3 A n (clv (mkC L))) (hX : IsX_n (mkC L)) (hO : OkTh k L) :
    Calls Try.prog 133 #[.int .i64 k, .slice A n c] w fun e w' => ∃ g, e = .returned (.pointer (some ⟨g, 0, none⟩)) ∧ SlotsAt_n w' g k L ∧ w.heap.size ≤ g ∧ Below w.heap.size w w' := by
  have HL : Hid (L.length = n) := by have := hR.1; rw [clv_length, mkC_length] at this; exact hide (by omega)
  have hn : n ≤ 65536 := by have := len_le_of_ok hO; have := pow16 hk2; have := HL.out; omega
  by_cases hden : denseB k n = true
  · obtain ⟨m, hm⟩ : ∃ m, 2 ^ k = m := ⟨_, rfl⟩
    have hw := wrap_pow hk2
    rw [hm] at hw
    have hm2 : m ≤ 65536 := by have := pow16 hk2; omega
    have HM := hide hm
    clear hm
    have hmk := fun W => run_make_info (P := Try.prog) 176 182 (.agg #[.int .i64 0, (.pointer none), .bool false]) 3 24 Try.underlying176 info_cell_n m (by omega) (by omega) W
    go_enter Try.func133, Try.ntmps133
    go_wp2_with (go_at_call 91; refine (dense_any _ _ _ hk2 (by omega)).mono ?_; rintro e w' ⟨rfl, rfl⟩)
    obtain ⟨g0, hg0⟩ : ∃ g0, g0 = w.heap.size := ⟨_, rfl⟩
    have hown := made_own (w.alloc (.cells #[.int .i64 k, .int .i64 n, .slice (some ⟨w.heap.size + 1, 0, none⟩) m m] 178)) 182 (.pointer none) m hm2
    have hblk : Blk ((w.alloc (.cells #[.int .i64 k, .int .i64 n, .slice (some ⟨w.heap.size + 1, 0, none⟩) m m] 178)).alloc (.cells (madeCells #[.int .i64 0, (.pointer none), .bool false] (m * 3)) 182)) w.heap.size 178 #[.int .i64 k, .int .i64 n, .slice (some ⟨w.heap.size + 1, 0, none⟩) m m] := (Blk.new _ _ _).alloc _
    have hb0 : Below w.heap.size w ((w.alloc (.cells #[.int .i64 k, .int .i64 n, .slice (some ⟨w.heap.size + 1, 0, none⟩) m m] 178)).alloc (.cells (madeCells #[.int .i64 0, (.pointer none), .bool false] (m * 3)) 182)) := below_alloc (below_alloc (Below.refl _ _) (Nat.le_refl _) _) (Nat.le_refl _) _
    simp only [World.size_alloc] at hown
    go_loopw [32] (fun i wr => ∃ (j : Nat), j ≤ m ∧ i = .int .i64 j ∧ Blk wr w.heap.size 178 #[.int .i64 k, .int .i64 n, .slice (some ⟨w.heap.size + 1, 0, none⟩) m m] ∧ wr.ownsRow (w.heap.size + 1) 182 3 (.slice (some ⟨w.heap.size + 1, 0, none⟩) m m) m (clv (laidTo (.pointer none) m j)) ∧ Below w.heap.size w wr) (fun i _ => m - (intOf i).toNat)
    case atStart => exact ⟨0, by omega, rfl, hblk, hown, hb0⟩
    case round =>
      obtain ⟨j, hj, rfl, hB, ho, hb⟩ := hrel
      clear hown hblk hb0 hg0
      by_cases hlt : j < m
      · have H2 := hB.cell 2
        simp at H2
        obtain ⟨d, hd, k0, k1, k2, f0, f1, f2⟩ := own_cells ho hlt
        have HS := hide (ho.stored (j * 3) (.int .i64 (j : Int)))
        have HB := hide hB
        clear hd k1 k2 f1 f2 hB
        go_wp2
        go_roundw
        case rel =>
          refine ⟨j + 1, by omega, by go_num, ?_, ?_, hb.setCell (by simp) _⟩
          · have := HB.out.set_ (w.heap.size + 1) (j * 3) (.int .i64 (j : Int)) (by omega)
            exact this
          · rw [← laid_store _ _ _ hlt]
            exact HS.out.1
        case measure => simp [intOf]; omega
      · have hjm : j = m := by omega
        subst hjm
        rw [laidTo_all] at ho
        clear hmk hw
        go_wp2
        go_loopw [46] (fun i wr => ∃ (q : Nat), q ≤ n ∧ i = .int .i64 q ∧ Blk wr w.heap.size 178 #[.int .i64 k, .int .i64 n, .slice (some ⟨w.heap.size + 1, 0, none⟩) j j] ∧ wr.ownsRow (w.heap.size + 1) 182 3 (.slice (some ⟨w.heap.size + 1, 0, none⟩) j j) j (clv ((List.range j).map (cellAt (.pointer none) (L.take q)))) ∧ Below w.heap.size w wr) (fun i _ => n - (intOf i).toNat)
        case atStart => exact ⟨0, by omega, rfl, hB, by simpa using ho, hb⟩
        case round =>
          obtain ⟨q, hq, rfl, hB, ho, hb⟩ := hrel
          by_cases hlt : q < n
          · obtain ⟨b, o, d, rfl, hbl, hd, k0, k1, k2⟩ := (hR.below hb).cl hlt
            obtain ⟨y, hy⟩ := hX d (List.mem_of_getElem? hd)
            have hd' := hd
            rw [mkC_get] at hd'
            obtain ⟨t, ht, rfl⟩ := Option.map_eq_some_iff.1 hd'
            have hta := hO.2 t (List.mem_of_getElem? ht)
            rw [HM.out] at hta
            simp only at k0 k1 k2 hy
            rw [hy] at k1
            have HT := hide ht
            have HY := hide hy
            have HB := hide hB
            have z1 : w.heap.size < wr.heap.size := hB.lt
            clear hd hd' ht hy hB
            go_wp2
            have hoW := ho.alloc (.cells #[.int .i64 (t.1 : Int), .pointer y, .bool true] 182)
            have hBW := HB.out.alloc (.cells #[.int .i64 (t.1 : Int), .pointer y, .bool true] 182)
            have hbW := below_alloc hb (Nat.le_refl _) (.cells #[.int .i64 (t.1 : Int), .pointer y, .bool true] 182)
            have hN := Blk.new wr 182 #[.int .i64 (t.1 : Int), .pointer y, .bool true]
            generalize wr.alloc (.cells #[.int .i64 (t.1 : Int), .pointer y, .bool true] 182) = W at *
            obtain ⟨d', hdd, l0, l1, l2, f0, f1, f2⟩ := own_cells hoW hta
            have H2 := hBW.cell 2
            simp at H2
            have N0 := hN.cell 0
            have N1 := hN.cell 1
            have N2 := hN.cell 2
            simp at N0 N1 N2
            clear hdd hN
            have HO := hide hoW
            have HB2 := hide hBW
            clear hoW hBW
            go_still_tail 8, (by kernel_rfl)
            change wpList _ _ _ _ _ (World.drew _)
            go_wp2
            go_roundw
            case rel =>
              refine ⟨q + 1, by omega, by go_num, ?_, ?_, ?_⟩
              · exact (((show Blk W.drew _ _ _ from HB2.out).set_ _ _ _ (by omega)).set_ _ _ _ (by omega)).set_ _ _ _ (by omega)
              · rw [← dense_step _ _ L q t hO.1 HT.out hta, HY.out]
                exact own_store3 HO.out.drew ⟨t.1, .pointer y, true⟩ hta
              · exact ((hbW.drew.setCell (by simp) _).setCell (by simp) _).setCell (by simp) _
            case measure => simp [intOf]; omega
          · rw [List.take_of_length_le (by have := HL.out; omega)] at ho
            go_wp2
            go_ret
            obtain ⟨A', c', hv, _, hr⟩ := Rw.of_own ho
            injection hv with hA hnn hc
            subst hA hc
            refine ⟨_, rfl, ⟨hk, hk2, hO, hX, some ⟨w.heap.size + 1, 0, none⟩, j, j, ?_, ?_, hm2⟩, Nat.le_refl _, hb⟩
            · rw [HL.out]; exact hB
            · unfold cellsOf
              rw [HL.out, hden, if_pos rfl, HM.out]
              exact hr
  · have hden : denseB k n = false := by simpa using hden
    go_enter Try.func133, Try.ntmps133
    go_wp2_with (go_at_call 91; refine (dense_any _ _ _ hk2 (by omega)).mono ?_; rintro e w' ⟨rfl, rfl⟩)
    go_ret
    refine ⟨_, rfl, ⟨hk, hk2, hO, hX, A, n, c, ?_, ?_, hn⟩, Nat.le_refl _, below_alloc (Below.refl _ _) (Nat.le_refl _) _⟩
    · rw [HL.out]; exact Blk.new _ _ _
    · unfold cellsOf
      rw [HL.out, hden]
      exact hR.below (below_alloc (Below.refl _ _) (Nat.le_refl _) _)
end Go.Proofs.Ytkknfnjojamgjaa
