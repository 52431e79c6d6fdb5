/- Slots of nodes: every function. -/
import Derived.Test.YtfkpanpageeklaaProg
import Derived.Test.YtfkpanpageeklaaBaA
import Derived.StillTailTactics
import Derived.Deep.RegionHeld3
set_option linter.unusedSimpArgs false
set_option linter.unusedVariables false
namespace Go.Proofs.Ytfkpanpageeklaa
section
open Go.RowKit
def IsX_n (cs : List Cl) : Prop := ∀ c ∈ cs, ∃ y, c.x = .pointer y
set_option maxHeartbeats 1000000 in
set_option maxRecDepth 100000 in
theorem find_n (g : Nat) (v0 v1 : Value) (A : Option Addr) (n c : Nat) (cs : List Cl) (addr : Int) (w : World) (hB : Blk w g 142 #[v0, v1, .slice A n c]) (hR : Rw w 3 A n (clv cs)) (hX : IsX_n cs) (hS : Rising cs) (hn : n ≤ 70000) :
    Calls Try.prog 109 #[.pointer (some ⟨g, 0, none⟩), .int .i64 addr] w fun e w' => ∃ at_ ok, e = .returned (.tuple #[.int .i64 (at_ : Nat), .bool ok]) ∧ Found cs addr at_ ok ∧ Below w.heap.size w w' := by
  have h2 : w.cell? ⟨g, 2, none⟩ = some (.slice A n c) := hB.cell 2
  go_enter Try.func109, Try.ntmps109
  go_wp2
  refine wp_scope_goto 0 (fun a' w' => ∃ (lo hi : Nat) (u2 u3 u4 u5 u8 u9 u10 u11 u12 u13 u14 u15 u16 u17 u18 u19 u20 u21 u22 u23 u24 u25 u26 u27 u28 u29 u30 u31 u32 u33 u34 u35 u36 u37 u38 u39 u40 u41 u42 u43 u44 u45 u46 u47 : Value), a' = { tmps := #[.pointer (some ⟨g, 0, none⟩), .int .i64 addr, u2, u3, u4, u5, .int .i64 (lo : Nat), .int .i64 (hi : Nat), u8, u9, u10, u11, u12, u13, u14, u15, u16, u17, u18, u19, u20, u21, u22, u23, u24, u25, u26, u27, u28, u29, u30, u31, u32, u33, u34, u35, u36, u37, u38, u39, u40, u41, u42, u43, u44, u45, u46, u47], defers := [] } ∧ lo ≤ hi ∧ hi ≤ n ∧ (∀ (i : Nat) (c : Cl), cs[i]? = some c → i < lo → (c.a : Int) < addr) ∧ (∀ (i : Nat) (c : Cl), cs[i]? = some c → hi ≤ i → addr < (c.a : Int)) ∧ Below w.heap.size w w') (fun a' _ => (intOf (a'.tmps.getD 7 undef) - intOf (a'.tmps.getD 6 undef)).toNat) rfl rfl ?_ ?_
  · go_wp2
    go_quiet (fail)
    exact ⟨0, n, _, _, _, _, _, _, _, _, _, _, _, _, _, _, _, _, _, _, _, _, _, _, _, _, _, _, _, _, _, _, _, _, _, _, _, _, _, _, _, _, _, _, _, _, rfl, Nat.zero_le _, Nat.le_refl _, fun _ _ _ h => absurd h (by omega), fun i c h hle => absurd (List.getElem?_eq_some_iff.1 h).1 (by have := hR.1; rw [clv_length] at this; omega), below_drewN (Below.refl _ _) _⟩
  · rintro a' wr ⟨lo, hi, u2, u3, u4, u5, u8, u9, u10, u11, u12, u13, u14, u15, u16, u17, u18, u19, u20, u21, u22, u23, u24, u25, u26, u27, u28, u29, u30, u31, u32, u33, u34, u35, u36, u37, u38, u39, u40, u41, u42, u43, u44, u45, u46, u47, rfl, hlo, hhi, hl, hh, hb⟩
    have hlen := hR.1
    rw [clv_length] at hlen
    have hB1 := hB.below hb
    have hR1 := hR.below hb
    by_cases hlt : lo < hi
    · obtain ⟨b, o, d, rfl, hbl, hd, k0, k1, k2⟩ := hR1.cl (i := (lo + hi) / 2) (by omega)
      have H2 := hB1.cell 2
      simp at H2
      obtain ⟨y, hy⟩ := hX d (List.mem_of_getElem? hd)
      rw [hy] at k1
      have HD := hide hd
      have HL := hide hlen
      have Hl := hide hl
      have Hh := hide hh
      clear hd hlen hl hh h2 hy
      have hb1 : Below w.heap.size w (wr.alloc (.cells #[.int .i64 (d.a : Int), .pointer y, .bool d.h] 147)) := below_alloc hb (Nat.le_refl _) _
      have HB := hide hb1
      clear hb1
      rcases Int.lt_trichotomy (d.a : Int) addr with hc | hc | hc
      · have e1 : ((d.a : Int) == addr) = false := by simp; omega
        go_wp2
        go_step3
        refine ⟨rfl, ⟨(lo + hi) / 2 + 1, hi, _, _, _, _, _, _, _, _, _, _, _, _, _, _, _, _, _, _, _, _, _, _, _, _, _, _, _, _, _, _, _, _, _, _, _, _, _, _, _, _, _, _, _, _, rfl, by omega, hhi, below_step hS HD.out hc, Hh.out, HB.out⟩, ?_⟩
        simp [intOf]
        omega
      · have e1 : ((d.a : Int) == addr) = true := by simp; omega
        have hF := hide (found_eq hS HD.out hc)
        have HC := hide hc
        clear hc
        go_wp2
        go_quiet (fail)
        go_wp2
        simp only [Exit.jump]
        go_ret2
        exact ⟨(lo + hi) / 2, d.h, rfl, hF.out, below_drewN HB.out _⟩
      · have e1 : ((d.a : Int) == addr) = false := by simp; omega
        go_wp2
        go_step3
        refine ⟨rfl, ⟨lo, (lo + hi) / 2, _, _, _, _, _, _, _, _, _, _, _, _, _, _, _, _, _, _, _, _, _, _, _, _, _, _, _, _, _, _, _, _, _, _, _, _, _, _, _, _, _, _, _, _, rfl, by omega, by omega, Hl.out, above_step hS HD.out hc, HB.out⟩, ?_⟩
        simp [intOf]
        omega
    · have he : lo = hi := by omega
      have hF := hide (found_end (by omega) hl (fun i c hi' hle => hh i c hi' (by omega)))
      clear hl hh he hlen
      have h3 : decide (hi ≤ lo) = true := by simp; omega
      go_wp2
      simp only [Exit.jump]
      go_ret2
      exact ⟨lo, false, rfl, hF.out, hb⟩
end
section
open Go.RowKit
theorem info_cell_n : (Try.prog.info? 147).map (fun i => (i.zero, i.size, i.bytes)) = some (some (.agg #[.int .i64 0, (.pointer none), .bool false]), 3, 24) := by kernel_rfl
theorem isx_one_n {cs : List Cl} (h : IsX_n cs) : ∀ c ∈ cs, c.x.oneCell' = true := by
  intro c hc
  obtain ⟨y, hy⟩ := h c hc
  rw [hy]
  rfl
set_option maxHeartbeats 1000000 in
set_option maxRecDepth 100000 in
theorem things_n (g : Nat) (v0 v1 : Value) (A : Option Addr) (n c : Nat) (cs : List Cl) (w : World) (hB : Blk w g 142 #[v0, v1, .slice A n c]) (hR : Rw w 3 A n (clv cs)) (hX : IsX_n cs) (hn : n ≤ 70000) :
    Calls Try.prog 92 #[.pointer (some ⟨g, 0, none⟩)] w fun e w' => ∃ v, e = .returned v ∧ w'.ownsRow w.heap.size 147 3 v (live cs).length (clv (live cs)) ∧ Below w.heap.size w w' := by
  have h2 : w.cell? ⟨g, 2, none⟩ = some (.slice A n c) := hB.cell 2
  have hlen := hR.1
  rw [clv_length] at hlen
  have HL := hide hlen
  clear hlen
  go_enter Try.func92, Try.ntmps92
  go_wp2
  clear h2
  go_loopw [3, 11] (fun v i wr => ∃ (k : Nat), k ≤ n ∧ i = .int .i64 k ∧ wr.ownsRow w.heap.size 147 3 v (live (cs.take k)).length (clv (live (cs.take k))) ∧ Below w.heap.size w wr) (fun _ i _ => n - (intOf i).toNat)
  case atStart => exact ⟨0, by omega, rfl, own_nil _ _ _ _, Below.refl _ _⟩
  case round =>
    obtain ⟨k, hk, rfl, ho, hb⟩ := hrel
    by_cases hlt : k < n
    · obtain ⟨b, o, d, rfl, hbl, hd, k0, k1, k2⟩ := (hR.below hb).cl hlt
      obtain ⟨y, hy⟩ := hX d (List.mem_of_getElem? hd)
      have h1 := vals_one d (isx_one_n hX d (List.mem_of_getElem? hd))
      have hT := live_take cs k d hd
      have hle : (live (cs.take k)).length ≤ n := by have := live_len cs k; have := HL.out; omega
      cases hh : d.h with
      | false =>
        rw [hh] at k2 hT
        rw [hy] at k1
        have HT := hide hT
        clear hT hd hy hh
        go_wp2
        go_roundw
        case rel => exact ⟨k + 1, by omega, by go_num, by rw [HT.out]; simpa using ho.alloc _, below_alloc hb (Nat.le_refl _) _⟩
        case measure => simp [intOf]; omega
      | true =>
        rw [hh] at k2 hT
        rw [hy] at k1
        have hv : d.vals = [.int .i64 (d.a : Int), .pointer y, .bool true] := by simp [Cl.vals, hh, hy]
        rw [hv] at h1
        have HT := hide hT
        have HV := hide hv
        clear hT hd hy hh hv
        go_wp2_with (at_builtin
                     refine app_any _ rfl (.tmp 17) (.tmp 19) _ rfl w.heap.size 147 _ 3 24 Try.underlying140 info_cell_n rfl (by omega) _ _ _ rfl ((ho.alloc _).alloc _) (some ⟨wr.heap.size + 1, 0, none⟩) 1 1 [.int .i64 (d.a : Int), .pointer y, .bool true] rfl ?hr h1 ?c1 ?c2 ?c3 ?_
                     case hr => exact Rw.of_blk (t := 147) (cs := #[.int .i64 (d.a : Int), .pointer y, .bool true]) (by simpa using Blk.new (wr.alloc _) _ _) rfl (fun j u h => by simpa using h)
                     case c1 => simp only [maxLen]; omega
                     case c2 => omega
                     case c3 => exact (below_alloc (below_alloc hb (Nat.le_refl _) _) (Nat.le_refl _) _).size
                     intro v' w' ho' hg' _)
        go_roundw
        case rel =>
          refine ⟨k + 1, by omega, by go_num, ?_, ?_⟩
          · rw [HT.out]
            simpa [clv_append, clv_cons, clv_nil, HV.out] using ho'
          · exact (below_alloc (below_alloc hb (Nat.le_refl _) _) (Nat.le_refl _) _).grown hg' (below_alloc (below_alloc hb (Nat.le_refl _) _) (Nat.le_refl _) _).size (own_base ho)
        case measure => simp [intOf]; omega
    · go_wp2
      go_ret
      rw [List.take_of_length_le (by have := HL.out; omega)] at ho
      exact ⟨_, rfl, ho, hb⟩
end
section
open Go.RowKit
def SlotsAt_n (w : World) (g k : Nat) (L : Th) : Prop :=
  1 ≤ k ∧ k ≤ 16 ∧ OkTh k L ∧ IsX_n (mkC L) ∧ ∃ A m c, Blk w g 142 #[.int .i64 (k : Nat), .int .i64 (L.length : Nat), .slice A m c] ∧ Rw w 3 A m (clv (cellsOf (.pointer none) k L)) ∧ m ≤ 65536
theorem SlotsAt_n.below {w w' : World} {g k : Nat} {L : Th} (h : SlotsAt_n w g k L) (hb : Below w.heap.size w w') : SlotsAt_n w' g k L := by
  obtain ⟨h1, h2, h3, h4, A, m, c, h5, h6, h7⟩ := h
  exact ⟨h1, h2, h3, h4, A, m, c, h5.below hb, h6.below hb, h7⟩
theorem isx_cells_n {k : Nat} {L : Th} (h : IsX_n (mkC L)) : IsX_n (cellsOf (.pointer none) k L) := by
  unfold cellsOf
  split
  · intro c hc
    obtain ⟨i, _, rfl⟩ := List.mem_map.1 hc
    unfold cellAt
    split
    · rename_i t ht
      exact h ⟨t.1, t.2, true⟩ (List.mem_map.2 ⟨t, List.mem_of_find?_eq_some ht, rfl⟩)
    · exact ⟨_, rfl⟩
  · exact h
set_option maxHeartbeats 1000000 in
set_option maxRecDepth 100000 in
theorem kept_n (k : Nat) (A : Option Addr) (n c : Nat) (L : Th) (w : World) (hk : 1 ≤ k) (hk2 : k ≤ 16) (hR : Rw w 3 A n (clv (mkC L))) (hX : IsX_n (mkC L)) (hO : OkTh k L) :
    Calls Try.prog 96 #[.int .i64 k, .slice A n c] w fun e w' => ∃ g, e = .returned (.pointer (some ⟨g, 0, none⟩)) ∧ SlotsAt_n w' g k L ∧ w.heap.size ≤ g ∧ Below w.heap.size w w' := by
  have HL : Hid (L.length = n) := by have := hR.1; rw [clv_length, mkC_length] at this; exact hide (by omega)
  have hn : n ≤ 65536 := by have := len_le_of_ok hO; have := pow16 hk2; have := HL.out; omega
  by_cases hden : denseB k n = true
  · obtain ⟨m, hm⟩ : ∃ m, 2 ^ k = m := ⟨_, rfl⟩
    have hw := wrap_pow hk2
    rw [hm] at hw
    have hm2 : m ≤ 65536 := by have := pow16 hk2; omega
    have HM := hide hm
    clear hm
    have hmk := fun W => run_make_info (P := Try.prog) 140 147 (.agg #[.int .i64 0, (.pointer none), .bool false]) 3 24 Try.underlying140 info_cell_n m (by omega) (by omega) W
    go_enter Try.func96, Try.ntmps96
    go_wp2_with (go_at_call 112; refine (dense_any _ _ _ hk2 (by omega)).mono ?_; rintro e w' ⟨rfl, rfl⟩)
    obtain ⟨g0, hg0⟩ : ∃ g0, g0 = w.heap.size := ⟨_, rfl⟩
    have hown := made_own (w.alloc (.cells #[.int .i64 k, .int .i64 n, .slice (some ⟨w.heap.size + 1, 0, none⟩) m m] 142)) 147 (.pointer none) m hm2
    have hblk : Blk ((w.alloc (.cells #[.int .i64 k, .int .i64 n, .slice (some ⟨w.heap.size + 1, 0, none⟩) m m] 142)).alloc (.cells (madeCells #[.int .i64 0, (.pointer none), .bool false] (m * 3)) 147)) w.heap.size 142 #[.int .i64 k, .int .i64 n, .slice (some ⟨w.heap.size + 1, 0, none⟩) m m] := (Blk.new _ _ _).alloc _
    have hb0 : Below w.heap.size w ((w.alloc (.cells #[.int .i64 k, .int .i64 n, .slice (some ⟨w.heap.size + 1, 0, none⟩) m m] 142)).alloc (.cells (madeCells #[.int .i64 0, (.pointer none), .bool false] (m * 3)) 147)) := below_alloc (below_alloc (Below.refl _ _) (Nat.le_refl _) _) (Nat.le_refl _) _
    simp only [World.size_alloc] at hown
    go_loopw [32] (fun i wr => ∃ (j : Nat), j ≤ m ∧ i = .int .i64 j ∧ Blk wr w.heap.size 142 #[.int .i64 k, .int .i64 n, .slice (some ⟨w.heap.size + 1, 0, none⟩) m m] ∧ wr.ownsRow (w.heap.size + 1) 147 3 (.slice (some ⟨w.heap.size + 1, 0, none⟩) m m) m (clv (laidTo (.pointer none) m j)) ∧ Below w.heap.size w wr) (fun i _ => m - (intOf i).toNat)
    case atStart => exact ⟨0, by omega, rfl, hblk, hown, hb0⟩
    case round =>
      obtain ⟨j, hj, rfl, hB, ho, hb⟩ := hrel
      clear hown hblk hb0 hg0
      by_cases hlt : j < m
      · have H2 := hB.cell 2
        simp at H2
        obtain ⟨d, hd, k0, k1, k2, f0, f1, f2⟩ := own_cells ho hlt
        have HS := hide (ho.stored (j * 3) (.int .i64 (j : Int)))
        have HB := hide hB
        clear hd k1 k2 f1 f2 hB
        go_wp2
        go_roundw
        case rel =>
          refine ⟨j + 1, by omega, by go_num, ?_, ?_, hb.setCell (by simp) _⟩
          · have := HB.out.set_ (w.heap.size + 1) (j * 3) (.int .i64 (j : Int)) (by omega)
            exact this
          · rw [← laid_store _ _ _ hlt]
            exact HS.out.1
        case measure => simp [intOf]; omega
      · have hjm : j = m := by omega
        subst hjm
        rw [laidTo_all] at ho
        clear hmk hw
        go_wp2
        go_loopw [46] (fun i wr => ∃ (q : Nat), q ≤ n ∧ i = .int .i64 q ∧ Blk wr w.heap.size 142 #[.int .i64 k, .int .i64 n, .slice (some ⟨w.heap.size + 1, 0, none⟩) j j] ∧ wr.ownsRow (w.heap.size + 1) 147 3 (.slice (some ⟨w.heap.size + 1, 0, none⟩) j j) j (clv ((List.range j).map (cellAt (.pointer none) (L.take q)))) ∧ Below w.heap.size w wr) (fun i _ => n - (intOf i).toNat)
        case atStart => exact ⟨0, by omega, rfl, hB, by simpa using ho, hb⟩
        case round =>
          obtain ⟨q, hq, rfl, hB, ho, hb⟩ := hrel
          by_cases hlt : q < n
          · obtain ⟨b, o, d, rfl, hbl, hd, k0, k1, k2⟩ := (hR.below hb).cl hlt
            obtain ⟨y, hy⟩ := hX d (List.mem_of_getElem? hd)
            have hd' := hd
            rw [mkC_get] at hd'
            obtain ⟨t, ht, rfl⟩ := Option.map_eq_some_iff.1 hd'
            have hta := hO.2 t (List.mem_of_getElem? ht)
            rw [HM.out] at hta
            simp only at k0 k1 k2 hy
            rw [hy] at k1
            have HT := hide ht
            have HY := hide hy
            have HB := hide hB
            have z1 : w.heap.size < wr.heap.size := hB.lt
            clear hd hd' ht hy hB
            go_wp2
            have hoW := ho.alloc (.cells #[.int .i64 (t.1 : Int), .pointer y, .bool true] 147)
            have hBW := HB.out.alloc (.cells #[.int .i64 (t.1 : Int), .pointer y, .bool true] 147)
            have hbW := below_alloc hb (Nat.le_refl _) (.cells #[.int .i64 (t.1 : Int), .pointer y, .bool true] 147)
            have hN := Blk.new wr 147 #[.int .i64 (t.1 : Int), .pointer y, .bool true]
            generalize wr.alloc (.cells #[.int .i64 (t.1 : Int), .pointer y, .bool true] 147) = W at *
            obtain ⟨d', hdd, l0, l1, l2, f0, f1, f2⟩ := own_cells hoW hta
            have H2 := hBW.cell 2
            simp at H2
            have N0 := hN.cell 0
            have N1 := hN.cell 1
            have N2 := hN.cell 2
            simp at N0 N1 N2
            clear hdd hN
            have HO := hide hoW
            have HB2 := hide hBW
            clear hoW hBW
            go_still_tail 8, (by kernel_rfl)
            change wpList _ _ _ _ _ (World.drew _)
            go_wp2
            go_roundw
            case rel =>
              refine ⟨q + 1, by omega, by go_num, ?_, ?_, ?_⟩
              · exact (((show Blk W.drew _ _ _ from HB2.out).set_ _ _ _ (by omega)).set_ _ _ _ (by omega)).set_ _ _ _ (by omega)
              · rw [← dense_step _ _ L q t hO.1 HT.out hta, HY.out]
                exact own_store3 HO.out.drew ⟨t.1, .pointer y, true⟩ hta
              · exact ((hbW.drew.setCell (by simp) _).setCell (by simp) _).setCell (by simp) _
            case measure => simp [intOf]; omega
          · rw [List.take_of_length_le (by have := HL.out; omega)] at ho
            go_wp2
            go_ret
            obtain ⟨A', c', hv, _, hr⟩ := Rw.of_own ho
            injection hv with hA hnn hc
            subst hA hc
            refine ⟨_, rfl, ⟨hk, hk2, hO, hX, some ⟨w.heap.size + 1, 0, none⟩, j, j, ?_, ?_, hm2⟩, Nat.le_refl _, hb⟩
            · rw [HL.out]; exact hB
            · unfold cellsOf
              rw [HL.out, hden, if_pos rfl, HM.out]
              exact hr
  · have hden : denseB k n = false := by simpa using hden
    go_enter Try.func96, Try.ntmps96
    go_wp2_with (go_at_call 112; refine (dense_any _ _ _ hk2 (by omega)).mono ?_; rintro e w' ⟨rfl, rfl⟩)
    go_ret
    refine ⟨_, rfl, ⟨hk, hk2, hO, hX, A, n, c, ?_, ?_, hn⟩, Nat.le_refl _, below_alloc (Below.refl _ _) (Nat.le_refl _) _⟩
    · rw [HL.out]; exact Blk.new _ _ _
    · unfold cellsOf
      rw [HL.out, hden]
      exact hR.below (below_alloc (Below.refl _ _) (Nat.le_refl _) _)
end
section
open Go.RowKit
theorem SlotsAt_n.cells {w : World} {g k : Nat} {L : Th} (h : SlotsAt_n w g k L) : ∃ A m c, Blk w g 142 #[.int .i64 (k : Nat), .int .i64 (L.length : Nat), .slice A m c] ∧ Rw w 3 A m (clv (cellsOf (.pointer none) k L)) ∧ m ≤ 65536 ∧ IsX_n (cellsOf (.pointer none) k L) ∧ Rising (cellsOf (.pointer none) k L) ∧ live (cellsOf (.pointer none) k L) = mkC L ∧ (cellsOf (.pointer none) k L).length = m := by
  obtain ⟨h1, h2, h3, h4, A, m, c, h5, h6, h7⟩ := h
  exact ⟨A, m, c, h5, h6, h7, isx_cells_n h4, cellsOf_rising h3, live_cellsOf _ h3, by have := h6.1; rw [clv_length] at this; omega⟩
theorem SlotsAt_n.ok {w : World} {g k : Nat} {L : Th} (h : SlotsAt_n w g k L) : OkTh k L := h.2.2.1
set_option maxHeartbeats 1000000 in
set_option maxRecDepth 100000 in
theorem new_n (k : Int) (w : World) (h1 : 1 ≤ k) (h2 : k ≤ 16) :
    Calls Try.prog 77 #[.int .i64 k] w fun e w' => e = .returned (.tuple #[.pointer (some ⟨w.heap.size, 0, none⟩), .int .i64 0]) ∧ SlotsAt_n w' w.heap.size k.toNat [] ∧ Below w.heap.size w w' := by
  obtain ⟨n, rfl⟩ := Int.eq_ofNat_of_zero_le (show 0 ≤ k by omega)
  go_enter Try.func77, Try.ntmps77
  go_wp2
  go_ret2
  refine ⟨rfl, ⟨by omega, by omega, ⟨List.Pairwise.nil, by simp⟩, by simp [IsX_n, mkC], none, 0, 0, Blk.new _ _ _, ?_, by omega⟩, below_alloc (Below.refl _ _) (Nat.le_refl _) _⟩
  have : cellsOf (.pointer none) (n : Int).toNat [] = [] := by simp [cellsOf, denseB, mkC]
  rw [this]
  exact Rw.nil _ _ _
set_option maxHeartbeats 1000000 in
set_option maxRecDepth 100000 in
theorem new_bad_n (k : Int) (w : World) (h : k < 1 ∨ 16 < k) :
    Calls Try.prog 77 #[.int .i64 k] w fun e w' => e = .returned (.tuple #[.pointer none, .int .i64 3]) ∧ w = w' := by
  rcases h with h | h
  · go_enter Try.func77, Try.ntmps77
    go_wp2
    go_ret2
    exact ⟨rfl, rfl⟩
  · go_enter Try.func77, Try.ntmps77
    go_wp2
    go_ret2
    exact ⟨rfl, rfl⟩
set_option maxHeartbeats 1000000 in
set_option maxRecDepth 100000 in
theorem len_n (g k : Nat) (L : Th) (w : World) (h : SlotsAt_n w g k L) :
    Calls Try.prog 105 #[.pointer (some ⟨g, 0, none⟩)] w fun e w' => e = .returned (.int .i64 (L.length : Nat)) ∧ w = w' := by
  obtain ⟨A, m, c, hB, -⟩ := h.cells
  have H1 := hB.cell 1
  simp at H1
  clear hB h
  generalize L.length = n at *
  go_enter Try.func105, Try.ntmps105
  go_wp2
  go_ret
  exact ⟨rfl, rfl⟩
set_option maxHeartbeats 1000000 in
set_option maxRecDepth 100000 in
theorem check_n (g k : Nat) (L : Th) (addr : Int) (w : World) (h : SlotsAt_n w g k L) :
    Calls Try.prog 91 #[.pointer (some ⟨g, 0, none⟩), .int .i64 addr] w fun e w' => e = .returned (.int .i64 (chk k addr)) ∧ w = w' := by
  have hk := h.2.1
  have hw := wrap_pow hk
  obtain ⟨A, m, c, hB, -⟩ := h.cells
  have H0 := hB.cell 0
  simp at H0
  clear hB h
  have hm16 := pow16 hk
  obtain ⟨p, hp⟩ : ∃ p, 2 ^ k = p := ⟨_, rfl⟩
  rw [hp] at hw hm16
  have hc : chk k addr = if 0 ≤ addr ∧ addr < (p : Int) then 0 else 3 := by unfold chk; rw [hp]
  have HC := hide hc
  clear hc hp
  by_cases h0 : 0 ≤ addr
  · by_cases h3 : addr < (p : Int)
    · go_enter Try.func91, Try.ntmps91
      go_wp2
      go_ret
      exact ⟨retI (by rw [HC.out, if_pos ⟨h0, h3⟩]), rfl⟩
    · go_enter Try.func91, Try.ntmps91
      go_wp2
      go_ret
      exact ⟨retI (by rw [HC.out, if_neg (by omega)]), rfl⟩
  · clear hw
    go_enter Try.func91, Try.ntmps91
    go_wp2
    go_ret
    exact ⟨retI (by rw [HC.out, if_neg (by omega)]), rfl⟩
set_option maxHeartbeats 1000000 in
set_option maxRecDepth 100000 in
theorem check_nil_n (addr : Int) (w : World) :
    Calls Try.prog 91 #[.pointer none, .int .i64 addr] w fun e w' => e = .returned (.int .i64 1) ∧ w = w' := by
  go_enter Try.func91, Try.ntmps91
  go_wp2
  go_ret
  exact ⟨rfl, rfl⟩
set_option maxHeartbeats 1000000 in
set_option maxRecDepth 100000 in
theorem get_n (g k : Nat) (L : Th) (addr : Int) (w : World) (h : SlotsAt_n w g k L) :
    Calls Try.prog 89 #[.pointer (some ⟨g, 0, none⟩), .int .i64 addr] w fun e w' => e = .returned (.tuple #[(getTh L addr).getD (.pointer none), .bool (getTh L addr).isSome]) ∧ Below w.heap.size w w' := by
  have hO := h.ok
  obtain ⟨A, m, c, hB, hR, hm, hX, hS, hLv, -⟩ := h.cells
  have H2 := hB.cell 2
  simp at H2
  have hf := find_n g _ _ A m c _ addr w hB hR hX hS (by omega)
  generalize cellsOf (.pointer none) k L = cs at *
  have HF := hide hf
  clear hf h
  go_enter Try.func89, Try.ntmps89
  go_wp2_with fail
  refine HF.out.mono ?_
  rintro e w1 ⟨at_, ok, rfl, hFd, hb⟩
  cases ok with
  | false =>
    have hn := hide (found_none hFd hS hLv)
    clear hFd
    go_wp2
    go_ret2
    rw [hn.out]
    exact ⟨rfl, hb⟩
  | true =>
    obtain ⟨d, hd, hh, ha, hg⟩ := found_some hFd hO hLv
    have hlt : at_ < m := by have := (List.getElem?_eq_some_iff.1 hd).1; have := hR.1; rw [clv_length] at this; omega
    obtain ⟨b, o, d', rfl, hbl, hd', k0, k1, k2⟩ := (hR.below hb).cl hlt
    rw [hd] at hd'
    injection hd' with hd'
    subst hd'
    have H2' := (hB.below hb).cell 2
    simp at H2'
    have HG := hide hg
    clear hFd hd ha hg hh H2
    go_wp2
    go_ret2
    rw [HG.out]
    exact ⟨rfl, hb⟩
set_option maxHeartbeats 1000000 in
set_option maxRecDepth 100000 in
theorem from_n (g k : Nat) (L : Th) (addr : Int) (w : World) (h : SlotsAt_n w g k L) :
    Calls Try.prog 106 #[.pointer (some ⟨g, 0, none⟩), .int .i64 addr] w fun e w' => (∃ (a : Nat) (x : Value) (ok : Bool), e = .returned (.tuple #[.int .i64 a, x, .bool ok]) ∧ (ok = true → fromTh L addr = some (a, x)) ∧ (ok = false → fromTh L addr = none ∧ a = 0 ∧ x = (.pointer none))) ∧ Below w.heap.size w w' := by
  have hO := h.ok
  obtain ⟨A, m, c, hB, hR, hm, hX, hS, hLv, hlm⟩ := h.cells
  have hf := find_n g _ _ A m c _ addr w hB hR hX hS (by omega)
  generalize cellsOf (.pointer none) k L = cs at *
  have HF := hide hf
  have HM := hide hlm
  clear hf h hlm
  go_enter Try.func106, Try.ntmps106
  go_wp2_with fail
  refine HF.out.mono ?_
  rintro e w1 ⟨at_, ok, rfl, hFd, hb⟩
  have h0 : at_ ≤ m := by have := hFd.1; have := HM.out; omega
  go_wp2
  have hb1 := hb
  go_loopw [8] (fun i wr => ∃ (j : Nat), at_ ≤ j ∧ j ≤ m ∧ i = .int .i64 j ∧ (∀ (i : Nat) (d : Cl), cs[i]? = some d → at_ ≤ i → i < j → d.h = false) ∧ Below w.heap.size w wr) (fun i _ => m - (intOf i).toNat)
  case atStart => exact ⟨at_, Nat.le_refl _, h0, rfl, fun _ _ _ h1 h2 => absurd h2 (by omega), hb⟩
  case round =>
    obtain ⟨j, hj0, hj, rfl, hjl, hbr⟩ := hrel
    have HJ := hide hjl
    clear hb hb1 hjl
    have hB1 := hB.below hbr
    have H2 := hB1.cell 2
    simp at H2
    by_cases hlt : j < m
    · obtain ⟨b, o, d, rfl, hbl, hd, k0, k1, k2⟩ := (hR.below hbr).cl hlt
      obtain ⟨y, hy⟩ := hX d (List.mem_of_getElem? hd)
      cases hh : d.h with
      | false =>
        rw [hh] at k2
        rw [hy] at k1
        have HD := hide hd
        have HH := hide hh
        have HY := hide hy
        clear hB1 hd hh hy
        go_wp2
        go_roundw
        case rel =>
          refine ⟨j + 1, by omega, by omega, by go_num, fun i d' hi h1 h2 => ?_, below_alloc hbr (Nat.le_refl _) _⟩
          rcases Nat.lt_or_ge i j with h3 | h3
          · exact HJ.out i d' hi h1 h3
          · have : i = j := by omega
            subst this
            rw [HD.out] at hi
            injection hi with hi
            subst hi
            exact HH.out
        case measure => simp [intOf]; omega
      | true =>
        have hres := from_at hLv hd hh (fun i d' hi hl hh' => by
          rcases Nat.lt_or_ge i at_ with h3 | h3
          · exact hFd.2.1 i d' hi h3
          · have := HJ.out i d' hi h3 hl
            rw [this] at hh'
            cases hh') (hFd.2.2.1 j d hd hj0)
        rw [hh] at k2
        rw [hy] at k1 hres
        have HR := hide hres
        clear hB1 hd hh hy hres
        go_wp2
        go_quiet (fail)
        go_wp2
        go_ret3
        exact ⟨⟨d.a, _, true, rfl, fun _ => HR.out, fun h => by cases h⟩, below_drewN (below_alloc hbr (Nat.le_refl _) _) _⟩
    · have hn := hide (from_none (addr := addr) hLv (fun i d' hi hh' => by
          rcases Nat.lt_or_ge i at_ with h3 | h3
          · exact hFd.2.1 i d' hi h3
          · have h4 := (List.getElem?_eq_some_iff.1 hi).1
            have := HJ.out i d' hi h3 (by have := HM.out; omega)
            rw [this] at hh'
            cases hh'))
      go_wp2
      go_ret3
      exact ⟨⟨0, _, false, rfl, (fun h => by cases h), fun _ => ⟨hn.out, rfl, rfl⟩⟩, hbr⟩
end
section
open Go.RowKit
set_option maxHeartbeats 1000000 in
set_option maxRecDepth 100000 in
theorem put1_n (a : Nat) (y) (b : Bool) (addr : Nat) (w : World) (h1 : a ≤ 70000) (h2 : addr ≤ 70000) :
    Calls Try.prog 94 #[.agg #[.int .i64 (a : Int), .pointer y, .bool b], .int .i64 (addr : Int)] w fun e w' => e = .returned (.int .i64 ((a : Int) - addr)) ∧ Below w.heap.size w w' := by
  go_enter Try.func94, Try.ntmps94
  go_wp2
  go_ret
  exact ⟨rfl, below_alloc (Below.refl _ _) (Nat.le_refl _) _⟩
set_option maxHeartbeats 1000000 in
set_option maxRecDepth 100000 in
theorem bsearch_n (A : Option Addr) (n c : Nat) (L : Th) (k : Nat) (addr : Nat) (w : World) (hR : Rw w 3 A n (clv (mkC L))) (hX : IsX_n (mkC L)) (hO : OkTh k L) (hk : k ≤ 16) (hn : n ≤ 65536) (ha : addr ≤ 65536) :
    Calls Try.prog 93 #[.slice A n c, .int .i64 (addr : Int), .func (.func 94) #[] #[]] w fun e w' => ∃ at_ ok, e = .returned (.tuple #[.int .i64 (at_ : Nat), .bool ok]) ∧ Found (mkC L) addr at_ ok ∧ Below w.heap.size w w' := by
  have hlen : L.length = n := by have := hR.1; rw [clv_length, mkC_length] at this; omega
  have HL := hide hlen
  clear hlen
  have hS := mkC_rising hO
  go_enter Try.func93, Try.ntmps93
  go_wp2
  go_loopw [9, 10] (fun x y wr => ∃ (lo hi : Nat), x = .int .i64 lo ∧ y = .int .i64 hi ∧ lo ≤ hi ∧ hi ≤ n ∧ (∀ (i : Nat) (c : Cl), (mkC L)[i]? = some c → i < lo → (c.a : Int) < addr) ∧ (∀ (i : Nat) (c : Cl), (mkC L)[i]? = some c → hi ≤ i → (addr : Int) ≤ (c.a : Int)) ∧ Below w.heap.size w wr) (fun x y _ => (intOf y - intOf x).toNat)
  case atStart => exact ⟨0, n, rfl, rfl, Nat.zero_le _, Nat.le_refl _, fun _ _ _ h => absurd h (by omega), fun i c h hle => absurd (List.getElem?_eq_some_iff.1 h).1 (by rw [mkC_length]; have := HL.out; omega), Below.refl _ _⟩
  case round =>
    obtain ⟨lo, hi, rfl, rfl, hlo, hhi, hl, hh, hb⟩ := hrel
    have Hl := hide hl
    have Hh := hide hh
    clear hl hh
    by_cases hlt : lo < hi
    · obtain ⟨b, o, d, rfl, hbl, hd, k0, k1, k2⟩ := (hR.below hb).cl (i := (lo + hi) / 2) (by omega)
      obtain ⟨y, hy⟩ := hX d (List.mem_of_getElem? hd)
      rw [hy] at k1
      have hd' := hd
      rw [mkC_get] at hd'
      obtain ⟨t, ht, he⟩ := Option.map_eq_some_iff.1 hd'
      have hda : d.a ≤ 65536 := by
        have h1 := hO.2 t (List.mem_of_getElem? ht)
        have h2 := pow16 hk
        rw [← he]
        show t.1 ≤ 65536
        omega
      have HD := hide hd
      clear hd hy hd' ht he
      rcases (show (d.a : Int) < (addr : Int) ∨ (addr : Int) ≤ (d.a : Int) by omega) with hc | hc
      · go_wp2_with fail
        refine (put1_n d.a y d.h addr _ (by omega) (by omega)).mono ?_
        rintro e w1 ⟨rfl, hb1⟩
        have hb2 := below_then hb hb1
        clear hb1
        go_wp2
        go_roundw
        case rel => exact ⟨(lo + hi) / 2 + 1, hi, by go_num, rfl, by omega, hhi, below_step hS HD.out hc, Hh.out, hb2⟩
        case measure => simp [intOf]; omega
      · go_wp2_with fail
        refine (put1_n d.a y d.h addr _ (by omega) (by omega)).mono ?_
        rintro e w1 ⟨rfl, hb1⟩
        have hb2 := below_then hb hb1
        clear hb1
        go_wp2
        go_roundw
        case rel =>
          refine ⟨lo, (lo + hi) / 2, rfl, by go_num, by omega, by omega, Hl.out, fun i c hi' hle => ?_, hb2⟩
          rcases Nat.lt_or_ge ((lo + hi) / 2) i with h3 | h3
          · have := hS _ i d c HD.out hi' h3; omega
          · have : i = (lo + hi) / 2 := by omega
            subst this
            have hD := HD.out
            rw [hD] at hi'
            injection hi' with hi'
            subst hi'
            exact hc
        case measure => simp [intOf]; omega
    · have he : lo = hi := by omega
      have hF : ∀ ok, ok = (match (mkC L)[lo]? with | some c => decide ((c.a : Int) = addr) && c.h | none => false) → Found (mkC L) addr lo ok := fun ok hok => ⟨by rw [mkC_length]; have := HL.out; omega, Hl.out, fun i c h1 h2 => Hh.out i c h1 (by omega), hok⟩
      have HF := hide hF
      clear hF he
      by_cases hn2 : lo < n
      · obtain ⟨b, o, d, rfl, hbl, hd, k0, k1, k2⟩ := (hR.below hb).cl hn2
        obtain ⟨y, hy⟩ := hX d (List.mem_of_getElem? hd)
        rw [hy] at k1
        have hd' := hd
        rw [mkC_get] at hd'
        obtain ⟨t, ht, he⟩ := Option.map_eq_some_iff.1 hd'
        have hdh : d.h = true := by rw [← he]
        have hda : d.a ≤ 65536 := by
          have h1 := hO.2 t (List.mem_of_getElem? ht)
          have h2 := pow16 hk
          rw [← he]
          show t.1 ≤ 65536
          omega
        have HD := hide hd
        have HH := hide hdh
        clear hd hy hd' ht he hdh
        by_cases hc : (d.a : Int) = addr
        · have e1 : (((d.a : Int) - addr) == 0) = true := by simp; omega
          have HC := hide hc
          clear hc
          go_wp2_with fail
          refine (put1_n d.a y d.h addr _ (by omega) (by omega)).mono ?_
          rintro e w1 ⟨rfl, hb1⟩
          have hb2 := below_then hb hb1
          clear hb1
          go_wp2
          go_ret2
          exact ⟨lo, true, rfl, HF.out true (by rw [HD.out]; simp [HC.out, HH.out]), hb2⟩
        · have e1 : (((d.a : Int) - addr) == 0) = false := by simp; omega
          have HC := hide hc
          clear hc
          go_wp2_with fail
          refine (put1_n d.a y d.h addr _ (by omega) (by omega)).mono ?_
          rintro e w1 ⟨rfl, hb1⟩
          have hb2 := below_then hb hb1
          clear hb1
          go_wp2
          go_ret2
          exact ⟨lo, false, rfl, HF.out false (by rw [HD.out]; simp [HC.out]), hb2⟩
      · go_wp2
        go_ret2
        exact ⟨lo, false, rfl, HF.out false (by rw [List.getElem?_eq_none (by rw [mkC_length]; have := HL.out; omega)]), hb⟩
end
section
open Go.RowKit
theorem size_cell_n : (Try.prog.info? 147).map (·.size) = some 3 := by kernel_rfl
theorem zc_n (m : Nat) : (Builtin.zeroCells (Value.agg #[.int .i64 0, (.pointer none), .bool false]).cells m).toList = clv (List.replicate m ⟨0, (.pointer none), false⟩) := by
  have h := made_clv (.pointer none) m
  rw [laidTo_zero] at h
  rw [← h]
  rfl
theorem clv_one_n {cs : List Cl} (h : IsX_n cs) : ∀ u ∈ clv cs, u.oneCell' = true := by
  intro u hu
  obtain ⟨c, hc, hu⟩ := List.mem_flatMap.1 hu
  exact vals_one c (isx_one_n h c hc) u hu
theorem isx_rep_n (m : Nat) : IsX_n (List.replicate m ⟨0, (.pointer none), false⟩) := by
  intro c hc
  rw [(List.mem_replicate.1 hc).2]
  exact ⟨_, rfl⟩
set_option maxHeartbeats 2000000 in
set_option maxRecDepth 100000 in
theorem insert_end_n (base : Nat) (A : Option Addr) (n cap : Nat) (cs : List Cl) (a : Nat) (y) (h : Bool) (b : Nat) (w : World) (hO : w.ownsRow base 147 3 (.slice A n cap) n (clv cs)) (hn : n ≤ 65536) (hb : Blk w b 147 #[.int .i64 (a : Int), .pointer y, .bool h]) (hbase : base ≤ w.heap.size) :
    Calls Try.prog 95 #[.slice A n cap, .int .i64 (n : Int), .slice (some ⟨b, 0, none⟩) 1 1] w fun e w' => ∃ v, e = .returned v ∧ w'.ownsRow base 147 3 v (n + 1) (clv (cs ++ [⟨a, .pointer y, h⟩])) ∧ Below base w w' := by
  have hs := fun W => run_slice_lo (P := Try.prog) Try.underlying140 Try.sizeOf147 A n cap n (Nat.le_refl _) W
  have hr : Rw w 3 (some ⟨b, 0, none⟩) 1 [.int .i64 (a : Int), .pointer y, .bool h] := Rw.of_blk hb rfl (fun j u h => by simpa using h)
  have h1 : ∀ u ∈ [Value.int .i64 (a : Int), .pointer y, .bool h], u.oneCell' = true := by
    intro u hu
    simp only [List.mem_cons, List.not_mem_nil, or_false] at hu
    rcases hu with rfl | rfl | rfl <;> rfl
  go_enter Try.func95, Try.ntmps95
  go_wp2_with (at_builtin
               refine app_any _ rfl (.tmp 23) (.tmp 24) _ rfl base 147 _ 3 24 Try.underlying140 info_cell_n rfl (by omega) _ _ _ rfl hO (some ⟨b, 0, none⟩) 1 1 [.int .i64 (a : Int), .pointer y, .bool h] rfl hr h1 ?c1 ?c2 hbase ?_
               case c1 => simp only [maxLen]; omega
               case c2 => omega
               intro v' w' ho' hg' _)
  go_ret
  exact ⟨_, rfl, by simpa [clv_append, clv_cons, clv_nil, Cl.vals] using ho', (Below.refl _ _).grown hg' hbase (own_base hO)⟩
set_option maxHeartbeats 2000000 in
set_option maxRecDepth 100000 in
theorem insert_grow_n (base g : Nat) (n cap i : Nat) (cs : List Cl) (a : Nat) (y) (h : Bool) (b : Nat) (w : World) (hO : w.ownsRow base 147 3 (.slice (some ⟨g, 0, none⟩) n cap) n (clv cs)) (hX : IsX_n cs) (hn : n ≤ 65536) (hi : i < n) (hcap : cap < n + 1) (hb : Blk w b 147 #[.int .i64 (a : Int), .pointer y, .bool h]) (hbase : base ≤ w.heap.size) :
    Calls Try.prog 95 #[.slice (some ⟨g, 0, none⟩) n cap, .int .i64 (i : Int), .slice (some ⟨b, 0, none⟩) 1 1] w fun e w' => ∃ v, e = .returned v ∧ w'.ownsRow base 147 3 v (n + 1) (clv (cs.take i ++ [⟨a, .pointer y, h⟩] ++ cs.drop i)) ∧ Below base w w' := by
  have hlen : cs.length = n := by have := hO.1; rw [clv_length] at this; omega
  have HL := hide hlen
  clear hlen
  obtain ⟨A', c', hv, hnc, hR⟩ := Rw.of_own hO
  injection hv with hA _ hc
  subst hA hc
  obtain ⟨m, hm⟩ : ∃ m, n + 1 = i + m := ⟨n + 1 - i, by omega⟩
  have hm1 : 2 ≤ m := by omega
  have e2 : ((n : Int) + 1 - i) = (m : Int) := by omega
  have HM := hide hm
  clear hm
  have e0 : ((i : Int) == n) = false := by simp; omega
  have e1 : decide ((n : Int) + 1 > cap) = true := by simp; omega
  have hs := fun W => run_slice_lo (P := Try.prog) Try.underlying140 Try.sizeOf147 (some ⟨g, 0, none⟩) n cap i (by omega) W
  have hs2 := fun W => run_slice_hi (P := Try.prog) Try.underlying140 Try.sizeOf147 g n cap i (by omega) W
  rw [cutA_some (by omega)] at hs
  have hr : Rw w 3 (some ⟨b, 0, none⟩) 1 (clv [⟨a, .pointer y, h⟩]) := Rw.of_blk hb rfl (fun j u h => by simpa [clv, Cl.vals] using h)
  have h1 : ∀ u ∈ clv [⟨a, .pointer y, h⟩], u.oneCell' = true := clv_one_n (fun c hc => by rw [List.mem_singleton] at hc; rw [hc]; exact ⟨_, rfl⟩)
  have hRt := hR.take_ (i := i) (by omega)
  rw [clv_take] at hRt
  go_enter Try.func95, Try.ntmps95
  go_wp2_with (first
    | (at_builtin
       refine zeros_grow w rfl (.tmp 34) (.tmp 39) _ 3 147 _ 3 24 rfl Try.underlying140 Try.underlying3 info_cell_n rfl (by omega) (by omega) (some ⟨g, 0, none⟩) i cap (clv (cs.take i)) rfl hRt _ m rfl ?z1 ?z2 ?z3 ?_
       case z1 => rw [zc_n]; exact clv_one_n (isx_rep_n m)
       case z2 => omega
       case z3 => have := HM.out; omega
       intro v' w' ho' hb'
       rw [zc_n, ← clv_append] at ho'
       obtain ⟨g2, cap2, hv2, hg2, hlt2⟩ := ho'.form (by omega)
       subst hv2
       obtain ⟨_, _, hv3, hcap2, -⟩ := Rw.of_own ho'
       injection hv3 with hA3 _ hc3
       subst hA3 hc3
       have hs3 := fun W => run_slice_lo (P := Try.prog) Try.underlying140 Try.sizeOf147 (some ⟨g2, 0, none⟩) (i + m) cap2 i (by omega) W
       rw [cutA_some (by omega)] at hs3
       rw [show i + m - i = m by omega] at hs3
       obtain ⟨w2, hrun2, ho2, hgr2⟩ := run_copy_own (P := Try.prog) w' 140 140 3 147 3 w.heap.size (i + m) cap2 g2 i (cap2 - i) (some ⟨b, 0, none⟩) 1 1 m _ _ Try.underlying140 size_cell_n ho' 1 (Nat.min_eq_left (by omega)) (hr.below hb') (by omega) (by omega) h1
       rw [splice_clv] at ho2
       have hs4 := fun W => run_slice_lo (P := Try.prog) Try.underlying140 Try.sizeOf147 (some ⟨g2, 0, none⟩) (i + m) cap2 (i + 1) (by omega) W
       rw [cutA_some (by omega), show (((i + 1 : Nat)) : Int) = (i : Int) + 1 by omega] at hs4
       have hbw2 : Below w.heap.size w w2 := hb'.grown hgr2 hb'.size (fun k hk => by injection hk with hk; omega)
       have HO2 := hide ho2
       clear ho' ho2 hgr2)
    | fail)
  have e5 : IntKind.i64.wrap ((i : Int) + 1) = (i : Int) + 1 := by rw [IntKind.wrap_i64]; omega
  go_still_tail 8, (by kernel_rfl)
  change wpList _ _ _ _ _ w2.drew
  have hRd := (hR.drop_ (i := i) (by omega)).below hbw2.drew
  rw [clv_drop] at hRd
  refine copy_own w2.drew rfl (.tmp 50) (.tmp 53) _ _ 147 rfl 3 w.heap.size (i + m) cap2 g2 (i + 1) (cap2 - (i + 1)) (some ⟨g, i * 3, none⟩) (n - i) (cap - i) (i + m - (i + 1)) _ (clv (cs.drop i)) Try.underlying140 size_cell_n HO2.out.drew ?d1 rfl (n - i) ?d3 hRd (by omega) (by omega) ?d5 ?_
  case d1 => rfl
  case d3 => have := HM.out; exact Nat.min_eq_left (by omega)
  case d5 => exact clv_one_n (fun c hc => hX c (List.mem_of_mem_drop hc))
  intro w3 ho3 hg3
  rw [splice_clv] at ho3
  have HO3 := hide ho3
  have hb3 := hbw2.drew.grown hg3 hbw2.drew.size (fun k hk => by injection hk with hk; omega)
  clear ho3 hg3
  go_wp2
  go_ret
  refine ⟨_, rfl, ?_, hb3.mono hbase⟩
  have ho3 := own_lower HO3.out hbase
  rw [show 1 = ([⟨a, .pointer y, h⟩] : List Cl).length from rfl, List.length_singleton, ins_lists cs _ _ n i m HL.out hi HM.out] at ho3
  rw [HM.out]
  exact ho3
set_option maxHeartbeats 2000000 in
set_option maxRecDepth 100000 in
theorem insert_room_n (base g : Nat) (n cap i : Nat) (cs : List Cl) (a : Nat) (y) (h : Bool) (b : Nat) (w : World) (hO : w.ownsRow base 147 3 (.slice (some ⟨g, 0, none⟩) n cap) n (clv cs)) (hX : IsX_n cs) (hn : n ≤ 65536) (hi : i < n) (hcap : n + 1 ≤ cap) (hb : Blk w b 147 #[.int .i64 (a : Int), .pointer y, .bool h]) (hne : b ≠ g) (hbase : base ≤ w.heap.size) :
    Calls Try.prog 95 #[.slice (some ⟨g, 0, none⟩) n cap, .int .i64 (i : Int), .slice (some ⟨b, 0, none⟩) 1 1] w fun e w' => ∃ v, e = .returned v ∧ w'.ownsRow base 147 3 v (n + 1) (clv (cs.take i ++ [⟨a, .pointer y, h⟩] ++ cs.drop i)) ∧ Below base w w' := by
  have hlen : cs.length = n := by have := hO.1; rw [clv_length] at this; omega
  have HL := hide hlen
  clear hlen
  obtain ⟨ys, hys, hO1⟩ := own_extend hO (Nat.le_succ n) hcap
  have hgb : base ≤ g := own_base hO g rfl
  have hsg : w.shape? g = some (147, cap * 3) ∧ w.frozen? ⟨g, 0, none⟩ = false := by
    rcases hO.2 with ⟨h', h0⟩ | ⟨g', cap', cur, h', hbg, hg, hnc, hcm, hcs, htake⟩
    · cases h'
    · simp only [Value.slice.injEq, Option.some.injEq, Addr.mk.injEq, and_true, true_and] at h'
      obtain ⟨rfl, rfl⟩ := h'
      exact ⟨by simp [World.shape?, hg, hcs], by simp [World.frozen?, hg]⟩
  have hsb : w.shape? b = some (147, 3) := by unfold Blk at hb; simp [World.shape?, hb]
  have hov : ∀ lb cb, (callFunc 110 #[.slice (some ⟨b, 0, none⟩) 1 1, .slice (some ⟨g, (i + 1) * 3, none⟩) lb cb]).run Try.prog w = .ok (.value (.bool false)) w := fun lb cb => by
    rw [run_callFunc_extern Try.func110 (by kernel_rfl) (by kernel_rfl) (by kernel_rfl) (e := Extern.SlicesOverlaps.overlaps #[140, 140] #[4]) (by kernel_rfl),
      Lib.run_overlaps_apart w 140 4 147 Try.underlying140 3 Try.sizeOf147 ⟨b, 0, none⟩ ⟨g, (i + 1) * 3, none⟩ 1 1 lb cb hne _ _ 3 (cap * 3) hsb hsg.1 (by omega) (hb.frozen 0) (hb.frozen 3)]
    rfl
  have hr : Rw w 3 (some ⟨b, 0, none⟩) 1 (clv [⟨a, .pointer y, h⟩]) := Rw.of_blk hb rfl (fun j u h => by simpa [clv, Cl.vals] using h)
  have h1 : ∀ u ∈ clv [⟨a, .pointer y, h⟩], u.oneCell' = true := clv_one_n (fun c hc => by rw [List.mem_singleton] at hc; rw [hc]; exact ⟨_, rfl⟩)
  obtain ⟨_, _, hv, -, hR⟩ := Rw.of_own hO
  injection hv with hA _ hc
  subst hA hc
  have hRd := (hR.drop_ (i := i) (by omega)).below ((Below.refl w.heap.size w).drew)
  rw [clv_drop] at hRd
  have e0 : ((i : Int) == n) = false := by simp; omega
  have e1 : decide ((n : Int) + 1 > cap) = false := by simp; omega
  have hs := fun W => run_slice_lo (P := Try.prog) Try.underlying140 Try.sizeOf147 (some ⟨g, 0, none⟩) n cap i (by omega) W
  have hs2 := fun W => run_slice_hi (P := Try.prog) Try.underlying140 Try.sizeOf147 g n cap (n + 1) (by omega) W
  have hs3 := fun W => run_slice_lo (P := Try.prog) Try.underlying140 Try.sizeOf147 (some ⟨g, 0, none⟩) (n + 1) cap (i + 1) (by omega) W
  have hs4 := fun W => run_slice_lo (P := Try.prog) Try.underlying140 Try.sizeOf147 (some ⟨g, 0, none⟩) (n + 1) cap i (by omega) W
  rw [cutA_some (by omega)] at hs hs3 hs4
  rw [show ((n + 1 : Nat) : Int) = (n : Int) + 1 by omega] at hs2
  rw [show ((i + 1 : Nat) : Int) = (i : Int) + 1 by omega] at hs3
  have e5 : IntKind.i64.wrap ((i : Int) + 1) = (i : Int) + 1 := by rw [IntKind.wrap_i64]; omega
  have HO1 := hide hO1
  have HSG := hide hsg
  have HYS := hide hys
  clear hO hO1 hsg hsb hys
  go_enter Try.func95, Try.ntmps95
  go_wp2_with fail
  go_still_tail 8, (by kernel_rfl)
  change wpList _ _ _ _ _ w.drew
  refine copy_own w.drew rfl (.tmp 73) (.tmp 76) _ _ 147 rfl 3 base (n + 1) cap g (i + 1) (cap - (i + 1)) (some ⟨g, i * 3, none⟩) (n + 1 - i) (cap - i) (n - i) _ (clv (cs.drop i)) Try.underlying140 size_cell_n HO1.out.drew ?d1 ?d2 (n - i) ?d3 hRd (by omega) (by omega) ?d5 ?_
  case d1 => rfl
  case d2 => rfl
  case d3 => exact Nat.min_eq_right (by omega)
  case d5 => exact clv_one_n (fun c hc => hX c (List.mem_of_mem_drop hc))
  intro w2 ho2 hg2
  have hb2 : Below base w w2 := ((Below.refl base w).drew).grown hg2 hbase (fun k hk => by injection hk with hk; omega)
  have hsame : ∀ j, w2.cell? ⟨b, j, none⟩ = w.cell? ⟨b, j, none⟩ := fun j => World.cell?_of_block (hg2.block b hb.lt (fun e => by injection e with e; exact hne e))
  have hr2 : Rw w2 3 (some ⟨b, 0, none⟩) 1 (clv [⟨a, .pointer y, h⟩]) := ⟨hr.1, fun h0 => by
    obtain ⟨b', o', hA, hlt, hc⟩ := hr.2 h0
    injection hA with hA
    injection hA with h3 h4
    subst h3 h4
    exact ⟨b, 0, rfl, Nat.lt_of_lt_of_le hlt hg2.size, fun j u hu => (hsame _).trans (hc j u hu)⟩⟩
  obtain ⟨w3, hrun3, ho3, hg3⟩ := run_copy_own (P := Try.prog) w2 140 140 3 147 3 base (n + 1) cap g i (cap - i) (some ⟨b, 0, none⟩) 1 1 (n + 1 - i) _ _ Try.underlying140 size_cell_n ho2 1 (Nat.min_eq_left (by omega)) hr2 (by omega) (by omega) h1
  have hb3 : Below base w w3 := hb2.grown hg3 (Nat.le_trans hbase hb2.size) (fun k hk => by injection hk with hk; omega)
  have HO3 := hide ho3
  clear ho2 ho3 hg2 hg3 hsame
  go_wp2
  go_ret
  refine ⟨_, rfl, ?_, hb3⟩
  have ho3 := HO3.out
  have hli : (clv (cs.take i)).length = i * 3 := by rw [clv_length, List.length_take]; have := HL.out; omega
  have hcs : clv cs = clv (cs.take i) ++ clv (cs.drop i) := by rw [← clv_append, List.take_append_drop]
  rw [hcs, show (i + 1) * 3 = (clv (cs.take i)).length + 3 by rw [hli]; omega] at ho3
  rw [← hli, splice_ins _ _ _ _ 3 (by rw [HYS.out]; omega) (by simp [clv, Cl.vals])] at ho3
  rw [clv_append, clv_append]
  exact ho3
/-- One cell more, wherever there is room, or isn't. -/
theorem insert_n (base : Nat) (A : Option Addr) (n cap i : Nat) (cs : List Cl) (a : Nat) (y) (h : Bool) (b : Nat) (w : World) (hO : w.ownsRow base 147 3 (.slice A n cap) n (clv cs)) (hX : IsX_n cs) (hn : n ≤ 65536) (hi : i ≤ n) (hb : Blk w b 147 #[.int .i64 (a : Int), .pointer y, .bool h]) (hne : (Value.slice A n cap).ownBlock ≠ some b) (hbase : base ≤ w.heap.size) :
    Calls Try.prog 95 #[.slice A n cap, .int .i64 (i : Int), .slice (some ⟨b, 0, none⟩) 1 1] w fun e w' => ∃ v, e = .returned v ∧ w'.ownsRow base 147 3 v (n + 1) (clv (cs.take i ++ [⟨a, .pointer y, h⟩] ++ cs.drop i)) ∧ Below base w w' := by
  have hlen : cs.length = n := by have := hO.1; rw [clv_length] at this; omega
  rcases Nat.lt_or_ge i n with hlt | hge
  · obtain ⟨g, cap', hv, hg1, hg2⟩ := hO.form (by omega)
    injection hv with hA _ hc
    subst hA hc
    rcases Nat.lt_or_ge cap (n + 1) with hc | hc
    · exact insert_grow_n base g n cap i cs a y h b w hO hX hn hlt hc hb hbase
    · exact insert_room_n base g n cap i cs a y h b w hO hX hn hlt hc hb (fun e => hne (by simp [Value.ownBlock, e])) hbase
  · have : i = n := by omega
    subst this
    refine (insert_end_n base A i cap cs a y h b w hO hn hb hbase).mono ?_
    rintro e w' ⟨v, rfl, ho, hb⟩
    rw [List.take_of_length_le (by omega), List.drop_of_length_le (by omega), List.append_nil]
    exact ⟨v, rfl, ho, hb⟩
end
section
open Go.RowKit
theorem isx_ins_n {L : Th} {a : Nat} {y} (h : IsX_n (mkC L)) : IsX_n (mkC (insTh L a (.pointer y))) := by
  intro c hc
  obtain ⟨t, ht, rfl⟩ := List.mem_map.1 hc
  unfold insTh at ht
  rcases List.mem_append.1 ht with ht | ht
  · rcases List.mem_append.1 ht with ht | ht
    · exact h _ (List.mem_map.2 ⟨t, (List.mem_filter.1 ht).1, rfl⟩)
    · simp at ht
      rw [ht]
      exact ⟨_, rfl⟩
  · exact h _ (List.mem_map.2 ⟨t, (List.mem_filter.1 ht).1, rfl⟩)
set_option maxHeartbeats 2000000 in
set_option maxRecDepth 100000 in
theorem put_n (g k : Nat) (L : Th) (a : Nat) (y) (w : World) (h : SlotsAt_n w g k L) (ha : a < 2 ^ k) :
    Calls Try.prog 78 #[.pointer (some ⟨g, 0, none⟩), .int .i64 (a : Int), .pointer y] w fun e w' => ∃ g', e = .returned (.tuple #[.pointer (some ⟨g', 0, none⟩), .int .i64 0]) ∧ SlotsAt_n w' g' k (insTh L a (.pointer y)) ∧ w.heap.size ≤ g' ∧ Below w.heap.size w w' := by
  have hO := h.ok
  have hk1 := h.1
  have hk := h.2.1
  have hXL := h.2.2.2.1
  have hp16 := pow16 hk
  have hll := len_le_of_ok hO
  have ha16 : a < 65536 := by omega
  have hl16 : L.length ≤ 65536 := by omega
  have hc0 : chk k a = 0 := by unfold chk; rw [if_pos ⟨by omega, by omega⟩]
  obtain ⟨A, m, c, hB, hR, hm, hX, hS, hLv, -⟩ := h.cells
  have HLv := hide hLv
  have HO' := insTh_ok (.pointer y) hO ha
  have hcheck := check_n g k L a w h
  generalize cellsOf (.pointer none) k L = cs at *
  have HC := hide hcheck
  have HA := hide ha
  clear hcheck h hLv hp16 hll ha
  go_enter Try.func78, Try.ntmps78
  go_wp2_with fail
  refine HC.out.mono ?_
  rintro e w0 ⟨rfl, rfl⟩
  go_wp2_with fail
  refine (things_n g _ _ A m c cs w hB hR hX (by omega)).mono ?_
  rintro e w1 ⟨v, rfl, ho, hb⟩
  rw [HLv.out, mkC_length] at ho
  obtain ⟨A1, c1, rfl, hnc1, hR1⟩ := Rw.of_own ho
  go_wp2_with fail
  refine (bsearch_n A1 L.length c1 L k a w1 hR1 hXL hO hk (by omega) (by omega)).mono ?_
  rintro e w2 ⟨at_, ok, rfl, hF, hb2⟩
  have ho2 := own_below ho hb2
  have hbb := below_then hb hb2
  have hH0 := (hB.below hbb).cell 0
  simp at hH0
  have HO2 := hide ho2
  have HBB := hide hbb
  have hBW := hide (hB.below hbb)
  have hwle := hbb.size
  clear ho ho2 hbb hb hb2 hR1 HC
  cases ok with
  | true =>
    obtain ⟨hlt, hset⟩ := ins_old (.pointer y) hO hF
    obtain ⟨g1, cap1, hv, hg1, hg2⟩ := HO2.out.form (by omega)
    injection hv with hA1 _ hc1
    subst hA1 hc1
    obtain ⟨d, hd, k0, k1, k2, f0, f1, f2⟩ := own_cells HO2.out hlt
    have hda : (⟨d.a, .pointer y, d.h⟩ : Cl) = ⟨a, .pointer y, true⟩ := by
      have h4 := hF.2.2.2
      rw [hd] at h4
      simp at h4
      have e1 : d.a = a := by omega
      rw [e1, h4.2]
    have HS := hide ((HO2.out.stored (at_ * 3 + 1) (.pointer y)).1)
    have HE := hide (clv_set_x (mkC L) at_ (.pointer y) d hd)
    have HD := hide hda
    have HSet := hide hset
    have hgne : g ≠ g1 := fun e => by have := hB.lt; omega
    have hH0' := (hBW.out.set_ g1 (at_ * 3 + 1) (.pointer y) hgne).cell 0
    simp at hH0'
    clear hF hd hda k0 k2 f0 f2 hset
    go_wp2_with fail
    have hrow : Rw (w2.setCell ⟨g1, at_ * 3 + 1, none⟩ (.pointer y)) 3 (some ⟨g1, 0, none⟩) L.length (clv (mkC (insTh L a (.pointer y)))) := by
      have h1 := HS.out
      rw [HE.out, HD.out, HSet.out] at h1
      obtain ⟨A', c', hv', _, hr'⟩ := Rw.of_own h1
      injection hv' with hA' _ _
      rw [hA']
      exact hr'
    refine (kept_n k (some ⟨g1, 0, none⟩) L.length c1 (insTh L a (.pointer y)) _ hk1 hk hrow (isx_ins_n hXL) HO').mono ?_
    rintro e w3 ⟨g', rfl, hs', hg', hb3⟩
    have HS' := hide hs'
    clear hs' hrow
    have hb4 : Below w.heap.size w (w2.setCell ⟨g1, at_ * 3 + 1, none⟩ (.pointer y)) := HBB.out.setCell hg1 _
    have hb5 := below_then hb4 hb3
    have hsz := hb4.size
    clear hb3
    go_wp2
    go_ret2
    exact ⟨g', rfl, HS'.out, by omega, hb5⟩
  | false =>
    have hins := ins_new (.pointer y) hO hF
    have hle : at_ ≤ L.length := by have := hF.1; rw [mkC_length] at this; exact this
    have HI := hide hins
    clear hF hins
    go_wp2_with fail
    refine (insert_n w.heap.size A1 L.length c1 at_ (mkC L) a y true w2.heap.size _ (HO2.out.alloc _) hXL hl16 hle (Blk.new _ _ _) (fun e => by have := own_block_lt HO2.out _ e; omega) (by simp; omega)).mono ?_
    rintro e w3 ⟨v, rfl, ho3, hb3⟩
    rw [HI.out] at ho3
    have hlen : (insTh L a (.pointer y)).length = L.length + 1 := by
      have h1 := congrArg List.length HI.out
      simp [mkC_length] at h1
      omega
    obtain ⟨A3, c3, rfl, _, hR3⟩ := Rw.of_own ho3
    have hH0' := (((hBW.out).alloc (.cells #[.int .i64 (a : Int), .pointer y, .bool true] 147)).belowB hb3 hB.lt).cell 0
    simp at hH0'
    have hb4 : Below w.heap.size w w3 := (below_alloc HBB.out (Nat.le_refl _) _).trans hb3
    have HL := hide hlen
    clear hlen hb3 ho3
    go_wp2_with fail
    refine (kept_n k A3 (L.length + 1) c3 (insTh L a (.pointer y)) _ hk1 hk hR3 (isx_ins_n hXL) HO').mono ?_
    rintro e w4 ⟨g', rfl, hs', hg', hb5⟩
    have HS' := hide hs'
    have hb6 := below_then hb4 hb5
    have hsz := hb4.size
    clear hs' hb5
    go_wp2
    go_ret2
    exact ⟨g', rfl, HS'.out, by omega, hb6⟩
set_option maxHeartbeats 2000000 in
set_option maxRecDepth 100000 in
theorem put_bad_n (g k : Nat) (L : Th) (addr : Int) (x : Value) (w : World) (h : SlotsAt_n w g k L) (ha : chk k addr = 3) :
    Calls Try.prog 78 #[.pointer (some ⟨g, 0, none⟩), .int .i64 addr, x] w fun e w' => e = .returned (.tuple #[.pointer none, .int .i64 3]) ∧ w = w' := by
  have HC := hide (check_n g k L addr w h)
  clear h
  go_enter Try.func78, Try.ntmps78
  go_wp2_with fail
  refine HC.out.mono ?_
  rintro e w0 ⟨rfl, rfl⟩
  go_wp2
  go_ret2
  exact ⟨rfl, rfl⟩
set_option maxHeartbeats 2000000 in
set_option maxRecDepth 100000 in
theorem put_nil_n (addr : Int) (x : Value) (w : World) :
    Calls Try.prog 78 #[.pointer none, .int .i64 addr, x] w fun e w' => e = .returned (.tuple #[.pointer none, .int .i64 1]) ∧ w = w' := by
  go_enter Try.func78, Try.ntmps78
  go_wp2_with fail
  refine (check_nil_n addr w).mono ?_
  rintro e w0 ⟨rfl, rfl⟩
  go_wp2
  go_ret2
  exact ⟨rfl, rfl⟩
end
section
open Go.RowKit
set_option maxHeartbeats 1000000 in
set_option maxRecDepth 100000 in
theorem del1_n (a : Nat) (y) (h : Bool) (pb addr : Nat) (w : World) (hb : w.cell? ⟨pb, 0, none⟩ = some (.int .i64 (addr : Int))) (hlt : pb < w.heap.size) :
    Calls Try.prog 115 #[.agg #[.int .i64 (a : Int), .pointer y, .bool h], .pointer (some ⟨pb, 0, none⟩)] w fun e w' => e = .returned (.bool (decide (a = addr))) ∧ Below w.heap.size w w' := by
  by_cases he : a = addr
  · have e1 : ((a : Int) == (addr : Int)) = true := by simp; omega
    have e2 := hide he
    clear he
    go_enter Try.func115, Try.ntmps115
    go_wp2
    go_ret
    exact ⟨retB (by simp [e2.out]), below_alloc (Below.refl _ _) (Nat.le_refl _) _⟩
  · have e1 : ((a : Int) == (addr : Int)) = false := by simp; omega
    go_enter Try.func115, Try.ntmps115
    go_wp2
    go_ret
    exact ⟨retB (by simp [he]), below_alloc (Below.refl _ _) (Nat.le_refl _) _⟩
set_option maxHeartbeats 1000000 in
set_option maxRecDepth 100000 in
theorem indexf_n (A : Option Addr) (n c : Nat) (L : Th) (k : Nat) (pb p : Nat) (t : Nat × Value) (w : World) (hR : Rw w 3 A n (clv (mkC L))) (hX : IsX_n (mkC L)) (hO : OkTh k L) (hn : n ≤ 65536) (ht : L[p]? = some t) (hb : w.cell? ⟨pb, 0, none⟩ = some (.int .i64 (t.1 : Int))) (hlt : pb < w.heap.size) :
    Calls Try.prog 118 #[.slice A n c, .func (.func 115) #[] #[.pointer (some ⟨pb, 0, none⟩)]] w fun e w' => e = .returned (.int .i64 (p : Int)) ∧ Below w.heap.size w w' := by
  have hlen : L.length = n := by have := hR.1; rw [clv_length, mkC_length] at this; omega
  have hp : p < n := by have := (List.getElem?_eq_some_iff.1 ht).1; omega
  have HT := hide ht
  have HL := hide hlen
  clear ht hlen
  go_enter Try.func118, Try.ntmps118
  go_wp2
  go_loopw [8] (fun i wr => ∃ (j : Nat), j ≤ p ∧ i = .int .i64 j ∧ Below w.heap.size w wr) (fun i _ => p - (intOf i).toNat)
  case atStart => exact ⟨0, Nat.zero_le _, rfl, Below.refl _ _⟩
  case round =>
    obtain ⟨j, hj, rfl, hbr⟩ := hrel
    obtain ⟨b, o, d, rfl, hbl, hd, k0, k1, k2⟩ := (hR.below hbr).cl (i := j) (by omega)
    obtain ⟨y, hy⟩ := hX d (List.mem_of_getElem? hd)
    rw [hy] at k1
    rw [mkC_get] at hd
    obtain ⟨s, hs, he⟩ := Option.map_eq_some_iff.1 hd
    have hda : d.a = s.1 := by rw [← he]
    have hb' := (hbr.cell (p := ⟨pb, 0, none⟩) hlt).trans hb
    have hlt' : pb < wr.heap.size := Nat.lt_of_lt_of_le hlt hbr.size
    by_cases hjp : j = p
    · have e1 : decide (d.a = t.1) = true := by
        have h1 := HT.out
        rw [← hjp, hs] at h1
        injection h1 with h1
        rw [hda, h1]
        simp
      have HJ := hide hjp
      clear hjp hs he hd hda hy
      go_wp2_with fail
      refine (del1_n d.a y d.h pb t.1 _ hb' hlt').mono ?_
      rintro e w1 ⟨rfl, hb1⟩
      have hb2 := below_then hbr hb1
      clear hb1
      go_wp2
      go_ret
      exact ⟨retI (by rw [HJ.out]), hb2⟩
    · have e1 : decide (d.a = t.1) = false := by
        have h1 := HT.out
        simp only [decide_eq_false_iff_not]
        intro h2
        obtain ⟨hi, rfl⟩ := List.getElem?_eq_some_iff.1 hs
        obtain ⟨hi', rfl⟩ := List.getElem?_eq_some_iff.1 h1
        have := List.pairwise_iff_getElem.1 hO.1 j p hi hi' (by omega)
        omega
      have hjp' : j < p := by omega
      clear hjp hs he hd hda hy
      go_wp2_with fail
      refine (del1_n d.a y d.h pb t.1 _ hb' hlt').mono ?_
      rintro e w1 ⟨rfl, hb1⟩
      have hb2 := below_then hbr hb1
      clear hb1
      go_wp2
      go_roundw
      case rel => exact ⟨j + 1, by omega, by go_num, hb2⟩
      case measure => simp [intOf]; omega
set_option maxHeartbeats 2000000 in
set_option maxRecDepth 100000 in
theorem deletef_n (base g : Nat) (n cap : Nat) (L : Th) (k : Nat) (pb p : Nat) (t : Nat × Value) (w : World) (hO : w.ownsRow base 147 3 (.slice (some ⟨g, 0, none⟩) n cap) n (clv (mkC L))) (hX : IsX_n (mkC L)) (hOk : OkTh k L) (hn : n ≤ 65536) (ht : L[p]? = some t) (hb : w.cell? ⟨pb, 0, none⟩ = some (.int .i64 (t.1 : Int))) (hlt : pb < w.heap.size) (hpg : pb < base) (hbase : base ≤ w.heap.size) :
    Calls Try.prog 114 #[.slice (some ⟨g, 0, none⟩) n cap, .func (.func 115) #[] #[.pointer (some ⟨pb, 0, none⟩)]] w fun e w' => e = .returned (.slice (some ⟨g, 0, none⟩) (n - 1) cap) ∧ w'.ownsRow base 147 3 (.slice (some ⟨g, 0, none⟩) (n - 1) cap) (n - 1) (clv (mkC (delTh L t.1))) ∧ Below base w w' := by
  have hlen : (mkC L).length = n := by have := hO.1; rw [clv_length] at this; omega
  have hp : p < n := by have := (List.getElem?_eq_some_iff.1 ht).1; rw [mkC_length] at hlen; omega
  obtain ⟨_, _, hv, hnc, hR⟩ := Rw.of_own hO
  injection hv with hA _ hc
  subst hA hc
  have hix := hide (indexf_n (some ⟨g, 0, none⟩) n cap L k pb p t w hR hX hOk hn ht hb hlt)
  have hgb : base ≤ g := own_base hO g rfl
  have HT := hide ht
  have HL := hide hlen
  clear ht hlen hR
  have e0 : ((p : Int) == -1) = false := by simp
  go_enter Try.func114, Try.ntmps114
  go_wp2_with fail
  refine hix.out.mono ?_
  rintro e w1 ⟨rfl, hb1⟩
  have ho1 := own_below hO hb1
  have hbB : Below base w w1 := hb1.mono hbase
  clear hix hO hb1
  go_wp2
  go_loopw [5, 6] (fun x i wr => ∃ (q : Nat), p ≤ q ∧ q + 1 ≤ n ∧ x = .int .i64 q ∧ i = .int .i64 ((q : Int) + 1) ∧ wr.ownsRow base 147 3 (.slice (some ⟨g, 0, none⟩) n cap) n (clv (shifted (mkC L) p (q + 1))) ∧ Below base w wr) (fun _ i _ => n - (intOf i).toNat)
  case atStart => exact ⟨p, Nat.le_refl _, hp, rfl, rfl, by rw [shifted_start]; exact ho1, hbB⟩
  case round =>
    obtain ⟨q, hpq, hqn, rfl, rfl, hoR, hbR⟩ := hrel
    clear ho1 hbB
    by_cases hq : q + 1 < n
    · obtain ⟨d, hd, k0, k1, k2, f0, f1, f2⟩ := own_cells hoR hq
      rw [shifted_get _ _ _ (by omega) (by rw [HL.out]; exact hq)] at hd
      obtain ⟨y, hy⟩ := hX d (List.mem_of_getElem? hd)
      rw [hy] at k1
      have hb' := (hbR.cell (p := ⟨pb, 0, none⟩) hpg).trans hb
      have hlt' : pb < wr.heap.size := Nat.lt_of_lt_of_le hlt hbR.size
      have hd' := hd
      rw [mkC_get] at hd'
      obtain ⟨s, hs, he⟩ := Option.map_eq_some_iff.1 hd'
      have e1 : decide (d.a = t.1) = false := by
        have h1 := HT.out
        have hda : d.a = s.1 := by rw [← he]
        simp only [decide_eq_false_iff_not]
        intro h2
        obtain ⟨hi, rfl⟩ := List.getElem?_eq_some_iff.1 hs
        obtain ⟨hi', rfl⟩ := List.getElem?_eq_some_iff.1 h1
        have := List.pairwise_iff_getElem.1 hOk.1 p (q + 1) hi' hi (by omega)
        omega
      have HD := hide hd
      have HY := hide hy
      have HOR := hide hoR
      clear hd hd' hy hs he f0 f1 f2 hoR
      go_wp2_with fail
      refine (del1_n d.a y d.h pb t.1 _ ((Blk.alloc_cell hb').trans rfl) (by simp; omega)).mono ?_
      rintro e w2 ⟨rfl, hb2⟩
      have hoA := HOR.out.alloc (.cells #[.int .i64 (d.a : Int), .pointer y, .bool d.h] 147)
      have ho2 := own_below hoA hb2
      have hN := (Blk.new wr 147 #[.int .i64 (d.a : Int), .pointer y, .bool d.h]).below hb2
      have hb3 : Below base w w2 := (hbR.alloc (Nat.le_trans hbase hbR.size) _).trans (hb2.mono (by have := hbR.size; simp; omega))
      obtain ⟨d2, hd2, j0, j1, j2, f0, f1, f2⟩ := own_cells (i := q) ho2 (by omega)
      have N0 := hN.cell 0
      have N1 := hN.cell 1
      have N2 := hN.cell 2
      simp at N0 N1 N2
      have HO2 := hide ho2
      have hqg : g ≠ wr.heap.size := fun e => by have := own_lt HOR.out (by omega); omega
      clear hd2 ho2 hoA hN hb2 k0 k1 k2
      go_wp2
      go_roundw
      case rel =>
        refine ⟨q + 1, by omega, by omega, by go_num, rfl, ?_, ((hb3.setCell hgb _).setCell hgb _).setCell hgb _⟩
        rw [← shifted_set (mkC L) p (q + 1) d (by omega) HD.out]
        have h1 := own_store3 HO2.out d (show q < n by omega)
        rw [HY.out] at h1
        exact h1
      case measure => simp [intOf]; omega
    · have hqe : n - 1 = q := by omega
      have hs := fun W => run_slice_lo (P := Try.prog) Try.underlying140 Try.sizeOf147 (some ⟨g, 0, none⟩) n cap q (by omega) W
      rw [cutA_some (by omega), show n - q = 1 by omega] at hs
      have hs2 := fun W => run_slice_hi (P := Try.prog) Try.underlying140 Try.sizeOf147 g n cap q (by omega) W
      obtain ⟨w2, hrun, ho2, hg2⟩ := run_clear_own (P := Try.prog) wr 140 147 (.agg #[.int .i64 0, (.pointer none), .bool false]) 3 base n cap g q 1 (cap - q) _ Try.underlying140 Try.zeroValue147 rfl hoR (by omega) (by omega) (by rw [zc_n]; exact clv_one_n (isx_rep_n 1))
      have hb2 : Below base w w2 := hbR.grown hg2 (Nat.le_trans hbase hbR.size) (fun k hk => by injection hk with hk; omega)
      have ho3 := own_cut ho2 (show q ≤ n by omega)
      have HE := hide hqe
      have HO3 := hide ho3
      clear hqe ho2 ho3 hg2 hoR
      go_wp2
      go_ret
      rw [HE.out]
      refine ⟨rfl, ?_, hb2⟩
      have h1 := HO3.out
      unfold splice at h1
      have hlsh := shifted_len (mkC L) p (q + 1) (by omega) (by rw [HL.out]; omega)
      rw [HL.out] at hlsh
      rw [List.take_append_of_le_length (by rw [List.length_take, clv_length]; omega), List.take_take, Nat.min_self, clv_take] at h1
      have h2 := shifted_end (mkC L) p (by rw [HL.out]; exact hp)
      rw [HL.out, HE.out] at h2
      rw [show q + 1 = n by omega, h2] at h1
      rw [← del_at hOk HT.out, mkC_append]
      unfold mkC at h1 ⊢
      rw [List.map_take, List.map_drop]
      exact h1
theorem isx_del_n {L : Th} {a : Nat} (h : IsX_n (mkC L)) : IsX_n (mkC (delTh L a)) := by
  intro c hc
  obtain ⟨t, ht, rfl⟩ := List.mem_map.1 hc
  exact h _ (List.mem_map.2 ⟨t, (List.mem_filter.1 ht).1, rfl⟩)
set_option maxHeartbeats 2000000 in
set_option maxRecDepth 100000 in
theorem del_n (g k : Nat) (L : Th) (a : Nat) (x : Value) (w : World) (h : SlotsAt_n w g k L) (ha : a < 2 ^ k) (hg : getTh L (a : Int) = some x) :
    Calls Try.prog 104 #[.pointer (some ⟨g, 0, none⟩), .int .i64 (a : Int)] w fun e w' => ∃ g', e = .returned (.tuple #[.pointer (some ⟨g', 0, none⟩), .int .i64 0]) ∧ SlotsAt_n w' g' k (delTh L a) ∧ w.heap.size ≤ g' ∧ Below w.heap.size w w' := by
  have hO := h.ok
  have hk1 := h.1
  have hk := h.2.1
  have hXL := h.2.2.2.1
  have hp16 := pow16 hk
  have hll := len_le_of_ok hO
  have hl16 : L.length ≤ 65536 := by omega
  have hc0 : chk k a = 0 := by unfold chk; rw [if_pos ⟨by omega, by omega⟩]
  obtain ⟨p, t, ht, hta⟩ := getTh_idx hg
  have hta' : t.1 = a := by omega
  subst hta'
  have hlp : p < L.length := (List.getElem?_eq_some_iff.1 ht).1
  have hbA := (Below.refl w.heap.size w).alloc (Nat.le_refl _) (.cells #[.int .i64 (t.1 : Int)] 3)
  have hA := h.below hbA
  have hpbc : (w.alloc (.cells #[.int .i64 (t.1 : Int)] 3)).cell? ⟨w.heap.size, 0, none⟩ = some (.int .i64 (t.1 : Int)) := (Blk.new w 3 #[.int .i64 (t.1 : Int)]).cell 0
  have HC := hide (check_n g k L (t.1 : Int) _ hA)
  have HG := hide (get_n g k L (t.1 : Int) _ hA)
  have HT := hide ht
  have HX := hide hg
  have HS := hide hA
  have HB := hide hbA
  have hmf : ∀ (fn : Fn) (first cap : Array Value) (w : World), (Instr.makeFunc fn first cap).run Try.prog w = .ok (.func fn first cap) w := fun _ _ _ _ => rfl
  clear h hp16 hll ht hta hg hA hbA
  go_enter Try.func104, Try.ntmps104
  go_wp2_with fail
  refine HC.out.mono ?_
  rintro e w0 ⟨rfl, rfl⟩
  go_wp2_with fail
  refine HG.out.mono ?_
  rintro e w1 ⟨rfl, hb1⟩
  rw [HX.out]
  have hpb1 := (hb1.cell (p := ⟨w.heap.size, 0, none⟩) (by simp)).trans hpbc
  have hpbl : w.heap.size < w1.heap.size := by have := hb1.size; simp at this; omega
  have HS1 := HS.out.below hb1
  have HB1 := hide (HB.out.trans (hb1.mono (by simp)))
  obtain ⟨A, m, c, hB, hR, hm, hX, -, hLv, -⟩ := HS1.cells
  have H0 := hB.cell 0
  simp at H0
  have HTh : ∀ W : World, W.heap = w1.heap → W.os = w1.os → W.tape = w1.tape → W.output = w1.output → Calls Try.prog 92 #[.pointer (some ⟨g, 0, none⟩)] W fun e w' => ∃ v, e = .returned v ∧ w'.ownsRow W.heap.size 147 3 v L.length (clv (mkC L)) ∧ Below w1.heap.size w1 w' := by
    intro W h1 h2 h3 h4
    have hW : Below w1.heap.size w1 W := ⟨h2, h3, h4, by rw [h1]; exact Nat.le_refl _, fun k _ => by rw [h1]⟩
    have hbT := things_n g _ _ A m c _ W (hB.below hW) (hR.below hW) hX (by omega)
    rw [hLv, mkC_length] at hbT
    exact hbT.mono fun e w' ⟨v, e1, e2, e3⟩ => ⟨v, e1, e2, below_then hW e3⟩
  have HTH := hide HTh
  clear HC HG HS HB hpbc hb1 HS1 hLv HTh hR
  go_wp2_with fail
  go_region_held3 (fun w' => w'.cell? ⟨g, 0, none⟩ = some (.int .i64 (k : Int)))
    (first
      | go_keep
      | exact hk2
      | exact hk3
      | exact hk4)
    (first
      | (go_at_call 92
         refine (HTH.out w1.drew rfl rfl rfl rfl).mono ?_
         rintro e w2 ⟨v, rfl, ho2, hb2⟩
         obtain ⟨g2, cap2, rfl, hg2a, hg2b⟩ := ho2.form (by omega)
         have hpb2 := (hb2.cell (p := ⟨w.heap.size, 0, none⟩) hpbl).trans hpb1
         have hk2 : w2.cell? ⟨g, 0, none⟩ = some (.int .i64 (k : Int)) := (hb2.cell (p := ⟨g, 0, none⟩) hB.lt).trans H0)
      | (go_at_call 114
         refine (deletef_n w1.heap.size g2 L.length cap2 L k w.heap.size p t w2 ho2 hXL hO hl16 HT.out hpb2 (by have := hb2.size; omega) hpbl hb2.size).mono ?_
         rintro e w3 ⟨rfl, ho3, hb3⟩
         have hb13 := hb2.trans hb3
         have hk3 : w3.cell? ⟨g, 0, none⟩ = some (.int .i64 (k : Int)) := (hb13.cell (p := ⟨g, 0, none⟩) hB.lt).trans H0)
      | (go_at_call 96
         obtain ⟨A3, c3, hv3, _, hR3⟩ := Rw.of_own ho3
         injection hv3 with hA3 _ hc3
         subst hA3 hc3
         refine (kept_n k (some ⟨g2, 0, none⟩) (L.length - 1) cap2 (delTh L t.1) w3 hk1 hk hR3 (isx_del_n hXL) (delTh_ok hO)).mono ?_
         rintro e w4 ⟨g', rfl, hs', hg', hb4⟩
         have hk4 : w4.cell? ⟨g, 0, none⟩ = some (.int .i64 (k : Int)) := (hb4.cell (p := ⟨g, 0, none⟩) (Nat.lt_of_lt_of_le hB.lt hb13.size)).trans hk3))
  all_goals
    have HS4 := hide hs'
    have hb5 : Below w.heap.size w w4 := HB1.out.trans ((hb13.trans (hb4.mono hb13.size)).mono (by omega))
    have hsz : w.heap.size ≤ g' := by have := hb13.size; omega
    clear hs' hg'
    go_wp2
    go_ret2
    exact ⟨g', rfl, HS4.out, hsz, hb5⟩
set_option maxHeartbeats 2000000 in
set_option maxRecDepth 100000 in
theorem del_bad_n (g k : Nat) (L : Th) (addr : Int) (w : World) (h : SlotsAt_n w g k L) (ha : chk k addr = 3) :
    Calls Try.prog 104 #[.pointer (some ⟨g, 0, none⟩), .int .i64 addr] w fun e w' => e = .returned (.tuple #[.pointer none, .int .i64 3]) ∧ Below w.heap.size w w' := by
  have hbA := (Below.refl w.heap.size w).alloc (Nat.le_refl _) (.cells #[.int .i64 addr] 3)
  have HC := hide (check_n g k L addr _ (h.below hbA))
  have HB := hide hbA
  clear h hbA
  go_enter Try.func104, Try.ntmps104
  go_wp2_with fail
  refine HC.out.mono ?_
  rintro e w0 ⟨rfl, rfl⟩
  go_wp2
  go_ret2
  exact ⟨rfl, HB.out⟩
set_option maxHeartbeats 2000000 in
set_option maxRecDepth 100000 in
theorem del_none_n (g k : Nat) (L : Th) (addr : Int) (w : World) (h : SlotsAt_n w g k L) (ha : chk k addr = 0) (hg : getTh L addr = none) :
    Calls Try.prog 104 #[.pointer (some ⟨g, 0, none⟩), .int .i64 addr] w fun e w' => e = .returned (.tuple #[.pointer none, .int .i64 6]) ∧ Below w.heap.size w w' := by
  have hbA := (Below.refl w.heap.size w).alloc (Nat.le_refl _) (.cells #[.int .i64 addr] 3)
  have HC := hide (check_n g k L addr _ (h.below hbA))
  have HG := hide (get_n g k L addr _ (h.below hbA))
  have HB := hide hbA
  have HX := hide hg
  clear h hbA hg
  go_enter Try.func104, Try.ntmps104
  go_wp2_with fail
  refine HC.out.mono ?_
  rintro e w0 ⟨rfl, rfl⟩
  go_wp2_with fail
  refine HG.out.mono ?_
  rintro e w1 ⟨rfl, hb1⟩
  rw [HX.out]
  have HB1 := hide (HB.out.trans (hb1.mono (by simp)))
  clear hb1
  go_wp2
  go_ret2
  exact ⟨rfl, HB1.out⟩
set_option maxHeartbeats 2000000 in
set_option maxRecDepth 100000 in
theorem del_nil_n (addr : Int) (w : World) :
    Calls Try.prog 104 #[.pointer none, .int .i64 addr] w fun e w' => e = .returned (.tuple #[.pointer none, .int .i64 1]) ∧ Below w.heap.size w w' := by
  have HB := hide ((Below.refl w.heap.size w).alloc (Nat.le_refl _) (.cells #[.int .i64 addr] 3))
  go_enter Try.func104, Try.ntmps104
  go_wp2_with fail
  refine (check_nil_n addr _).mono ?_
  rintro e w0 ⟨rfl, rfl⟩
  go_wp2
  go_ret2
  exact ⟨rfl, HB.out⟩
end
section
open Go.RowKit
theorem info_int_n : (Try.prog.info? 3).map (fun i => (i.zero, i.size, i.bytes)) = some (some (.int .i64 0), 1, 8) := by kernel_rfl
theorem info_x_n : (Try.prog.info? 60).map (fun i => (i.zero, i.size, i.bytes)) = some (some (.pointer none), 1, 8) := by kernel_rfl
set_option maxHeartbeats 1000000 in
set_option maxRecDepth 100000 in
theorem all_n (g k : Nat) (L : Th) (w : World) (h : SlotsAt_n w g k L) :
    Calls Try.prog 98 #[.pointer (some ⟨g, 0, none⟩)] w fun e w' => ∃ v, e = .returned v ∧ w'.ownsRow w.heap.size 60 1 v L.length (L.map fun t => t.2) ∧ Below w.heap.size w w' := by
  have hO := h.ok
  have hXL := h.2.2.2.1
  have hl16 : L.length ≤ 65536 := by have := len_le_of_ok hO; have := pow16 h.2.1; omega
  obtain ⟨A, m, c, hB, hR, hm, hX, -, hLv, -⟩ := h.cells
  have HLv := hide hLv
  have hbT := things_n g _ _ A m c _ w hB hR hX (by omega)
  rw [hLv, mkC_length] at hbT
  have HT := hide hbT
  clear hbT hLv hR hX hB h
  go_enter Try.func98, Try.ntmps98
  go_wp2_with fail
  refine HT.out.mono ?_
  rintro e w1 ⟨v, rfl, ho1, hb1⟩
  obtain ⟨A1, c1, rfl, _, hR1⟩ := Rw.of_own ho1
  clear ho1
  go_wp2
  go_loopw [3, 11] (fun v i wr => ∃ (j : Nat), j ≤ L.length ∧ i = .int .i64 j ∧ wr.ownsRow w1.heap.size 60 1 v j ((L.take j).map fun t => t.2) ∧ Below w1.heap.size w1 wr) (fun _ i _ => L.length - (intOf i).toNat)
  case atStart => exact ⟨0, Nat.zero_le _, rfl, own_nil _ _ _ _, Below.refl _ _⟩
  case round =>
    obtain ⟨j, hj, rfl, hoR, hbR⟩ := hrel
    by_cases hlt : j < L.length
    · obtain ⟨b, o, d, rfl, hbl, hd, k0, k1, k2⟩ := (hR1.below hbR).cl hlt
      obtain ⟨y, hy⟩ := hXL d (List.mem_of_getElem? hd)
      rw [hy] at k1
      rw [mkC_get, List.getElem?_eq_getElem hlt] at hd
      injection hd with hd
      have hda : .pointer y = L[j].2 := by rw [← hy, ← hd]
      have HD := hide hda
      clear hd hda hy
      go_wp2_with (at_builtin
                   refine app_any _ rfl (.tmp 15) (.tmp 18) _ rfl w1.heap.size 60 _ 1 8 Try.underlying82 info_x_n rfl (by omega) _ _ _ rfl ((hoR.alloc _).alloc _) (some ⟨wr.heap.size + 1, 0, none⟩) 1 1 [.pointer y] rfl ?hr ?h1 ?c1 ?c2 ?c3 ?_
                   case hr => exact Rw.of_blk (t := 60) (cs := #[.pointer y]) (by simpa using Blk.new (wr.alloc _) _ _) rfl (fun j u h => by simpa using h)
                   case h1 => intro u hu; rw [List.mem_singleton] at hu; rw [hu]; rfl
                   case c1 => simp only [maxLen]; omega
                   case c2 => omega
                   case c3 => exact (below_alloc (below_alloc hbR (Nat.le_refl _) _) (Nat.le_refl _) _).size
                   intro v' w' ho' hg' _)
      go_roundw
      case rel =>
        refine ⟨j + 1, by omega, by go_num, ?_, ?_⟩
        · rw [List.take_succ_eq_append_getElem hlt, List.map_append, List.map_singleton, ← HD.out]
          exact ho'
        · exact (below_alloc (below_alloc hbR (Nat.le_refl _) _) (Nat.le_refl _) _).grown hg' (below_alloc (below_alloc hbR (Nat.le_refl _) _) (Nat.le_refl _) _).size (own_base hoR)
      case measure => simp [intOf]; omega
    · have hj' : j = L.length := by omega
      rw [hj', List.take_of_length_le (Nat.le_refl _)] at hoR
      have HO := hide hoR
      clear hj' hoR
      go_wp2
      go_ret
      exact ⟨_, rfl, own_lower HO.out hb1.size, below_then hb1 hbR⟩
set_option maxHeartbeats 1000000 in
set_option maxRecDepth 100000 in
theorem get_nil_n (addr : Int) (w : World) :
    Calls Try.prog 89 #[.pointer none, .int .i64 addr] w fun e w' => e = .returned (.tuple #[(.pointer none), .bool false]) ∧ w = w' := by
  go_enter Try.func89, Try.ntmps89
  go_wp2
  go_ret2
  exact ⟨rfl, rfl⟩
set_option maxHeartbeats 1000000 in
set_option maxRecDepth 100000 in
theorem from_nil_n (addr : Int) (w : World) :
    Calls Try.prog 106 #[.pointer none, .int .i64 addr] w fun e w' => e = .returned (.tuple #[.int .i64 0, (.pointer none), .bool false]) ∧ w = w' := by
  go_enter Try.func106, Try.ntmps106
  go_wp2
  go_ret3
  exact ⟨rfl, rfl⟩
set_option maxHeartbeats 1000000 in
set_option maxRecDepth 100000 in
theorem all_nil_n (w : World) :
    Calls Try.prog 98 #[.pointer none] w fun e w' => e = .returned (.slice none 0 0) ∧ w = w' := by
  go_enter Try.func98, Try.ntmps98
  go_wp2
  go_ret
  exact ⟨rfl, rfl⟩
set_option maxHeartbeats 1000000 in
set_option maxRecDepth 100000 in
theorem len_nil_n (w : World) :
    Calls Try.prog 105 #[.pointer none] w fun e w' => e = .returned (.int .i64 0) ∧ w = w' := by
  go_enter Try.func105, Try.ntmps105
  go_wp2
  go_ret
  exact ⟨rfl, rfl⟩
end
end Go.Proofs.Ytfkpanpageeklaa
