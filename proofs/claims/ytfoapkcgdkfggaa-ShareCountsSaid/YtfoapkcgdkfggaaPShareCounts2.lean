/- ShareCounts: contracts and plain laws that the statement leans on (SlN ZA NdA EnA). No condition. -/
import Derived.Test.YtfoapkcgdkfggaaPShareCounts1
import Derived.Test.YtfoapkcgdkfggaaProg
import Derived.StillTailTactics
import Derived.Deep.RegionHeld3
import Derived.Shelf.Strconv.Itoa0
import Derived.Deep.Cut
import Derived.Deep.Strs
set_option linter.unusedSimpArgs false
set_option linter.unusedVariables false
namespace Go.Proofs.Ytfoapkcgdkfggaa
section
open Go.RowKit
def IsX_n (cs : List Cl) : Prop := ∀ c ∈ cs, ∃ y, c.x = .pointer y
set_option maxHeartbeats 1000000 in
set_option maxRecDepth 100000 in
theorem find_n (g : Nat) (v0 v1 : Value) (A : Option Addr) (n c : Nat) (cs : List Cl) (addr : Int) (w : World) (hB : Blk w g 132 #[v0, v1, .slice A n c]) (hR : Rw w 3 A n (clv cs)) (hX : IsX_n cs) (hS : Rising cs) (hn : n ≤ 70000) :
    Calls Try.prog 76 #[.pointer (some ⟨g, 0, none⟩), .int .i64 addr] w fun e w' => ∃ at_ ok, e = .returned (.tuple #[.int .i64 (at_ : Nat), .bool ok]) ∧ Found cs addr at_ ok ∧ Below w.heap.size w w' := by
  have h2 : w.cell? ⟨g, 2, none⟩ = some (.slice A n c) := hB.cell 2
  go_enter Try.func76, Try.ntmps76
  go_wp2
  refine wp_scope_goto 0 (fun a' w' => ∃ (lo hi : Nat) (u2 u3 u4 u5 u8 u9 u10 u11 u12 u13 u14 u15 u16 u17 u18 u19 u20 u21 u22 u23 u24 u25 u26 u27 u28 u29 u30 u31 u32 u33 u34 u35 u36 u37 u38 u39 u40 u41 u42 u43 u44 u45 u46 u47 : Value), a' = { tmps := #[.pointer (some ⟨g, 0, none⟩), .int .i64 addr, u2, u3, u4, u5, .int .i64 (lo : Nat), .int .i64 (hi : Nat), u8, u9, u10, u11, u12, u13, u14, u15, u16, u17, u18, u19, u20, u21, u22, u23, u24, u25, u26, u27, u28, u29, u30, u31, u32, u33, u34, u35, u36, u37, u38, u39, u40, u41, u42, u43, u44, u45, u46, u47], defers := [] } ∧ lo ≤ hi ∧ hi ≤ n ∧ (∀ (i : Nat) (c : Cl), cs[i]? = some c → i < lo → (c.a : Int) < addr) ∧ (∀ (i : Nat) (c : Cl), cs[i]? = some c → hi ≤ i → addr < (c.a : Int)) ∧ Below w.heap.size w w') (fun a' _ => (intOf (a'.tmps.getD 7 undef) - intOf (a'.tmps.getD 6 undef)).toNat) rfl rfl ?_ ?_
  · go_wp2
    go_quiet (fail)
    exact ⟨0, n, _, _, _, _, _, _, _, _, _, _, _, _, _, _, _, _, _, _, _, _, _, _, _, _, _, _, _, _, _, _, _, _, _, _, _, _, _, _, _, _, _, _, _, _, rfl, Nat.zero_le _, Nat.le_refl _, fun _ _ _ h => absurd h (by omega), fun i c h hle => absurd (List.getElem?_eq_some_iff.1 h).1 (by have := hR.1; rw [clv_length] at this; omega), below_drewN (Below.refl _ _) _⟩
  · rintro a' wr ⟨lo, hi, u2, u3, u4, u5, u8, u9, u10, u11, u12, u13, u14, u15, u16, u17, u18, u19, u20, u21, u22, u23, u24, u25, u26, u27, u28, u29, u30, u31, u32, u33, u34, u35, u36, u37, u38, u39, u40, u41, u42, u43, u44, u45, u46, u47, rfl, hlo, hhi, hl, hh, hb⟩
    have hlen := hR.1
    rw [clv_length] at hlen
    have hB1 := hB.below hb
    have hR1 := hR.below hb
    by_cases hlt : lo < hi
    · obtain ⟨b, o, d, rfl, hbl, hd, k0, k1, k2⟩ := hR1.cl (i := (lo + hi) / 2) (by omega)
      have H2 := hB1.cell 2
      simp at H2
      obtain ⟨y, hy⟩ := hX d (List.mem_of_getElem? hd)
      rw [hy] at k1
      have HD := hide hd
      have HL := hide hlen
      have Hl := hide hl
      have Hh := hide hh
      clear hd hlen hl hh h2 hy
      have hb1 : Below w.heap.size w (wr.alloc (.cells #[.int .i64 (d.a : Int), .pointer y, .bool d.h] 130)) := below_alloc hb (Nat.le_refl _) _
      have HB := hide hb1
      clear hb1
      rcases Int.lt_trichotomy (d.a : Int) addr with hc | hc | hc
      · have e1 : ((d.a : Int) == addr) = false := by simp; omega
        go_wp2
        go_step3
        refine ⟨rfl, ⟨(lo + hi) / 2 + 1, hi, _, _, _, _, _, _, _, _, _, _, _, _, _, _, _, _, _, _, _, _, _, _, _, _, _, _, _, _, _, _, _, _, _, _, _, _, _, _, _, _, _, _, _, _, rfl, by omega, hhi, below_step hS HD.out hc, Hh.out, HB.out⟩, ?_⟩
        simp [intOf]
        omega
      · have e1 : ((d.a : Int) == addr) = true := by simp; omega
        have hF := hide (found_eq hS HD.out hc)
        have HC := hide hc
        clear hc
        go_wp2
        go_quiet (fail)
        go_wp2
        simp only [Exit.jump]
        go_ret2
        exact ⟨(lo + hi) / 2, d.h, rfl, hF.out, below_drewN HB.out _⟩
      · have e1 : ((d.a : Int) == addr) = false := by simp; omega
        go_wp2
        go_step3
        refine ⟨rfl, ⟨lo, (lo + hi) / 2, _, _, _, _, _, _, _, _, _, _, _, _, _, _, _, _, _, _, _, _, _, _, _, _, _, _, _, _, _, _, _, _, _, _, _, _, _, _, _, _, _, _, _, _, rfl, by omega, by omega, Hl.out, above_step hS HD.out hc, HB.out⟩, ?_⟩
        simp [intOf]
        omega
    · have he : lo = hi := by omega
      have hF := hide (found_end (by omega) hl (fun i c hi' hle => hh i c hi' (by omega)))
      clear hl hh he hlen
      have h3 : decide (hi ≤ lo) = true := by simp; omega
      go_wp2
      simp only [Exit.jump]
      go_ret2
      exact ⟨lo, false, rfl, hF.out, hb⟩
end
section
open Go.RowKit
theorem info_cell_n : (Try.prog.info? 130).map (fun i => (i.zero, i.size, i.bytes)) = some (some (.agg #[.int .i64 0, (.pointer none), .bool false]), 3, 24) := by kernel_rfl
theorem isx_one_n {cs : List Cl} (h : IsX_n cs) : ∀ c ∈ cs, c.x.oneCell' = true := by
  intro c hc
  obtain ⟨y, hy⟩ := h c hc
  rw [hy]
  rfl
set_option maxHeartbeats 1000000 in
set_option maxRecDepth 100000 in
theorem things_n (g : Nat) (v0 v1 : Value) (A : Option Addr) (n c : Nat) (cs : List Cl) (w : World) (hB : Blk w g 132 #[v0, v1, .slice A n c]) (hR : Rw w 3 A n (clv cs)) (hX : IsX_n cs) (hn : n ≤ 70000) :
    Calls Try.prog 74 #[.pointer (some ⟨g, 0, none⟩)] w fun e w' => ∃ v, e = .returned v ∧ w'.ownsRow w.heap.size 130 3 v (live cs).length (clv (live cs)) ∧ Below w.heap.size w w' := by
  have h2 : w.cell? ⟨g, 2, none⟩ = some (.slice A n c) := hB.cell 2
  have hlen := hR.1
  rw [clv_length] at hlen
  have HL := hide hlen
  clear hlen
  go_enter Try.func74, Try.ntmps74
  go_wp2
  clear h2
  go_loopw [3, 11] (fun v i wr => ∃ (k : Nat), k ≤ n ∧ i = .int .i64 k ∧ wr.ownsRow w.heap.size 130 3 v (live (cs.take k)).length (clv (live (cs.take k))) ∧ Below w.heap.size w wr) (fun _ i _ => n - (intOf i).toNat)
  case atStart => exact ⟨0, by omega, rfl, own_nil _ _ _ _, Below.refl _ _⟩
  case round =>
    obtain ⟨k, hk, rfl, ho, hb⟩ := hrel
    by_cases hlt : k < n
    · obtain ⟨b, o, d, rfl, hbl, hd, k0, k1, k2⟩ := (hR.below hb).cl hlt
      obtain ⟨y, hy⟩ := hX d (List.mem_of_getElem? hd)
      have h1 := vals_one d (isx_one_n hX d (List.mem_of_getElem? hd))
      have hT := live_take cs k d hd
      have hle : (live (cs.take k)).length ≤ n := by have := live_len cs k; have := HL.out; omega
      cases hh : d.h with
      | false =>
        rw [hh] at k2 hT
        rw [hy] at k1
        have HT := hide hT
        clear hT hd hy hh
        go_wp2
        go_roundw
        case rel => exact ⟨k + 1, by omega, by go_num, by rw [HT.out]; simpa using ho.alloc _, below_alloc hb (Nat.le_refl _) _⟩
        case measure => simp [intOf]; omega
      | true =>
        rw [hh] at k2 hT
        rw [hy] at k1
        have hv : d.vals = [.int .i64 (d.a : Int), .pointer y, .bool true] := by simp [Cl.vals, hh, hy]
        rw [hv] at h1
        have HT := hide hT
        have HV := hide hv
        clear hT hd hy hh hv
        go_wp2_with (at_builtin
                     refine app_any _ rfl (.tmp 17) (.tmp 19) _ rfl w.heap.size 130 _ 3 24 Try.underlying127 info_cell_n rfl (by omega) _ _ _ rfl ((ho.alloc _).alloc _) (some ⟨wr.heap.size + 1, 0, none⟩) 1 1 [.int .i64 (d.a : Int), .pointer y, .bool true] rfl ?hr h1 ?c1 ?c2 ?c3 ?_
                     case hr => exact Rw.of_blk (t := 130) (cs := #[.int .i64 (d.a : Int), .pointer y, .bool true]) (by simpa using Blk.new (wr.alloc _) _ _) rfl (fun j u h => by simpa using h)
                     case c1 => simp only [maxLen]; omega
                     case c2 => omega
                     case c3 => exact (below_alloc (below_alloc hb (Nat.le_refl _) _) (Nat.le_refl _) _).size
                     intro v' w' ho' hg' _)
        go_roundw
        case rel =>
          refine ⟨k + 1, by omega, by go_num, ?_, ?_⟩
          · rw [HT.out]
            simpa [clv_append, clv_cons, clv_nil, HV.out] using ho'
          · exact (below_alloc (below_alloc hb (Nat.le_refl _) _) (Nat.le_refl _) _).grown hg' (below_alloc (below_alloc hb (Nat.le_refl _) _) (Nat.le_refl _) _).size (own_base ho)
        case measure => simp [intOf]; omega
    · go_wp2
      go_ret
      rw [List.take_of_length_le (by have := HL.out; omega)] at ho
      exact ⟨_, rfl, ho, hb⟩
end
section
open Go.RowKit
def SlotsAt_n (w : World) (g k : Nat) (L : Th) : Prop :=
  1 ≤ k ∧ k ≤ 16 ∧ OkTh k L ∧ IsX_n (mkC L) ∧ ∃ A m c, Blk w g 132 #[.int .i64 (k : Nat), .int .i64 (L.length : Nat), .slice A m c] ∧ Rw w 3 A m (clv (cellsOf (.pointer none) k L)) ∧ m ≤ 65536
theorem SlotsAt_n.below {w w' : World} {g k : Nat} {L : Th} (h : SlotsAt_n w g k L) (hb : Below w.heap.size w w') : SlotsAt_n w' g k L := by
  obtain ⟨h1, h2, h3, h4, A, m, c, h5, h6, h7⟩ := h
  exact ⟨h1, h2, h3, h4, A, m, c, h5.below hb, h6.below hb, h7⟩
theorem isx_cells_n {k : Nat} {L : Th} (h : IsX_n (mkC L)) : IsX_n (cellsOf (.pointer none) k L) := by
  unfold cellsOf
  split
  · intro c hc
    obtain ⟨i, _, rfl⟩ := List.mem_map.1 hc
    unfold cellAt
    split
    · rename_i t ht
      exact h ⟨t.1, t.2, true⟩ (List.mem_map.2 ⟨t, List.mem_of_find?_eq_some ht, rfl⟩)
    · exact ⟨_, rfl⟩
  · exact h
set_option maxHeartbeats 1000000 in
set_option maxRecDepth 100000 in
theorem kept_n (k : Nat) (A : Option Addr) (n c : Nat) (L : Th) (w : World) (hk : 1 ≤ k) (hk2 : k ≤ 16) (hR : Rw w 3 A n (clv (mkC L))) (hX : IsX_n (mkC L)) (hO : OkTh k L) :
    Calls Try.prog 85 #[.int .i64 k, .slice A n c] w fun e w' => ∃ g, e = .returned (.pointer (some ⟨g, 0, none⟩)) ∧ SlotsAt_n w' g k L ∧ w.heap.size ≤ g ∧ Below w.heap.size w w' := by
  have HL : Hid (L.length = n) := by have := hR.1; rw [clv_length, mkC_length] at this; exact hide (by omega)
  have hn : n ≤ 65536 := by have := len_le_of_ok hO; have := pow16 hk2; have := HL.out; omega
  by_cases hden : denseB k n = true
  · obtain ⟨m, hm⟩ : ∃ m, 2 ^ k = m := ⟨_, rfl⟩
    have hw := wrap_pow hk2
    rw [hm] at hw
    have hm2 : m ≤ 65536 := by have := pow16 hk2; omega
    have HM := hide hm
    clear hm
    have hmk := fun W => run_make_info (P := Try.prog) 127 130 (.agg #[.int .i64 0, (.pointer none), .bool false]) 3 24 Try.underlying127 info_cell_n m (by omega) (by omega) W
    go_enter Try.func85, Try.ntmps85
    go_wp2_with (go_at_call 75; refine (dense_any _ _ _ hk2 (by omega)).mono ?_; rintro e w' ⟨rfl, rfl⟩)
    obtain ⟨g0, hg0⟩ : ∃ g0, g0 = w.heap.size := ⟨_, rfl⟩
    have hown := made_own (w.alloc (.cells #[.int .i64 k, .int .i64 n, .slice (some ⟨w.heap.size + 1, 0, none⟩) m m] 132)) 130 (.pointer none) m hm2
    have hblk : Blk ((w.alloc (.cells #[.int .i64 k, .int .i64 n, .slice (some ⟨w.heap.size + 1, 0, none⟩) m m] 132)).alloc (.cells (madeCells #[.int .i64 0, (.pointer none), .bool false] (m * 3)) 130)) w.heap.size 132 #[.int .i64 k, .int .i64 n, .slice (some ⟨w.heap.size + 1, 0, none⟩) m m] := (Blk.new _ _ _).alloc _
    have hb0 : Below w.heap.size w ((w.alloc (.cells #[.int .i64 k, .int .i64 n, .slice (some ⟨w.heap.size + 1, 0, none⟩) m m] 132)).alloc (.cells (madeCells #[.int .i64 0, (.pointer none), .bool false] (m * 3)) 130)) := below_alloc (below_alloc (Below.refl _ _) (Nat.le_refl _) _) (Nat.le_refl _) _
    simp only [World.size_alloc] at hown
    go_loopw [32] (fun i wr => ∃ (j : Nat), j ≤ m ∧ i = .int .i64 j ∧ Blk wr w.heap.size 132 #[.int .i64 k, .int .i64 n, .slice (some ⟨w.heap.size + 1, 0, none⟩) m m] ∧ wr.ownsRow (w.heap.size + 1) 130 3 (.slice (some ⟨w.heap.size + 1, 0, none⟩) m m) m (clv (laidTo (.pointer none) m j)) ∧ Below w.heap.size w wr) (fun i _ => m - (intOf i).toNat)
    case atStart => exact ⟨0, by omega, rfl, hblk, hown, hb0⟩
    case round =>
      obtain ⟨j, hj, rfl, hB, ho, hb⟩ := hrel
      clear hown hblk hb0 hg0
      by_cases hlt : j < m
      · have H2 := hB.cell 2
        simp at H2
        obtain ⟨d, hd, k0, k1, k2, f0, f1, f2⟩ := own_cells ho hlt
        have HS := hide (ho.stored (j * 3) (.int .i64 (j : Int)))
        have HB := hide hB
        clear hd k1 k2 f1 f2 hB
        go_wp2
        go_roundw
        case rel =>
          refine ⟨j + 1, by omega, by go_num, ?_, ?_, hb.setCell (by simp) _⟩
          · have := HB.out.set_ (w.heap.size + 1) (j * 3) (.int .i64 (j : Int)) (by omega)
            exact this
          · rw [← laid_store _ _ _ hlt]
            exact HS.out.1
        case measure => simp [intOf]; omega
      · have hjm : j = m := by omega
        subst hjm
        rw [laidTo_all] at ho
        clear hmk hw
        go_wp2
        go_loopw [46] (fun i wr => ∃ (q : Nat), q ≤ n ∧ i = .int .i64 q ∧ Blk wr w.heap.size 132 #[.int .i64 k, .int .i64 n, .slice (some ⟨w.heap.size + 1, 0, none⟩) j j] ∧ wr.ownsRow (w.heap.size + 1) 130 3 (.slice (some ⟨w.heap.size + 1, 0, none⟩) j j) j (clv ((List.range j).map (cellAt (.pointer none) (L.take q)))) ∧ Below w.heap.size w wr) (fun i _ => n - (intOf i).toNat)
        case atStart => exact ⟨0, by omega, rfl, hB, by simpa using ho, hb⟩
        case round =>
          obtain ⟨q, hq, rfl, hB, ho, hb⟩ := hrel
          by_cases hlt : q < n
          · obtain ⟨b, o, d, rfl, hbl, hd, k0, k1, k2⟩ := (hR.below hb).cl hlt
            obtain ⟨y, hy⟩ := hX d (List.mem_of_getElem? hd)
            have hd' := hd
            rw [mkC_get] at hd'
            obtain ⟨t, ht, rfl⟩ := Option.map_eq_some_iff.1 hd'
            have hta := hO.2 t (List.mem_of_getElem? ht)
            rw [HM.out] at hta
            simp only at k0 k1 k2 hy
            rw [hy] at k1
            have HT := hide ht
            have HY := hide hy
            have HB := hide hB
            have z1 : w.heap.size < wr.heap.size := hB.lt
            clear hd hd' ht hy hB
            go_wp2
            have hoW := ho.alloc (.cells #[.int .i64 (t.1 : Int), .pointer y, .bool true] 130)
            have hBW := HB.out.alloc (.cells #[.int .i64 (t.1 : Int), .pointer y, .bool true] 130)
            have hbW := below_alloc hb (Nat.le_refl _) (.cells #[.int .i64 (t.1 : Int), .pointer y, .bool true] 130)
            have hN := Blk.new wr 130 #[.int .i64 (t.1 : Int), .pointer y, .bool true]
            generalize wr.alloc (.cells #[.int .i64 (t.1 : Int), .pointer y, .bool true] 130) = W at *
            obtain ⟨d', hdd, l0, l1, l2, f0, f1, f2⟩ := own_cells hoW hta
            have H2 := hBW.cell 2
            simp at H2
            have N0 := hN.cell 0
            have N1 := hN.cell 1
            have N2 := hN.cell 2
            simp at N0 N1 N2
            clear hdd hN
            have HO := hide hoW
            have HB2 := hide hBW
            clear hoW hBW
            go_still_tail 8, (by kernel_rfl)
            change wpList _ _ _ _ _ (World.drew _)
            go_wp2
            go_roundw
            case rel =>
              refine ⟨q + 1, by omega, by go_num, ?_, ?_, ?_⟩
              · exact (((show Blk W.drew _ _ _ from HB2.out).set_ _ _ _ (by omega)).set_ _ _ _ (by omega)).set_ _ _ _ (by omega)
              · rw [← dense_step _ _ L q t hO.1 HT.out hta, HY.out]
                exact own_store3 HO.out.drew ⟨t.1, .pointer y, true⟩ hta
              · exact ((hbW.drew.setCell (by simp) _).setCell (by simp) _).setCell (by simp) _
            case measure => simp [intOf]; omega
          · rw [List.take_of_length_le (by have := HL.out; omega)] at ho
            go_wp2
            go_ret
            obtain ⟨A', c', hv, _, hr⟩ := Rw.of_own ho
            injection hv with hA hnn hc
            subst hA hc
            refine ⟨_, rfl, ⟨hk, hk2, hO, hX, some ⟨w.heap.size + 1, 0, none⟩, j, j, ?_, ?_, hm2⟩, Nat.le_refl _, hb⟩
            · rw [HL.out]; exact hB
            · unfold cellsOf
              rw [HL.out, hden, if_pos rfl, HM.out]
              exact hr
  · have hden : denseB k n = false := by simpa using hden
    go_enter Try.func85, Try.ntmps85
    go_wp2_with (go_at_call 75; refine (dense_any _ _ _ hk2 (by omega)).mono ?_; rintro e w' ⟨rfl, rfl⟩)
    go_ret
    refine ⟨_, rfl, ⟨hk, hk2, hO, hX, A, n, c, ?_, ?_, hn⟩, Nat.le_refl _, below_alloc (Below.refl _ _) (Nat.le_refl _) _⟩
    · rw [HL.out]; exact Blk.new _ _ _
    · unfold cellsOf
      rw [HL.out, hden]
      exact hR.below (below_alloc (Below.refl _ _) (Nat.le_refl _) _)
end
section
open Go.RowKit
theorem SlotsAt_n.cells {w : World} {g k : Nat} {L : Th} (h : SlotsAt_n w g k L) : ∃ A m c, Blk w g 132 #[.int .i64 (k : Nat), .int .i64 (L.length : Nat), .slice A m c] ∧ Rw w 3 A m (clv (cellsOf (.pointer none) k L)) ∧ m ≤ 65536 ∧ IsX_n (cellsOf (.pointer none) k L) ∧ Rising (cellsOf (.pointer none) k L) ∧ live (cellsOf (.pointer none) k L) = mkC L ∧ (cellsOf (.pointer none) k L).length = m := by
  obtain ⟨h1, h2, h3, h4, A, m, c, h5, h6, h7⟩ := h
  exact ⟨A, m, c, h5, h6, h7, isx_cells_n h4, cellsOf_rising h3, live_cellsOf _ h3, by have := h6.1; rw [clv_length] at this; omega⟩
theorem SlotsAt_n.ok {w : World} {g k : Nat} {L : Th} (h : SlotsAt_n w g k L) : OkTh k L := h.2.2.1
set_option maxHeartbeats 1000000 in
set_option maxRecDepth 100000 in
theorem new_n (k : Int) (w : World) (h1 : 1 ≤ k) (h2 : k ≤ 16) :
    Calls Try.prog 62 #[.int .i64 k] w fun e w' => e = .returned (.tuple #[.pointer (some ⟨w.heap.size, 0, none⟩), .int .i64 0]) ∧ SlotsAt_n w' w.heap.size k.toNat [] ∧ Below w.heap.size w w' := by
  obtain ⟨n, rfl⟩ := Int.eq_ofNat_of_zero_le (show 0 ≤ k by omega)
  go_enter Try.func62, Try.ntmps62
  go_wp2
  go_ret2
  refine ⟨rfl, ⟨by omega, by omega, ⟨List.Pairwise.nil, by simp⟩, by simp [IsX_n, mkC], none, 0, 0, Blk.new _ _ _, ?_, by omega⟩, below_alloc (Below.refl _ _) (Nat.le_refl _) _⟩
  have : cellsOf (.pointer none) (n : Int).toNat [] = [] := by simp [cellsOf, denseB, mkC]
  rw [this]
  exact Rw.nil _ _ _
set_option maxHeartbeats 1000000 in
set_option maxRecDepth 100000 in
theorem len_n (g k : Nat) (L : Th) (w : World) (h : SlotsAt_n w g k L) :
    Calls Try.prog 71 #[.pointer (some ⟨g, 0, none⟩)] w fun e w' => e = .returned (.int .i64 (L.length : Nat)) ∧ w = w' := by
  obtain ⟨A, m, c, hB, -⟩ := h.cells
  have H1 := hB.cell 1
  simp at H1
  clear hB h
  generalize L.length = n at *
  go_enter Try.func71, Try.ntmps71
  go_wp2
  go_ret
  exact ⟨rfl, rfl⟩
set_option maxHeartbeats 1000000 in
set_option maxRecDepth 100000 in
theorem denseM_n (g k : Nat) (L : Th) (w : World) (h : SlotsAt_n w g k L) :
    Calls Try.prog 52 #[.pointer (some ⟨g, 0, none⟩)] w fun e w' => e = .returned (.bool (denseB k L.length)) ∧ Below w.heap.size w w' := by
  have hk := h.2.1
  have hl : L.length ≤ 65536 := by have := len_le_of_ok h.ok; have := pow16 hk; omega
  obtain ⟨A, m, c, hB, -⟩ := h.cells
  have H1 := hB.cell 1
  have H0 := hB.cell 0
  simp at H0 H1
  clear hB h
  generalize L.length = n at *
  go_enter Try.func52, Try.ntmps52
  go_wp2_with fail
  go_quiet ((go_at_call 75; exact Calls.quiet_of_same (still_of (dense_any _ _ _ hk (by omega)))))
  go_wp2
  go_ret
  exact ⟨rfl, below_drewN (Below.refl _ _) _⟩
set_option maxHeartbeats 1000000 in
set_option maxRecDepth 100000 in
theorem check_n (g k : Nat) (L : Th) (addr : Int) (w : World) (h : SlotsAt_n w g k L) :
    Calls Try.prog 81 #[.pointer (some ⟨g, 0, none⟩), .int .i64 addr] w fun e w' => e = .returned (.int .i64 (chk k addr)) ∧ w = w' := by
  have hk := h.2.1
  have hw := wrap_pow hk
  obtain ⟨A, m, c, hB, -⟩ := h.cells
  have H0 := hB.cell 0
  simp at H0
  clear hB h
  have hm16 := pow16 hk
  obtain ⟨p, hp⟩ : ∃ p, 2 ^ k = p := ⟨_, rfl⟩
  rw [hp] at hw hm16
  have hc : chk k addr = if 0 ≤ addr ∧ addr < (p : Int) then 0 else 3 := by unfold chk; rw [hp]
  have HC := hide hc
  clear hc hp
  by_cases h0 : 0 ≤ addr
  · by_cases h3 : addr < (p : Int)
    · go_enter Try.func81, Try.ntmps81
      go_wp2
      go_ret
      exact ⟨retI (by rw [HC.out, if_pos ⟨h0, h3⟩]), rfl⟩
    · go_enter Try.func81, Try.ntmps81
      go_wp2
      go_ret
      exact ⟨retI (by rw [HC.out, if_neg (by omega)]), rfl⟩
  · clear hw
    go_enter Try.func81, Try.ntmps81
    go_wp2
    go_ret
    exact ⟨retI (by rw [HC.out, if_neg (by omega)]), rfl⟩
set_option maxHeartbeats 1000000 in
set_option maxRecDepth 100000 in
theorem get_n (g k : Nat) (L : Th) (addr : Int) (w : World) (h : SlotsAt_n w g k L) :
    Calls Try.prog 54 #[.pointer (some ⟨g, 0, none⟩), .int .i64 addr] w fun e w' => e = .returned (.tuple #[(getTh L addr).getD (.pointer none), .bool (getTh L addr).isSome]) ∧ Below w.heap.size w w' := by
  have hO := h.ok
  obtain ⟨A, m, c, hB, hR, hm, hX, hS, hLv, -⟩ := h.cells
  have H2 := hB.cell 2
  simp at H2
  have hf := find_n g _ _ A m c _ addr w hB hR hX hS (by omega)
  generalize cellsOf (.pointer none) k L = cs at *
  have HF := hide hf
  clear hf h
  go_enter Try.func54, Try.ntmps54
  go_wp2_with fail
  refine HF.out.mono ?_
  rintro e w1 ⟨at_, ok, rfl, hFd, hb⟩
  cases ok with
  | false =>
    have hn := hide (found_none hFd hS hLv)
    clear hFd
    go_wp2
    go_ret2
    rw [hn.out]
    exact ⟨rfl, hb⟩
  | true =>
    obtain ⟨d, hd, hh, ha, hg⟩ := found_some hFd hO hLv
    have hlt : at_ < m := by have := (List.getElem?_eq_some_iff.1 hd).1; have := hR.1; rw [clv_length] at this; omega
    obtain ⟨b, o, d', rfl, hbl, hd', k0, k1, k2⟩ := (hR.below hb).cl hlt
    rw [hd] at hd'
    injection hd' with hd'
    subst hd'
    have H2' := (hB.below hb).cell 2
    simp at H2'
    have HG := hide hg
    clear hFd hd ha hg hh H2
    go_wp2
    go_ret2
    rw [HG.out]
    exact ⟨rfl, hb⟩
set_option maxHeartbeats 1000000 in
set_option maxRecDepth 100000 in
theorem from_n (g k : Nat) (L : Th) (addr : Int) (w : World) (h : SlotsAt_n w g k L) :
    Calls Try.prog 68 #[.pointer (some ⟨g, 0, none⟩), .int .i64 addr] w fun e w' => (∃ (a : Nat) (x : Value) (ok : Bool), e = .returned (.tuple #[.int .i64 a, x, .bool ok]) ∧ (ok = true → fromTh L addr = some (a, x)) ∧ (ok = false → fromTh L addr = none ∧ a = 0 ∧ x = (.pointer none))) ∧ Below w.heap.size w w' := by
  have hO := h.ok
  obtain ⟨A, m, c, hB, hR, hm, hX, hS, hLv, hlm⟩ := h.cells
  have hf := find_n g _ _ A m c _ addr w hB hR hX hS (by omega)
  generalize cellsOf (.pointer none) k L = cs at *
  have HF := hide hf
  have HM := hide hlm
  clear hf h hlm
  go_enter Try.func68, Try.ntmps68
  go_wp2_with fail
  refine HF.out.mono ?_
  rintro e w1 ⟨at_, ok, rfl, hFd, hb⟩
  have h0 : at_ ≤ m := by have := hFd.1; have := HM.out; omega
  go_wp2
  have hb1 := hb
  go_loopw [8] (fun i wr => ∃ (j : Nat), at_ ≤ j ∧ j ≤ m ∧ i = .int .i64 j ∧ (∀ (i : Nat) (d : Cl), cs[i]? = some d → at_ ≤ i → i < j → d.h = false) ∧ Below w.heap.size w wr) (fun i _ => m - (intOf i).toNat)
  case atStart => exact ⟨at_, Nat.le_refl _, h0, rfl, fun _ _ _ h1 h2 => absurd h2 (by omega), hb⟩
  case round =>
    obtain ⟨j, hj0, hj, rfl, hjl, hbr⟩ := hrel
    have HJ := hide hjl
    clear hb hb1 hjl
    have hB1 := hB.below hbr
    have H2 := hB1.cell 2
    simp at H2
    by_cases hlt : j < m
    · obtain ⟨b, o, d, rfl, hbl, hd, k0, k1, k2⟩ := (hR.below hbr).cl hlt
      obtain ⟨y, hy⟩ := hX d (List.mem_of_getElem? hd)
      cases hh : d.h with
      | false =>
        rw [hh] at k2
        rw [hy] at k1
        have HD := hide hd
        have HH := hide hh
        have HY := hide hy
        clear hB1 hd hh hy
        go_wp2
        go_roundw
        case rel =>
          refine ⟨j + 1, by omega, by omega, by go_num, fun i d' hi h1 h2 => ?_, below_alloc hbr (Nat.le_refl _) _⟩
          rcases Nat.lt_or_ge i j with h3 | h3
          · exact HJ.out i d' hi h1 h3
          · have : i = j := by omega
            subst this
            rw [HD.out] at hi
            injection hi with hi
            subst hi
            exact HH.out
        case measure => simp [intOf]; omega
      | true =>
        have hres := from_at hLv hd hh (fun i d' hi hl hh' => by
          rcases Nat.lt_or_ge i at_ with h3 | h3
          · exact hFd.2.1 i d' hi h3
          · have := HJ.out i d' hi h3 hl
            rw [this] at hh'
            cases hh') (hFd.2.2.1 j d hd hj0)
        rw [hh] at k2
        rw [hy] at k1 hres
        have HR := hide hres
        clear hB1 hd hh hy hres
        go_wp2
        go_quiet (fail)
        go_wp2
        go_ret3
        exact ⟨⟨d.a, _, true, rfl, fun _ => HR.out, fun h => by cases h⟩, below_drewN (below_alloc hbr (Nat.le_refl _) _) _⟩
    · have hn := hide (from_none (addr := addr) hLv (fun i d' hi hh' => by
          rcases Nat.lt_or_ge i at_ with h3 | h3
          · exact hFd.2.1 i d' hi h3
          · have h4 := (List.getElem?_eq_some_iff.1 hi).1
            have := HJ.out i d' hi h3 (by have := HM.out; omega)
            rw [this] at hh'
            cases hh'))
      go_wp2
      go_ret3
      exact ⟨⟨0, _, false, rfl, (fun h => by cases h), fun _ => ⟨hn.out, rfl, rfl⟩⟩, hbr⟩
end
section
open Go.RowKit
set_option maxHeartbeats 1000000 in
set_option maxRecDepth 100000 in
theorem put1_n (a : Nat) (y) (b : Bool) (addr : Nat) (w : World) (h1 : a ≤ 70000) (h2 : addr ≤ 70000) :
    Calls Try.prog 83 #[.agg #[.int .i64 (a : Int), .pointer y, .bool b], .int .i64 (addr : Int)] w fun e w' => e = .returned (.int .i64 ((a : Int) - addr)) ∧ Below w.heap.size w w' := by
  go_enter Try.func83, Try.ntmps83
  go_wp2
  go_ret
  exact ⟨rfl, below_alloc (Below.refl _ _) (Nat.le_refl _) _⟩
set_option maxHeartbeats 1000000 in
set_option maxRecDepth 100000 in
theorem bsearch_n (A : Option Addr) (n c : Nat) (L : Th) (k : Nat) (addr : Nat) (w : World) (hR : Rw w 3 A n (clv (mkC L))) (hX : IsX_n (mkC L)) (hO : OkTh k L) (hk : k ≤ 16) (hn : n ≤ 65536) (ha : addr ≤ 65536) :
    Calls Try.prog 82 #[.slice A n c, .int .i64 (addr : Int), .func (.func 83) #[] #[]] w fun e w' => ∃ at_ ok, e = .returned (.tuple #[.int .i64 (at_ : Nat), .bool ok]) ∧ Found (mkC L) addr at_ ok ∧ Below w.heap.size w w' := by
  have hlen : L.length = n := by have := hR.1; rw [clv_length, mkC_length] at this; omega
  have HL := hide hlen
  clear hlen
  have hS := mkC_rising hO
  go_enter Try.func82, Try.ntmps82
  go_wp2
  go_loopw [9, 10] (fun x y wr => ∃ (lo hi : Nat), x = .int .i64 lo ∧ y = .int .i64 hi ∧ lo ≤ hi ∧ hi ≤ n ∧ (∀ (i : Nat) (c : Cl), (mkC L)[i]? = some c → i < lo → (c.a : Int) < addr) ∧ (∀ (i : Nat) (c : Cl), (mkC L)[i]? = some c → hi ≤ i → (addr : Int) ≤ (c.a : Int)) ∧ Below w.heap.size w wr) (fun x y _ => (intOf y - intOf x).toNat)
  case atStart => exact ⟨0, n, rfl, rfl, Nat.zero_le _, Nat.le_refl _, fun _ _ _ h => absurd h (by omega), fun i c h hle => absurd (List.getElem?_eq_some_iff.1 h).1 (by rw [mkC_length]; have := HL.out; omega), Below.refl _ _⟩
  case round =>
    obtain ⟨lo, hi, rfl, rfl, hlo, hhi, hl, hh, hb⟩ := hrel
    have Hl := hide hl
    have Hh := hide hh
    clear hl hh
    by_cases hlt : lo < hi
    · obtain ⟨b, o, d, rfl, hbl, hd, k0, k1, k2⟩ := (hR.below hb).cl (i := (lo + hi) / 2) (by omega)
      obtain ⟨y, hy⟩ := hX d (List.mem_of_getElem? hd)
      rw [hy] at k1
      have hd' := hd
      rw [mkC_get] at hd'
      obtain ⟨t, ht, he⟩ := Option.map_eq_some_iff.1 hd'
      have hda : d.a ≤ 65536 := by
        have h1 := hO.2 t (List.mem_of_getElem? ht)
        have h2 := pow16 hk
        rw [← he]
        show t.1 ≤ 65536
        omega
      have HD := hide hd
      clear hd hy hd' ht he
      rcases (show (d.a : Int) < (addr : Int) ∨ (addr : Int) ≤ (d.a : Int) by omega) with hc | hc
      · go_wp2_with fail
        refine (put1_n d.a y d.h addr _ (by omega) (by omega)).mono ?_
        rintro e w1 ⟨rfl, hb1⟩
        have hb2 := below_then hb hb1
        clear hb1
        go_wp2
        go_roundw
        case rel => exact ⟨(lo + hi) / 2 + 1, hi, by go_num, rfl, by omega, hhi, below_step hS HD.out hc, Hh.out, hb2⟩
        case measure => simp [intOf]; omega
      · go_wp2_with fail
        refine (put1_n d.a y d.h addr _ (by omega) (by omega)).mono ?_
        rintro e w1 ⟨rfl, hb1⟩
        have hb2 := below_then hb hb1
        clear hb1
        go_wp2
        go_roundw
        case rel =>
          refine ⟨lo, (lo + hi) / 2, rfl, by go_num, by omega, by omega, Hl.out, fun i c hi' hle => ?_, hb2⟩
          rcases Nat.lt_or_ge ((lo + hi) / 2) i with h3 | h3
          · have := hS _ i d c HD.out hi' h3; omega
          · have : i = (lo + hi) / 2 := by omega
            subst this
            have hD := HD.out
            rw [hD] at hi'
            injection hi' with hi'
            subst hi'
            exact hc
        case measure => simp [intOf]; omega
    · have he : lo = hi := by omega
      have hF : ∀ ok, ok = (match (mkC L)[lo]? with | some c => decide ((c.a : Int) = addr) && c.h | none => false) → Found (mkC L) addr lo ok := fun ok hok => ⟨by rw [mkC_length]; have := HL.out; omega, Hl.out, fun i c h1 h2 => Hh.out i c h1 (by omega), hok⟩
      have HF := hide hF
      clear hF he
      by_cases hn2 : lo < n
      · obtain ⟨b, o, d, rfl, hbl, hd, k0, k1, k2⟩ := (hR.below hb).cl hn2
        obtain ⟨y, hy⟩ := hX d (List.mem_of_getElem? hd)
        rw [hy] at k1
        have hd' := hd
        rw [mkC_get] at hd'
        obtain ⟨t, ht, he⟩ := Option.map_eq_some_iff.1 hd'
        have hdh : d.h = true := by rw [← he]
        have hda : d.a ≤ 65536 := by
          have h1 := hO.2 t (List.mem_of_getElem? ht)
          have h2 := pow16 hk
          rw [← he]
          show t.1 ≤ 65536
          omega
        have HD := hide hd
        have HH := hide hdh
        clear hd hy hd' ht he hdh
        by_cases hc : (d.a : Int) = addr
        · have e1 : (((d.a : Int) - addr) == 0) = true := by simp; omega
          have HC := hide hc
          clear hc
          go_wp2_with fail
          refine (put1_n d.a y d.h addr _ (by omega) (by omega)).mono ?_
          rintro e w1 ⟨rfl, hb1⟩
          have hb2 := below_then hb hb1
          clear hb1
          go_wp2
          go_ret2
          exact ⟨lo, true, rfl, HF.out true (by rw [HD.out]; simp [HC.out, HH.out]), hb2⟩
        · have e1 : (((d.a : Int) - addr) == 0) = false := by simp; omega
          have HC := hide hc
          clear hc
          go_wp2_with fail
          refine (put1_n d.a y d.h addr _ (by omega) (by omega)).mono ?_
          rintro e w1 ⟨rfl, hb1⟩
          have hb2 := below_then hb hb1
          clear hb1
          go_wp2
          go_ret2
          exact ⟨lo, false, rfl, HF.out false (by rw [HD.out]; simp [HC.out]), hb2⟩
      · go_wp2
        go_ret2
        exact ⟨lo, false, rfl, HF.out false (by rw [List.getElem?_eq_none (by rw [mkC_length]; have := HL.out; omega)]), hb⟩
end
section
open Go.RowKit
theorem size_cell_n : (Try.prog.info? 130).map (·.size) = some 3 := by kernel_rfl
theorem zc_n (m : Nat) : (Builtin.zeroCells (Value.agg #[.int .i64 0, (.pointer none), .bool false]).cells m).toList = clv (List.replicate m ⟨0, (.pointer none), false⟩) := by
  have h := made_clv (.pointer none) m
  rw [laidTo_zero] at h
  rw [← h]
  rfl
theorem clv_one_n {cs : List Cl} (h : IsX_n cs) : ∀ u ∈ clv cs, u.oneCell' = true := by
  intro u hu
  obtain ⟨c, hc, hu⟩ := List.mem_flatMap.1 hu
  exact vals_one c (isx_one_n h c hc) u hu
theorem isx_rep_n (m : Nat) : IsX_n (List.replicate m ⟨0, (.pointer none), false⟩) := by
  intro c hc
  rw [(List.mem_replicate.1 hc).2]
  exact ⟨_, rfl⟩
set_option maxHeartbeats 2000000 in
set_option maxRecDepth 100000 in
theorem insert_end_n (base : Nat) (A : Option Addr) (n cap : Nat) (cs : List Cl) (a : Nat) (y) (h : Bool) (b : Nat) (w : World) (hO : w.ownsRow base 130 3 (.slice A n cap) n (clv cs)) (hn : n ≤ 65536) (hb : Blk w b 130 #[.int .i64 (a : Int), .pointer y, .bool h]) (hbase : base ≤ w.heap.size) :
    Calls Try.prog 84 #[.slice A n cap, .int .i64 (n : Int), .slice (some ⟨b, 0, none⟩) 1 1] w fun e w' => ∃ v, e = .returned v ∧ w'.ownsRow base 130 3 v (n + 1) (clv (cs ++ [⟨a, .pointer y, h⟩])) ∧ Below base w w' := by
  have hs := fun W => run_slice_lo (P := Try.prog) Try.underlying127 Try.sizeOf130 A n cap n (Nat.le_refl _) W
  have hr : Rw w 3 (some ⟨b, 0, none⟩) 1 [.int .i64 (a : Int), .pointer y, .bool h] := Rw.of_blk hb rfl (fun j u h => by simpa using h)
  have h1 : ∀ u ∈ [Value.int .i64 (a : Int), .pointer y, .bool h], u.oneCell' = true := by
    intro u hu
    simp only [List.mem_cons, List.not_mem_nil, or_false] at hu
    rcases hu with rfl | rfl | rfl <;> rfl
  go_enter Try.func84, Try.ntmps84
  go_wp2_with (at_builtin
               refine app_any _ rfl (.tmp 23) (.tmp 24) _ rfl base 130 _ 3 24 Try.underlying127 info_cell_n rfl (by omega) _ _ _ rfl hO (some ⟨b, 0, none⟩) 1 1 [.int .i64 (a : Int), .pointer y, .bool h] rfl hr h1 ?c1 ?c2 hbase ?_
               case c1 => simp only [maxLen]; omega
               case c2 => omega
               intro v' w' ho' hg' _)
  go_ret
  exact ⟨_, rfl, by simpa [clv_append, clv_cons, clv_nil, Cl.vals] using ho', (Below.refl _ _).grown hg' hbase (own_base hO)⟩
set_option maxHeartbeats 2000000 in
set_option maxRecDepth 100000 in
theorem insert_grow_n (base g : Nat) (n cap i : Nat) (cs : List Cl) (a : Nat) (y) (h : Bool) (b : Nat) (w : World) (hO : w.ownsRow base 130 3 (.slice (some ⟨g, 0, none⟩) n cap) n (clv cs)) (hX : IsX_n cs) (hn : n ≤ 65536) (hi : i < n) (hcap : cap < n + 1) (hb : Blk w b 130 #[.int .i64 (a : Int), .pointer y, .bool h]) (hbase : base ≤ w.heap.size) :
    Calls Try.prog 84 #[.slice (some ⟨g, 0, none⟩) n cap, .int .i64 (i : Int), .slice (some ⟨b, 0, none⟩) 1 1] w fun e w' => ∃ v, e = .returned v ∧ w'.ownsRow base 130 3 v (n + 1) (clv (cs.take i ++ [⟨a, .pointer y, h⟩] ++ cs.drop i)) ∧ Below base w w' := by
  have hlen : cs.length = n := by have := hO.1; rw [clv_length] at this; omega
  have HL := hide hlen
  clear hlen
  obtain ⟨A', c', hv, hnc, hR⟩ := Rw.of_own hO
  injection hv with hA _ hc
  subst hA hc
  obtain ⟨m, hm⟩ : ∃ m, n + 1 = i + m := ⟨n + 1 - i, by omega⟩
  have hm1 : 2 ≤ m := by omega
  have e2 : ((n : Int) + 1 - i) = (m : Int) := by omega
  have HM := hide hm
  clear hm
  have e0 : ((i : Int) == n) = false := by simp; omega
  have e1 : decide ((n : Int) + 1 > cap) = true := by simp; omega
  have hs := fun W => run_slice_lo (P := Try.prog) Try.underlying127 Try.sizeOf130 (some ⟨g, 0, none⟩) n cap i (by omega) W
  have hs2 := fun W => run_slice_hi (P := Try.prog) Try.underlying127 Try.sizeOf130 g n cap i (by omega) W
  rw [cutA_some (by omega)] at hs
  have hr : Rw w 3 (some ⟨b, 0, none⟩) 1 (clv [⟨a, .pointer y, h⟩]) := Rw.of_blk hb rfl (fun j u h => by simpa [clv, Cl.vals] using h)
  have h1 : ∀ u ∈ clv [⟨a, .pointer y, h⟩], u.oneCell' = true := clv_one_n (fun c hc => by rw [List.mem_singleton] at hc; rw [hc]; exact ⟨_, rfl⟩)
  have hRt := hR.take_ (i := i) (by omega)
  rw [clv_take] at hRt
  go_enter Try.func84, Try.ntmps84
  go_wp2_with (first
    | (at_builtin
       refine zeros_grow w rfl (.tmp 34) (.tmp 39) _ 3 130 _ 3 24 rfl Try.underlying127 Try.underlying3 info_cell_n rfl (by omega) (by omega) (some ⟨g, 0, none⟩) i cap (clv (cs.take i)) rfl hRt _ m rfl ?z1 ?z2 ?z3 ?_
       case z1 => rw [zc_n]; exact clv_one_n (isx_rep_n m)
       case z2 => omega
       case z3 => have := HM.out; omega
       intro v' w' ho' hb'
       rw [zc_n, ← clv_append] at ho'
       obtain ⟨g2, cap2, hv2, hg2, hlt2⟩ := ho'.form (by omega)
       subst hv2
       obtain ⟨_, _, hv3, hcap2, -⟩ := Rw.of_own ho'
       injection hv3 with hA3 _ hc3
       subst hA3 hc3
       have hs3 := fun W => run_slice_lo (P := Try.prog) Try.underlying127 Try.sizeOf130 (some ⟨g2, 0, none⟩) (i + m) cap2 i (by omega) W
       rw [cutA_some (by omega)] at hs3
       rw [show i + m - i = m by omega] at hs3
       obtain ⟨w2, hrun2, ho2, hgr2⟩ := run_copy_own (P := Try.prog) w' 127 127 3 130 3 w.heap.size (i + m) cap2 g2 i (cap2 - i) (some ⟨b, 0, none⟩) 1 1 m _ _ Try.underlying127 size_cell_n ho' 1 (Nat.min_eq_left (by omega)) (hr.below hb') (by omega) (by omega) h1
       rw [splice_clv] at ho2
       have hs4 := fun W => run_slice_lo (P := Try.prog) Try.underlying127 Try.sizeOf130 (some ⟨g2, 0, none⟩) (i + m) cap2 (i + 1) (by omega) W
       rw [cutA_some (by omega), show (((i + 1 : Nat)) : Int) = (i : Int) + 1 by omega] at hs4
       have hbw2 : Below w.heap.size w w2 := hb'.grown hgr2 hb'.size (fun k hk => by injection hk with hk; omega)
       have HO2 := hide ho2
       clear ho' ho2 hgr2)
    | fail)
  have e5 : IntKind.i64.wrap ((i : Int) + 1) = (i : Int) + 1 := by rw [IntKind.wrap_i64]; omega
  go_still_tail 8, (by kernel_rfl)
  change wpList _ _ _ _ _ w2.drew
  have hRd := (hR.drop_ (i := i) (by omega)).below hbw2.drew
  rw [clv_drop] at hRd
  refine copy_own w2.drew rfl (.tmp 50) (.tmp 53) _ _ 130 rfl 3 w.heap.size (i + m) cap2 g2 (i + 1) (cap2 - (i + 1)) (some ⟨g, i * 3, none⟩) (n - i) (cap - i) (i + m - (i + 1)) _ (clv (cs.drop i)) Try.underlying127 size_cell_n HO2.out.drew ?d1 rfl (n - i) ?d3 hRd (by omega) (by omega) ?d5 ?_
  case d1 => rfl
  case d3 => have := HM.out; exact Nat.min_eq_left (by omega)
  case d5 => exact clv_one_n (fun c hc => hX c (List.mem_of_mem_drop hc))
  intro w3 ho3 hg3
  rw [splice_clv] at ho3
  have HO3 := hide ho3
  have hb3 := hbw2.drew.grown hg3 hbw2.drew.size (fun k hk => by injection hk with hk; omega)
  clear ho3 hg3
  go_wp2
  go_ret
  refine ⟨_, rfl, ?_, hb3.mono hbase⟩
  have ho3 := own_lower HO3.out hbase
  rw [show 1 = ([⟨a, .pointer y, h⟩] : List Cl).length from rfl, List.length_singleton, ins_lists cs _ _ n i m HL.out hi HM.out] at ho3
  rw [HM.out]
  exact ho3
set_option maxHeartbeats 2000000 in
set_option maxRecDepth 100000 in
theorem insert_room_n (base g : Nat) (n cap i : Nat) (cs : List Cl) (a : Nat) (y) (h : Bool) (b : Nat) (w : World) (hO : w.ownsRow base 130 3 (.slice (some ⟨g, 0, none⟩) n cap) n (clv cs)) (hX : IsX_n cs) (hn : n ≤ 65536) (hi : i < n) (hcap : n + 1 ≤ cap) (hb : Blk w b 130 #[.int .i64 (a : Int), .pointer y, .bool h]) (hne : b ≠ g) (hbase : base ≤ w.heap.size) :
    Calls Try.prog 84 #[.slice (some ⟨g, 0, none⟩) n cap, .int .i64 (i : Int), .slice (some ⟨b, 0, none⟩) 1 1] w fun e w' => ∃ v, e = .returned v ∧ w'.ownsRow base 130 3 v (n + 1) (clv (cs.take i ++ [⟨a, .pointer y, h⟩] ++ cs.drop i)) ∧ Below base w w' := by
  have hlen : cs.length = n := by have := hO.1; rw [clv_length] at this; omega
  have HL := hide hlen
  clear hlen
  obtain ⟨ys, hys, hO1⟩ := own_extend hO (Nat.le_succ n) hcap
  have hgb : base ≤ g := own_base hO g rfl
  have hsg : w.shape? g = some (130, cap * 3) ∧ w.frozen? ⟨g, 0, none⟩ = false := by
    rcases hO.2 with ⟨h', h0⟩ | ⟨g', cap', cur, h', hbg, hg, hnc, hcm, hcs, htake⟩
    · cases h'
    · simp only [Value.slice.injEq, Option.some.injEq, Addr.mk.injEq, and_true, true_and] at h'
      obtain ⟨rfl, rfl⟩ := h'
      exact ⟨by simp [World.shape?, hg, hcs], by simp [World.frozen?, hg]⟩
  have hsb : w.shape? b = some (130, 3) := by unfold Blk at hb; simp [World.shape?, hb]
  have hov : ∀ lb cb, (callFunc 89 #[.slice (some ⟨b, 0, none⟩) 1 1, .slice (some ⟨g, (i + 1) * 3, none⟩) lb cb]).run Try.prog w = .ok (.value (.bool false)) w := fun lb cb => by
    rw [run_callFunc_extern Try.func89 (by kernel_rfl) (by kernel_rfl) (by kernel_rfl) (e := Extern.SlicesOverlaps.overlaps #[127, 127] #[4]) (by kernel_rfl),
      Lib.run_overlaps_apart w 127 4 130 Try.underlying127 3 Try.sizeOf130 ⟨b, 0, none⟩ ⟨g, (i + 1) * 3, none⟩ 1 1 lb cb hne _ _ 3 (cap * 3) hsb hsg.1 (by omega) (hb.frozen 0) (hb.frozen 3)]
    rfl
  have hr : Rw w 3 (some ⟨b, 0, none⟩) 1 (clv [⟨a, .pointer y, h⟩]) := Rw.of_blk hb rfl (fun j u h => by simpa [clv, Cl.vals] using h)
  have h1 : ∀ u ∈ clv [⟨a, .pointer y, h⟩], u.oneCell' = true := clv_one_n (fun c hc => by rw [List.mem_singleton] at hc; rw [hc]; exact ⟨_, rfl⟩)
  obtain ⟨_, _, hv, -, hR⟩ := Rw.of_own hO
  injection hv with hA _ hc
  subst hA hc
  have hRd := (hR.drop_ (i := i) (by omega)).below ((Below.refl w.heap.size w).drew)
  rw [clv_drop] at hRd
  have e0 : ((i : Int) == n) = false := by simp; omega
  have e1 : decide ((n : Int) + 1 > cap) = false := by simp; omega
  have hs := fun W => run_slice_lo (P := Try.prog) Try.underlying127 Try.sizeOf130 (some ⟨g, 0, none⟩) n cap i (by omega) W
  have hs2 := fun W => run_slice_hi (P := Try.prog) Try.underlying127 Try.sizeOf130 g n cap (n + 1) (by omega) W
  have hs3 := fun W => run_slice_lo (P := Try.prog) Try.underlying127 Try.sizeOf130 (some ⟨g, 0, none⟩) (n + 1) cap (i + 1) (by omega) W
  have hs4 := fun W => run_slice_lo (P := Try.prog) Try.underlying127 Try.sizeOf130 (some ⟨g, 0, none⟩) (n + 1) cap i (by omega) W
  rw [cutA_some (by omega)] at hs hs3 hs4
  rw [show ((n + 1 : Nat) : Int) = (n : Int) + 1 by omega] at hs2
  rw [show ((i + 1 : Nat) : Int) = (i : Int) + 1 by omega] at hs3
  have e5 : IntKind.i64.wrap ((i : Int) + 1) = (i : Int) + 1 := by rw [IntKind.wrap_i64]; omega
  have HO1 := hide hO1
  have HSG := hide hsg
  have HYS := hide hys
  clear hO hO1 hsg hsb hys
  go_enter Try.func84, Try.ntmps84
  go_wp2_with fail
  go_still_tail 8, (by kernel_rfl)
  change wpList _ _ _ _ _ w.drew
  refine copy_own w.drew rfl (.tmp 73) (.tmp 76) _ _ 130 rfl 3 base (n + 1) cap g (i + 1) (cap - (i + 1)) (some ⟨g, i * 3, none⟩) (n + 1 - i) (cap - i) (n - i) _ (clv (cs.drop i)) Try.underlying127 size_cell_n HO1.out.drew ?d1 ?d2 (n - i) ?d3 hRd (by omega) (by omega) ?d5 ?_
  case d1 => rfl
  case d2 => rfl
  case d3 => exact Nat.min_eq_right (by omega)
  case d5 => exact clv_one_n (fun c hc => hX c (List.mem_of_mem_drop hc))
  intro w2 ho2 hg2
  have hb2 : Below base w w2 := ((Below.refl base w).drew).grown hg2 hbase (fun k hk => by injection hk with hk; omega)
  have hsame : ∀ j, w2.cell? ⟨b, j, none⟩ = w.cell? ⟨b, j, none⟩ := fun j => World.cell?_of_block (hg2.block b hb.lt (fun e => by injection e with e; exact hne e))
  have hr2 : Rw w2 3 (some ⟨b, 0, none⟩) 1 (clv [⟨a, .pointer y, h⟩]) := ⟨hr.1, fun h0 => by
    obtain ⟨b', o', hA, hlt, hc⟩ := hr.2 h0
    injection hA with hA
    injection hA with h3 h4
    subst h3 h4
    exact ⟨b, 0, rfl, Nat.lt_of_lt_of_le hlt hg2.size, fun j u hu => (hsame _).trans (hc j u hu)⟩⟩
  obtain ⟨w3, hrun3, ho3, hg3⟩ := run_copy_own (P := Try.prog) w2 127 127 3 130 3 base (n + 1) cap g i (cap - i) (some ⟨b, 0, none⟩) 1 1 (n + 1 - i) _ _ Try.underlying127 size_cell_n ho2 1 (Nat.min_eq_left (by omega)) hr2 (by omega) (by omega) h1
  have hb3 : Below base w w3 := hb2.grown hg3 (Nat.le_trans hbase hb2.size) (fun k hk => by injection hk with hk; omega)
  have HO3 := hide ho3
  clear ho2 ho3 hg2 hg3 hsame
  go_wp2
  go_ret
  refine ⟨_, rfl, ?_, hb3⟩
  have ho3 := HO3.out
  have hli : (clv (cs.take i)).length = i * 3 := by rw [clv_length, List.length_take]; have := HL.out; omega
  have hcs : clv cs = clv (cs.take i) ++ clv (cs.drop i) := by rw [← clv_append, List.take_append_drop]
  rw [hcs, show (i + 1) * 3 = (clv (cs.take i)).length + 3 by rw [hli]; omega] at ho3
  rw [← hli, splice_ins _ _ _ _ 3 (by rw [HYS.out]; omega) (by simp [clv, Cl.vals])] at ho3
  rw [clv_append, clv_append]
  exact ho3
/-- One cell more, wherever there is room, or isn't. -/
theorem insert_n (base : Nat) (A : Option Addr) (n cap i : Nat) (cs : List Cl) (a : Nat) (y) (h : Bool) (b : Nat) (w : World) (hO : w.ownsRow base 130 3 (.slice A n cap) n (clv cs)) (hX : IsX_n cs) (hn : n ≤ 65536) (hi : i ≤ n) (hb : Blk w b 130 #[.int .i64 (a : Int), .pointer y, .bool h]) (hne : (Value.slice A n cap).ownBlock ≠ some b) (hbase : base ≤ w.heap.size) :
    Calls Try.prog 84 #[.slice A n cap, .int .i64 (i : Int), .slice (some ⟨b, 0, none⟩) 1 1] w fun e w' => ∃ v, e = .returned v ∧ w'.ownsRow base 130 3 v (n + 1) (clv (cs.take i ++ [⟨a, .pointer y, h⟩] ++ cs.drop i)) ∧ Below base w w' := by
  have hlen : cs.length = n := by have := hO.1; rw [clv_length] at this; omega
  rcases Nat.lt_or_ge i n with hlt | hge
  · obtain ⟨g, cap', hv, hg1, hg2⟩ := hO.form (by omega)
    injection hv with hA _ hc
    subst hA hc
    rcases Nat.lt_or_ge cap (n + 1) with hc | hc
    · exact insert_grow_n base g n cap i cs a y h b w hO hX hn hlt hc hb hbase
    · exact insert_room_n base g n cap i cs a y h b w hO hX hn hlt hc hb (fun e => hne (by simp [Value.ownBlock, e])) hbase
  · have : i = n := by omega
    subst this
    refine (insert_end_n base A i cap cs a y h b w hO hn hb hbase).mono ?_
    rintro e w' ⟨v, rfl, ho, hb⟩
    rw [List.take_of_length_le (by omega), List.drop_of_length_le (by omega), List.append_nil]
    exact ⟨v, rfl, ho, hb⟩
end
section
open Go.RowKit
theorem isx_ins_n {L : Th} {a : Nat} {y} (h : IsX_n (mkC L)) : IsX_n (mkC (insTh L a (.pointer y))) := by
  intro c hc
  obtain ⟨t, ht, rfl⟩ := List.mem_map.1 hc
  unfold insTh at ht
  rcases List.mem_append.1 ht with ht | ht
  · rcases List.mem_append.1 ht with ht | ht
    · exact h _ (List.mem_map.2 ⟨t, (List.mem_filter.1 ht).1, rfl⟩)
    · simp at ht
      rw [ht]
      exact ⟨_, rfl⟩
  · exact h _ (List.mem_map.2 ⟨t, (List.mem_filter.1 ht).1, rfl⟩)
set_option maxHeartbeats 2000000 in
set_option maxRecDepth 100000 in
theorem put_n (g k : Nat) (L : Th) (a : Nat) (y) (w : World) (h : SlotsAt_n w g k L) (ha : a < 2 ^ k) :
    Calls Try.prog 63 #[.pointer (some ⟨g, 0, none⟩), .int .i64 (a : Int), .pointer y] w fun e w' => ∃ g', e = .returned (.tuple #[.pointer (some ⟨g', 0, none⟩), .int .i64 0]) ∧ SlotsAt_n w' g' k (insTh L a (.pointer y)) ∧ w.heap.size ≤ g' ∧ Below w.heap.size w w' := by
  have hO := h.ok
  have hk1 := h.1
  have hk := h.2.1
  have hXL := h.2.2.2.1
  have hp16 := pow16 hk
  have hll := len_le_of_ok hO
  have ha16 : a < 65536 := by omega
  have hl16 : L.length ≤ 65536 := by omega
  have hc0 : chk k a = 0 := by unfold chk; rw [if_pos ⟨by omega, by omega⟩]
  obtain ⟨A, m, c, hB, hR, hm, hX, hS, hLv, -⟩ := h.cells
  have HLv := hide hLv
  have HO' := insTh_ok (.pointer y) hO ha
  have hcheck := check_n g k L a w h
  generalize cellsOf (.pointer none) k L = cs at *
  have HC := hide hcheck
  have HA := hide ha
  clear hcheck h hLv hp16 hll ha
  go_enter Try.func63, Try.ntmps63
  go_wp2_with fail
  refine HC.out.mono ?_
  rintro e w0 ⟨rfl, rfl⟩
  go_wp2_with fail
  refine (things_n g _ _ A m c cs w hB hR hX (by omega)).mono ?_
  rintro e w1 ⟨v, rfl, ho, hb⟩
  rw [HLv.out, mkC_length] at ho
  obtain ⟨A1, c1, rfl, hnc1, hR1⟩ := Rw.of_own ho
  go_wp2_with fail
  refine (bsearch_n A1 L.length c1 L k a w1 hR1 hXL hO hk (by omega) (by omega)).mono ?_
  rintro e w2 ⟨at_, ok, rfl, hF, hb2⟩
  have ho2 := own_below ho hb2
  have hbb := below_then hb hb2
  have hH0 := (hB.below hbb).cell 0
  simp at hH0
  have HO2 := hide ho2
  have HBB := hide hbb
  have hBW := hide (hB.below hbb)
  have hwle := hbb.size
  clear ho ho2 hbb hb hb2 hR1 HC
  cases ok with
  | true =>
    obtain ⟨hlt, hset⟩ := ins_old (.pointer y) hO hF
    obtain ⟨g1, cap1, hv, hg1, hg2⟩ := HO2.out.form (by omega)
    injection hv with hA1 _ hc1
    subst hA1 hc1
    obtain ⟨d, hd, k0, k1, k2, f0, f1, f2⟩ := own_cells HO2.out hlt
    have hda : (⟨d.a, .pointer y, d.h⟩ : Cl) = ⟨a, .pointer y, true⟩ := by
      have h4 := hF.2.2.2
      rw [hd] at h4
      simp at h4
      have e1 : d.a = a := by omega
      rw [e1, h4.2]
    have HS := hide ((HO2.out.stored (at_ * 3 + 1) (.pointer y)).1)
    have HE := hide (clv_set_x (mkC L) at_ (.pointer y) d hd)
    have HD := hide hda
    have HSet := hide hset
    have hgne : g ≠ g1 := fun e => by have := hB.lt; omega
    have hH0' := (hBW.out.set_ g1 (at_ * 3 + 1) (.pointer y) hgne).cell 0
    simp at hH0'
    clear hF hd hda k0 k2 f0 f2 hset
    go_wp2_with fail
    have hrow : Rw (w2.setCell ⟨g1, at_ * 3 + 1, none⟩ (.pointer y)) 3 (some ⟨g1, 0, none⟩) L.length (clv (mkC (insTh L a (.pointer y)))) := by
      have h1 := HS.out
      rw [HE.out, HD.out, HSet.out] at h1
      obtain ⟨A', c', hv', _, hr'⟩ := Rw.of_own h1
      injection hv' with hA' _ _
      rw [hA']
      exact hr'
    refine (kept_n k (some ⟨g1, 0, none⟩) L.length c1 (insTh L a (.pointer y)) _ hk1 hk hrow (isx_ins_n hXL) HO').mono ?_
    rintro e w3 ⟨g', rfl, hs', hg', hb3⟩
    have HS' := hide hs'
    clear hs' hrow
    have hb4 : Below w.heap.size w (w2.setCell ⟨g1, at_ * 3 + 1, none⟩ (.pointer y)) := HBB.out.setCell hg1 _
    have hb5 := below_then hb4 hb3
    have hsz := hb4.size
    clear hb3
    go_wp2
    go_ret2
    exact ⟨g', rfl, HS'.out, by omega, hb5⟩
  | false =>
    have hins := ins_new (.pointer y) hO hF
    have hle : at_ ≤ L.length := by have := hF.1; rw [mkC_length] at this; exact this
    have HI := hide hins
    clear hF hins
    go_wp2_with fail
    refine (insert_n w.heap.size A1 L.length c1 at_ (mkC L) a y true w2.heap.size _ (HO2.out.alloc _) hXL hl16 hle (Blk.new _ _ _) (fun e => by have := own_block_lt HO2.out _ e; omega) (by simp; omega)).mono ?_
    rintro e w3 ⟨v, rfl, ho3, hb3⟩
    rw [HI.out] at ho3
    have hlen : (insTh L a (.pointer y)).length = L.length + 1 := by
      have h1 := congrArg List.length HI.out
      simp [mkC_length] at h1
      omega
    obtain ⟨A3, c3, rfl, _, hR3⟩ := Rw.of_own ho3
    have hH0' := (((hBW.out).alloc (.cells #[.int .i64 (a : Int), .pointer y, .bool true] 130)).belowB hb3 hB.lt).cell 0
    simp at hH0'
    have hb4 : Below w.heap.size w w3 := (below_alloc HBB.out (Nat.le_refl _) _).trans hb3
    have HL := hide hlen
    clear hlen hb3 ho3
    go_wp2_with fail
    refine (kept_n k A3 (L.length + 1) c3 (insTh L a (.pointer y)) _ hk1 hk hR3 (isx_ins_n hXL) HO').mono ?_
    rintro e w4 ⟨g', rfl, hs', hg', hb5⟩
    have HS' := hide hs'
    have hb6 := below_then hb4 hb5
    have hsz := hb4.size
    clear hs' hb5
    go_wp2
    go_ret2
    exact ⟨g', rfl, HS'.out, by omega, hb6⟩
end
section
open Go.RowKit
set_option maxHeartbeats 1000000 in
set_option maxRecDepth 100000 in
theorem del1_n (a : Nat) (y) (h : Bool) (pb addr : Nat) (w : World) (hb : w.cell? ⟨pb, 0, none⟩ = some (.int .i64 (addr : Int))) (hlt : pb < w.heap.size) :
    Calls Try.prog 88 #[.agg #[.int .i64 (a : Int), .pointer y, .bool h], .pointer (some ⟨pb, 0, none⟩)] w fun e w' => e = .returned (.bool (decide (a = addr))) ∧ Below w.heap.size w w' := by
  by_cases he : a = addr
  · have e1 : ((a : Int) == (addr : Int)) = true := by simp; omega
    have e2 := hide he
    clear he
    go_enter Try.func88, Try.ntmps88
    go_wp2
    go_ret
    exact ⟨retB (by simp [e2.out]), below_alloc (Below.refl _ _) (Nat.le_refl _) _⟩
  · have e1 : ((a : Int) == (addr : Int)) = false := by simp; omega
    go_enter Try.func88, Try.ntmps88
    go_wp2
    go_ret
    exact ⟨retB (by simp [he]), below_alloc (Below.refl _ _) (Nat.le_refl _) _⟩
set_option maxHeartbeats 1000000 in
set_option maxRecDepth 100000 in
theorem indexf_n (A : Option Addr) (n c : Nat) (L : Th) (k : Nat) (pb p : Nat) (t : Nat × Value) (w : World) (hR : Rw w 3 A n (clv (mkC L))) (hX : IsX_n (mkC L)) (hO : OkTh k L) (hn : n ≤ 65536) (ht : L[p]? = some t) (hb : w.cell? ⟨pb, 0, none⟩ = some (.int .i64 (t.1 : Int))) (hlt : pb < w.heap.size) :
    Calls Try.prog 91 #[.slice A n c, .func (.func 88) #[] #[.pointer (some ⟨pb, 0, none⟩)]] w fun e w' => e = .returned (.int .i64 (p : Int)) ∧ Below w.heap.size w w' := by
  have hlen : L.length = n := by have := hR.1; rw [clv_length, mkC_length] at this; omega
  have hp : p < n := by have := (List.getElem?_eq_some_iff.1 ht).1; omega
  have HT := hide ht
  have HL := hide hlen
  clear ht hlen
  go_enter Try.func91, Try.ntmps91
  go_wp2
  go_loopw [8] (fun i wr => ∃ (j : Nat), j ≤ p ∧ i = .int .i64 j ∧ Below w.heap.size w wr) (fun i _ => p - (intOf i).toNat)
  case atStart => exact ⟨0, Nat.zero_le _, rfl, Below.refl _ _⟩
  case round =>
    obtain ⟨j, hj, rfl, hbr⟩ := hrel
    obtain ⟨b, o, d, rfl, hbl, hd, k0, k1, k2⟩ := (hR.below hbr).cl (i := j) (by omega)
    obtain ⟨y, hy⟩ := hX d (List.mem_of_getElem? hd)
    rw [hy] at k1
    rw [mkC_get] at hd
    obtain ⟨s, hs, he⟩ := Option.map_eq_some_iff.1 hd
    have hda : d.a = s.1 := by rw [← he]
    have hb' := (hbr.cell (p := ⟨pb, 0, none⟩) hlt).trans hb
    have hlt' : pb < wr.heap.size := Nat.lt_of_lt_of_le hlt hbr.size
    by_cases hjp : j = p
    · have e1 : decide (d.a = t.1) = true := by
        have h1 := HT.out
        rw [← hjp, hs] at h1
        injection h1 with h1
        rw [hda, h1]
        simp
      have HJ := hide hjp
      clear hjp hs he hd hda hy
      go_wp2_with fail
      refine (del1_n d.a y d.h pb t.1 _ hb' hlt').mono ?_
      rintro e w1 ⟨rfl, hb1⟩
      have hb2 := below_then hbr hb1
      clear hb1
      go_wp2
      go_ret
      exact ⟨retI (by rw [HJ.out]), hb2⟩
    · have e1 : decide (d.a = t.1) = false := by
        have h1 := HT.out
        simp only [decide_eq_false_iff_not]
        intro h2
        obtain ⟨hi, rfl⟩ := List.getElem?_eq_some_iff.1 hs
        obtain ⟨hi', rfl⟩ := List.getElem?_eq_some_iff.1 h1
        have := List.pairwise_iff_getElem.1 hO.1 j p hi hi' (by omega)
        omega
      have hjp' : j < p := by omega
      clear hjp hs he hd hda hy
      go_wp2_with fail
      refine (del1_n d.a y d.h pb t.1 _ hb' hlt').mono ?_
      rintro e w1 ⟨rfl, hb1⟩
      have hb2 := below_then hbr hb1
      clear hb1
      go_wp2
      go_roundw
      case rel => exact ⟨j + 1, by omega, by go_num, hb2⟩
      case measure => simp [intOf]; omega
set_option maxHeartbeats 2000000 in
set_option maxRecDepth 100000 in
theorem deletef_n (base g : Nat) (n cap : Nat) (L : Th) (k : Nat) (pb p : Nat) (t : Nat × Value) (w : World) (hO : w.ownsRow base 130 3 (.slice (some ⟨g, 0, none⟩) n cap) n (clv (mkC L))) (hX : IsX_n (mkC L)) (hOk : OkTh k L) (hn : n ≤ 65536) (ht : L[p]? = some t) (hb : w.cell? ⟨pb, 0, none⟩ = some (.int .i64 (t.1 : Int))) (hlt : pb < w.heap.size) (hpg : pb < base) (hbase : base ≤ w.heap.size) :
    Calls Try.prog 87 #[.slice (some ⟨g, 0, none⟩) n cap, .func (.func 88) #[] #[.pointer (some ⟨pb, 0, none⟩)]] w fun e w' => e = .returned (.slice (some ⟨g, 0, none⟩) (n - 1) cap) ∧ w'.ownsRow base 130 3 (.slice (some ⟨g, 0, none⟩) (n - 1) cap) (n - 1) (clv (mkC (delTh L t.1))) ∧ Below base w w' := by
  have hlen : (mkC L).length = n := by have := hO.1; rw [clv_length] at this; omega
  have hp : p < n := by have := (List.getElem?_eq_some_iff.1 ht).1; rw [mkC_length] at hlen; omega
  obtain ⟨_, _, hv, hnc, hR⟩ := Rw.of_own hO
  injection hv with hA _ hc
  subst hA hc
  have hix := hide (indexf_n (some ⟨g, 0, none⟩) n cap L k pb p t w hR hX hOk hn ht hb hlt)
  have hgb : base ≤ g := own_base hO g rfl
  have HT := hide ht
  have HL := hide hlen
  clear ht hlen hR
  have e0 : ((p : Int) == -1) = false := by simp
  go_enter Try.func87, Try.ntmps87
  go_wp2_with fail
  refine hix.out.mono ?_
  rintro e w1 ⟨rfl, hb1⟩
  have ho1 := own_below hO hb1
  have hbB : Below base w w1 := hb1.mono hbase
  clear hix hO hb1
  go_wp2
  go_loopw [5, 6] (fun x i wr => ∃ (q : Nat), p ≤ q ∧ q + 1 ≤ n ∧ x = .int .i64 q ∧ i = .int .i64 ((q : Int) + 1) ∧ wr.ownsRow base 130 3 (.slice (some ⟨g, 0, none⟩) n cap) n (clv (shifted (mkC L) p (q + 1))) ∧ Below base w wr) (fun _ i _ => n - (intOf i).toNat)
  case atStart => exact ⟨p, Nat.le_refl _, hp, rfl, rfl, by rw [shifted_start]; exact ho1, hbB⟩
  case round =>
    obtain ⟨q, hpq, hqn, rfl, rfl, hoR, hbR⟩ := hrel
    clear ho1 hbB
    by_cases hq : q + 1 < n
    · obtain ⟨d, hd, k0, k1, k2, f0, f1, f2⟩ := own_cells hoR hq
      rw [shifted_get _ _ _ (by omega) (by rw [HL.out]; exact hq)] at hd
      obtain ⟨y, hy⟩ := hX d (List.mem_of_getElem? hd)
      rw [hy] at k1
      have hb' := (hbR.cell (p := ⟨pb, 0, none⟩) hpg).trans hb
      have hlt' : pb < wr.heap.size := Nat.lt_of_lt_of_le hlt hbR.size
      have hd' := hd
      rw [mkC_get] at hd'
      obtain ⟨s, hs, he⟩ := Option.map_eq_some_iff.1 hd'
      have e1 : decide (d.a = t.1) = false := by
        have h1 := HT.out
        have hda : d.a = s.1 := by rw [← he]
        simp only [decide_eq_false_iff_not]
        intro h2
        obtain ⟨hi, rfl⟩ := List.getElem?_eq_some_iff.1 hs
        obtain ⟨hi', rfl⟩ := List.getElem?_eq_some_iff.1 h1
        have := List.pairwise_iff_getElem.1 hOk.1 p (q + 1) hi' hi (by omega)
        omega
      have HD := hide hd
      have HY := hide hy
      have HOR := hide hoR
      clear hd hd' hy hs he f0 f1 f2 hoR
      go_wp2_with fail
      refine (del1_n d.a y d.h pb t.1 _ ((Blk.alloc_cell hb').trans rfl) (by simp; omega)).mono ?_
      rintro e w2 ⟨rfl, hb2⟩
      have hoA := HOR.out.alloc (.cells #[.int .i64 (d.a : Int), .pointer y, .bool d.h] 130)
      have ho2 := own_below hoA hb2
      have hN := (Blk.new wr 130 #[.int .i64 (d.a : Int), .pointer y, .bool d.h]).below hb2
      have hb3 : Below base w w2 := (hbR.alloc (Nat.le_trans hbase hbR.size) _).trans (hb2.mono (by have := hbR.size; simp; omega))
      obtain ⟨d2, hd2, j0, j1, j2, f0, f1, f2⟩ := own_cells (i := q) ho2 (by omega)
      have N0 := hN.cell 0
      have N1 := hN.cell 1
      have N2 := hN.cell 2
      simp at N0 N1 N2
      have HO2 := hide ho2
      have hqg : g ≠ wr.heap.size := fun e => by have := own_lt HOR.out (by omega); omega
      clear hd2 ho2 hoA hN hb2 k0 k1 k2
      go_wp2
      go_roundw
      case rel =>
        refine ⟨q + 1, by omega, by omega, by go_num, rfl, ?_, ((hb3.setCell hgb _).setCell hgb _).setCell hgb _⟩
        rw [← shifted_set (mkC L) p (q + 1) d (by omega) HD.out]
        have h1 := own_store3 HO2.out d (show q < n by omega)
        rw [HY.out] at h1
        exact h1
      case measure => simp [intOf]; omega
    · have hqe : n - 1 = q := by omega
      have hs := fun W => run_slice_lo (P := Try.prog) Try.underlying127 Try.sizeOf130 (some ⟨g, 0, none⟩) n cap q (by omega) W
      rw [cutA_some (by omega), show n - q = 1 by omega] at hs
      have hs2 := fun W => run_slice_hi (P := Try.prog) Try.underlying127 Try.sizeOf130 g n cap q (by omega) W
      obtain ⟨w2, hrun, ho2, hg2⟩ := run_clear_own (P := Try.prog) wr 127 130 (.agg #[.int .i64 0, (.pointer none), .bool false]) 3 base n cap g q 1 (cap - q) _ Try.underlying127 Try.zeroValue130 rfl hoR (by omega) (by omega) (by rw [zc_n]; exact clv_one_n (isx_rep_n 1))
      have hb2 : Below base w w2 := hbR.grown hg2 (Nat.le_trans hbase hbR.size) (fun k hk => by injection hk with hk; omega)
      have ho3 := own_cut ho2 (show q ≤ n by omega)
      have HE := hide hqe
      have HO3 := hide ho3
      clear hqe ho2 ho3 hg2 hoR
      go_wp2
      go_ret
      rw [HE.out]
      refine ⟨rfl, ?_, hb2⟩
      have h1 := HO3.out
      unfold splice at h1
      have hlsh := shifted_len (mkC L) p (q + 1) (by omega) (by rw [HL.out]; omega)
      rw [HL.out] at hlsh
      rw [List.take_append_of_le_length (by rw [List.length_take, clv_length]; omega), List.take_take, Nat.min_self, clv_take] at h1
      have h2 := shifted_end (mkC L) p (by rw [HL.out]; exact hp)
      rw [HL.out, HE.out] at h2
      rw [show q + 1 = n by omega, h2] at h1
      rw [← del_at hOk HT.out, mkC_append]
      unfold mkC at h1 ⊢
      rw [List.map_take, List.map_drop]
      exact h1
theorem isx_del_n {L : Th} {a : Nat} (h : IsX_n (mkC L)) : IsX_n (mkC (delTh L a)) := by
  intro c hc
  obtain ⟨t, ht, rfl⟩ := List.mem_map.1 hc
  exact h _ (List.mem_map.2 ⟨t, (List.mem_filter.1 ht).1, rfl⟩)
set_option maxHeartbeats 2000000 in
set_option maxRecDepth 100000 in
theorem del_n (g k : Nat) (L : Th) (a : Nat) (x : Value) (w : World) (h : SlotsAt_n w g k L) (ha : a < 2 ^ k) (hg : getTh L (a : Int) = some x) :
    Calls Try.prog 70 #[.pointer (some ⟨g, 0, none⟩), .int .i64 (a : Int)] w fun e w' => ∃ g', e = .returned (.tuple #[.pointer (some ⟨g', 0, none⟩), .int .i64 0]) ∧ SlotsAt_n w' g' k (delTh L a) ∧ w.heap.size ≤ g' ∧ Below w.heap.size w w' := by
  have hO := h.ok
  have hk1 := h.1
  have hk := h.2.1
  have hXL := h.2.2.2.1
  have hp16 := pow16 hk
  have hll := len_le_of_ok hO
  have hl16 : L.length ≤ 65536 := by omega
  have hc0 : chk k a = 0 := by unfold chk; rw [if_pos ⟨by omega, by omega⟩]
  obtain ⟨p, t, ht, hta⟩ := getTh_idx hg
  have hta' : t.1 = a := by omega
  subst hta'
  have hlp : p < L.length := (List.getElem?_eq_some_iff.1 ht).1
  have hbA := (Below.refl w.heap.size w).alloc (Nat.le_refl _) (.cells #[.int .i64 (t.1 : Int)] 3)
  have hA := h.below hbA
  have hpbc : (w.alloc (.cells #[.int .i64 (t.1 : Int)] 3)).cell? ⟨w.heap.size, 0, none⟩ = some (.int .i64 (t.1 : Int)) := (Blk.new w 3 #[.int .i64 (t.1 : Int)]).cell 0
  have HC := hide (check_n g k L (t.1 : Int) _ hA)
  have HG := hide (get_n g k L (t.1 : Int) _ hA)
  have HT := hide ht
  have HX := hide hg
  have HS := hide hA
  have HB := hide hbA
  have hmf : ∀ (fn : Fn) (first cap : Array Value) (w : World), (Instr.makeFunc fn first cap).run Try.prog w = .ok (.func fn first cap) w := fun _ _ _ _ => rfl
  clear h hp16 hll ht hta hg hA hbA
  go_enter Try.func70, Try.ntmps70
  go_wp2_with fail
  refine HC.out.mono ?_
  rintro e w0 ⟨rfl, rfl⟩
  go_wp2_with fail
  refine HG.out.mono ?_
  rintro e w1 ⟨rfl, hb1⟩
  rw [HX.out]
  have hpb1 := (hb1.cell (p := ⟨w.heap.size, 0, none⟩) (by simp)).trans hpbc
  have hpbl : w.heap.size < w1.heap.size := by have := hb1.size; simp at this; omega
  have HS1 := HS.out.below hb1
  have HB1 := hide (HB.out.trans (hb1.mono (by simp)))
  obtain ⟨A, m, c, hB, hR, hm, hX, -, hLv, -⟩ := HS1.cells
  have H0 := hB.cell 0
  simp at H0
  have HTh : ∀ W : World, W.heap = w1.heap → W.os = w1.os → W.tape = w1.tape → W.output = w1.output → Calls Try.prog 74 #[.pointer (some ⟨g, 0, none⟩)] W fun e w' => ∃ v, e = .returned v ∧ w'.ownsRow W.heap.size 130 3 v L.length (clv (mkC L)) ∧ Below w1.heap.size w1 w' := by
    intro W h1 h2 h3 h4
    have hW : Below w1.heap.size w1 W := ⟨h2, h3, h4, by rw [h1]; exact Nat.le_refl _, fun k _ => by rw [h1]⟩
    have hbT := things_n g _ _ A m c _ W (hB.below hW) (hR.below hW) hX (by omega)
    rw [hLv, mkC_length] at hbT
    exact hbT.mono fun e w' ⟨v, e1, e2, e3⟩ => ⟨v, e1, e2, below_then hW e3⟩
  have HTH := hide HTh
  clear HC HG HS HB hpbc hb1 HS1 hLv HTh hR
  go_wp2_with fail
  go_region_held3 (fun w' => w'.cell? ⟨g, 0, none⟩ = some (.int .i64 (k : Int)))
    (first
      | go_keep
      | exact hk2
      | exact hk3
      | exact hk4)
    (first
      | (go_at_call 74
         refine (HTH.out w1.drew rfl rfl rfl rfl).mono ?_
         rintro e w2 ⟨v, rfl, ho2, hb2⟩
         obtain ⟨g2, cap2, rfl, hg2a, hg2b⟩ := ho2.form (by omega)
         have hpb2 := (hb2.cell (p := ⟨w.heap.size, 0, none⟩) hpbl).trans hpb1
         have hk2 : w2.cell? ⟨g, 0, none⟩ = some (.int .i64 (k : Int)) := (hb2.cell (p := ⟨g, 0, none⟩) hB.lt).trans H0)
      | (go_at_call 87
         refine (deletef_n w1.heap.size g2 L.length cap2 L k w.heap.size p t w2 ho2 hXL hO hl16 HT.out hpb2 (by have := hb2.size; omega) hpbl hb2.size).mono ?_
         rintro e w3 ⟨rfl, ho3, hb3⟩
         have hb13 := hb2.trans hb3
         have hk3 : w3.cell? ⟨g, 0, none⟩ = some (.int .i64 (k : Int)) := (hb13.cell (p := ⟨g, 0, none⟩) hB.lt).trans H0)
      | (go_at_call 85
         obtain ⟨A3, c3, hv3, _, hR3⟩ := Rw.of_own ho3
         injection hv3 with hA3 _ hc3
         subst hA3 hc3
         refine (kept_n k (some ⟨g2, 0, none⟩) (L.length - 1) cap2 (delTh L t.1) w3 hk1 hk hR3 (isx_del_n hXL) (delTh_ok hO)).mono ?_
         rintro e w4 ⟨g', rfl, hs', hg', hb4⟩
         have hk4 : w4.cell? ⟨g, 0, none⟩ = some (.int .i64 (k : Int)) := (hb4.cell (p := ⟨g, 0, none⟩) (Nat.lt_of_lt_of_le hB.lt hb13.size)).trans hk3))
  all_goals
    have HS4 := hide hs'
    have hb5 : Below w.heap.size w w4 := HB1.out.trans ((hb13.trans (hb4.mono hb13.size)).mono (by omega))
    have hsz : w.heap.size ≤ g' := by have := hb13.size; omega
    clear hs' hg'
    go_wp2
    go_ret2
    exact ⟨g', rfl, HS4.out, hsz, hb5⟩
end
section
open Go.RowKit
theorem info_int_n : (Try.prog.info? 3).map (fun i => (i.zero, i.size, i.bytes)) = some (some (.int .i64 0), 1, 8) := by kernel_rfl
theorem info_x_n : (Try.prog.info? 51).map (fun i => (i.zero, i.size, i.bytes)) = some (some (.pointer none), 1, 8) := by kernel_rfl
set_option maxHeartbeats 1000000 in
set_option maxRecDepth 100000 in
theorem places_n (g k : Nat) (L : Th) (w : World) (h : SlotsAt_n w g k L) :
    Calls Try.prog 51 #[.pointer (some ⟨g, 0, none⟩)] w fun e w' => ∃ v, e = .returned v ∧ w'.ownsRow w.heap.size 3 1 v L.length (L.map fun t => .int .i64 (t.1 : Int)) ∧ Below w.heap.size w w' := by
  have hO := h.ok
  have hXL := h.2.2.2.1
  have hl16 : L.length ≤ 65536 := by have := len_le_of_ok hO; have := pow16 h.2.1; omega
  obtain ⟨A, m, c, hB, hR, hm, hX, -, hLv, -⟩ := h.cells
  have HLv := hide hLv
  have hbT := things_n g _ _ A m c _ w hB hR hX (by omega)
  rw [hLv, mkC_length] at hbT
  have HT := hide hbT
  clear hbT hLv hR hX hB h
  go_enter Try.func51, Try.ntmps51
  go_wp2_with fail
  refine HT.out.mono ?_
  rintro e w1 ⟨v, rfl, ho1, hb1⟩
  obtain ⟨A1, c1, rfl, _, hR1⟩ := Rw.of_own ho1
  clear ho1
  go_wp2
  go_loopw [3, 11] (fun v i wr => ∃ (j : Nat), j ≤ L.length ∧ i = .int .i64 j ∧ wr.ownsRow w1.heap.size 3 1 v j ((L.take j).map fun t => .int .i64 (t.1 : Int)) ∧ Below w1.heap.size w1 wr) (fun _ i _ => L.length - (intOf i).toNat)
  case atStart => exact ⟨0, Nat.zero_le _, rfl, own_nil _ _ _ _, Below.refl _ _⟩
  case round =>
    obtain ⟨j, hj, rfl, hoR, hbR⟩ := hrel
    by_cases hlt : j < L.length
    · obtain ⟨b, o, d, rfl, hbl, hd, k0, k1, k2⟩ := (hR1.below hbR).cl hlt
      obtain ⟨y, hy⟩ := hXL d (List.mem_of_getElem? hd)
      rw [hy] at k1
      rw [mkC_get, List.getElem?_eq_getElem hlt] at hd
      injection hd with hd
      have hda : d.a = L[j].1 := by rw [← hd]
      have HD := hide hda
      clear hd hda hy
      go_wp2_with (at_builtin
                   refine app_any _ rfl (.tmp 15) (.tmp 18) _ rfl w1.heap.size 3 _ 1 8 Try.underlying73 info_int_n rfl (by omega) _ _ _ rfl ((hoR.alloc _).alloc _) (some ⟨wr.heap.size + 1, 0, none⟩) 1 1 [.int .i64 (d.a : Int)] rfl ?hr ?h1 ?c1 ?c2 ?c3 ?_
                   case hr => exact Rw.of_blk (t := 3) (cs := #[.int .i64 (d.a : Int)]) (by simpa using Blk.new (wr.alloc _) _ _) rfl (fun j u h => by simpa using h)
                   case h1 => intro u hu; rw [List.mem_singleton] at hu; rw [hu]; rfl
                   case c1 => simp only [maxLen]; omega
                   case c2 => omega
                   case c3 => exact (below_alloc (below_alloc hbR (Nat.le_refl _) _) (Nat.le_refl _) _).size
                   intro v' w' ho' hg' _)
      go_roundw
      case rel =>
        refine ⟨j + 1, by omega, by go_num, ?_, ?_⟩
        · rw [List.take_succ_eq_append_getElem hlt, List.map_append, List.map_singleton, ← HD.out]
          exact ho'
        · exact (below_alloc (below_alloc hbR (Nat.le_refl _) _) (Nat.le_refl _) _).grown hg' (below_alloc (below_alloc hbR (Nat.le_refl _) _) (Nat.le_refl _) _).size (own_base hoR)
      case measure => simp [intOf]; omega
    · have hj' : j = L.length := by omega
      rw [hj', List.take_of_length_le (Nat.le_refl _)] at hoR
      have HO := hide hoR
      clear hj' hoR
      go_wp2
      go_ret
      exact ⟨_, rfl, own_lower HO.out hb1.size, below_then hb1 hbR⟩
set_option maxHeartbeats 1000000 in
set_option maxRecDepth 100000 in
theorem all_n (g k : Nat) (L : Th) (w : World) (h : SlotsAt_n w g k L) :
    Calls Try.prog 72 #[.pointer (some ⟨g, 0, none⟩)] w fun e w' => ∃ v, e = .returned v ∧ w'.ownsRow w.heap.size 51 1 v L.length (L.map fun t => t.2) ∧ Below w.heap.size w w' := by
  have hO := h.ok
  have hXL := h.2.2.2.1
  have hl16 : L.length ≤ 65536 := by have := len_le_of_ok hO; have := pow16 h.2.1; omega
  obtain ⟨A, m, c, hB, hR, hm, hX, -, hLv, -⟩ := h.cells
  have HLv := hide hLv
  have hbT := things_n g _ _ A m c _ w hB hR hX (by omega)
  rw [hLv, mkC_length] at hbT
  have HT := hide hbT
  clear hbT hLv hR hX hB h
  go_enter Try.func72, Try.ntmps72
  go_wp2_with fail
  refine HT.out.mono ?_
  rintro e w1 ⟨v, rfl, ho1, hb1⟩
  obtain ⟨A1, c1, rfl, _, hR1⟩ := Rw.of_own ho1
  clear ho1
  go_wp2
  go_loopw [3, 11] (fun v i wr => ∃ (j : Nat), j ≤ L.length ∧ i = .int .i64 j ∧ wr.ownsRow w1.heap.size 51 1 v j ((L.take j).map fun t => t.2) ∧ Below w1.heap.size w1 wr) (fun _ i _ => L.length - (intOf i).toNat)
  case atStart => exact ⟨0, Nat.zero_le _, rfl, own_nil _ _ _ _, Below.refl _ _⟩
  case round =>
    obtain ⟨j, hj, rfl, hoR, hbR⟩ := hrel
    by_cases hlt : j < L.length
    · obtain ⟨b, o, d, rfl, hbl, hd, k0, k1, k2⟩ := (hR1.below hbR).cl hlt
      obtain ⟨y, hy⟩ := hXL d (List.mem_of_getElem? hd)
      rw [hy] at k1
      rw [mkC_get, List.getElem?_eq_getElem hlt] at hd
      injection hd with hd
      have hda : .pointer y = L[j].2 := by rw [← hy, ← hd]
      have HD := hide hda
      clear hd hda hy
      go_wp2_with (at_builtin
                   refine app_any _ rfl (.tmp 15) (.tmp 18) _ rfl w1.heap.size 51 _ 1 8 Try.underlying44 info_x_n rfl (by omega) _ _ _ rfl ((hoR.alloc _).alloc _) (some ⟨wr.heap.size + 1, 0, none⟩) 1 1 [.pointer y] rfl ?hr ?h1 ?c1 ?c2 ?c3 ?_
                   case hr => exact Rw.of_blk (t := 51) (cs := #[.pointer y]) (by simpa using Blk.new (wr.alloc _) _ _) rfl (fun j u h => by simpa using h)
                   case h1 => intro u hu; rw [List.mem_singleton] at hu; rw [hu]; rfl
                   case c1 => simp only [maxLen]; omega
                   case c2 => omega
                   case c3 => exact (below_alloc (below_alloc hbR (Nat.le_refl _) _) (Nat.le_refl _) _).size
                   intro v' w' ho' hg' _)
      go_roundw
      case rel =>
        refine ⟨j + 1, by omega, by go_num, ?_, ?_⟩
        · rw [List.take_succ_eq_append_getElem hlt, List.map_append, List.map_singleton, ← HD.out]
          exact ho'
        · exact (below_alloc (below_alloc hbR (Nat.le_refl _) _) (Nat.le_refl _) _).grown hg' (below_alloc (below_alloc hbR (Nat.le_refl _) _) (Nat.le_refl _) _).size (own_base hoR)
      case measure => simp [intOf]; omega
    · have hj' : j = L.length := by omega
      rw [hj', List.take_of_length_le (Nat.le_refl _)] at hoR
      have HO := hide hoR
      clear hj' hoR
      go_wp2
      go_ret
      exact ⟨_, rfl, own_lower HO.out hb1.size, below_then hb1 hbR⟩
set_option maxHeartbeats 1000000 in
set_option maxRecDepth 100000 in
theorem from_nil_n (addr : Int) (w : World) :
    Calls Try.prog 68 #[.pointer none, .int .i64 addr] w fun e w' => e = .returned (.tuple #[.int .i64 0, (.pointer none), .bool false]) ∧ w = w' := by
  go_enter Try.func68, Try.ntmps68
  go_wp2
  go_ret3
  exact ⟨rfl, rfl⟩
set_option maxHeartbeats 1000000 in
set_option maxRecDepth 100000 in
theorem places_nil_n (w : World) :
    Calls Try.prog 51 #[.pointer none] w fun e w' => e = .returned (.slice none 0 0) ∧ w = w' := by
  go_enter Try.func51, Try.ntmps51
  go_wp2
  go_ret
  exact ⟨rfl, rfl⟩
set_option maxHeartbeats 1000000 in
set_option maxRecDepth 100000 in
theorem denseM_nil_n (w : World) :
    Calls Try.prog 52 #[.pointer none] w fun e w' => e = .returned (.bool false) ∧ Below w.heap.size w w' := by
  go_enter Try.func52, Try.ntmps52
  go_wp2_with fail
  go_quiet (fail)
  go_wp2
  go_ret
  exact ⟨rfl, below_drewN (Below.refl _ _) _⟩
end
end Go.Proofs.Ytfoapkcgdkfggaa
set_option linter.unusedSimpArgs false
set_option linter.unusedVariables false
namespace Go.Proofs.Ytfoapkcgdkfggaa
open Go.RowKit
/-- A point of k coordinates. -/
def Zp (k : Nat) (p : List Nat) : Prop := p.length = k ∧ ∀ x ∈ p, x < 2 ^ 64
/-- p comes ahead of q. -/
def Zlt (p q : List Nat) : Prop := ∃ a, (∀ b, a < b → addrOf p b = addrOf q b) ∧ addrOf p a < addrOf q a
theorem zlt_irrefl (p : List Nat) : ¬ Zlt p p := by
  rintro ⟨a, _, h⟩
  omega
theorem zlt_trans {p q r : List Nat} (h1 : Zlt p q) (h2 : Zlt q r) : Zlt p r := by
  obtain ⟨a, ha, ha'⟩ := h1
  obtain ⟨b, hb, hb'⟩ := h2
  rcases Nat.lt_trichotomy a b with h | rfl | h
  · exact ⟨b, fun c hc => (ha c (by omega)).trans (hb c hc), by rw [ha b h]; exact hb'⟩
  · exact ⟨a, fun c hc => (ha c hc).trans (hb c hc), Nat.lt_trans ha' hb'⟩
  · exact ⟨a, fun c hc => (ha c hc).trans (hb c (by omega)), by rw [← hb a h]; exact ha'⟩
theorem zlt_asymm {p q : List Nat} (h1 : Zlt p q) (h2 : Zlt q p) : False := zlt_irrefl p (zlt_trans h1 h2)
theorem eq_of_bits {c d : Nat} (hc : c < 2 ^ 64) (hd : d < 2 ^ 64) (h : ∀ a, bit c a = bit d a) : c = d := by
  apply Nat.eq_of_testBit_eq
  intro i
  have := h i
  rw [bit_testBit, bit_testBit] at this
  cases h1 : c.testBit i <;> cases h2 : d.testBit i <;> simp [h1, h2] at this ⊢
theorem eq_of_addr {k : Nat} {p q : List Nat} (hp : Zp k p) (hq : Zp k q) (h : ∀ a, addrOf p a = addrOf q a) : p = q := by
  apply List.ext_getElem (by rw [hp.1, hq.1])
  intro i h1 h2
  apply eq_of_bits (hp.2 _ (List.getElem_mem h1)) (hq.2 _ (List.getElem_mem h2))
  intro a
  exact (addrOf_eq_iff a p q (by rw [hp.1, hq.1])).1 (h a) i h1
theorem part_neg {k : Nat} {p q : List Nat} (hp : Zp k p) (hq : Zp k q) (h : part p q < 0) : p = q := by
  obtain ⟨g1, g2, g3, g4⟩ := part_spec p q (by rw [hp.1, hq.1]) hp.2 hq.2
  exact eq_of_addr hp hq fun a => g3 a (by omega)
theorem part_self {k : Nat} {p : List Nat} (hp : Zp k p) : part p p = -1 := by
  obtain ⟨g1, g2, g3, g4⟩ := part_spec p p rfl hp.2 hp.2
  rcases Int.lt_or_le (part p p) 0 with h | h
  · omega
  · exact absurd rfl (g4 h)
/-- part is known by what it says. -/
theorem part_unique {k : Nat} {p q : List Nat} (hp : Zp k p) (hq : Zp k q) {a : Nat} (h1 : ∀ b, a < b → addrOf p b = addrOf q b) (h2 : addrOf p a ≠ addrOf q a) : part p q = a := by
  obtain ⟨g1, g2, g3, g4⟩ := part_spec p q (by rw [hp.1, hq.1]) hp.2 hq.2
  rcases Int.lt_trichotomy (part p q) a with h | h | h
  · exact absurd (g3 a h) h2
  · exact h
  · exact absurd (h1 (part p q).toNat (by omega)) (g4 (by omega))
theorem cmp_lt {k : Nat} {p q : List Nat} (hp : Zp k p) (hq : Zp k q) : cmp p q = -1 ↔ Zlt p q := by
  obtain ⟨g1, g2, g3, g4⟩ := part_spec p q (by rw [hp.1, hq.1]) hp.2 hq.2
  unfold cmp
  constructor
  · intro h
    split at h
    · omega
    · split at h
      · rename_i h1 h2
        exact ⟨(part p q).toNat, fun b hb => g3 b (by omega), h2⟩
      · omega
  · rintro ⟨a, h1, h2⟩
    have := part_unique hp hq h1 (by omega)
    rw [this, if_neg (by omega), Int.toNat_natCast, if_pos h2]
theorem cmp_eq {k : Nat} {p q : List Nat} (hp : Zp k p) (hq : Zp k q) : cmp p q = 0 ↔ p = q := by
  constructor
  · intro h
    unfold cmp at h
    split at h
    · exact part_neg hp hq (by assumption)
    · split at h <;> omega
  · rintro rfl
    unfold cmp
    rw [part_self hp, if_pos (by omega)]
theorem cmp_gt {k : Nat} {p q : List Nat} (hp : Zp k p) (hq : Zp k q) : cmp p q = 1 ↔ Zlt q p := by
  obtain ⟨g1, g2, g3, g4⟩ := part_spec p q (by rw [hp.1, hq.1]) hp.2 hq.2
  unfold cmp
  constructor
  · intro h
    split at h
    · omega
    · split at h
      · omega
      · rename_i h1 h2
        have := g4 (by omega)
        exact ⟨(part p q).toNat, fun b hb => (g3 b (by omega)).symm, by omega⟩
  · rintro ⟨a, h1, h2⟩
    have := part_unique hp hq (a := a) (fun b hb => (h1 b hb).symm) (by omega)
    rw [this, if_neg (by omega), Int.toNat_natCast, if_neg (by omega)]
theorem cmp_cases (p q : List Nat) : cmp p q = -1 ∨ cmp p q = 0 ∨ cmp p q = 1 := by
  unfold cmp
  split
  · exact .inr (.inl rfl)
  · split
    · exact .inl rfl
    · exact .inr (.inr rfl)
/-- Entries: points and values. -/
abbrev Ent := List Nat × Nat
def Zsorted (l : List Ent) : Prop := l.Pairwise fun e f => Zlt e.1 f.1
theorem sorted_ext : ∀ {l l' : List Ent}, Zsorted l → Zsorted l' → (∀ e, e ∈ l ↔ e ∈ l') → l = l'
  | [], [], _, _, _ => rfl
  | [], e :: l', _, _, h => by have := (h e).2 (List.mem_cons_self); cases this
  | e :: l, [], _, _, h => by have := (h e).1 (List.mem_cons_self); cases this
  | e :: l, f :: l', h1, h2, h => by
    have a1 := List.pairwise_cons.1 h1
    have a2 := List.pairwise_cons.1 h2
    have hef : e = f := by
      have m1 := (h e).1 List.mem_cons_self
      have m2 := (h f).2 List.mem_cons_self
      rcases List.mem_cons.1 m1 with m1 | m1
      · exact m1
      · rcases List.mem_cons.1 m2 with m2 | m2
        · exact m2.symm
        · exact absurd (a1.1 f m2) (fun h3 => zlt_asymm h3 (a2.1 e m1))
    subst hef
    congr 1
    apply sorted_ext a1.2 a2.2
    intro g
    constructor
    · intro hg
      rcases List.mem_cons.1 ((h g).1 (List.mem_cons_of_mem _ hg)) with h3 | h3
      · subst h3; exact absurd (a1.1 _ hg) (zlt_irrefl _)
      · exact h3
    · intro hg
      rcases List.mem_cons.1 ((h g).2 (List.mem_cons_of_mem _ hg)) with h3 | h3
      · subst h3; exact absurd (a2.1 _ hg) (zlt_irrefl _)
      · exact h3
def minL : List Nat → Nat
  | [] => 0
  | v :: vs => vs.foldl Nat.min v
def maxL (l : List Nat) : Nat := l.foldl Nat.max 0
structure Sum4 where
  c : Nat
  s : Nat
  mn : Nat
  mx : Nat
def sumsOf (es : List Ent) : Sum4 := ⟨es.length % 2 ^ 64, (es.map (·.2)).sum % 2 ^ 64, minL (es.map (·.2)), maxL (es.map (·.2))⟩
def Sum4.join (a b : Sum4) : Sum4 := ⟨(a.c + b.c) % 2 ^ 64, (a.s + b.s) % 2 ^ 64, Nat.min a.mn b.mn, Nat.max a.mx b.mx⟩
theorem foldl_min_le (l : List Nat) (a : Nat) : l.foldl Nat.min a ≤ a ∧ (∀ x ∈ l, l.foldl Nat.min a ≤ x) ∧ (l.foldl Nat.min a = a ∨ l.foldl Nat.min a ∈ l) := by
  induction l generalizing a with
  | nil => exact ⟨Nat.le_refl _, fun x h => (by cases h), .inl rfl⟩
  | cons v vs ih =>
    obtain ⟨h1, h2, h3⟩ := ih (Nat.min a v)
    have ha : Nat.min a v ≤ a := Nat.min_le_left _ _
    have hv : Nat.min a v ≤ v := Nat.min_le_right _ _
    refine ⟨Nat.le_trans h1 ha, fun x hx => ?_, ?_⟩
    · rcases List.mem_cons.1 hx with rfl | hx
      · exact Nat.le_trans h1 hv
      · exact h2 x hx
    · rcases h3 with h3 | h3
      · rw [List.foldl_cons, h3]
        rcases Nat.le_total a v with h | h
        · exact .inl (Nat.min_eq_left h)
        · exact .inr (by rw [show Nat.min a v = v from Nat.min_eq_right h]; exact List.mem_cons_self)
      · exact .inr (List.mem_cons_of_mem _ h3)
theorem foldl_max_ge (l : List Nat) (a : Nat) : a ≤ l.foldl Nat.max a ∧ (∀ x ∈ l, x ≤ l.foldl Nat.max a) ∧ (l.foldl Nat.max a = a ∨ l.foldl Nat.max a ∈ l) := by
  induction l generalizing a with
  | nil => exact ⟨Nat.le_refl _, fun x h => (by cases h), .inl rfl⟩
  | cons v vs ih =>
    obtain ⟨h1, h2, h3⟩ := ih (Nat.max a v)
    have ha : a ≤ Nat.max a v := Nat.le_max_left _ _
    have hv : v ≤ Nat.max a v := Nat.le_max_right _ _
    refine ⟨Nat.le_trans ha h1, fun x hx => ?_, ?_⟩
    · rcases List.mem_cons.1 hx with rfl | hx
      · exact Nat.le_trans hv h1
      · exact h2 x hx
    · rcases h3 with h3 | h3
      · rw [List.foldl_cons, h3]
        rcases Nat.le_total a v with h | h
        · exact .inr (by rw [show Nat.max a v = v from Nat.max_eq_right h]; exact List.mem_cons_self)
        · exact .inl (Nat.max_eq_left h)
      · exact .inr (List.mem_cons_of_mem _ h3)
theorem minL_append {l m : List Nat} (hl : l ≠ []) (hm : m ≠ []) : minL (l ++ m) = Nat.min (minL l) (minL m) := by
  obtain ⟨v, vs, rfl⟩ := List.exists_cons_of_ne_nil hl
  obtain ⟨u, us, rfl⟩ := List.exists_cons_of_ne_nil hm
  show (vs ++ u :: us).foldl Nat.min v = Nat.min (vs.foldl Nat.min v) (us.foldl Nat.min u)
  rw [List.foldl_append, List.foldl_cons]
  generalize vs.foldl Nat.min v = a
  obtain ⟨g1, g2, g3⟩ := foldl_min_le us (Nat.min a u)
  obtain ⟨h1, h2, h3⟩ := foldl_min_le us u
  have k1 : Nat.min a u ≤ a := Nat.min_le_left _ _
  have k2 : Nat.min a u ≤ u := Nat.min_le_right _ _
  apply Nat.le_antisymm
  · apply Nat.le_min.2
    refine ⟨Nat.le_trans g1 k1, ?_⟩
    rcases h3 with h3 | h3
    · rw [h3]; exact Nat.le_trans g1 k2
    · exact g2 _ h3
  · rcases g3 with g3 | g3
    · rw [g3]
      apply Nat.le_min.2
      exact ⟨Nat.min_le_left _ _, Nat.le_trans (Nat.min_le_right _ _) h1⟩
    · exact Nat.le_trans (Nat.min_le_right _ _) (h2 _ g3)
theorem maxL_append (l m : List Nat) : maxL (l ++ m) = Nat.max (maxL l) (maxL m) := by
  unfold maxL
  rw [List.foldl_append]
  generalize l.foldl Nat.max 0 = a
  obtain ⟨g1, g2, g3⟩ := foldl_max_ge m a
  obtain ⟨h1, h2, h3⟩ := foldl_max_ge m 0
  apply Nat.le_antisymm
  · rcases g3 with g3 | g3
    · rw [g3]; exact Nat.le_max_left _ _
    · exact Nat.le_trans (h2 _ g3) (Nat.le_max_right _ _)
  · apply Nat.max_le.2
    refine ⟨g1, ?_⟩
    rcases h3 with h3 | h3
    · rw [h3]; omega
    · exact g2 _ h3
theorem sumsOf_append {l m : List Ent} (hl : l ≠ []) (hm : m ≠ []) : sumsOf (l ++ m) = (sumsOf l).join (sumsOf m) := by
  unfold sumsOf Sum4.join
  simp only [List.map_append, List.length_append, List.sum_append, maxL_append]
  rw [minL_append (by simpa using hl) (by simpa using hm)]
  congr 1
  · omega
  · omega
theorem sumsOf_one (p : List Nat) (v : Nat) (hv : v < 2 ^ 64) : sumsOf [(p, v)] = ⟨1, v, v, v⟩ := by
  have h1 : v % 2 ^ 64 = v := Nat.mod_eq_of_lt hv
  have h2 : maxL [v] = v := by unfold maxL; simp
  show Sum4.mk (1 % 2 ^ 64) ((v + 0) % 2 ^ 64) v (maxL [v]) = _
  rw [Nat.add_zero, h1, h2]
def rightB (n : Nat) : Bool := decide (1 ≤ n ∧ n ≤ 16)
def levelB (n : Int) : Bool := decide (0 ≤ n ∧ n < 64)
theorem i64_or_even (y b : Nat) (hy : y < 65536) (hb : b < 2) : bits .or .i64 ((y : Int) * 2) (b : Int) = ((2 * y + b : Nat) : Int) := by
  rw [← even_or y b hb, show ((y : Int) * 2) = ((2 * y : Nat) : Int) by omega]
  have hx : 2 * y ||| b < 2 ^ 63 := Nat.or_lt_two_pow (by omega) (by omega)
  show IntKind.i64.wrap ((BitVec.ofInt 64 ((2 * y : Nat) : Int) ||| BitVec.ofInt 64 (b : Int)).toNat : Int) = _
  have h1 : ∀ a : Nat, a < 9223372036854775808 → (BitVec.ofInt 64 (a : Int)).toNat = a := fun a ha => by
    rw [BitVec.ofInt_natCast, BitVec.toNat_ofNat]; exact Nat.mod_eq_of_lt (by omega)
  rw [BitVec.toNat_or, h1 _ (by omega), h1 _ (by omega), IntKind.wrap_i64]
  omega
theorem shr_nat (z at_ : Nat) : (z : Int) / 2 ^ at_ = ((z / 2 ^ at_ : Nat) : Int) := by push_cast; rfl
theorem and_bit (z at_ : Nat) (hz : z < 18446744073709551616) : wrap64 (bits .and .u64 ((z : Int) / 2 ^ at_) 1) = (bit z at_ : Nat) := by
  have h1 : z / 2 ^ at_ ≤ z := Nat.div_le_self _ _
  have h2 := bit_lt z at_
  rw [shr_nat, show (1 : Int) = ((1 : Nat) : Int) by rfl, u64_and_nat _ _ (by omega) (by omega), Nat.and_one_is_mod]
  change bit z at_ < 2 at h2
  unfold bit at *
  unfold wrap64
  omega
set_option maxHeartbeats 400000 in
theorem zb_right (A : Option Addr) (n c : Nat) (w : World) :
    Calls Try.prog 60 #[.slice A n c] w fun e w' => e = .returned (.bool (rightB n)) ∧ w = w' := by
  by_cases h1 : 1 ≤ n
  · by_cases h2 : n ≤ 16
    · go_enter Try.func60, Try.ntmps60
      go_wp2
      go_ret
      exact ⟨retB (boolI (by simp [rightB]; omega)), rfl⟩
    · go_enter Try.func60, Try.ntmps60
      go_wp2
      go_ret
      exact ⟨retB (boolI (by simp [rightB]; omega)), rfl⟩
  · go_enter Try.func60, Try.ntmps60
    go_wp2
    go_ret
    exact ⟨retB (boolI (by simp [rightB]; omega)), rfl⟩
set_option maxHeartbeats 400000 in
theorem zb_level (n : Int) (w : World) :
    Calls Try.prog 69 #[.int .i64 n] w fun e w' => e = .returned (.bool (levelB n)) ∧ w = w' := by
  by_cases h1 : 0 ≤ n
  · go_enter Try.func69, Try.ntmps69
    go_wp2
    go_ret
    exact ⟨retB (boolI (by simp [levelB]; omega)), rfl⟩
  · go_enter Try.func69, Try.ntmps69
    go_wp2
    go_ret
    exact ⟨retB (boolI (by simp [levelB]; omega)), rfl⟩
set_option maxHeartbeats 400000 in
theorem zb_addr (A : Option Addr) (n : Nat) (p : List Nat) (c : Nat) (at_ : Nat) (w : World) (hp : Pt w A n p) (h1 : 1 ≤ n) (h2 : n ≤ 16) (hat : at_ < 64) :
    Calls Try.prog 44 #[.slice A n c, .int .i64 at_] w fun e w' => e = .returned (.tuple #[.int .i64 (addrOf p at_ : Nat), .int .i64 0]) ∧ w = w' := by
  have e1 : rightB n = true := by simp [rightB, h1, h2]
  have e2 : levelB at_ = true := by simp [levelB]; omega
  go_enter Try.func44, Try.ntmps44
  go_wp2_with (first | (go_at_call 60; refine (zb_right _ _ _ _).mono ?_; rintro e w' ⟨rfl, rfl⟩) | (go_at_call 69; refine (zb_level _ _).mono ?_; rintro e w' ⟨rfl, rfl⟩))
  go_loop [6, 19] (fun x i => ∃ (k : Nat), k ≤ n ∧ i = .int .i64 k ∧ x = .int .i64 (addrOf (p.take k) at_ : Nat)) (fun _ i => n - (intOf i).toNat)
  case atStart => exact ⟨0, by omega, rfl, rfl⟩
  case round =>
    obtain ⟨k, hk, rfl, rfl⟩ := hrel
    have hy1 := addrOf_le (p.take k) at_ (by have := hp.len; simp; omega)
    by_cases hlt : k < n
    · obtain ⟨b, o, z, rfl, hb, hz, hzl, hc⟩ := hp.at_ hlt
      have hS := hide (addrOf_take? p at_ k z hz)
      clear hz
      generalize addrOf (p.take k) at_ = y at *
      go_wp2
      go_round
      case rel =>
        refine ⟨k + 1, by omega, by go_num, ?_⟩
        rw [hS.out, and_bit z at_ hzl, i64_or_even y _ (by omega) (bit_lt _ _)]
      case measure => simp [intOf]; omega
    · go_wp2
      go_ret2
      rw [List.take_of_length_le (by have := hp.len; omega)]
      exact ⟨rfl, rfl⟩
theorem info_u64 : (Try.prog.info? 36).map (fun i => (i.zero, i.size, i.bytes)) = some (some (.int .u64 0), 1, 8) := by kernel_rfl
theorem u64s_one (p : List Nat) : ∀ u ∈ u64s p, u.oneCell' = true := by
  intro u hu
  simp only [u64s, List.mem_map] at hu
  obtain ⟨x, _, rfl⟩ := hu
  rfl
theorem Pt.of_own {w : World} {base n : Nat} {v : Value} {p : List Nat} (h : w.ownsRow base 36 1 v n (u64s p)) (hl : p.length = n) (hb : ∀ x ∈ p, x < 2 ^ 64) : ∃ A c, v = .slice A n c ∧ Pt w A n p := by
  obtain ⟨A, c, rfl, _, h⟩ := Rw.of_own h
  exact ⟨A, c, rfl, hl, h, hb⟩
theorem own_empty (w : World) (e : TypeId) (sz : Nat) : (w.alloc (.cells #[] e)).ownsRow w.heap.size e sz (.slice (some ⟨w.heap.size, 0, none⟩) 0 0) 0 [] :=
  ⟨by simp, .inr ⟨w.heap.size, 0, #[], rfl, Nat.le_refl _, heap_alloc_new w _, Nat.le_refl _, by simp, by simp, by simp⟩⟩
set_option maxHeartbeats 400000 in
set_option maxRecDepth 100000 in
theorem clone_u64 (A : Option Addr) (n c : Nat) (p : List Nat) (w : World) (hp : Pt w A n p) (hn : n ≤ 1000000) :
    Calls Try.prog 50 #[.slice A n c] w fun e w' => ∃ v, e = .returned v ∧ w'.ownsRow w.heap.size 36 1 v n (u64s p) ∧ Below w.heap.size w w' := by
  rcases A with _ | ad
  · have hn0 : n = 0 := by
      rcases Nat.eq_zero_or_pos n with h | h
      · exact h
      · obtain ⟨b, o, h', _⟩ := hp.2.1.2 h
        cases h'
    subst hn0
    have hp0 : p = [] := List.eq_nil_of_length_eq_zero hp.1
    subst hp0
    have h0 := Lib.run_eql_slice_nil (P := Try.prog) w 35 36 none 0 c 0 0 Try.underlying35
    simp only [Option.isNone] at h0
    go_enter Try.func50, Try.ntmps50
    go_wp2
    go_ret
    exact ⟨_, rfl, own_nil _ _ _ _, Below.refl _ _⟩
  · have h0 := Lib.run_eql_slice_nil (P := Try.prog) w 35 36 (some ad) n c 0 0 Try.underlying35
    simp only [Option.isNone] at h0
    have hw : Below w.heap.size w (w.alloc (.cells #[] 36)) := (Below.refl _ _).alloc (Nat.le_refl _) _
    have hr := hp.2.1.below hw
    go_enter Try.func50, Try.ntmps50
    go_wp2_with (at_builtin
                 refine app_any _ rfl (.tmp 5) (.tmp 6) _ rfl w.heap.size 36 _ 1 8 Try.underlying35 info_u64 rfl (by omega) (.slice (some ⟨w.heap.size, 0, none⟩) 0 0) 0 [] rfl (own_empty w _ 1) (some ad) n c (u64s p) rfl hr (u64s_one p) ?c1 ?c2 ?c3 ?_
                 case c1 => simp only [maxLen]; omega
                 case c2 => omega
                 case c3 => exact hw.size
                 intro v' w' ho hg _)
    go_ret
    exact ⟨_, rfl, by simpa using ho, hw.grown hg hw.size (own_base (own_empty w 36 1))⟩
theorem bits_Len64 (x : Int) (w : World) (h0 : 0 ≤ x) (h1 : x ≤ 18446744073709551615) :
    Calls Try.prog 80 #[.int .u64 x] w fun e w' => e = .returned (.int .i64 (Lib.bitLen x.toNat)) ∧ w = w' :=
  (Any.bits_Len64 (P := Try.prog) (ρ := ⟨fun | 129 => 80 | n => n, fun | 53 => 36 | 3 => 3 | 4 => 4 | 46 => 124 | 5 => 5 | 9 => 9 | n => n, fun | n => n⟩) {
    mixed := by kernel_rfl
    f129 := Try.func80.trans (congrArg some (by kernel_rfl))
    t3 := Try.underlying3
    a3 := Try.isAgg3
    z3 := Try.sizeOf3
    v3 := Try.zeroValue3
    t4 := Try.underlying4
    a4 := Try.isAgg4
    z4 := Try.sizeOf4
    v4 := Try.zeroValue4
    t5 := Try.underlying5
    a5 := Try.isAgg5
    z5 := Try.sizeOf5
    v5 := Try.zeroValue5
    t9 := Try.underlying9
    a9 := Try.isAgg9
    z9 := Try.sizeOf9
    v9 := Try.zeroValue9
    t46 := Try.underlying124
    a46 := Try.isAgg124
    z46 := Try.sizeOf124
    v46 := Try.zeroValue124
    t53 := Try.underlying36
    a53 := Try.isAgg36
    z53 := Try.sizeOf36
    v53 := Try.zeroValue36 } x w h0 h1).mono fun _ _ ⟨h, k⟩ => ⟨h, k.symm⟩
set_option maxHeartbeats 400000 in
set_option maxRecDepth 100000 in
theorem zb_part (A B : Option Addr) (n c d : Nat) (p q : List Nat) (w : World) (hp : Pt w A n p) (hq : Pt w B n q) (h1 : 1 ≤ n) (h2 : n ≤ 16) :
    Calls Try.prog 61 #[.slice A n c, .slice B n d] w fun e w' => e = .returned (.tuple #[.int .i64 (part p q), .int .i64 0]) ∧ w = w' := by
  have e1 : rightB n = true := by simp [rightB, h1, h2]
  go_enter Try.func61, Try.ntmps61
  go_wp2_with (go_at_call 60; refine (zb_right _ _ _ _).mono ?_; rintro e w' ⟨rfl, rfl⟩)
  go_loop [6, 21] (fun x i => ∃ (k : Nat), k ≤ n ∧ i = .int .i64 k ∧ x = .int .u64 (orx (p.take k) (q.take k) : Nat)) (fun _ i => n - (intOf i).toNat)
  case atStart => exact ⟨0, by omega, rfl, rfl⟩
  case round =>
    obtain ⟨k, hk, rfl, rfl⟩ := hrel
    have hy1 := orx_lt (p.take k) (q.take k) (fun x hx => hp.2.2 x (List.mem_of_mem_take hx)) (fun x hx => hq.2.2 x (List.mem_of_mem_take hx))
    by_cases hlt : k < n
    · obtain ⟨b, o, z, rfl, hb, hz, hzl, hc⟩ := hp.at_ hlt
      obtain ⟨b', o', z', rfl, hb', hz', hzl', hc'⟩ := hq.at_ hlt
      have hS := hide (orx_take? p q k z z' hz hz')
      clear hz hz'
      generalize orx (p.take k) (q.take k) = y at *
      go_wp2
      go_round
      case rel =>
        refine ⟨k + 1, by omega, by go_num, ?_⟩
        rw [hS.out, u64_xor_nat _ _ hzl hzl', u64_or_nat _ _ hy1 (Nat.xor_lt_two_pow (n := 64) hzl hzl')]
      case measure => simp [intOf]; omega
    · have hy2 : orx (p.take k) (q.take k) = orx p q := by
        rw [List.take_of_length_le (by have := hp.len; omega), List.take_of_length_le (by have := hq.len; omega)]
      rw [hy2] at hy1 ⊢
      clear hy2
      generalize hy : orx p q = y at *
      have HY := hide hy
      clear hy
      have h3 := (bitLen_spec y hy1).2.2
      go_wp2_with (go_at_call 80; refine (bits_Len64 _ _ (by omega) (by omega)).mono ?_; rintro e w' ⟨rfl, rfl⟩)
      go_ret2
      refine ⟨?_, rfl⟩
      unfold part
      rw [HY.out]
      rfl
def aboveN (m : Nat) : Nat := 18446744073709551615 * 2 ^ m % 18446744073709551616
def cutc (m c : Nat) : Nat := c / 2 ^ m * 2 ^ m
theorem and_above (m c : Nat) (hc : c < 2 ^ 64) : c &&& aboveN m = cutc m c := by
  apply Nat.eq_of_testBit_eq
  intro i
  unfold aboveN cutc
  rw [Nat.testBit_and, show (18446744073709551616 : Nat) = 2 ^ 64 by rfl, show (18446744073709551615 : Nat) = 2 ^ 64 - 1 by rfl, Nat.testBit_mod_two_pow, Nat.mul_comm (2 ^ 64 - 1), Nat.testBit_two_pow_mul, Nat.testBit_two_pow_sub_one, Nat.mul_comm, Nat.testBit_two_pow_mul, Nat.testBit_div_two_pow]
  by_cases h1 : m ≤ i
  · rw [show i - m + m = i by omega]
    by_cases h2 : i < 64
    · have : i - m < 64 := by omega
      simp [h1, h2, this]
    · have : c.testBit i = false := Nat.testBit_lt_two_pow (Nat.lt_of_lt_of_le hc (pow_len_le (by omega)))
      simp [this]
  · simp [h1]
theorem cutc_lt (m c : Nat) (hc : c < 2 ^ 64) : cutc m c < 2 ^ 64 := Nat.lt_of_le_of_lt (Nat.div_mul_le_self _ _) hc
def cut (m : Nat) (p : List Nat) : List Nat := p.map (cutc m)
set_option maxHeartbeats 400000 in
theorem zb_above (m : Nat) (h2 : m ≤ 64) (w : World) :
    Calls Try.prog 86 #[.int .i64 ((m : Int) - 1)] w fun e w' => e = .returned (.int .u64 (aboveN m : Nat)) ∧ w = w' := by
  by_cases h3 : m = 64
  · subst h3
    go_enter Try.func86, Try.ntmps86
    go_wp2
    go_ret
    exact ⟨rfl, rfl⟩
  · have e1 : (((m : Int) - 1) == 63) = false := by simp; omega
    
    go_enter Try.func86, Try.ntmps86
    go_wp2
    go_ret
    exact ⟨retI (by unfold aboveN; simp [IntKind.wrap, IntKind.signed, IntKind.bits]), rfl⟩
theorem u64s_set (p : List Nat) (m k z : Nat) (hz : p[k]? = some z) : (u64s (cut m (p.take k) ++ p.drop k)).set k (.int .u64 (cutc m z : Nat)) = u64s (cut m (p.take (k + 1)) ++ p.drop (k + 1)) := by
  obtain ⟨hk, rfl⟩ := List.getElem?_eq_some_iff.1 hz
  rw [List.take_succ_eq_append_getElem hk, List.drop_eq_getElem_cons hk]
  unfold u64s cut
  simp only [List.map_append, List.map_cons, List.map_nil, List.append_assoc, List.singleton_append]
  rw [List.set_append_right _ _ (by simp; omega)]
  simp [Nat.min_eq_left (Nat.le_of_lt hk)]
theorem u64s_at (p : List Nat) (m k z : Nat) (hz : p[k]? = some z) : (u64s (cut m (p.take k) ++ p.drop k))[k]? = some (.int .u64 (z : Int)) := by
  obtain ⟨hk, rfl⟩ := List.getElem?_eq_some_iff.1 hz
  unfold u64s cut
  rw [List.getElem?_map, List.getElem?_append_right (by simp; omega)]
  simp [Nat.min_eq_left (Nat.le_of_lt hk), hk]
set_option maxHeartbeats 400000 in
set_option maxRecDepth 100000 in
theorem zb_cut (A : Option Addr) (n c : Nat) (p : List Nat) (m : Nat) (w : World) (hp : Pt w A n p) (h1 : 1 ≤ n) (h2 : n ≤ 16) (hm : m ≤ 64) :
    Calls Try.prog 65 #[.slice A n c, .int .i64 ((m : Int) - 1)] w fun e w' => ∃ v, e = .returned (.tuple #[v, .int .i64 0]) ∧ w'.ownsRow w.heap.size 36 1 v n (u64s (cut m p)) ∧ Below w.heap.size w w' := by
  have e1 : rightB n = true := by simp [rightB, h1, h2]
  have hl := hp.len
  have HL := hide hl
  clear hl
  rcases Nat.lt_or_ge 0 m with hm0 | hm0
  · have e2 : (((m : Int) - 1) != -1) = true := by simp; omega
    have e3 : levelB ((m : Int) - 1) = true := by simp [levelB]; omega
    go_enter Try.func65, Try.ntmps65
    go_wp2_with (first | (go_at_call 60; refine (zb_right _ _ _ _).mono ?_; rintro e w' ⟨rfl, rfl⟩) | (go_at_call 69; refine (zb_level _ _).mono ?_; rintro e w' ⟨rfl, rfl⟩) | (go_at_call 50; refine (clone_u64 _ _ _ p _ hp (by omega)).mono ?_; rintro e w1 ⟨v, rfl, ho, hb⟩; obtain ⟨g, cap, hv, hg1, hg2⟩ := ho.form (by omega); subst hv))
    go_loopw [24] (fun i wr => ∃ (k : Nat), k ≤ n ∧ i = .int .i64 k ∧ wr.ownsRow w.heap.size 36 1 (.slice (some ⟨g, 0, none⟩) n cap) n (u64s (cut m (p.take k) ++ p.drop k)) ∧ Below w.heap.size w wr) (fun i _ => n - (intOf i).toNat)
    case atStart => exact ⟨0, by omega, rfl, by simpa [cut] using ho, hb⟩
    case round =>
      obtain ⟨k, hk, rfl, hoR, hbR⟩ := hrel
      clear ho hb
      by_cases hlt : k < n
      · obtain ⟨z, hz, hzl⟩ := hp.z_ hlt
        have hc := (hoR.cellAt k (by omega)).trans (u64s_at p m k z hz)
        have hf := hoR.frozenAt k
        have hst := hide (hoR.stored k (.int .u64 (cutc m z : Nat)))
        have hab := and_above m z hzl
        have HZ := hide hz
        clear hz hoR
        go_wp2
        go_still_tail 8, (by kernel_rfl)
        still_call (still_of (zb_above m hm _))
        repeat still_step
        refine wpStill_nil ?_
        change wpList _ _ _ _ _ wr.drew
        go_wp2
        go_roundw
        case rel =>
          refine ⟨k + 1, by omega, by go_num, ?_, ?_⟩
          · rw [u64_and_nat z (aboveN m) hzl (Nat.mod_lt _ (by omega)), hab]
            have := hst.out.1
            rw [u64s_set p m k z HZ.out] at this
            exact this.drew
          · exact (hbR.setCell (p := ⟨g, k, none⟩) hg1 _).drew
        case measure => simp [intOf]; omega
      · have hk' : k = n := by omega
        subst hk'
        go_wp2
        go_ret2
        refine ⟨_, rfl, ?_, hbR⟩
        have hl := HL.out
        rw [List.take_of_length_le (by omega), List.drop_of_length_le (by omega), List.append_nil] at hoR
        exact hoR
  · have e2 : (((m : Int) - 1) != -1) = false := by simp; omega
    go_enter Try.func65, Try.ntmps65
    go_wp2_with (first | (go_at_call 60; refine (zb_right _ _ _ _).mono ?_; rintro e w' ⟨rfl, rfl⟩) | (go_at_call 69; refine (zb_level _ _).mono ?_; rintro e w' ⟨rfl, rfl⟩) | (go_at_call 50; refine (clone_u64 _ _ _ p _ hp (by omega)).mono ?_; rintro e w1 ⟨v, rfl, ho, hb⟩; obtain ⟨g, cap, hv, hg1, hg2⟩ := ho.form (by omega); subst hv))
    go_loopw [24] (fun i wr => ∃ (k : Nat), k ≤ n ∧ i = .int .i64 k ∧ wr.ownsRow w.heap.size 36 1 (.slice (some ⟨g, 0, none⟩) n cap) n (u64s (cut m (p.take k) ++ p.drop k)) ∧ Below w.heap.size w wr) (fun i _ => n - (intOf i).toNat)
    case atStart => exact ⟨0, by omega, rfl, by simpa [cut] using ho, hb⟩
    case round =>
      obtain ⟨k, hk, rfl, hoR, hbR⟩ := hrel
      clear ho hb
      by_cases hlt : k < n
      · obtain ⟨z, hz, hzl⟩ := hp.z_ hlt
        have hc := (hoR.cellAt k (by omega)).trans (u64s_at p m k z hz)
        have hf := hoR.frozenAt k
        have hst := hide (hoR.stored k (.int .u64 (cutc m z : Nat)))
        have hab := and_above m z hzl
        have HZ := hide hz
        clear hz hoR
        go_wp2
        go_still_tail 8, (by kernel_rfl)
        still_call (still_of (zb_above m hm _))
        repeat still_step
        refine wpStill_nil ?_
        change wpList _ _ _ _ _ wr.drew
        go_wp2
        go_roundw
        case rel =>
          refine ⟨k + 1, by omega, by go_num, ?_, ?_⟩
          · rw [u64_and_nat z (aboveN m) hzl (Nat.mod_lt _ (by omega)), hab]
            have := hst.out.1
            rw [u64s_set p m k z HZ.out] at this
            exact this.drew
          · exact (hbR.setCell (p := ⟨g, k, none⟩) hg1 _).drew
        case measure => simp [intOf]; omega
      · have hk' : k = n := by omega
        subst hk'
        go_wp2
        go_ret2
        refine ⟨_, rfl, ?_, hbR⟩
        have hl := HL.out
        rw [List.take_of_length_le (by omega), List.drop_of_length_le (by omega), List.append_nil] at hoR
        exact hoR
end Go.Proofs.Ytfoapkcgdkfggaa
set_option linter.unusedSimpArgs false
set_option linter.unusedVariables false
namespace Go.Proofs.Ytfoapkcgdkfggaa
open Go.RowKit
/-- A kid: where it hangs, its block, its level, its prefix, its entries. -/
structure Kid where
  at_ : Nat
  blk : Nat
  lv : Int
  pre : List Nat
  es : List Ent
def kidTh (ks : List Kid) : Th := ks.map fun q => (q.at_, Value.pointer (some ⟨q.blk, 0, none⟩))
def kidEs (ks : List Kid) : List Ent := ks.flatMap (·.es)
/-- The node's block. -/
def nodeCells (lv : Int) (A : Option Addr) (k c : Nat) (v : Nat) (kids : Option Addr) (s : Sum4) : Array Value :=
  #[.int .i64 lv, .slice A k c, .int .u64 (v : Int), .pointer kids, .int .u64 (s.c : Int), .int .u64 (s.s : Int), .int .u64 (s.mn : Int), .int .u64 (s.mx : Int)]
/-- Block g is a node of k coordinates, with level, prefix and entries. -/
inductive NodeOf (w : World) (k : Nat) : Nat → Int → List Nat → List Ent → Prop
  | leaf {g : Nat} {A : Option Addr} {c : Nat} {p : List Nat} {v : Nat} (hv : v < 2 ^ 64) (hp : Pt w A k p) (hc : k ≤ c)
      (hB : Blk w g 103 (nodeCells (-1) A k c v none ⟨1, v, v, v⟩)) : NodeOf w k g (-1) p [(p, v)]
  | fork {g : Nat} {A : Option Addr} {c lv : Nat} {pre : List Nat} {gs : Nat} (ks : List Kid) (hlv : lv < 64) (hp : Pt w A k pre) (hc : k ≤ c)
      (hz : ∀ b, b ≤ lv → addrOf pre b = 0) (hk : ∀ q ∈ ks, NodeOf w k q.blk q.lv q.pre q.es) (hl : ∀ q ∈ ks, q.lv < lv)
      (ha : ∀ q ∈ ks, addrOf q.pre lv = q.at_ ∧ ∀ b, lv < b → addrOf q.pre b = addrOf pre b) (hs : ks.Pairwise fun q r => q.at_ < r.at_) (h2 : 2 ≤ ks.length)
      (hS : SlotsAt_n w gs k (kidTh ks)) (hB : Blk w g 103 (nodeCells lv A k c 0 (some ⟨gs, 0, none⟩) (sumsOf (kidEs ks)))) : NodeOf w k g lv pre (kidEs ks)
theorem NodeOf.stay {w w' : World} {k g : Nat} {lv : Int} {pre : List Nat} {es : List Ent} (h : NodeOf w k g lv pre es) (hb : Below w.heap.size w w') : NodeOf w' k g lv pre es := by
  induction h with
  | leaf hv hp hc hB => exact .leaf hv (hp.below hb) hc (hB.below hb)
  | fork ks hlv hp hc hz hk hl ha hs h2 hS hB ih => exact .fork ks hlv (hp.below hb) hc hz ih hl ha hs h2 (hS.below hb) (hB.below hb)
theorem Pt.zp {w : World} {A : Option Addr} {k : Nat} {p : List Nat} (h : Pt w A k p) : Zp k p := ⟨h.1, h.2.2⟩
/-- What is told of a node's entries. -/
theorem NodeOf.info {w : World} {k g : Nat} {lv : Int} {pre : List Nat} {es : List Ent} (h : NodeOf w k g lv pre es) :
    Zp k pre ∧ es ≠ [] ∧ -1 ≤ lv ∧ lv < 64 ∧ (∀ e ∈ es, Zp k e.1 ∧ e.2 < 2 ^ 64 ∧ ∀ b : Nat, lv < b → addrOf e.1 b = addrOf pre b) ∧ Zsorted es ∧ g < w.heap.size := by
  induction h with
  | leaf hv hp hc hB =>
    refine ⟨hp.zp, by simp, by omega, by omega, fun e he => ?_, List.pairwise_singleton _ _, hB.lt⟩
    rw [List.mem_singleton] at he
    subst he
    exact ⟨hp.zp, hv, fun _ _ => rfl⟩
  | @fork g A c lv pre gs ks hlv hp hc hz hk hl ha hs h2 hS hB ih =>
    refine ⟨hp.zp, ?_, by omega, by omega, fun e he => ?_, ?_, hB.lt⟩
    · obtain ⟨q, qs, rfl⟩ := List.exists_cons_of_length_pos (show 0 < ks.length by omega)
      have := (ih q List.mem_cons_self).2.1
      unfold kidEs
      rw [List.flatMap_cons]
      intro h0
      exact this (List.append_eq_nil_iff.1 h0).1
    · obtain ⟨q, hq, he⟩ := List.mem_flatMap.1 he
      obtain ⟨i1, i2, i3, i4, i5, i6⟩ := ih q hq
      obtain ⟨j1, j2, j3⟩ := i5 e he
      refine ⟨j1, j2, fun b hb => ?_⟩
      rw [j3 b (by have := hl q hq; omega)]
      exact (ha q hq).2 b (by omega)
    · unfold kidEs Zsorted
      rw [List.pairwise_flatMap]
      refine ⟨fun q hq => (ih q hq).2.2.2.2.2.1, ?_⟩
      refine hs.imp_of_mem ?_
      intro q r hq hr hqr e he f hf
      obtain ⟨_, _, _, _, i5, _⟩ := ih q hq
      obtain ⟨_, _, _, _, k5, _⟩ := ih r hr
      refine ⟨lv, fun b hb => ?_, ?_⟩
      · rw [(i5 e he).2.2 b (by have := hl q hq; omega), (k5 f hf).2.2 b (by have := hl r hr; omega), (ha q hq).2 b hb, (ha r hr).2 b hb]
      · rw [(i5 e he).2.2 lv (hl q hq), (k5 f hf).2.2 lv (hl r hr), (ha q hq).1, (ha r hr).1]
        exact hqr
/-- A node's own block. -/
theorem NodeOf.head {w : World} {k g : Nat} {lv : Int} {pre : List Nat} {es : List Ent} (h : NodeOf w k g lv pre es) :
    ∃ A c v kids, Blk w g 103 (nodeCells lv A k c v kids (sumsOf es)) ∧ Pt w A k pre ∧ k ≤ c ∧
      ((kids = none ∧ lv = -1 ∧ es = [(pre, v)]) ∨
       (v = 0 ∧ ∃ (gs : Nat) (m : Nat) (ks : List Kid), kids = some ⟨gs, 0, none⟩ ∧ lv = (m : Int) ∧ m < 64 ∧ es = kidEs ks ∧ SlotsAt_n w gs k (kidTh ks) ∧ 2 ≤ ks.length ∧ (∀ b, b ≤ m → addrOf pre b = 0) ∧ (ks.Pairwise fun q r => q.at_ < r.at_) ∧
        ∀ q ∈ ks, NodeOf w k q.blk q.lv q.pre q.es ∧ q.lv < lv ∧ addrOf q.pre m = q.at_ ∧ ∀ b, m < b → addrOf q.pre b = addrOf pre b)) := by
  cases h with
  | leaf hv hp hc hB =>
    refine ⟨_, _, _, none, ?_, hp, hc, .inl ⟨rfl, rfl, rfl⟩⟩
    rw [sumsOf_one _ _ hv]
    exact hB
  | fork ks hlv hp hc hz hk hl ha hs h2 hS hB =>
    exact ⟨_, _, 0, _, hB, hp, hc, .inr ⟨rfl, _, _, ks, rfl, rfl, hlv, rfl, hS, h2, hz, hs, fun q hq => ⟨hk q hq, hl q hq, ha q hq⟩⟩⟩
set_option maxHeartbeats 1000000 in
set_option maxRecDepth 100000 in
theorem nd_level {w : World} {k g : Nat} {lv : Int} {pre : List Nat} {es : List Ent} (h : NodeOf w k g lv pre es) :
    Calls Try.prog 45 #[.pointer (some ⟨g, 0, none⟩)] w fun e w' => e = .returned (.int .i64 lv) ∧ w = w' := by
  obtain ⟨A, c, v, kids, hB, -⟩ := h.head
  have c1 := hB.cell 0
  simp [nodeCells] at c1
  clear hB h
  go_enter Try.func45, Try.ntmps45
  go_wp2
  go_ret
  exact ⟨rfl, rfl⟩
set_option maxHeartbeats 1000000 in
set_option maxRecDepth 100000 in
theorem nd_slots {w : World} {g : Nat} {lv : Int} {A : Option Addr} {k c v : Nat} {kids : Option Addr} {s : Sum4} (hB : Blk w g 103 (nodeCells lv A k c v kids s)) :
    Calls Try.prog 53 #[.pointer (some ⟨g, 0, none⟩)] w fun e w' => e = .returned (.pointer kids) ∧ w = w' := by
  have c1 := hB.cell 3
  simp [nodeCells] at c1
  clear hB
  go_enter Try.func53, Try.ntmps53
  go_wp2
  go_ret
  exact ⟨rfl, rfl⟩
set_option maxHeartbeats 1000000 in
set_option maxRecDepth 100000 in
theorem nd_at {w : World} {k g : Nat} {lv : Int} {pre : List Nat} {es : List Ent} (h : NodeOf w k g lv pre es) (hk1 : 1 ≤ k) (hk : k ≤ 16) (m : Nat) (hm : m < 64) :
    Calls Try.prog 64 #[.pointer (some ⟨g, 0, none⟩), .int .i64 (m : Nat)] w fun e w' => e = .returned (.int .i64 (addrOf pre m : Nat)) ∧ w = w' := by
  obtain ⟨A, c, v, kids, hB, hp, -⟩ := h.head
  have c1 := hB.cell 1
  simp [nodeCells] at c1
  have HC := hide (zb_addr A k pre c m w hp hk1 hk hm)
  clear hB h hp
  go_enter Try.func64, Try.ntmps64
  go_wp2_with fail
  refine HC.out.mono ?_
  rintro e w1 ⟨rfl, rfl⟩
  go_wp2
  go_ret
  exact ⟨rfl, rfl⟩
set_option maxHeartbeats 1000000 in
set_option maxRecDepth 100000 in
theorem nd_covers {w : World} {k g : Nat} {lv : Int} {pre : List Nat} {es : List Ent} (h : NodeOf w k g lv pre es) (hk1 : 1 ≤ k) (hk : k ≤ 16) {B : Option Addr} {d : Nat} {q : List Nat} (hq : Pt w B k q) :
    Calls Try.prog 48 #[.pointer (some ⟨g, 0, none⟩), .slice B k d] w fun e w' => e = .returned (.bool (decide (part pre q ≤ lv))) ∧ w = w' := by
  obtain ⟨A, c, v, kids, hB, hp, -⟩ := h.head
  have c0 := hB.cell 0
  have c1 := hB.cell 1
  simp [nodeCells] at c0 c1
  have HC := hide (zb_part A B k c d pre q w hp hq hk1 hk)
  clear hB h hp hq
  go_enter Try.func48, Try.ntmps48
  go_wp2_with fail
  refine HC.out.mono ?_
  rintro e w1 ⟨rfl, rfl⟩
  go_wp2
  go_ret
  exact ⟨rfl, rfl⟩
set_option maxHeartbeats 1000000 in
set_option maxRecDepth 100000 in
theorem nd_leaf (A : Option Addr) (n c : Nat) (p : List Nat) (v : Nat) (w : World) (hp : Pt w A n p) (hv : v < 2 ^ 64) (h1 : 1 ≤ n) (h2 : n ≤ 16) :
    Calls Try.prog 39 #[.slice A n c, .int .u64 (v : Int)] w fun e w' => ∃ g, e = .returned (.tuple #[.pointer (some ⟨g, 0, none⟩), .int .i64 0]) ∧ NodeOf w' n g (-1) p [(p, v)] ∧ w.heap.size ≤ g ∧ Below w.heap.size w w' := by
  have HC := zb_right A n c w
  rw [show rightB n = true by unfold rightB; simp; omega] at HC
  have HC' := hide HC
  have HD := hide (clone_u64 A n c p w hp (by omega))
  have HP := hide hp
  clear HC hp
  go_enter Try.func39, Try.ntmps39
  go_wp2_with fail
  refine HC'.out.mono ?_
  rintro e w1 ⟨rfl, rfl⟩
  go_wp2_with fail
  refine HD.out.mono ?_
  rintro e w2 ⟨v2, rfl, ho, hb⟩
  obtain ⟨A2, c2, rfl, hc2, hR⟩ := Rw.of_own ho
  have HR := hide hR
  clear ho hR
  go_wp2
  go_ret2
  have b3 := (Below.refl w2.heap.size w2).alloc (Nat.le_refl _) (.cells (nodeCells (-1) A2 n c2 v none ⟨1, v, v, v⟩) 103)
  refine ⟨_, rfl, .leaf hv ⟨HP.out.1, HR.out.below b3, HP.out.2.2⟩ hc2 (Blk.new w2 _ _), hb.size, below_then hb b3⟩
/-- The row lies in a block of this type. -/
def TyRow (w : World) (e : TypeId) (A : Option Addr) (n : Nat) : Prop := 0 < n → ∃ b o cs fr, A = some ⟨b, o, none⟩ ∧ w.heap[b]? = some (.cells cs e fr)
theorem TyRow.below {w w' : World} {e : TypeId} {A : Option Addr} {n : Nat} (h : TyRow w e A n) (hb : Below w.heap.size w w') : TyRow w' e A n := by
  intro hn
  obtain ⟨b, o, cs, fr, h1, h2⟩ := h hn
  have hlt : b < w.heap.size := by
    rcases Nat.lt_or_ge b w.heap.size with h3 | h3
    · exact h3
    · rw [Array.getElem?_eq_none h3] at h2
      cases h2
  exact ⟨b, o, cs, fr, h1, (hb.block b hlt).trans h2⟩
/-- A row of one cell an element, read at i. -/
theorem Rw.one {w : World} {A : Option Addr} {n i : Nat} {vs : List Value} (h : Rw w 1 A n vs) (hi : i < n) : ∃ b o, A = some ⟨b, o, none⟩ ∧ b < w.heap.size ∧ ∃ u, vs[i]? = some u ∧ w.cell? ⟨b, o + i, none⟩ = some u := by
  obtain ⟨b, o, e, hb, hc⟩ := h.at_ (by omega)
  have hl := h.1
  have : i < vs.length := by omega
  exact ⟨b, o, e, hb, vs[i], by simp [this], hc i _ (by simp [this])⟩
theorem run_slice_to {P : Program} {t e sz : Nat} (ht : P.underlying t = some (.slice e)) (hz : ∀ w, (sizeOf e).run P w = .ok sz w) (A : Option Addr) (n c j : Nat) (hj : j ≤ c) (w : World) :
    (Instr.slice t (.slice A n c) none (some (.int .i64 (j : Int))) none).run P w = .ok (.slice A j c) w := by
  have h0 : (0 : Int) ≤ (j : Int) := by omega
  have h1 : (j : Int) ≤ (c : Int) := by omega
  rcases A with _ | A
  · simp [Instr.slice, run_underlying ht, Instr.sliceBounds, Instr.sliceBound, asIntOf, h0, h1, hz, Addr.add]
    intro h
    omega
  · simp [Instr.slice, run_underlying ht, Instr.sliceBounds, Instr.sliceBound, asIntOf, h0, h1, hz, Addr.add]
    intro h
    omega
theorem Rw.cut {w : World} {sz n i c : Nat} {A : Option Addr} {vs : List Value} (h : Rw w sz A n vs) (hi : i ≤ n) (hc : n ≤ c) : Rw w sz (cutA A c sz i) (n - i) (vs.drop (i * sz)) := by
  refine ⟨by rw [List.length_drop, h.1, Nat.sub_mul], fun hp => ?_⟩
  obtain ⟨b, o, rfl, hb, hcl⟩ := h.2 (by omega)
  refine ⟨b, o + i * sz, ?_, hb, fun j u hu => ?_⟩
  · unfold cutA
    rw [if_neg (by omega)]
    by_cases h0 : i * sz = 0 <;> simp [Addr.add, h0]
  · rw [List.getElem?_drop] at hu
    rw [Nat.add_assoc]
    exact hcl _ _ hu
theorem info_i : (Try.prog.info? 3).map (fun i => (i.zero, i.size, i.bytes)) = some (some (.int .i64 0), 1, 8) := by kernel_rfl
theorem info_u : (Try.prog.info? 36).map (fun i => (i.zero, i.size, i.bytes)) = some (some (.int .u64 0), 1, 8) := by kernel_rfl
section
variable {P : Program} (w : World)
/-- append onto an own row as a step of a region that draws: below the base all stands. -/
theorem step_app {ops : Array Oper} {o : Oper} {a : Act} {K : Act → World → Prop} {Q : Exit → Act → World → Prop} {E : Prop} (hgd : o.guard = none) (s x : Operand) (t : TypeId)
    (ho : o.op = .call { callee := .builtin .append, args := #[s, x], argTypes := #[t, t] })
    (base : Nat) (e : TypeId) (z : Value) (size bytes : Nat) (ht : P.underlying t = some (.slice e)) (hinfo : (P.info? e).map (fun i => (i.zero, i.size, i.bytes)) = some (some z, size, bytes)) (hzs : z.cells.size = size) (hsz : 0 < size)
    (v : Value) (n : Nat) (xs : List Value) (hs : a.eval s = v) (hown : w.ownsRow base e size v n xs)
    (A : Option Addr) (m c : Nat) (news : List Value) (hx : a.eval x = .slice A m c) (w0 : World) (hb : Below base w0 w) (hbase : base ≤ w0.heap.size) (hr : Rw w size A m news) (h1 : ∀ u ∈ news, u.oneCell' = true)
    (h63 : n + m ≤ maxLen) (hbytes : (n + m) * bytes ≤ 140737488355328)
    (h : ∀ v' w', w'.ownsRow base e size v' (n + m) (xs ++ news) → Below base w0 w' → w.grownBy w' v.ownBlock → K (a.put o.dst v') w') :
    if Region.wanted o (yielded ops a.tmps) = true then Oper.wp P o a w K Q else E := by
  obtain ⟨i, hi, hz, hsize, hby⟩ := info_parts hinfo
  exact step_append_any w hgd s x t ho base e i z size bytes ht hi hz hsize hby hzs hsz v n xs hs hown A m c news hx hr h1 h63 hbytes (Nat.le_trans hbase hb.size) fun v' w' g1 g2 _ => h v' w' g1 (below_own hb g2 (Nat.le_trans hbase hb.size) (own_base hown)) g2
/-- .. at a plain region's list. -/
theorem app_b {ops : Array Oper} {rest : List Oper} {o : Oper} {a : Act} {Q : Exit → Act → World → Prop} (hgd : o.guard = none) (s x : Operand) (t : TypeId)
    (ho : o.op = .call { callee := .builtin .append, args := #[s, x], argTypes := #[t, t] })
    (base : Nat) (e : TypeId) (z : Value) (size bytes : Nat) (ht : P.underlying t = some (.slice e)) (hinfo : (P.info? e).map (fun i => (i.zero, i.size, i.bytes)) = some (some z, size, bytes)) (hzs : z.cells.size = size) (hsz : 0 < size)
    (v : Value) (n : Nat) (xs : List Value) (hs : a.eval s = v) (hown : w.ownsRow base e size v n xs)
    (A : Option Addr) (m c : Nat) (news : List Value) (hx : a.eval x = .slice A m c) (w0 : World) (hb : Below base w0 w) (hbase : base ≤ w0.heap.size) (hr : Rw w size A m news) (h1 : ∀ u ∈ news, u.oneCell' = true)
    (h63 : n + m ≤ maxLen) (hbytes : (n + m) * bytes ≤ 140737488355328)
    (h : ∀ v' w', w'.ownsRow base e size v' (n + m) (xs ++ news) → Below base w0 w' → w.grownBy w' v.ownBlock → wpList P ops Q rest (a.put o.dst v') w') : wpList P ops Q (o :: rest) a w := by
  obtain ⟨i, hi, hz, hsize, hby⟩ := info_parts hinfo
  exact wpList_append_any w hgd s x t ho base e i z size bytes ht hi hz hsize hby hzs hsz v n xs hs hown A m c news hx hr h1 h63 hbytes (Nat.le_trans hbase hb.size) fun v' w' g1 g2 _ => h v' w' g1 (below_own hb g2 (Nat.le_trans hbase hb.size) (own_base hown)) g2
end
/-- One new element, laid into a block of its own. -/
theorem Rw.new1 (w : World) (e : TypeId) (cs : Array Value) {sz : Nat} (h : cs.size = sz) : Rw (w.alloc (.cells cs e)) sz (some ⟨w.heap.size, 0, none⟩) 1 cs.toList :=
  Rw.of_blk (t := e) (cs := cs) (Blk.new w e cs) (by simpa using h) (fun j u hu => by simpa using hu)
theorem Blk.set1 {w : World} {g i : Nat} {t : TypeId} {cs : Array Value} (h : Blk w g t cs) (u : Value) : Blk (w.setCell ⟨g, i, none⟩ u) g t (cs.setIfInBounds i u) := by
  unfold Blk at *
  simp only [World.setCell, Array.getElem?_modify, h]
  simp
theorem own_rw {w : World} {base : Nat} {e : TypeId} {size n : Nat} {A : Option Addr} {c : Nat} {xs : List Value} (h : w.ownsRow base e size (.slice A n c) n xs) : n ≤ c ∧ Rw w size A n xs := by
  obtain ⟨A', c', hv, hl, hR⟩ := Rw.of_own h
  injection hv with h1 h2 h3
  subst h1 h3
  exact ⟨hl, hR⟩
theorem own_ty {w : World} {base : Nat} {e : TypeId} {size n : Nat} {A : Option Addr} {c : Nat} {xs : List Value} (h : w.ownsRow base e size (.slice A n c) n xs) : TyRow w e A n := by
  intro hn
  rcases h.2 with ⟨_, h0⟩ | ⟨g, cap, cur, hv, _, hg, _⟩
  · omega
  · injection hv with h1 h2 h3
    exact ⟨g, 0, cur, (0, 0), h1, hg⟩
set_option maxHeartbeats 1000000 in
set_option maxRecDepth 100000 in
theorem nd_kid {w : World} {g : Nat} {lv : Int} {A : Option Addr} {k c v : Nat} {s : Sum4} {gs : Nat} {L : Th} (hB : Blk w g 103 (nodeCells lv A k c v (some ⟨gs, 0, none⟩) s)) (hS : SlotsAt_n w gs k L) (addr : Int) :
    Calls Try.prog 35 #[.pointer (some ⟨g, 0, none⟩), .int .i64 addr] w fun e w' => e = .returned ((getTh L addr).getD (.pointer none)) ∧ Below w.heap.size w w' := by
  have HC := hide (nd_slots hB)
  have HG := hide (get_n gs k L addr w hS)
  generalize (getTh L addr).getD (.pointer none) = x at HG ⊢
  generalize (getTh L addr).isSome = b at HG
  clear hB hS
  go_enter Try.func35, Try.ntmps35
  go_wp2_with fail
  refine HC.out.mono ?_
  rintro e w1 ⟨rfl, rfl⟩
  go_wp2_with fail
  refine HG.out.mono ?_
  rintro e w1 ⟨rfl, hb⟩
  go_wp2
  go_ret
  exact ⟨rfl, hb⟩
set_option maxHeartbeats 1000000 in
set_option maxRecDepth 100000 in
theorem nd_from {w : World} {g : Nat} {lv : Int} {A : Option Addr} {k c v : Nat} {s : Sum4} {gs : Nat} {L : Th} (hB : Blk w g 103 (nodeCells lv A k c v (some ⟨gs, 0, none⟩) s)) (hS : SlotsAt_n w gs k L) (addr : Int) :
    Calls Try.prog 43 #[.pointer (some ⟨g, 0, none⟩), .int .i64 addr] w fun e w' => (∃ (a : Nat) (x : Value), e = .returned (.tuple #[.int .i64 a, x]) ∧ (fromTh L addr = some (a, x) ∨ (fromTh L addr = none ∧ a = 0 ∧ x = .pointer none))) ∧ Below w.heap.size w w' := by
  have HC := hide (nd_slots hB)
  have HG := hide (from_n gs k L addr w hS)
  clear hB hS
  go_enter Try.func43, Try.ntmps43
  go_wp2_with fail
  refine HC.out.mono ?_
  rintro e w1 ⟨rfl, rfl⟩
  go_wp2_with fail
  refine HG.out.mono ?_
  rintro e w1 ⟨⟨a, x, ok, rfl, h1, h2⟩, hb⟩
  have H1 := hide h1
  have H2 := hide h2
  clear h1 h2
  go_wp2
  go_ret2
  refine ⟨⟨a, x, rfl, ?_⟩, hb⟩
  cases ok with
  | true => exact .inl (H1.out rfl)
  | false => exact .inr (H2.out rfl)
set_option maxHeartbeats 1000000 in
set_option maxRecDepth 100000 in
theorem nd_from_leaf {w : World} {g : Nat} {lv : Int} {A : Option Addr} {k c v : Nat} {s : Sum4} (hB : Blk w g 103 (nodeCells lv A k c v none s)) (addr : Int) :
    Calls Try.prog 43 #[.pointer (some ⟨g, 0, none⟩), .int .i64 addr] w fun e w' => e = .returned (.tuple #[.int .i64 0, .pointer none]) ∧ w = w' := by
  have HC := hide (nd_slots hB)
  have HG := hide (from_nil_n addr w)
  clear hB
  go_enter Try.func43, Try.ntmps43
  go_wp2_with fail
  refine HC.out.mono ?_
  rintro e w1 ⟨rfl, rfl⟩
  go_wp2_with fail
  refine HG.out.mono ?_
  rintro e w1 ⟨rfl, rfl⟩
  go_wp2
  go_ret2
  exact ⟨rfl, rfl⟩
set_option maxHeartbeats 1000000 in
set_option maxRecDepth 100000 in
theorem nd_covers_nil (A : Option Addr) (n c : Nat) (w : World) : Calls Try.prog 48 #[.pointer none, .slice A n c] w fun e w' => e = .returned (.bool false) ∧ w = w' := by
  go_enter Try.func48, Try.ntmps48
  go_wp2
  go_ret
  exact ⟨rfl, rfl⟩
theorem cell_far1 {w : World} {b g i l : Nat} {u : Value} (hne : g ≠ b) : (w.setCell ⟨b, i, none⟩ u).cell? ⟨g, l, none⟩ = w.cell? ⟨g, l, none⟩ :=
  World.cell?_of_block (w := w) (Below.heap_setCell w ⟨b, i, none⟩ u g hne)
theorem cell_far2 {w : World} {b g i j l : Nat} {u v : Value} (hne : g ≠ b) : ((w.setCell ⟨b, i, none⟩ u).setCell ⟨b, j, none⟩ v).cell? ⟨g, l, none⟩ = w.cell? ⟨g, l, none⟩ :=
  (cell_far1 hne).trans (cell_far1 hne)
def Sum4.val (s : Sum4) : Value := .agg #[.int .u64 (s.c : Int), .int .u64 (s.s : Int), .int .u64 (s.mn : Int), .int .u64 (s.mx : Int)]
set_option maxHeartbeats 1000000 in
set_option maxRecDepth 100000 in
theorem nd_entry_fork {w : World} {g : Nat} {lv : Int} {A : Option Addr} {k c v gs : Nat} {s : Sum4} (hB : Blk w g 103 (nodeCells lv A k c v (some ⟨gs, 0, none⟩) s)) :
    Calls Try.prog 59 #[.pointer (some ⟨g, 0, none⟩)] w fun e w' => e = .returned (.tuple #[.agg #[.slice none 0 0, .int .u64 0], .bool false]) ∧ Below w.heap.size w w' := by
  have c3 := (hB.alloc (.cells #[.slice none 0 0, .int .u64 0] 84)).cell 3
  simp [nodeCells] at c3
  clear hB
  go_enter Try.func59, Try.ntmps59
  go_wp2
  refine bodyPost_ret (v := .tuple #[.agg #[.slice none 0 0, .int .u64 0], .bool false]) (by simp [results, Try.results59, go_sem]) rfl ⟨rfl, ?_⟩
  exact below_alloc (Below.refl _ _) (Nat.le_refl _) _
set_option maxHeartbeats 1000000 in
set_option maxRecDepth 100000 in
theorem nd_entry_leaf {w : World} {g : Nat} {lv : Int} {A : Option Addr} {k c v : Nat} {s : Sum4} {p : List Nat} (hB : Blk w g 103 (nodeCells lv A k c v none s)) (hp : Pt w A k p) (hk : k ≤ 16) :
    Calls Try.prog 59 #[.pointer (some ⟨g, 0, none⟩)] w fun e w' => ∃ B d, e = .returned (.tuple #[.agg #[.slice B k d, .int .u64 (v : Int)], .bool true]) ∧ w'.ownsRow (w.heap.size + 1) 36 1 (.slice B k d) k (u64s p) ∧ Below w.heap.size w w' := by
  have b1 := (Below.refl w.heap.size w).alloc (Nat.le_refl _) (.cells #[.slice none 0 0, .int .u64 0] 84)
  have hB1 := hB.alloc (.cells #[.slice none 0 0, .int .u64 0] 84)
  have hN1 := Blk.new w 84 #[.slice none 0 0, .int .u64 0]
  have hp1 := hp.below b1
  have hs1 : (w.alloc (.cells #[.slice none 0 0, .int .u64 0] 84)).heap.size = w.heap.size + 1 := by simp
  have c3 := hB1.cell 3
  have c1 := hB1.cell 1
  have c2 := hB1.cell 2
  simp [nodeCells] at c1 c2 c3
  have hgl := hB.lt
  clear hB
  go_enter Try.func59, Try.ntmps59
  go_upto_region 3 with fail
  generalize w.alloc (.cells #[.slice none 0 0, .int .u64 0] 84) = w1 at *
  have hg1 : g < w1.heap.size := by omega
  go_region_held3 (fun w' => w'.cell? ⟨g, 1, none⟩ = some (.slice A k c) ∧ w'.cell? ⟨g, 2, none⟩ = some (.int .u64 (v : Int)))
    (first
      | go_keep
      | exact hk2
      | exact hk3)
    (first
      | (go_at_call 50
         refine (clone_u64 A k c p w1.drew (hp1.below (Below.refl _ w1).drew) (by omega)).mono ?_
         rintro e w2 ⟨v2, rfl, ho2, hb2⟩
         have hc2 : Below w1.heap.size w1 w2 := (Below.refl _ w1).drew.trans hb2
         obtain ⟨B, d, rfl, -, -⟩ := Rw.of_own ho2
         have hk2 : w2.cell? ⟨g, 1, none⟩ = some (.slice A k c) ∧ w2.cell? ⟨g, 2, none⟩ = some (.int .u64 (v : Int)) := ⟨(hc2.cell (p := ⟨g, 1, none⟩) hg1).trans c1, (hc2.cell (p := ⟨g, 2, none⟩) hg1).trans c2⟩
         have hN2 := hN1.below hc2
         have y0 := hN2.cell 0
         have y1 := hN2.cell 1
         have z0 := hN2.frozen 0
         have z1 := hN2.frozen 1
         try simp at y0 y1
         have hne : g ≠ w.heap.size := by omega
         have hk3 : ((w2.setCell ⟨w.heap.size, 0, none⟩ (.slice B k d)).setCell ⟨w.heap.size, 1, none⟩ (.int .u64 (v : Int))).cell? ⟨g, 1, none⟩ = some (.slice A k c) ∧ ((w2.setCell ⟨w.heap.size, 0, none⟩ (.slice B k d)).setCell ⟨w.heap.size, 1, none⟩ (.int .u64 (v : Int))).cell? ⟨g, 2, none⟩ = some (.int .u64 (v : Int)) :=
           ⟨(cell_far2 hne).trans hk2.1, (cell_far2 hne).trans hk2.2⟩))
  have e3 : Blk ((w2.setCell ⟨w.heap.size, 0, none⟩ (.slice B k d)).setCell ⟨w.heap.size, 1, none⟩ (.int .u64 (v : Int))) w.heap.size 84 #[.slice B k d, .int .u64 (v : Int)] := (hN2.set1 _).set1 _
  have b3 : Below w.heap.size w ((w2.setCell ⟨w.heap.size, 0, none⟩ (.slice B k d)).setCell ⟨w.heap.size, 1, none⟩ (.int .u64 (v : Int))) := ((below_then b1 hc2).setCell (Nat.le_refl _) _).setCell (Nat.le_refl _) _
  have o3 : ((w2.setCell ⟨w.heap.size, 0, none⟩ (.slice B k d)).setCell ⟨w.heap.size, 1, none⟩ (.int .u64 (v : Int))).ownsRow (w.heap.size + 1) 36 1 (.slice B k d) k (u64s p) := by
    have hd : w1.drew.heap.size = w.heap.size + 1 := hs1
    rw [hd] at ho2
    exact ownsRow_setCell_below (ownsRow_setCell_below ho2 (a := ⟨w.heap.size, 0, none⟩) (by simp) _) (a := ⟨w.heap.size, 1, none⟩) (by simp) _
  generalize (w2.setCell ⟨w.heap.size, 0, none⟩ (.slice B k d)).setCell ⟨w.heap.size, 1, none⟩ (.int .u64 (v : Int)) = w3 at *
  have g0 := e3.cell 0
  have g1 := e3.cell 1
  try simp at g0 g1
  have HO := hide o3
  clear o3 ho2 y0 y1 z0 z1 hk2 hk3
  go_wp2
  refine bodyPost_ret (v := .tuple #[.agg #[.slice B k d, .int .u64 (v : Int)], .bool true]) (by simp [results, Try.results59, go_sem, g0, g1]) rfl ⟨B, d, rfl, HO.out, b3⟩
end Go.Proofs.Ytfoapkcgdkfggaa
set_option linter.unusedSimpArgs false
set_option linter.unusedVariables false
namespace Go.Proofs.Ytfoapkcgdkfggaa
section
open Go.RowKit
end
section
open Go.RowKit
end
section
open Go.RowKit
/-- An entry in memory: its point's slice, the point, the value. -/
structure ER where
  A : Option Addr
  n : Nat
  c : Nat
  p : List Nat
  v : Nat
def entv (r : ER) : List Value := [.slice r.A r.n r.c, .int .u64 (r.v : Int)]
def ER.e (r : ER) : Ent := (r.p, r.v)
theorem entv_len (r : ER) : (entv r).length = 2 := rfl
def ER.ok (w : World) (r : ER) : Prop := Pt w r.A r.n r.p ∧ r.n ≤ r.c ∧ r.c ≤ maxLen ∧ r.v < 2 ^ 64
/-- A slice of entries. -/
def EntsAt (w : World) (A : Option Addr) (n : Nat) (rows : List ER) : Prop := Rw w 2 A n (rows.flatMap entv) ∧ ∀ r ∈ rows, r.ok w
def ents (rows : List ER) : List Ent := rows.map ER.e
section
variable {w w' : World} {A : Option Addr} {n : Nat} {rows : List ER}
theorem ER.ok.below {r : ER} (h : r.ok w) (hb : Below w.heap.size w w') : r.ok w' := ⟨h.1.below hb, h.2⟩
theorem EntsAt.below (h : EntsAt w A n rows) (hb : Below w.heap.size w w') : EntsAt w' A n rows := ⟨h.1.below hb, fun r hr => (h.2 r hr).below hb⟩
theorem EntsAt.len (h : EntsAt w A n rows) : rows.length = n := by
  have := h.1.1
  rw [flat_length entv_len] at this
  omega
theorem EntsAt.at_ {i : Nat} (h : EntsAt w A n rows) (hi : i < n) :
    ∃ b o r, A = some ⟨b, o, none⟩ ∧ b < w.heap.size ∧ rows[i]? = some r ∧ r.ok w ∧ w.cell? ⟨b, o + i * 2, none⟩ = some (.slice r.A r.n r.c) ∧ w.cell? ⟨b, o + i * 2 + 1, none⟩ = some (.int .u64 (r.v : Int)) := by
  obtain ⟨b, o, r, hA, hb, hr, hc⟩ := h.1.elem entv_len hi (by omega)
  exact ⟨b, o, r, hA, hb, hr, h.2 r (List.mem_of_getElem? hr), hc 0 _ rfl, by rw [Nat.add_assoc]; exact hc 1 _ rfl⟩
end
theorem below_set1 {B g i : Nat} {a w : World} {x : Value} (h : Below B a w) (hg : B ≤ g) : Below B a (w.setCell ⟨g, i, none⟩ x) := h.setCell hg _
end
section
open Go.RowKit
section
open Go.RowKit Go.ChangeShapes Go.WideShapes Go.Deep
theorem u64s_flat (p : List Nat) : p.flatMap (fun (x : Nat) => [Value.int .u64 (x : Int)]) = u64s p := by
  unfold u64s
  induction p with
  | nil => rfl
  | cons x p ih => rw [List.flatMap_cons, ih]; rfl
theorem wf_u64 {z : Int} (h : (Lit.int .u64 z).wf = true) : 0 ≤ z ∧ z < 18446744073709551616 := by
  simp [Lit.wf] at h
  have h1 : IntKind.u64.min = 0 := by decide
  have h2 : IntKind.u64.max = 18446744073709551615 := by decide
  rw [h1, h2] at h
  omega
set_option maxRecDepth 100000 in
theorem open_point' {H : Type} {enc : TypeId × Value → H} {w : World} {spare : Nat → Bool} {held : Bool} {fuel : Nat} {A : Option Addr} {len cap : Nat} {x : DataW H × List MemPlace}
    (h : DataW.trod enc Try.prog w 0 spare held fuel 35 [.slice A len cap] = some x) :
    ∃ p : List Nat, Pt w A len p ∧ len ≤ cap ∧ cap ≤ maxLen := by
  obtain ⟨rows, h0, hok, h1, h2, h3⟩ := open_elems (sz := 1) (fun (x : Nat) => [Value.int .u64 (x : Int)]) (fun x => x < 2 ^ 64) (fun _ => rfl) (by omega) Try.underlying35 (by kernel_rfl) (fun n cs d hd => by
    obtain ⟨z, e, -, hw⟩ := DataW.trod_int Try.underlying36 hd
    have hz := wf_u64 hw
    refine ⟨z.toNat, ?_, by show z.toNat < 18446744073709551616; omega⟩
    rw [e, Int.toNat_of_nonneg hz.1]) h
  rw [u64s_flat] at h1
  exact ⟨rows, ⟨h0, h1, hok⟩, h2, h3⟩
end
theorem pt_nil (w : World) : Pt w none 0 [] := ⟨rfl, Rw.nil _ _ _, fun x h => by cases h⟩
/-- An act: a point loses or gets a value. -/
structure TA where
  d : Bool
  A : Option Addr
  n : Nat
  c : Nat
  p : List Nat
  v : Nat
def tav (r : TA) : List Value := [.bool r.d, .slice r.A r.n r.c, .int .u64 (r.v : Int)]
theorem tav_len (r : TA) : (tav r).length = 3 := rfl
def TA.ok (w : World) (r : TA) : Prop := Pt w r.A r.n r.p ∧ r.n ≤ r.c ∧ r.c ≤ maxLen ∧ r.v < 2 ^ 64
theorem TA.ok.below {w w' : World} {r : TA} (h : r.ok w) (hb : Below w.heap.size w w') : r.ok w' := ⟨h.1.below hb, h.2⟩
/-- A slice of acts. -/
def ActsAt (w : World) (A : Option Addr) (n : Nat) (rows : List TA) : Prop := Rw w 3 A n (rows.flatMap tav) ∧ ∀ r ∈ rows, r.ok w
set_option maxRecDepth 100000 in
open Go.ChangeShapes Go.WideShapes in
theorem open_acts7 {H : Type} {enc : TypeId × Value → H} {w : World} {A : Option Addr} {len cap : Nat} {d : DataW H} {ps : List MemPlace}
    (h : DataW.Trod enc Try.prog w 0 (fun _ => true) true 34 (.slice A len cap) d ps) :
    ∃ rows : List TA, ActsAt w A len rows ∧ len ≤ cap ∧ cap ≤ maxLen := by
  obtain ⟨fuel, h⟩ := h
  obtain ⟨rows, -, hok, h1, h2, h3⟩ := open_elems (sz := 3) tav (fun r => TA.ok w r) tav_len (by omega) Try.underlying34 (by kernel_rfl) (fun n cs d hd => by
    obtain ⟨yb, y0, y1, n', -, hl, gb, g0, g1⟩ := Go.Deep.trod_struct3 Try.underlying38 hd
    have hl2 : cs.length = 3 := hl
    match cs, hl2 with
    | [ub, u0, u1], _ =>
      obtain ⟨b, eb, -⟩ := DataW.trod_bool Try.underlying4 gb
      have eb' : ub = .bool b := by
        rw [show Try.prog.cellsOf 4 = 1 by kernel_rfl] at eb
        simpa using eb
      have g0' : DataW.trod enc Try.prog w 0 (fun _ => true) true n' 35 [u0] = some y0 := by
        rw [show Try.prog.cellsOf 35 = 1 by kernel_rfl] at g0
        simpa using g0
      obtain ⟨z, e1, -, hw⟩ := DataW.trod_int Try.underlying36 g1
      have e1' : u1 = .int .u64 z := by
        rw [show Try.prog.cellsOf 36 = 1 by kernel_rfl] at e1
        simpa using e1
      have hz := wf_u64 hw
      have hz1 : u1 = .int .u64 ((z.toNat : Nat) : Int) := by rw [e1', Int.toNat_of_nonneg hz.1]
      rcases Go.Deep.open_slice Try.underlying35 g0' with ⟨h0, _⟩ | ⟨a, l, c, _, _, _, _, h0, _⟩
      · have h0' : u0 = .slice none 0 0 := by simpa using h0
        exact ⟨⟨b, none, 0, 0, [], z.toNat⟩, by rw [h0', hz1, eb']; rfl, pt_nil w, Nat.le_refl _, Nat.zero_le _, by show z.toNat < 18446744073709551616; omega⟩
      · have h0' : u0 = .slice (some a) l c := by simpa using h0
        rw [h0'] at g0'
        obtain ⟨p, q1, q2, q3⟩ := open_point' g0'
        exact ⟨⟨b, some a, l, c, p, z.toNat⟩, by rw [h0', hz1, eb']; rfl, q1, q2, q3, by show z.toNat < 18446744073709551616; omega⟩) h
  exact ⟨rows, ⟨h1, hok⟩, h2, h3⟩
section
variable {w w' : World} {A : Option Addr} {n : Nat} {rows : List TA}
theorem ActsAt.below (h : ActsAt w A n rows) (hb : Below w.heap.size w w') : ActsAt w' A n rows := ⟨h.1.below hb, fun r hr => (h.2 r hr).below hb⟩
theorem ActsAt.len (h : ActsAt w A n rows) : rows.length = n := by
  have := h.1.1
  rw [flat_length tav_len] at this
  omega
theorem ActsAt.at_ {i : Nat} (h : ActsAt w A n rows) (hi : i < n) :
    ∃ b o r, A = some ⟨b, o, none⟩ ∧ b < w.heap.size ∧ rows[i]? = some r ∧ r.ok w ∧ w.cell? ⟨b, o + i * 3, none⟩ = some (.bool r.d) ∧ w.cell? ⟨b, o + i * 3 + 1, none⟩ = some (.slice r.A r.n r.c) ∧ w.cell? ⟨b, o + i * 3 + 2, none⟩ = some (.int .u64 (r.v : Int)) := by
  obtain ⟨b, o, r, hA, hb, hr, hc⟩ := h.1.elem tav_len hi (by omega)
  exact ⟨b, o, r, hA, hb, hr, h.2 r (List.mem_of_getElem? hr), hc 0 _ rfl, by rw [Nat.add_assoc]; exact hc 1 _ rfl, by rw [Nat.add_assoc]; exact hc 2 _ rfl⟩
end
end
end Go.Proofs.Ytfoapkcgdkfggaa
