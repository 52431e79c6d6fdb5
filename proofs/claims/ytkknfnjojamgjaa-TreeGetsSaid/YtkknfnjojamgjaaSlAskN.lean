/- slots: New, K, Len, Dense, check, Get, From, UpTo at *pantile/node.Node. -/
import Derived.Test.YtkknfnjojamgjaaSlKeptN
set_option linter.unusedSimpArgs false
set_option linter.unusedVariables false
namespace Go.Proofs.Ytkknfnjojamgjaa
open Go.RowKit
theorem SlotsAt_n.cells {w : World} {g k : Nat} {L : Th} (h : SlotsAt_n w g k L) : ∃ A m c, Blk w g 178 #[.int .i64 (k : Nat), .int .i64 (L.length : Nat), .slice A m c] ∧ Rw w 3 A m (clv (cellsOf (.pointer none) k L)) ∧ m ≤ 65536 ∧ IsX_n (cellsOf (.pointer none) k L) ∧ Rising (cellsOf (.pointer none) k L) ∧ live (cellsOf (.pointer none) k L) = mkC L ∧ (cellsOf (.pointer none) k L).length = m := by
  obtain ⟨h1, h2, h3, h4, A, m, c, h5, h6, h7⟩ := h
  exact ⟨A, m, c, h5, h6, h7, isx_cells_n h4, cellsOf_rising h3, live_cellsOf _ h3, by have := h6.1; rw [clv_length] at this; omega⟩
theorem SlotsAt_n.ok {w : World} {g k : Nat} {L : Th} (h : SlotsAt_n w g k L) : OkTh k L := h.2.2.1
set_option maxHeartbeats 1000000 in
set_option maxRecDepth 100000 in
theorem new_n (k : Int) (w : World) (h1 : 1 ≤ k) (h2 : k ≤ 16) :
    Calls Try.prog 93 #[.int .i64 k] w fun e w' => e = .returned (.tuple #[.pointer (some ⟨w.heap.size, 0, none⟩), .int .i64 0]) ∧ SlotsAt_n w' w.heap.size k.toNat [] ∧ Below w.heap.size w w' := by
  obtain ⟨n, rfl⟩ := Int.eq_ofNat_of_zero_le (show 0 ≤ k by omega)
  go_enter Try.func93, Try.ntmps93
  go_wp2
  go_ret2
  refine ⟨rfl, ⟨by omega, by omega, ⟨List.Pairwise.nil, by simp⟩, by simp [IsX_n, mkC], none, 0, 0, Blk.new _ _ _, ?_, by omega⟩, below_alloc (Below.refl _ _) (Nat.le_refl _) _⟩
  have : cellsOf (.pointer none) (n : Int).toNat [] = [] := by simp [cellsOf, denseB, mkC]
  rw [this]
  exact Rw.nil _ _ _
set_option maxHeartbeats 1000000 in
set_option maxRecDepth 100000 in
theorem new_bad_n (k : Int) (w : World) (h : k < 1 ∨ 16 < k) :
    Calls Try.prog 93 #[.int .i64 k] w fun e w' => e = .returned (.tuple #[.pointer none, .int .i64 3]) ∧ w = w' := by
  rcases h with h | h
  · go_enter Try.func93, Try.ntmps93
    go_wp2
    go_ret2
    exact ⟨rfl, rfl⟩
  · go_enter Try.func93, Try.ntmps93
    go_wp2
    go_ret2
    exact ⟨rfl, rfl⟩
set_option maxHeartbeats 1000000 in
set_option maxRecDepth 100000 in
theorem len_n (g k : Nat) (L : Th) (w : World) (h : SlotsAt_n w g k L) :
    Calls Try.prog 108 #[.pointer (some ⟨g, 0, none⟩)] w fun e w' => e = .returned (.int .i64 (L.length : Nat)) ∧ w = w' := by
  obtain ⟨A, m, c, hB, -⟩ := h.cells
  have H1 := hB.cell 1
  simp at H1
  clear hB h
  generalize L.length = n at *
  go_enter Try.func108, Try.ntmps108
  go_wp2
  go_ret
  exact ⟨rfl, rfl⟩
set_option maxHeartbeats 1000000 in
set_option maxRecDepth 100000 in
theorem denseM_n (g k : Nat) (L : Th) (w : World) (h : SlotsAt_n w g k L) :
    Calls Try.prog 114 #[.pointer (some ⟨g, 0, none⟩)] w fun e w' => e = .returned (.bool (denseB k L.length)) ∧ Below w.heap.size w w' := by
  have hk := h.2.1
  have hl : L.length ≤ 65536 := by have := len_le_of_ok h.ok; have := pow16 hk; omega
  obtain ⟨A, m, c, hB, -⟩ := h.cells
  have H1 := hB.cell 1
  have H0 := hB.cell 0
  simp at H0 H1
  clear hB h
  generalize L.length = n at *
  go_enter Try.func114, Try.ntmps114
  go_wp2_with fail
  go_quiet ((go_at_call 91; exact Calls.quiet_of_same (still_of (dense_any _ _ _ hk (by omega)))))
  go_wp2
  go_ret
  exact ⟨rfl, below_drewN (Below.refl _ _) _⟩
set_option maxHeartbeats 1000000 in
set_option maxRecDepth 100000 in
theorem check_n (g k : Nat) (L : Th) (addr : Int) (w : World) (h : SlotsAt_n w g k L) :
    Calls Try.prog 128 #[.pointer (some ⟨g, 0, none⟩), .int .i64 addr] w fun e w' => e = .returned (.int .i64 (chk k addr)) ∧ w = w' := by
  have hk := h.2.1
  have hw := wrap_pow hk
  obtain ⟨A, m, c, hB, -⟩ := h.cells
  have H0 := hB.cell 0
  simp at H0
  clear hB h
  have hm16 := pow16 hk
  obtain ⟨p, hp⟩ : ∃ p, 2 ^ k = p := ⟨_, rfl⟩
  rw [hp] at hw hm16
  have hc : chk k addr = if 0 ≤ addr ∧ addr < (p : Int) then 0 else 3 := by unfold chk; rw [hp]
  have HC := hide hc
  clear hc hp
  by_cases h0 : 0 ≤ addr
  · by_cases h3 : addr < (p : Int)
    · go_enter Try.func128, Try.ntmps128
      go_wp2
      go_ret
      exact ⟨retI (by rw [HC.out, if_pos ⟨h0, h3⟩]), rfl⟩
    · go_enter Try.func128, Try.ntmps128
      go_wp2
      go_ret
      exact ⟨retI (by rw [HC.out, if_neg (by omega)]), rfl⟩
  · clear hw
    go_enter Try.func128, Try.ntmps128
    go_wp2
    go_ret
    exact ⟨retI (by rw [HC.out, if_neg (by omega)]), rfl⟩
set_option maxHeartbeats 1000000 in
set_option maxRecDepth 100000 in
theorem check_nil_n (addr : Int) (w : World) :
    Calls Try.prog 128 #[.pointer none, .int .i64 addr] w fun e w' => e = .returned (.int .i64 1) ∧ w = w' := by
  go_enter Try.func128, Try.ntmps128
  go_wp2
  go_ret
  exact ⟨rfl, rfl⟩
set_option maxHeartbeats 1000000 in
set_option maxRecDepth 100000 in
theorem get_n (g k : Nat) (L : Th) (addr : Int) (w : World) (h : SlotsAt_n w g k L) :
    Calls Try.prog 105 #[.pointer (some ⟨g, 0, none⟩), .int .i64 addr] w fun e w' => e = .returned (.tuple #[(getTh L addr).getD (.pointer none), .bool (getTh L addr).isSome]) ∧ Below w.heap.size w w' := by
  have hO := h.ok
  obtain ⟨A, m, c, hB, hR, hm, hX, hS, hLv, -⟩ := h.cells
  have H2 := hB.cell 2
  simp at H2
  have hf := find_n g _ _ A m c _ addr w hB hR hX hS (by omega)
  generalize cellsOf (.pointer none) k L = cs at *
  have HF := hide hf
  clear hf h
  go_enter Try.func105, Try.ntmps105
  go_wp2_with fail
  refine HF.out.mono ?_
  rintro e w1 ⟨at_, ok, rfl, hFd, hb⟩
  cases ok with
  | false =>
    have hn := hide (found_none hFd hS hLv)
    clear hFd
    go_wp2
    go_ret2
    rw [hn.out]
    exact ⟨rfl, hb⟩
  | true =>
    obtain ⟨d, hd, hh, ha, hg⟩ := found_some hFd hO hLv
    have hlt : at_ < m := by have := (List.getElem?_eq_some_iff.1 hd).1; have := hR.1; rw [clv_length] at this; omega
    obtain ⟨b, o, d', rfl, hbl, hd', k0, k1, k2⟩ := (hR.below hb).cl hlt
    rw [hd] at hd'
    injection hd' with hd'
    subst hd'
    have H2' := (hB.below hb).cell 2
    simp at H2'
    have HG := hide hg
    clear hFd hd ha hg hh H2
    go_wp2
    go_ret2
    rw [HG.out]
    exact ⟨rfl, hb⟩
set_option maxHeartbeats 1000000 in
set_option maxRecDepth 100000 in
theorem from_n (g k : Nat) (L : Th) (addr : Int) (w : World) (h : SlotsAt_n w g k L) :
    Calls Try.prog 110 #[.pointer (some ⟨g, 0, none⟩), .int .i64 addr] w fun e w' => (∃ (a : Nat) (x : Value) (ok : Bool), e = .returned (.tuple #[.int .i64 a, x, .bool ok]) ∧ (ok = true → fromTh L addr = some (a, x)) ∧ (ok = false → fromTh L addr = none ∧ a = 0 ∧ x = (.pointer none))) ∧ Below w.heap.size w w' := by
  have hO := h.ok
  obtain ⟨A, m, c, hB, hR, hm, hX, hS, hLv, hlm⟩ := h.cells
  have hf := find_n g _ _ A m c _ addr w hB hR hX hS (by omega)
  generalize cellsOf (.pointer none) k L = cs at *
  have HF := hide hf
  have HM := hide hlm
  clear hf h hlm
  go_enter Try.func110, Try.ntmps110
  go_wp2_with fail
  refine HF.out.mono ?_
  rintro e w1 ⟨at_, ok, rfl, hFd, hb⟩
  have h0 : at_ ≤ m := by have := hFd.1; have := HM.out; omega
  go_wp2
  have hb1 := hb
  go_loopw [8] (fun i wr => ∃ (j : Nat), at_ ≤ j ∧ j ≤ m ∧ i = .int .i64 j ∧ (∀ (i : Nat) (d : Cl), cs[i]? = some d → at_ ≤ i → i < j → d.h = false) ∧ Below w.heap.size w wr) (fun i _ => m - (intOf i).toNat)
  case atStart => exact ⟨at_, Nat.le_refl _, h0, rfl, fun _ _ _ h1 h2 => absurd h2 (by omega), hb⟩
  case round =>
    obtain ⟨j, hj0, hj, rfl, hjl, hbr⟩ := hrel
    have HJ := hide hjl
    clear hb hb1 hjl
    have hB1 := hB.below hbr
    have H2 := hB1.cell 2
    simp at H2
    by_cases hlt : j < m
    · obtain ⟨b, o, d, rfl, hbl, hd, k0, k1, k2⟩ := (hR.below hbr).cl hlt
      obtain ⟨y, hy⟩ := hX d (List.mem_of_getElem? hd)
      cases hh : d.h with
      | false =>
        rw [hh] at k2
        rw [hy] at k1
        have HD := hide hd
        have HH := hide hh
        have HY := hide hy
        clear hB1 hd hh hy
        go_wp2
        go_roundw
        case rel =>
          refine ⟨j + 1, by omega, by omega, by go_num, fun i d' hi h1 h2 => ?_, below_alloc hbr (Nat.le_refl _) _⟩
          rcases Nat.lt_or_ge i j with h3 | h3
          · exact HJ.out i d' hi h1 h3
          · have : i = j := by omega
            subst this
            rw [HD.out] at hi
            injection hi with hi
            subst hi
            exact HH.out
        case measure => simp [intOf]; omega
      | true =>
        have hres := from_at hLv hd hh (fun i d' hi hl hh' => by
          rcases Nat.lt_or_ge i at_ with h3 | h3
          · exact hFd.2.1 i d' hi h3
          · have := HJ.out i d' hi h3 hl
            rw [this] at hh'
            cases hh') (hFd.2.2.1 j d hd hj0)
        rw [hh] at k2
        rw [hy] at k1 hres
        have HR := hide hres
        clear hB1 hd hh hy hres
        go_wp2
        go_quiet (fail)
        go_wp2
        go_ret3
        exact ⟨⟨d.a, _, true, rfl, fun _ => HR.out, fun h => by cases h⟩, below_drewN (below_alloc hbr (Nat.le_refl _) _) _⟩
    · have hn := hide (from_none (addr := addr) hLv (fun i d' hi hh' => by
          rcases Nat.lt_or_ge i at_ with h3 | h3
          · exact hFd.2.1 i d' hi h3
          · have h4 := (List.getElem?_eq_some_iff.1 hi).1
            have := HJ.out i d' hi h3 (by have := HM.out; omega)
            rw [this] at hh'
            cases hh'))
      go_wp2
      go_ret3
      exact ⟨⟨0, _, false, rfl, (fun h => by cases h), fun _ => ⟨hn.out, rfl, rfl⟩⟩, hbr⟩
set_option maxHeartbeats 1000000 in
set_option maxRecDepth 100000 in
theorem upto_n (g k : Nat) (L : Th) (addr : Int) (w : World) (h : SlotsAt_n w g k L) :
    Calls Try.prog 111 #[.pointer (some ⟨g, 0, none⟩), .int .i64 addr] w fun e w' => (∃ (a : Nat) (x : Value) (ok : Bool), e = .returned (.tuple #[.int .i64 a, x, .bool ok]) ∧ (ok = true → upTh L addr = some (a, x)) ∧ (ok = false → upTh L addr = none ∧ a = 0 ∧ x = (.pointer none))) ∧ Below w.heap.size w w' := by
  have hO := h.ok
  obtain ⟨A, m, c, hB, hR, hm, hX, hS, hLv, hlm⟩ := h.cells
  have hf := find_n g _ _ A m c _ addr w hB hR hX hS (by omega)
  generalize cellsOf (.pointer none) k L = cs at *
  have HF := hide hf
  have HM := hide hlm
  clear hf h hlm
  go_enter Try.func111, Try.ntmps111
  go_wp2_with fail
  refine HF.out.mono ?_
  rintro e w1 ⟨at_, ok, rfl, hFd, hb⟩
  cases ok with
  | false =>
    have hJ0 : at_ ≤ m := by have := hFd.1; have := HM.out; omega
    have hJa := found_above hFd hS
    have hJb : ∀ (i : Nat) (d : Cl), cs[i]? = some d → i < at_ → (d.a : Int) ≤ addr := fun i d hd hi => by have := hFd.2.1 i d hd hi; omega
    clear hFd
    go_wp2
    go_loopw [8] (fun i wr => ∃ (j : Nat), j ≤ m ∧ i = .int .i64 ((j : Int) - 1) ∧ (∀ (i : Nat) (d : Cl), cs[i]? = some d → j ≤ i → d.h = true → addr < (d.a : Int)) ∧ Below w.heap.size w wr ∧ j ≤ at_) (fun i _ => (intOf i + 1).toNat)
    case atStart => exact ⟨at_, hJ0, rfl, hJa, hb, Nat.le_refl _⟩
    case round =>
      obtain ⟨j, hj, rfl, hjl, hbr, hj0⟩ := hrel
      have HJ := hide hjl
      clear hb hjl
      have hB1 := hB.below hbr
      have H2 := hB1.cell 2
      simp at H2
      rcases j with _ | j
      · have hn := hide (up_none (addr := addr) hLv (fun i d hi hh => HJ.out i d hi (Nat.zero_le _) hh))
        go_wp2
        go_ret3
        exact ⟨⟨0, _, false, rfl, (fun h => by cases h), fun _ => ⟨hn.out, rfl, rfl⟩⟩, hbr⟩
      · rw [show (((j + 1 : Nat) : Int) - 1) = (j : Int) by omega]
        obtain ⟨b, o, d, rfl, hbl, hd, k0, k1, k2⟩ := (hR.below hbr).cl (i := j) (by omega)
        obtain ⟨y, hy⟩ := hX d (List.mem_of_getElem? hd)
        cases hh : d.h with
        | false =>
          rw [hh] at k2
          rw [hy] at k1
          have HD := hide hd
          have HH := hide hh
          have HY := hide hy
          clear hB1 hd hh hy
          go_wp2
          go_roundw
          case rel =>
            refine ⟨j, by omega, rfl, fun i d' hi h1 h2 => ?_, below_alloc hbr (Nat.le_refl _) _, by omega⟩
            rcases Nat.lt_or_ge j i with h3 | h3
            · exact HJ.out i d' hi h3 h2
            · have : i = j := by omega
              subst this
              rw [HD.out] at hi
              injection hi with hi
              subst hi
              rw [HH.out] at h2
              cases h2
          case measure => simp [intOf]
        | true =>
          have hres := up_at hLv hd hh (fun i d' hi hl hh' => HJ.out i d' hi hl hh') (hJb j d hd (by omega))
          rw [hh] at k2
          rw [hy] at k1 hres
          have HR := hide hres
          clear hB1 hd hh hy hres
          go_wp2
          go_quiet (fail)
          go_wp2
          go_ret3
          exact ⟨⟨d.a, _, true, rfl, fun _ => HR.out, fun h => by cases h⟩, below_drewN (below_alloc hbr (Nat.le_refl _) _) _⟩
  | true =>
    obtain ⟨hJ0, hJa, hJb⟩ := found_above1 hFd hO hLv hS
    rw [HM.out] at hJ0
    clear hFd
    go_wp2
    go_loopw [8] (fun i wr => ∃ (j : Nat), j ≤ m ∧ i = .int .i64 ((j : Int) - 1) ∧ (∀ (i : Nat) (d : Cl), cs[i]? = some d → j ≤ i → d.h = true → addr < (d.a : Int)) ∧ Below w.heap.size w wr ∧ j ≤ (at_ + 1)) (fun i _ => (intOf i + 1).toNat)
    case atStart => exact ⟨(at_ + 1), hJ0, (by simp), hJa, hb, Nat.le_refl _⟩
    case round =>
      obtain ⟨j, hj, rfl, hjl, hbr, hj0⟩ := hrel
      have HJ := hide hjl
      clear hb hjl
      have hB1 := hB.below hbr
      have H2 := hB1.cell 2
      simp at H2
      rcases j with _ | j
      · have hn := hide (up_none (addr := addr) hLv (fun i d hi hh => HJ.out i d hi (Nat.zero_le _) hh))
        go_wp2
        go_ret3
        exact ⟨⟨0, _, false, rfl, (fun h => by cases h), fun _ => ⟨hn.out, rfl, rfl⟩⟩, hbr⟩
      · rw [show (((j + 1 : Nat) : Int) - 1) = (j : Int) by omega]
        obtain ⟨b, o, d, rfl, hbl, hd, k0, k1, k2⟩ := (hR.below hbr).cl (i := j) (by omega)
        obtain ⟨y, hy⟩ := hX d (List.mem_of_getElem? hd)
        cases hh : d.h with
        | false =>
          rw [hh] at k2
          rw [hy] at k1
          have HD := hide hd
          have HH := hide hh
          have HY := hide hy
          clear hB1 hd hh hy
          go_wp2
          go_roundw
          case rel =>
            refine ⟨j, by omega, rfl, fun i d' hi h1 h2 => ?_, below_alloc hbr (Nat.le_refl _) _, by omega⟩
            rcases Nat.lt_or_ge j i with h3 | h3
            · exact HJ.out i d' hi h3 h2
            · have : i = j := by omega
              subst this
              rw [HD.out] at hi
              injection hi with hi
              subst hi
              rw [HH.out] at h2
              cases h2
          case measure => simp [intOf]
        | true =>
          have hres := up_at hLv hd hh (fun i d' hi hl hh' => HJ.out i d' hi hl hh') (hJb j d hd (by omega))
          rw [hh] at k2
          rw [hy] at k1 hres
          have HR := hide hres
          clear hB1 hd hh hy hres
          go_wp2
          go_quiet (fail)
          go_wp2
          go_ret3
          exact ⟨⟨d.a, _, true, rfl, fun _ => HR.out, fun h => by cases h⟩, below_drewN (below_alloc hbr (Nat.le_refl _) _) _⟩
end Go.Proofs.Ytkknfnjojamgjaa
