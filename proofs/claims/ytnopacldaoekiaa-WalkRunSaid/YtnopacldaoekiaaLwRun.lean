/- pantilelaw08.WalkRun: a cursor's steps tell all entries, and then none; back from there all again, and then none: the walk. -/
import Derived.Test.YtnopacldaoekiaaWkI
set_option linter.unusedSimpArgs false
set_option linter.unusedVariables false
namespace Go.Proofs.Ytnopacldaoekiaa
open Go.RowKit
theorem at_here {es : List Ent} (j : Nat) : es[j]? = if ((j : Nat) : Int) < 0 then none else es[((j : Nat) : Int).toNat]? := by
  rw [if_neg (by omega), Int.toNat_natCast]
theorem at_prev {es : List Ent} (j : Nat) : (if j = 0 then none else es[j - 1]?) = if ((j : Nat) : Int) - 1 < 0 then none else es[(((j : Nat) : Int) - 1).toNat]? := by
  by_cases h : j = 0
  · rw [if_pos h, if_pos (by omega)]
  · rw [if_neg h, if_neg (by omega), show (((j : Nat) : Int) - 1).toNat = j - 1 by omega]
set_option maxHeartbeats 16000000 in
set_option maxRecDepth 100000 in
theorem walk_run (w : World) (k0 : Int) (_ : (Lit.int .i64 k0).wf = true) (AL : Option Addr) (nl cl : Nat) (al : List TA) (hl : ActsAt w AL nl al ∧ nl ≤ cl ∧ cl ≤ maxLen) :
    Calls Try.prog 5 #[.int .i64 k0, .slice AL nl cl] w fun e w' => e = .returned (.bool true) ∧ Below w.heap.size w w' := by
  have HEL := hide hl.1
  clear hl
  go_enter Try.func5, Try.ntmps5
  go_wp2_with fail
  refine (awake8 w).mono ?_
  rintro e w1 ⟨rfl, hb1⟩
  have HB1 := hide hb1
  have HH := hide (heavy7 AL nl cl 50 al w1 (HEL.out.below hb1) (by omega))
  simp only [Int.cast_ofNat_Int] at HH
  clear hb1
  go_wp2_with fail
  refine HH.out.mono ?_
  rintro e w3 ⟨rfl | ⟨rfl, hnl⟩, hb3⟩
  · have HB3 := hide (below_then HB1.out hb3)
    clear hb3 HH
    go_wp2
    go_ret
    exact ⟨rfl, HB3.out⟩
  have HB3 := hide (below_then HB1.out hb3)
  clear hb3 HH
  by_cases h1 : k0 < 1
  · have e1 : decide (k0 < 1) = true := by simpa using h1
    clear h1
    go_wp2
    go_ret
    exact ⟨rfl, HB3.out⟩
  have e1 : decide (k0 < 1) = false := by simpa using h1
  by_cases h2 : 16 < k0
  · have e2 : decide ((16 : Int) < k0) = true := by simpa using h2
    clear h1 h2
    go_wp2
    go_ret
    exact ⟨rfl, HB3.out⟩
  have e2 : decide ((16 : Int) < k0) = false := by simpa using h2
  obtain ⟨k, rfl⟩ : ∃ k : Nat, k0 = (k : Int) := ⟨k0.toNat, by omega⟩
  have hk1 : 1 ≤ k := by omega
  have hk16 : k ≤ 16 := by omega
  have HG := hide (grown7 (c := cl) hk1 hk16 (HEL.out.below HB3.out) (by omega))
  clear h1 h2
  go_wp2_with fail
  refine HG.out.mono ?_
  rintro e w4 ⟨t, A4, n4, c4, rfl, ⟨rows, es, hT4, hE4, hnc4, hS4, hkk4, hes4⟩, hn4, hb4⟩
  have hlen : es.length = n4 := by rw [← hes4]; unfold ents; rw [List.length_map]; exact hE4.len
  have HT4 := hide hT4
  have HB4 := hide (below_then HB3.out hb4)
  have HE4 := hide hE4
  have HKK := hide hkk4
  have HEN := hide hes4
  have HLEN := hide hlen
  have hn4b : n4 ≤ 50 := by omega
  have HNEW := hide (cur_new hT4)
  clear hT4 hE4 hnc4 hS4 hkk4 hes4 hb4 hlen HG
  go_wp2_with fail
  refine HNEW.out.mono ?_
  rintro e w5 ⟨⟨c, rfl, hcg, hcu⟩, hb5⟩
  have HCU := hide hcu
  have HB := hide hb5
  clear hcu hb5 HNEW
  go_wp2
  go_loopw [9] (fun x9 wr => ∃ (j : Nat), x9 = .int .i64 (j : Int) ∧ j ≤ n4 ∧ CurAt wr c t k es j ∧ Below w4.heap.size w4 wr) (fun x _ => n4 - (intOf x).toNat)
  case atStart => exact ⟨0, rfl, Nat.zero_le _, HCU.out, HB.out⟩
  case round =>
    obtain ⟨j, rfl, hj, hcu, hb⟩ := hrel
    clear HCU HB
    have HCU := hide hcu
    have HB := hide hb
    rename World => wz
    clear hcu hb
    by_cases hjn : j < n4
    · skip
      have HMV := hide (cur_next HT4.out HB.out hcg HCU.out)
      go_wp2_with fail
      refine HMV.out.mono ?_
      rintro e w6 ⟨r6, ok6, rfl, hi6, hcu6, hx6⟩
      have hb6 := hx6.to_below (B := w4.heap.size) hcg HB.out.size
      have hal := (Below.refl w6.heap.size w6).alloc (Nat.le_refl _) (.cells #[.slice r6.A r6.n r6.c, .int .u64 (r6.v : Int)] 27)
      have hN6 := Blk.new w6 27 #[.slice r6.A r6.n r6.c, .int .u64 (r6.v : Int)]
      have y0 := hN6.cell 0
      have y1 := hN6.cell 1
      simp at y0 y1
      have HB7 := hide (below_then (HB.out.trans hb6) hal)
      have HCU7 := hide (hcu6.below hal)
      have HAT := hide (at8 (c := c4) (i := ((j : Nat) : Int)) (HE4.out.below HB7.out) HKK.out hk16 (hi6.below hal) (by rw [HEN.out]; exact at_here j))
      clear hi6 hcu6 hx6 hb6 hal hN6 HMV
      go_wp2_with fail
      refine HAT.out.mono ?_
      rintro e w8 ⟨rfl, hb8⟩
      have HB8 := hide (below_then HB7.out hb8)
      have HCU8 := hide (HCU7.out.below hb8)
      clear hb8 HAT y0 y1
      go_wp2
      go_roundw
      case rel =>
        refine ⟨j + 1, by go_num, by omega, ?_, HB8.out⟩
        have := HCU8.out
        rw [Nat.min_eq_left (by have := HLEN.out; omega)] at this
        exact this
      case measure => simp [intOf]; omega
    · have e9 : decide ((j : Int) < (n4 : Int)) = false := by simp; omega
      obtain rfl : j = n4 := by omega
      clear hjn
      go_wp2
      go_loopw [12] (fun x12 wr => ∃ (i : Nat), x12 = .int .i64 (i : Int) ∧ i ≤ 2 ∧ CurAt wr c t k es j ∧ Below w4.heap.size w4 wr) (fun x _ => 2 - (intOf x).toNat)
      case atStart => exact ⟨0, rfl, by omega, HCU.out, HB.out⟩
      case round =>
        obtain ⟨i, rfl, hi, hcu, hb⟩ := hrel
        clear HCU HB
        have HCU := hide hcu
        have HB := hide hb
        rename World => wy
        clear hcu hb
        by_cases hin : i < 2
        · skip
          have HMV := hide (cur_next HT4.out HB.out hcg HCU.out)
          go_wp2_with fail
          refine HMV.out.mono ?_
          rintro e w6 ⟨r6, ok6, rfl, hi6, hcu6, hx6⟩
          have hb6 := hx6.to_below (B := w4.heap.size) hcg HB.out.size
          have hal := (Below.refl w6.heap.size w6).alloc (Nat.le_refl _) (.cells #[.slice r6.A r6.n r6.c, .int .u64 (r6.v : Int)] 27)
          have hN6 := Blk.new w6 27 #[.slice r6.A r6.n r6.c, .int .u64 (r6.v : Int)]
          have y0 := hN6.cell 0
          have y1 := hN6.cell 1
          simp at y0 y1
          have HB7 := hide (below_then (HB.out.trans hb6) hal)
          have HCU7 := hide (hcu6.below hal)
          have HAT := hide (at8 (c := c4) (i := ((j : Nat) : Int)) (HE4.out.below HB7.out) HKK.out hk16 (hi6.below hal) (by rw [HEN.out]; have := HLEN.out; rw [List.getElem?_eq_none (by omega), if_neg (by omega), Int.toNat_natCast, List.getElem?_eq_none (by omega)]))
          clear hi6 hcu6 hx6 hb6 hal hN6 HMV
          go_wp2_with fail
          refine HAT.out.mono ?_
          rintro e w8 ⟨rfl, hb8⟩
          have HB8 := hide (below_then HB7.out hb8)
          have HCU8 := hide (HCU7.out.below hb8)
          clear hb8 HAT y0 y1
          go_wp2
          go_roundw
          case rel =>
            refine ⟨i + 1, by go_num, by omega, ?_, HB8.out⟩
            have := HCU8.out
            rw [Nat.min_eq_right (by have := HLEN.out; omega), HLEN.out] at this
            exact this
          case measure => simp [intOf]; omega
        · have e10 : decide ((i : Int) < 2) = false := by simp; omega
          clear hin
          have hjb : (j : Int) ≤ 50 := by omega
          go_wp2
          go_loopw [15] (fun x15 wr => ∃ (m : Nat), x15 = .int .i64 ((m : Int) - 1) ∧ m ≤ j ∧ CurAt wr c t k es m ∧ Below w4.heap.size w4 wr) (fun x _ => (intOf x + 1).toNat)
          case atStart => exact ⟨j, rfl, Nat.le_refl _, HCU.out, HB.out⟩
          case round =>
            obtain ⟨m, rfl, hm, hcu, hb⟩ := hrel
            clear HCU HB
            have HCU := hide hcu
            have HB := hide hb
            rename World => wx
            clear hcu hb
            cases m with
            | succ m =>
              have ej : ((m + 1 : Nat) : Int) - 1 = (m : Int) := by omega
              rw [ej]
              have e11 : decide ((0 : Int) ≤ (m : Int)) = true := by simp
              clear ej
              have hmb : (m : Int) ≤ 50 := by omega
              have HMV := hide (cur_back HT4.out HB.out hcg HCU.out)
              go_wp2_with fail
              refine HMV.out.mono ?_
              rintro e w6 ⟨r6, ok6, rfl, hi6, hcu6, hx6⟩
              have hb6 := hx6.to_below (B := w4.heap.size) hcg HB.out.size
              have hal := (Below.refl w6.heap.size w6).alloc (Nat.le_refl _) (.cells #[.slice r6.A r6.n r6.c, .int .u64 (r6.v : Int)] 27)
              have hN6 := Blk.new w6 27 #[.slice r6.A r6.n r6.c, .int .u64 (r6.v : Int)]
              have y0 := hN6.cell 0
              have y1 := hN6.cell 1
              simp at y0 y1
              have HB7 := hide (below_then (HB.out.trans hb6) hal)
              have HCU7 := hide (hcu6.below hal)
              have HAT := hide (at8 (c := c4) (i := ((m : Nat) : Int)) (HE4.out.below HB7.out) HKK.out hk16 (hi6.below hal) (by rw [HEN.out]; exact (at_here m)))
              clear hi6 hcu6 hx6 hb6 hal hN6 HMV
              go_wp2_with fail
              refine HAT.out.mono ?_
              rintro e w8 ⟨rfl, hb8⟩
              have HB8 := hide (below_then HB7.out hb8)
              have HCU8 := hide (HCU7.out.below hb8)
              clear hb8 HAT y0 y1
              go_wp2
              go_roundw
              case rel => exact ⟨m, rfl, by omega, HCU8.out, HB8.out⟩
              case measure => simp [intOf]
            | zero =>
              have hz : ((0 : Nat) : Int) - 1 = -1 := by omega
              rw [hz]
              clear hz
              have HMV := hide (cur_back HT4.out HB.out hcg HCU.out)
              go_wp2_with fail
              refine HMV.out.mono ?_
              rintro e w6 ⟨r6, ok6, rfl, hi6, hcu6, hx6⟩
              have hb6 := hx6.to_below (B := w4.heap.size) hcg HB.out.size
              have hal := (Below.refl w6.heap.size w6).alloc (Nat.le_refl _) (.cells #[.slice r6.A r6.n r6.c, .int .u64 (r6.v : Int)] 27)
              have hN6 := Blk.new w6 27 #[.slice r6.A r6.n r6.c, .int .u64 (r6.v : Int)]
              have y0 := hN6.cell 0
              have y1 := hN6.cell 1
              simp at y0 y1
              have HB7 := hide (below_then (HB.out.trans hb6) hal)
              have HCU7 := hide (hcu6.below hal)
              have HAT := hide (at8 (c := c4) (i := (-1 : Int)) (HE4.out.below HB7.out) HKK.out hk16 (hi6.below hal) (by rw [HEN.out]; simp))
              clear hi6 hcu6 hx6 hb6 hal hN6 HMV
              go_wp2_with fail
              refine HAT.out.mono ?_
              rintro e w8 ⟨rfl, hb8⟩
              have HB8 := hide (below_then HB7.out hb8)
              have HCU8 := hide (HCU7.out.below hb8)
              clear hb8 HAT y0 y1
              go_wp2
              go_ret
              exact ⟨rfl, below_then HB4.out HB8.out⟩
end Go.Proofs.Ytnopacldaoekiaa
