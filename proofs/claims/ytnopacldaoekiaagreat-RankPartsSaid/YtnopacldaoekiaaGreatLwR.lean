/- pantilelaw10: the chapter's example; a tree that isn't there has no ranks. -/
import Derived.Test.YtnopacldaoekiaaGreatRkA
import Derived.Test.YtnopacldaoekiaaGreatTrD
set_option linter.unusedSimpArgs false
set_option linter.unusedVariables false
namespace Go.Proofs.YtnopacldaoekiaaGreat
open Go.RowKit
set_option maxHeartbeats 4000000 in
set_option maxRecDepth 100000 in
theorem awake10 (w : World) : Calls Tryz.prog 18 #[] w fun e w' => e = .returned (.bool true) ∧ Below w.heap.size w w' := by
  have HN := hide (tr_new 2 w (by omega) (by omega))
  go_enter Tryz.func18, Tryz.ntmps18
  go_wp2_with fail
  refine HN.out.mono ?_
  rintro e w1 ⟨rfl, hT1, hb1⟩
  have hb2 := below_alloc hb1 (Nat.le_refl _) (.cells #[.int .u64 7, .int .u64 3] 35)
  have hq2 := (Below.refl w1.heap.size w1).alloc (Nat.le_refl _) (.cells #[.int .u64 7, .int .u64 3] 35)
  have HP1 := hide (tr_put (v := 1) (c := 2) (TreeOf.stay ⟨by omega, by omega, .inl ⟨hT1, rfl⟩⟩ hq2) (pt_lit2 w1 7 3 (by omega) (by omega)) (by omega))
  have HB2 := hide hb2
  clear hT1 hb1 hb2 hq2 HN
  go_wp2_with fail
  refine HP1.out.mono ?_
  rintro e w3 ⟨t3, es1, rfl, hT3, hm1, -, hb3⟩
  have hc3 := below_then HB2.out hb3
  have hb4 := below_alloc hc3 (Nat.le_refl _) (.cells #[.int .u64 0, .int .u64 8] 35)
  have hq4 := (Below.refl w3.heap.size w3).alloc (Nat.le_refl _) (.cells #[.int .u64 0, .int .u64 8] 35)
  have HP2 := hide (tr_put (v := 2) (c := 2) (hT3.stay hq4) (pt_lit2 w3 0 8 (by omega) (by omega)) (by omega))
  have HB4 := hide hb4
  have HM1 := hide hm1
  clear hT3 hb3 hc3 hb4 hq4 HP1 HB2 hm1
  go_wp2_with fail
  refine HP2.out.mono ?_
  rintro e w5 ⟨t5, es2, rfl, hT5, hm2, -, hb5⟩
  have hc5 := below_then HB4.out hb5
  have hb6 := below_alloc hc5 (Nat.le_refl _) (.cells #[.int .u64 4, .int .u64 0] 35)
  have hq6 := (Below.refl w5.heap.size w5).alloc (Nat.le_refl _) (.cells #[.int .u64 4, .int .u64 0] 35)
  have HP3 := hide (tr_put (v := 3) (c := 2) (hT5.stay hq6) (pt_lit2 w5 4 0 (by omega) (by omega)) (by omega))
  have HB6 := hide hb6
  have HM2 := hide hm2
  clear hT5 hb5 hc5 hb6 hq6 HP2 HB4 hm2
  go_wp2_with fail
  refine HP3.out.mono ?_
  rintro e w7 ⟨t7, es3, rfl, hT7, hm3, -, hb7⟩
  have hc7 := below_then HB6.out hb7
  obtain ⟨hso, -⟩ := hT7.sorted
  have he3 := es_awake HM1.out HM2.out hm3 hso
  subst he3
  obtain ⟨top, hTB, hTop, hes, -, -⟩ := hT7.top
  have hal := (Below.refl w7.heap.size w7).alloc (Nat.le_refl _) (.cells #[.int .u64 7, .int .u64 7] 35)
  have hof := rk_of (pc := 2) (Blk.below hTB hal) (hTop.stay hal) (by omega) (by omega) (by rw [hes]; simp) (pt_lit2 w7 7 7 (by omega) (by omega))
  rw [hes] at hof
  have HOF := hide hof
  have HB7 := hide (below_then hc7 hal)
  have HZS := hide hT7.sorted.2
  clear hT7 hm3 hb7 hc7 hso hTB hTop hes hal hof HP3 HB6 HM1 HM2
  go_wp2_with fail
  refine HOF.out.mono ?_
  rintro e w8 ⟨A, B, hcut, rfl, hb8⟩
  have hl := (hcut.place (k := 2) (fun e he => (HZS.out e he).1) ⟨rfl, by decide⟩).1
  rw [show fromI [([4, 0], 3), ([7, 3], 1), ([0, 8], 2)] [7, 7] = 2 by decide +kernel] at hl
  rw [← hl]
  have HB8 := hide (below_then HB7.out hb8)
  clear hcut hb8 hl
  go_wp2
  go_ret
  exact ⟨rfl, HB8.out⟩
set_option maxHeartbeats 1000000 in
set_option maxRecDepth 100000 in
theorem rk_part_nil (A : Option Addr) (n c : Nat) (w : World) : Calls Tryz.prog 19 #[.pointer none, .slice A n c] w fun e w' => e = .returned (.tuple #[.pointer none, .pointer none, .int .i64 1]) ∧ w = w' := by
  have HC := hide (rk_check_nil A n c w)
  go_enter Tryz.func19, Tryz.ntmps19
  go_wp2_with fail
  refine HC.out.mono ?_
  rintro e w1 ⟨rfl, rfl⟩
  go_wp2
  go_ret3
  exact ⟨rfl, rfl⟩
end Go.Proofs.YtnopacldaoekiaaGreat
