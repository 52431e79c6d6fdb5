/- pantileref06.SameShape: of equal shapes it says yes. -/
import Derived.Test.YtkknfnjojamgjaaSames
set_option linter.unusedSimpArgs false
set_option linter.unusedVariables false
namespace Go.Proofs.Ytkknfnjojamgjaa
open Go.RowKit
set_option maxHeartbeats 2000000 in
set_option maxRecDepth 100000 in
theorem same_shape (A B C D : Option Addr) (n c d m f g : Nat) (lv : Int) (dn : Bool) (v : Int) (xs ps : List Int) (w : World) (hA : Rw w 1 A n (xs.map fun z => .int .u64 z)) (hB : Rw w 1 B n (xs.map fun z => .int .u64 z))
    (hC : Rw w 1 C m (ps.map fun z => .int .i64 z)) (hD : Rw w 1 D m (ps.map fun z => .int .i64 z)) (hn : n ≤ 70368744177664) (hm : m ≤ 70368744177664) :
    Calls Try.prog 58 #[.agg #[.int .i64 lv, .slice A n c, .slice C m f, .bool dn, .int .u64 v], .agg #[.int .i64 lv, .slice B n d, .slice D m g, .bool dn, .int .u64 v]] w
      fun e w' => e = .returned (.bool true) ∧ Below w.heap.size w w' := by
  have b1 := (Below.refl w.heap.size w).alloc (Nat.le_refl _) (.cells #[.int .i64 lv, .slice A n c, .slice C m f, .bool dn, .int .u64 v] 83)
  have b2 := below_alloc b1 (Nat.le_refl _) (.cells #[.int .i64 lv, .slice B n d, .slice D m g, .bool dn, .int .u64 v] 83)
  have hN1 := (Blk.new w 83 #[.int .i64 lv, .slice A n c, .slice C m f, .bool dn, .int .u64 v]).alloc (.cells #[.int .i64 lv, .slice B n d, .slice D m g, .bool dn, .int .u64 v] 83)
  have hN2 := Blk.new (w.alloc (.cells #[.int .i64 lv, .slice A n c, .slice C m f, .bool dn, .int .u64 v] 83)) 83 #[.int .i64 lv, .slice B n d, .slice D m g, .bool dn, .int .u64 v]
  have hsz : (w.alloc (.cells #[.int .i64 lv, .slice A n c, .slice C m f, .bool dn, .int .u64 v] 83)).heap.size = w.heap.size + 1 := by simp
  rw [hsz] at hN2
  have HS := hide (same_u64 A B n c n d xs xs _ (hA.below b2) (hB.below b2) hn hn)
  have HC := hide (hC.below b2)
  have HD := hide (hD.below b2)
  have x0 := hN1.cell 0
  have x1 := hN1.cell 1
  have y0 := hN2.cell 0
  have y1 := hN2.cell 1
  simp at x0 x1 y0 y1
  have HN1 := hide hN1
  have HN2 := hide hN2
  clear hA hB hC hD hN1 hN2 hsz
  go_enter Try.func58, Try.ntmps58
  go_wp2_with fail
  refine HS.out.mono ?_
  rintro e w1 ⟨rfl, hb1⟩
  have hN1 := HN1.out.below hb1
  have hN2 := HN2.out.below hb1
  have hC1 := HC.out.below hb1
  have hD1 := HD.out.below hb1
  have hbw := below_then b2 hb1
  clear x0 x1 y0 y1 b1 b2
  have x2 := hN1.cell 2
  have x3 := hN1.cell 3
  have x4 := hN1.cell 4
  have y2 := hN2.cell 2
  have y3 := hN2.cell 3
  have y4 := hN2.cell 4
  simp at x2 x3 x4 y2 y3 y4
  have hsm : sameB xs xs = true := by simp [sameB]
  rw [hsm]
  have HN1' := hide hN1
  have HN2' := hide hN2
  have HC1 := hide hC1
  have HD1 := hide hD1
  clear hN1 hN2 hC1 hD1
  go_wp2
  go_loopw [5] (fun x wr => ∃ (j : Nat), x = .int .i64 j ∧ j ≤ m ∧ Below w1.heap.size w1 wr) (fun x _ => m - (intOf x).toNat)
  case atStart => exact ⟨0, rfl, Nat.zero_le _, Below.refl _ _⟩
  case round =>
    obtain ⟨j, rfl, hj, hb⟩ := hrel
    have hN1 := HN1'.out.below hb
    have hN2 := HN2'.out.below hb
    clear x2 x3 x4 y2 y3 y4
    have x2 := hN1.cell 2
    have y2 := hN2.cell 2
    simp at x2 y2
    clear hN1 hN2
    by_cases hjm : j < m
    · obtain ⟨b, o, rfl, hbl, u, hu, k0⟩ := (HC1.out.below hb).one hjm
      obtain ⟨b', o', rfl, hbl', u', hu', k1⟩ := (HD1.out.below hb).one hjm
      rw [List.getElem?_map] at hu hu'
      obtain ⟨x, hx, rfl⟩ := Option.map_eq_some_iff.1 hu
      obtain ⟨y, hy, rfl⟩ := Option.map_eq_some_iff.1 hu'
      obtain rfl : x = y := by rw [hx] at hy; injection hy
      clear hu hu' hx hy
      go_wp2
      go_quiet (fail)
      go_wp2
      go_roundw
      case rel => exact ⟨j + 1, by go_num, by omega, below_drewN hb _⟩
      case measure => simp [intOf]; omega
    · obtain rfl : j = m := by omega
      go_wp2
      go_ret
      exact ⟨rfl, below_then hbw hb⟩
end Go.Proofs.Ytkknfnjojamgjaa
