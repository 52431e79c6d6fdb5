/- pantilelaw05.SlotsPlay: the rounds. -/
import Derived.Test.YtkknfnjojamgjaaPlay5
import Derived.Deep.Cut
import Derived.Deep.CutRange
set_option linter.unusedSimpArgs false
set_option linter.unusedVariables false
namespace Go.Proofs.Ytkknfnjojamgjaa
open Go.RowKit
set_option maxHeartbeats 8000000 in
set_option maxRecDepth 100000 in
theorem play5 (k : Nat) (A : Option Addr) (n c : Nat) (acts : List (Bool × Int × Int)) (addr : Int) (w : World) (hk1 : 1 ≤ k) (hk : k ≤ 16) (hn : n ≤ maxLen) (hR : Rw w 3 A n (acts.flatMap actv)) :
    Calls Try.prog 3 #[.int .i64 (k : Nat), .slice A n c, .int .i64 addr] w fun e w' => e = .returned (.bool true) ∧ Below w.heap.size w w' := by
  go_enter Try.func3, Try.ntmps3
  go_wp2_with fail
  refine (awake5 _).mono ?_
  rintro e0 w0 ⟨rfl, b0⟩
  rcases Nat.lt_or_ge 100 n with h100 | h100
  · go_wp2
    go_ret
    exact ⟨rfl, b0⟩
  · go_wp2_with fail
    refine (new_u (k : Nat) _ (by omega) (by omega)).mono ?_
    rintro e1 w1 ⟨rfl, hS, b1⟩
    rw [Int.toNat_natCast] at hS
    have hb1 := below_then b0 b1
    have H1 := hide hS
    clear hS b0 b1
    go_wp2_with fail
    have B1 := Blk.new w1 32 #[.int .i64 (k : Nat), .slice none 0 0, .slice none 0 0]
    have b2 := (Below.refl w1.heap.size w1).alloc (Nat.le_refl _) (.cells #[.int .i64 (k : Nat), .slice none 0 0, .slice none 0 0] 32)
    have hz : (w1.alloc (.cells #[.int .i64 (k : Nat), .slice none 0 0, .slice none 0 0] 32)).heap.size = w1.heap.size + 1 := by simp
    generalize w1.alloc (.cells #[.int .i64 (k : Nat), .slice none 0 0, .slice none 0 0] 32) = w2 at *
    have c0 := B1.cell 0
    have c1 := B1.cell 1
    have c2 := B1.cell 2
    simp at c0 c1 c2
    have d0 := Blk.alloc_cell (o := .cells #[.int .i64 0, .slice none 0 0, .slice none 0 0] 32) c0
    have d1 := Blk.alloc_cell (o := .cells #[.int .i64 0, .slice none 0 0, .slice none 0 0] 32) c1
    have d2 := Blk.alloc_cell (o := .cells #[.int .i64 0, .slice none 0 0, .slice none 0 0] 32) c2
    have hzz := hide hz
    clear hz
    go_region
    have e2 := (Blk.new w2 32 #[.int .i64 (k : Nat), .slice none 0 0, .slice none 0 0]).drewN 1
    have b3 := ((Below.refl w2.heap.size w2).alloc (Nat.le_refl _) (.cells #[.int .i64 (k : Nat), .slice none 0 0, .slice none 0 0] 32)).drew
    have hI : Inv5 (w2.alloc (.cells #[.int .i64 (k : Nat), .slice none 0 0, .slice none 0 0] 32)).drew w1.heap.size w2.heap.size k w0.heap.size w0.heap.size [] [] := by
      have hs := (H1.out.below b2).below b3
      exact ⟨hs, hs, ⟨none, 0, 0, none, 0, B1.below b3, refAt_nil _ _ hk⟩, ⟨none, 0, 0, none, 0, e2, refAt_nil _ _ hk⟩⟩
    have hw3 := below_then (below_then hb1 b2) b3
    have hne : w1.heap.size < w2.heap.size := by have := hzz.out; omega
    have hlo := hb1.size
    generalize (w2.alloc (.cells #[.int .i64 (k : Nat), .slice none 0 0, .slice none 0 0] 32)).drew = w3 at *
    generalize hbm : w1.heap.size = bm at *
    generalize hbw : w2.heap.size = bw at *
    generalize hg0 : w0.heap.size = g0 at *
    clear hbm hbw hg0 B1 b2 c0 c1 c2 d0 d1 d2 hzz e2 b3 hb1 H1
    have HI := hide hI
    clear hI
    go_wp2
    go_loopw [7, 10, 12] (fun x y z wr => ∃ (g : Nat) (L : Th) (gO : Nat) (LO : Th) (j : Nat), x = .pointer (some ⟨g, 0, none⟩) ∧ y = .pointer (some ⟨gO, 0, none⟩) ∧ z = .int .i64 j ∧ j ≤ n ∧ Inv5 wr bm bw k g gO L LO ∧ Below w.heap.size w wr) (fun x y z _ => n - (intOf z).toNat)
    case atStart => exact ⟨g0, [], g0, [], 0, rfl, rfl, rfl, Nat.zero_le _, HI.out, hw3⟩
    case round =>
      obtain ⟨g, L, gO, LO, j, rfl, rfl, rfl, hj, hI, hb⟩ := hrel
      have HI := hide hI
      obtain ⟨-, -, ⟨A1, n1, c1, B1, d1, hX1, hV1⟩, ⟨A2, n2, c2, B2, d2, hX2, hV2⟩⟩ := hI
      have m0 := hX1.cell 0
      have m1 := hX1.cell 1
      have m2 := hX1.cell 2
      have o0 := hX2.cell 0
      have o1 := hX2.cell 1
      have o2 := hX2.cell 2
      simp at m0 m1 m2 o0 o1 o2
      by_cases hjn : j < n
      · obtain ⟨b, o, d, a, x, rfl, hbl0, a0', a1', a2'⟩ := act_cells hR hjn
        have HAct := hide (fun (W : World) (hW : Below w.heap.size w W) => And.intro ((hW.cell (p := ⟨b, o + j * 3, none⟩) hbl0).trans a0') (And.intro ((hW.cell (p := ⟨b, o + j * 3 + 1, none⟩) hbl0).trans a1') ((hW.cell (p := ⟨b, o + j * 3 + 2, none⟩) hbl0).trans a2')))
        have hbl : b < wr.heap.size := by have := hb.size; omega
        obtain ⟨a0, a1, a2⟩ := HAct.out wr hb
        clear a0' a1' a2'
        have HSt' : ∀ W : World, Below wr.heap.size wr W → W.cell? ⟨bm, 0, none⟩ = some (.int .i64 (k : Nat)) ∧ W.cell? ⟨bm, 1, none⟩ = some (.slice A1 n1 c1) ∧ W.cell? ⟨bm, 2, none⟩ = some (.slice B1 n1 d1) ∧ W.cell? ⟨b, o + j * 3 + 1, none⟩ = some (.int .i64 a) ∧ W.cell? ⟨b, o + j * 3 + 2, none⟩ = some (.int .u64 x) :=
          fun W hW => ⟨(hW.cell (p := ⟨bm, 0, none⟩) hX1.lt).trans m0, (hW.cell (p := ⟨bm, 1, none⟩) hX1.lt).trans m1, (hW.cell (p := ⟨bm, 2, none⟩) hX1.lt).trans m2, (hW.cell (p := ⟨b, o + j * 3 + 1, none⟩) hbl).trans a1, (hW.cell (p := ⟨b, o + j * 3 + 2, none⟩) hbl).trans a2⟩
        have HSt := hide HSt'
        have HFl := hide (fun (W : World) (hW : Below wr.heap.size wr W) => (hW.cell (p := ⟨b, o + j * 3, none⟩) hbl).trans a0)
        have hHV := hide hV1
        clear HSt' o0 o1 o2
        have CG' : ∀ W : World, Below wr.heap.size wr W → Calls Try.prog 17 #[.agg #[.int .i64 (k : Nat), .slice A1 n1 c1, .slice B1 n1 d1], .int .i64 a] W fun e w' => e = .returned (.tuple #[(getTh L a).getD (.int .u64 0), .bool (getTh L a).isSome]) ∧ Below W.heap.size W w' :=
          fun W hW => r5_get _ k L a W (hV1.below hW)
        have CT' : ∀ W : World, Below wr.heap.size wr W → Calls Try.prog 19 #[.agg #[.int .i64 (k : Nat), .slice A1 n1 c1, .slice B1 n1 d1], .int .i64 a] W fun e w' => e = .returned (.bool (decide (0 ≤ a ∧ a < ((2 ^ k : Nat) : Int)))) ∧ Below W.heap.size W w' :=
          fun W hW => r5_there _ k L a W (hV1.below hW)
        by_cases hth : 0 ≤ a ∧ a < ((2 ^ k : Nat) : Int)
        · have hck : chk k a = 0 := by unfold chk; rw [if_pos hth]
          have hdt : decide (0 ≤ a ∧ a < ((2 ^ k : Nat) : Int)) = true := by simp only [decide_eq_true_eq]; exact hth
          obtain ⟨an, rfl⟩ := Int.eq_ofNat_of_zero_le hth.1
          have han : an < 2 ^ k := by have := hth.2; omega
          have HCK := hide hck
          rw [hdt] at CT'
          have CT := hide CT'
          clear CT' hck hdt hth
          cases d with
          | true =>
            cases hg : getTh L (an : Int) with
            | none =>
              simp only [hg, Option.getD_none, Option.isSome_none] at CG'
              have HG := hide hg
              have CG := hide CG'
              clear CG' hg
              go_wp2_with fail
              go_region_held3 (fun w' => w'.cell? ⟨bm, 0, none⟩ = some (.int .i64 (k : Nat)) ∧ w'.cell? ⟨bm, 1, none⟩ = some (.slice A1 n1 c1) ∧ w'.cell? ⟨bm, 2, none⟩ = some (.slice B1 n1 d1) ∧ w'.cell? ⟨b, o + j * 3 + 1, none⟩ = some (.int .i64 (an : Int)) ∧ w'.cell? ⟨b, o + j * 3 + 2, none⟩ = some (.int .u64 x))
                (first
                  | go_keep
                  | exact hk4)
                (first
                  | (go_at_call 17
                     refine (CG.out wr.drew (Below.refl _ wr).drew).mono ?_
                     rintro e w4 ⟨rfl, hq4⟩
                     have hb4 : Below wr.heap.size wr w4 := (Below.refl _ wr).drew.trans hq4
                     have hk4 := HSt.out w4 hb4))
              have f0 := HFl.out w4 hb4
              clear m0 m1 m2 a1 a2
              have hk4 := HSt.out w4 hb4
              have m0 := hk4.1
              have m1 := hk4.2.1
              have m2 := hk4.2.2.1
              have a1 := hk4.2.2.2.1
              have a2 := hk4.2.2.2.2
              go_wp2_with fail
              refine (del_none_u g k L (an : Int) w4 (HI.out.1.below hb4) HCK.out HG.out).mono ?_
              rintro e w5 ⟨rfl, hq5⟩
              have hb5 : Below wr.heap.size wr w5 := below_then hb4 hq5
              clear m0 m1 m2 a1 a2 f0
              have hk5 := HSt.out w5 hb5
              have m0 := hk5.1
              have m1 := hk5.2.1
              have m2 := hk5.2.2.1
              have a1 := hk5.2.2.2.1
              have a2 := hk5.2.2.2.2
              go_wp2_with fail
              go_region_held3 (fun w' => w'.cell? ⟨bm, 0, none⟩ = some (.int .i64 (k : Nat)) ∧ w'.cell? ⟨bm, 1, none⟩ = some (.slice A1 n1 c1) ∧ w'.cell? ⟨bm, 2, none⟩ = some (.slice B1 n1 d1) ∧ w'.cell? ⟨b, o + j * 3 + 1, none⟩ = some (.int .i64 (an : Int)) ∧ w'.cell? ⟨b, o + j * 3 + 2, none⟩ = some (.int .u64 x))
                (first
                  | go_keep
                  | exact hk6)
                (first
                  | (go_at_call 19
                     refine (CT.out w5.drew hb5.drew).mono ?_
                     rintro e w6 ⟨rfl, hq6⟩
                     have hb6 : Below wr.heap.size wr w6 := below_then hb5.drew hq6
                     have hk6 := HSt.out w6 hb6))
              go_wp2
              go_roundw
              case rel => exact ⟨g, L, gO, LO, j + 1, rfl, rfl, by go_num, by omega, HI.out.below hb6, below_then hb hb6⟩
              case measure => simp [intOf]; omega
            | some y =>
              simp only [hg, Option.getD_some, Option.isSome_some] at CG'
              have HG := hide hg
              have CG := hide CG'
              clear CG' hg
              go_wp2_with fail
              go_region_held3 (fun w' => w'.cell? ⟨bm, 0, none⟩ = some (.int .i64 (k : Nat)) ∧ w'.cell? ⟨bm, 1, none⟩ = some (.slice A1 n1 c1) ∧ w'.cell? ⟨bm, 2, none⟩ = some (.slice B1 n1 d1) ∧ w'.cell? ⟨b, o + j * 3 + 1, none⟩ = some (.int .i64 (an : Int)) ∧ w'.cell? ⟨b, o + j * 3 + 2, none⟩ = some (.int .u64 x))
                (first
                  | go_keep
                  | exact hk4)
                (first
                  | (go_at_call 17
                     refine (CG.out wr.drew (Below.refl _ wr).drew).mono ?_
                     rintro e w4 ⟨rfl, hq4⟩
                     have hb4 : Below wr.heap.size wr w4 := (Below.refl _ wr).drew.trans hq4
                     have hk4 := HSt.out w4 hb4))
              have f0 := HFl.out w4 hb4
              clear m0 m1 m2 a1 a2
              have hk4 := HSt.out w4 hb4
              have m0 := hk4.1
              have m1 := hk4.2.1
              have m2 := hk4.2.2.1
              have a1 := hk4.2.2.2.1
              have a2 := hk4.2.2.2.2
              go_wp2_with fail
              refine (del_u g k L an y w4 (HI.out.1.below hb4) han HG.out).mono ?_
              rintro e w5 ⟨g', rfl, hS5, hg', hq5⟩
              have hb5 : Below wr.heap.size wr w5 := below_then hb4 hq5
              clear m0 m1 m2 a1 a2 f0
              have hk5 := HSt.out w5 hb5
              have m0 := hk5.1
              have m1 := hk5.2.1
              have m2 := hk5.2.2.1
              have a1 := hk5.2.2.2.1
              have a2 := hk5.2.2.2.2
              go_wp2_with fail
              go_region_held3 (fun w' => w'.cell? ⟨bm, 0, none⟩ = some (.int .i64 (k : Nat)) ∧ w'.cell? ⟨bm, 1, none⟩ = some (.slice A1 n1 c1) ∧ w'.cell? ⟨bm, 2, none⟩ = some (.slice B1 n1 d1) ∧ w'.cell? ⟨b, o + j * 3 + 1, none⟩ = some (.int .i64 (an : Int)) ∧ w'.cell? ⟨b, o + j * 3 + 2, none⟩ = some (.int .u64 x))
                (first
                  | go_keep
                  | exact hk6)
                (first
                  | (go_at_call 19
                     refine (CT.out w5.drew hb5.drew).mono ?_
                     rintro e w6 ⟨rfl, hq6⟩
                     have hb6 : Below wr.heap.size wr w6 := below_then hb5.drew hq6
                     have hk6 := HSt.out w6 hb6))
              clear m0 m1 m2 a1 a2 hk4 hk5
              have m0 := hk6.1
              have m1 := hk6.2.1
              have m2 := hk6.2.2.1
              have a1 := hk6.2.2.2.1
              have a2 := hk6.2.2.2.2
              have hS6 := hide (hS5.below ((Below.refl _ w5).drew.trans hq6))
              go_upto_region 24 with fail
              have hLt : (w6.drew).cell? ⟨bm, 0, none⟩ = some (.int .i64 (k : Nat)) := m0
              go_cut [7] from 45 to 170 (fun s7 W => s7 = .pointer (some ⟨g', 0, none⟩) ∧ Inv5 W bm bw k g' gO (delTh L an) LO ∧ Below w.heap.size w W)
              case first =>
                go_region_with (first
                  | (go_at_call 20
                     refine (r5_del _ k L (an : Int) w6.drew (hHV.out.below hb6.drew)).mono ?_
                     rintro e w7 ⟨v7, rfl, hR7, hq7⟩
                     rw [delTh_int] at hR7
                     have H7 := hide hR7
                     obtain ⟨A7, c7, B7, d7, rfl, -⟩ := hR7
                     generalize (delTh L an).length = n7 at *
                     have hb7 : Below wr.heap.size wr w7 := below_then hb6.drew hq7
                     have hb8 : Below w.heap.size w (((w7.setCell ⟨bm, 0, none⟩ (.int .i64 (k : Nat))).setCell ⟨bm, 1, none⟩ (.slice A7 n7 c7)).setCell ⟨bm, 2, none⟩ (.slice B7 n7 d7)) := below_set3 (below_then hb hb7) hlo
                     have z0 := (hX1.below hb7).frozen 0
                     have z1 := (hX1.below hb7).frozen 1
                     have z2 := (hX1.below hb7).frozen 2
                     have y0 := (HSt.out w7 hb7).1
                     have y1 := (HSt.out w7 hb7).2.1
                     have y2 := (HSt.out w7 hb7).2.2.1
                     have hI7 := HI.out.below hb7
                     have hJ : Inv5 (((w7.setCell ⟨bm, 0, none⟩ (.int .i64 (k : Nat))).setCell ⟨bm, 1, none⟩ (.slice A7 n7 c7)).setCell ⟨bm, 2, none⟩ (.slice B7 n7 d7)) bm bw k g' gO (delTh L an) LO :=
                       ⟨RefBox.slots (hS6.out.below ((Below.refl _ w6).drew.trans hq7)) hI7.2.2.1, RefBox.slots hI7.2.1 hI7.2.2.1, RefBox.put hI7.2.2.1 H7.out, RefBox.other hI7.2.2.2 hI7.2.2.1 (by omega)⟩
                     have HJ := hide hJ
                     have HB8 := hide hb8
                     clear hJ hb8 hI7))
                all_goals
                  go_wp2_with fail
                  go_meet
                all_goals exact ⟨rfl, HJ.out, HB8.out⟩
              case rest =>
                obtain ⟨rfl, hJ8, hb8⟩ := hcut
                have HJ := hide hJ8
                have HB8 := hide hb8
                generalize (delTh L an) = L7 at HJ
                clear hJ8 hb8 m0 m1 m2 a1 a2
                try clear hb7
                obtain ⟨-, -, ⟨E1, r1, s1, G1, t1, hY1, hU1⟩, ⟨E2, r2, s2, G2, t2, hY2, hU2⟩⟩ := HJ.out
                have p0 := hY1.cell 0
                have p1 := hY1.cell 1
                have p2 := hY1.cell 2
                have q0 := hY2.cell 0
                have q1 := hY2.cell 1
                have q2 := hY2.cell 2
                simp at p0 p1 p2 q0 q1 q2
                obtain ⟨-, a1, -⟩ := HAct.out wc HB8.out
                rcases Nat.decEq (j % 7) 3 with h7 | h7
                · go_wp2_with fail
                  go_region_held3 (fun w' => w'.cell? ⟨bm, 0, none⟩ = some (.int .i64 (k : Nat)) ∧ w'.cell? ⟨bm, 1, none⟩ = some (.slice E1 r1 s1) ∧ w'.cell? ⟨bm, 2, none⟩ = some (.slice G1 r1 t1) ∧ w'.cell? ⟨b, o + j * 3 + 1, none⟩ = some (.int .i64 (an : Int)))
                    (first
                      | go_keep
                      | exact hk11)
                    (first
                      | (go_at_call 23
                         refine (even5 g' k _ L7 (an : Int) wc.drew (HJ.out.1.below (Below.refl _ wc).drew) (hU1.below (Below.refl _ wc).drew)).mono ?_
                         rintro e w11 ⟨rfl, hq11⟩
                         have hc11 : Below wc.heap.size wc w11 := (Below.refl _ wc).drew.trans hq11
                         have hk11 : w11.cell? ⟨bm, 0, none⟩ = some (.int .i64 (k : Nat)) ∧ w11.cell? ⟨bm, 1, none⟩ = some (.slice E1 r1 s1) ∧ w11.cell? ⟨bm, 2, none⟩ = some (.slice G1 r1 t1) ∧ w11.cell? ⟨b, o + j * 3 + 1, none⟩ = some (.int .i64 (an : Int)) :=
                           ⟨(hc11.cell (p := ⟨bm, 0, none⟩) hY1.lt).trans p0, (hc11.cell (p := ⟨bm, 1, none⟩) hY1.lt).trans p1, (hc11.cell (p := ⟨bm, 2, none⟩) hY1.lt).trans p2, (HAct.out w11 (below_then HB8.out hc11)).2.1⟩))
                  have HE := hide (And.intro (HJ.out.below hc11) (below_then HB8.out hc11))
                  clear hk11 hc11 hq11 p0 p1 p2 a1
                  go_wp2
                  go_roundw
                  case rel => first | exact ⟨g', L7, gO, LO, j + 1, rfl, rfl, by go_num, by omega, HE.out.1, HE.out.2⟩ | ((repeat apply Exists.intro); exact ⟨⟨g', L7, gO, LO, j + 1, rfl, rfl, by go_num, by omega, HE.out.1, HE.out.2⟩, rfl⟩)
                  case measure => simp [intOf]; omega
                · go_wp2_with fail
                  refine (even5 gO k _ LO addr wc HJ.out.2.1 hU2).mono ?_
                  rintro e w9 ⟨rfl, hb9⟩
                  have X1 := hY1.below hb9
                  have X2 := hY2.below hb9
                  have U1 := hU1.below hb9
                  have J9 := HJ.out.below hb9
                  have u0 := X1.cell 0
                  have u1 := X1.cell 1
                  have u2 := X1.cell 2
                  have v0 := X2.cell 0
                  have v1 := X2.cell 1
                  have v2 := X2.cell 2
                  have z0 := X2.frozen 0
                  have z1 := X2.frozen 1
                  have z2 := X2.frozen 2
                  simp at u0 u1 u2 v0 v1 v2
                  have hr : r1 = L7.length := by
                    obtain ⟨_, _, _, _, he, -⟩ := U1
                    simp at he
                    omega
                  have HJ9 := hide J9
                  have hJa : Inv5 (((w9.setCell ⟨bw, 0, none⟩ (.int .i64 (k : Nat))).setCell ⟨bw, 1, none⟩ (.slice E1 r1 s1)).setCell ⟨bw, 2, none⟩ (.slice G1 r1 t1)) bm bw k g' g' L7 L7 :=
                    ⟨RefBox.slots J9.1 J9.2.2.2, RefBox.slots J9.1 J9.2.2.2, RefBox.other J9.2.2.1 J9.2.2.2 (by omega), RefBox.put J9.2.2.2 U1⟩
                  have hbA : Below w.heap.size w (((w9.setCell ⟨bw, 0, none⟩ (.int .i64 (k : Nat))).setCell ⟨bw, 1, none⟩ (.slice E1 r1 s1)).setCell ⟨bw, 2, none⟩ (.slice G1 r1 t1)) := below_set3 (below_then HB8.out hb9) (by omega)
                  have hXa : Blk (((w9.setCell ⟨bw, 0, none⟩ (.int .i64 (k : Nat))).setCell ⟨bw, 1, none⟩ (.slice E1 r1 s1)).setCell ⟨bw, 2, none⟩ (.slice G1 r1 t1)) bm 32 #[.int .i64 (k : Nat), .slice E1 r1 s1, .slice G1 r1 t1] := ((X1.set_ _ _ _ (by omega)).set_ _ _ _ (by omega)).set_ _ _ _ (by omega)
                  have hUa : RefAt (((w9.setCell ⟨bw, 0, none⟩ (.int .i64 (k : Nat))).setCell ⟨bw, 1, none⟩ (.slice E1 r1 s1)).setCell ⟨bw, 2, none⟩ (.slice G1 r1 t1)) (.agg #[.int .i64 (k : Nat), .slice E1 r1 s1, .slice G1 r1 t1]) k L7 := U1.set3 X2
                  have hJb := hJa.below (Below.refl _ _).drew
                  have hbB := hbA.drew
                  have hXb := hXa.drewN 1
                  have hUb := hUa.below (Below.refl _ _).drew
                  change Blk (((w9.setCell ⟨bw, 0, none⟩ (.int .i64 (k : Nat))).setCell ⟨bw, 1, none⟩ (.slice E1 r1 s1)).setCell ⟨bw, 2, none⟩ (.slice G1 r1 t1)).drew bm _ _ at hXb
                  have HXa := hide hXb
                  have HUa := hide hUb
                  have HJA := hide hJb
                  have HBA := hide hbB
                  clear hr J9 hJa hbA hXa hUa hJb hbB hXb hUb p0 p1 p2 q0 q1 q2 a1 U1
                  go_wp2_with fail
                  go_region
                  generalize (((w9.setCell ⟨bw, 0, none⟩ (.int .i64 (k : Nat))).setCell ⟨bw, 1, none⟩ (.slice E1 r1 s1)).setCell ⟨bw, 2, none⟩ (.slice G1 r1 t1)).drew = wb at *
                  have p0 := HXa.out.cell 0
                  have p1 := HXa.out.cell 1
                  have p2 := HXa.out.cell 2
                  simp at p0 p1 p2
                  obtain ⟨-, a1, -⟩ := HAct.out wb HBA.out
                  clear u0 u1 u2 v0 v1 v2 z0 z1 z2
                  go_wp2_with fail
                  go_region_held3 (fun w' => w'.cell? ⟨bm, 0, none⟩ = some (.int .i64 (k : Nat)) ∧ w'.cell? ⟨bm, 1, none⟩ = some (.slice E1 r1 s1) ∧ w'.cell? ⟨bm, 2, none⟩ = some (.slice G1 r1 t1) ∧ w'.cell? ⟨b, o + j * 3 + 1, none⟩ = some (.int .i64 (an : Int)))
                    (first
                      | go_keep
                      | exact hk11)
                    (first
                      | (go_at_call 23
                         refine (even5 g' k _ L7 (an : Int) wb.drew (HJA.out.1.below (Below.refl _ wb).drew) (HUa.out.below (Below.refl _ wb).drew)).mono ?_
                         rintro e w11 ⟨rfl, hq11⟩
                         have hc11 : Below wb.heap.size wb w11 := (Below.refl _ wb).drew.trans hq11
                         have hk11 : w11.cell? ⟨bm, 0, none⟩ = some (.int .i64 (k : Nat)) ∧ w11.cell? ⟨bm, 1, none⟩ = some (.slice E1 r1 s1) ∧ w11.cell? ⟨bm, 2, none⟩ = some (.slice G1 r1 t1) ∧ w11.cell? ⟨b, o + j * 3 + 1, none⟩ = some (.int .i64 (an : Int)) :=
                           ⟨(hc11.cell (p := ⟨bm, 0, none⟩) HXa.out.lt).trans p0, (hc11.cell (p := ⟨bm, 1, none⟩) HXa.out.lt).trans p1, (hc11.cell (p := ⟨bm, 2, none⟩) HXa.out.lt).trans p2, (HAct.out w11 (below_then HBA.out hc11)).2.1⟩))
                  have HE := hide (And.intro (HJA.out.below hc11) (below_then HBA.out hc11))
                  clear hk11 hc11 hq11 p0 p1 p2 a1
                  go_wp2
                  go_roundw
                  case rel => first | exact ⟨g', L7, g', L7, j + 1, rfl, rfl, by go_num, by omega, HE.out.1, HE.out.2⟩ | ((repeat apply Exists.intro); exact ⟨⟨g', L7, g', L7, j + 1, rfl, rfl, by go_num, by omega, HE.out.1, HE.out.2⟩, rfl⟩)
                  case measure => simp [intOf]; omega
          | false =>
            obtain ⟨gv, hgv⟩ : ∃ gv, (getTh L (an : Int)).getD (.int .u64 0) = gv := ⟨_, rfl⟩
            obtain ⟨gb, hgb⟩ : ∃ gb, (getTh L (an : Int)).isSome = gb := ⟨_, rfl⟩
            simp only [hgv, hgb] at CG'
            have CG := hide CG'
            clear CG' hgv hgb
            go_wp2_with fail
            go_region_held3 (fun w' => w'.cell? ⟨bm, 0, none⟩ = some (.int .i64 (k : Nat)) ∧ w'.cell? ⟨bm, 1, none⟩ = some (.slice A1 n1 c1) ∧ w'.cell? ⟨bm, 2, none⟩ = some (.slice B1 n1 d1) ∧ w'.cell? ⟨b, o + j * 3 + 1, none⟩ = some (.int .i64 (an : Int)) ∧ w'.cell? ⟨b, o + j * 3 + 2, none⟩ = some (.int .u64 x))
              (first
                | go_keep
                | exact hk4)
              (first
                | (go_at_call 17
                   refine (CG.out wr.drew (Below.refl _ wr).drew).mono ?_
                   rintro e w4 ⟨rfl, hq4⟩
                   have hb4 : Below wr.heap.size wr w4 := (Below.refl _ wr).drew.trans hq4
                   have hk4 := HSt.out w4 hb4))
            have f0 := HFl.out w4 hb4
            clear m0 m1 m2 a1 a2
            have hk4 := HSt.out w4 hb4
            have m0 := hk4.1
            have m1 := hk4.2.1
            have m2 := hk4.2.2.1
            have a1 := hk4.2.2.2.1
            have a2 := hk4.2.2.2.2
            go_wp2_with fail
            go_region_held3 (fun w' => w'.cell? ⟨bm, 0, none⟩ = some (.int .i64 (k : Nat)) ∧ w'.cell? ⟨bm, 1, none⟩ = some (.slice A1 n1 c1) ∧ w'.cell? ⟨bm, 2, none⟩ = some (.slice B1 n1 d1) ∧ w'.cell? ⟨b, o + j * 3 + 1, none⟩ = some (.int .i64 (an : Int)) ∧ w'.cell? ⟨b, o + j * 3 + 2, none⟩ = some (.int .u64 x))
              (first
                | go_keep
                | exact hk5)
              (first
                | (go_at_call 21
                   refine (put_u g k L an x w4.drew (HI.out.1.below hb4.drew) han).mono ?_
                   rintro e w5 ⟨g', rfl, hS5, hg', hq5⟩
                   have hb5 : Below wr.heap.size wr w5 := below_then hb4.drew hq5
                   have hk5 := HSt.out w5 hb5))
            clear m0 m1 m2 a1 a2 f0
            have hk5 := HSt.out w5 hb5
            have m0 := hk5.1
            have m1 := hk5.2.1
            have m2 := hk5.2.2.1
            have a1 := hk5.2.2.2.1
            have a2 := hk5.2.2.2.2
            go_wp2_with fail
            go_region_held3 (fun w' => w'.cell? ⟨bm, 0, none⟩ = some (.int .i64 (k : Nat)) ∧ w'.cell? ⟨bm, 1, none⟩ = some (.slice A1 n1 c1) ∧ w'.cell? ⟨bm, 2, none⟩ = some (.slice B1 n1 d1) ∧ w'.cell? ⟨b, o + j * 3 + 1, none⟩ = some (.int .i64 (an : Int)) ∧ w'.cell? ⟨b, o + j * 3 + 2, none⟩ = some (.int .u64 x))
              (first
                | go_keep
                | exact hk6)
              (first
                | (go_at_call 19
                   refine (CT.out w5.drew hb5.drew).mono ?_
                   rintro e w6 ⟨rfl, hq6⟩
                   have hb6 : Below wr.heap.size wr w6 := below_then hb5.drew hq6
                   have hk6 := HSt.out w6 hb6))
            clear m0 m1 m2 a1 a2 hk4 hk5
            have m0 := hk6.1
            have m1 := hk6.2.1
            have m2 := hk6.2.2.1
            have a1 := hk6.2.2.2.1
            have a2 := hk6.2.2.2.2
            have hS6 := hide (hS5.below ((Below.refl _ w5).drew.trans hq6))
            go_upto_region 31 with fail
            have hLt : (w6.drew).cell? ⟨bm, 0, none⟩ = some (.int .i64 (k : Nat)) := m0
            go_cut [7] from 45 to 170 (fun s7 W => s7 = .pointer (some ⟨g', 0, none⟩) ∧ Inv5 W bm bw k g' gO (insTh L an (.int .u64 x)) LO ∧ Below w.heap.size w W)
            case first =>
              go_region_with (first
                | (go_at_call 22
                   refine (r5_put _ k L an x w6.drew (hHV.out.below hb6.drew) han).mono ?_
                   rintro e w7 ⟨v7, rfl, hR7, hq7⟩
                   have H7 := hide hR7
                   obtain ⟨A7, c7, B7, d7, rfl, -⟩ := hR7
                   generalize (insTh L an (.int .u64 x)).length = n7 at *
                   have hb7 : Below wr.heap.size wr w7 := below_then hb6.drew hq7
                   have hb8 : Below w.heap.size w (((w7.setCell ⟨bm, 0, none⟩ (.int .i64 (k : Nat))).setCell ⟨bm, 1, none⟩ (.slice A7 n7 c7)).setCell ⟨bm, 2, none⟩ (.slice B7 n7 d7)) := below_set3 (below_then hb hb7) hlo
                   have z0 := (hX1.below hb7).frozen 0
                   have z1 := (hX1.below hb7).frozen 1
                   have z2 := (hX1.below hb7).frozen 2
                   have y0 := (HSt.out w7 hb7).1
                   have y1 := (HSt.out w7 hb7).2.1
                   have y2 := (HSt.out w7 hb7).2.2.1
                   have hI7 := HI.out.below hb7
                   have hJ : Inv5 (((w7.setCell ⟨bm, 0, none⟩ (.int .i64 (k : Nat))).setCell ⟨bm, 1, none⟩ (.slice A7 n7 c7)).setCell ⟨bm, 2, none⟩ (.slice B7 n7 d7)) bm bw k g' gO (insTh L an (.int .u64 x)) LO :=
                     ⟨RefBox.slots (hS6.out.below ((Below.refl _ w6).drew.trans hq7)) hI7.2.2.1, RefBox.slots hI7.2.1 hI7.2.2.1, RefBox.put hI7.2.2.1 H7.out, RefBox.other hI7.2.2.2 hI7.2.2.1 (by omega)⟩
                   have HJ := hide hJ
                   have HB8 := hide hb8
                   clear hJ hb8 hI7))
              all_goals
                go_wp2_with fail
                go_meet
              all_goals exact ⟨rfl, HJ.out, HB8.out⟩
            case rest =>
              obtain ⟨rfl, hJ8, hb8⟩ := hcut
              have HJ := hide hJ8
              have HB8 := hide hb8
              generalize (insTh L an (.int .u64 x)) = L7 at HJ
              clear hJ8 hb8 m0 m1 m2 a1 a2
              try clear hb7
              obtain ⟨-, -, ⟨E1, r1, s1, G1, t1, hY1, hU1⟩, ⟨E2, r2, s2, G2, t2, hY2, hU2⟩⟩ := HJ.out
              have p0 := hY1.cell 0
              have p1 := hY1.cell 1
              have p2 := hY1.cell 2
              have q0 := hY2.cell 0
              have q1 := hY2.cell 1
              have q2 := hY2.cell 2
              simp at p0 p1 p2 q0 q1 q2
              obtain ⟨-, a1, -⟩ := HAct.out wc HB8.out
              rcases Nat.decEq (j % 7) 3 with h7 | h7
              · go_wp2_with fail
                go_region_held3 (fun w' => w'.cell? ⟨bm, 0, none⟩ = some (.int .i64 (k : Nat)) ∧ w'.cell? ⟨bm, 1, none⟩ = some (.slice E1 r1 s1) ∧ w'.cell? ⟨bm, 2, none⟩ = some (.slice G1 r1 t1) ∧ w'.cell? ⟨b, o + j * 3 + 1, none⟩ = some (.int .i64 (an : Int)))
                  (first
                    | go_keep
                    | exact hk11)
                  (first
                    | (go_at_call 23
                       refine (even5 g' k _ L7 (an : Int) wc.drew (HJ.out.1.below (Below.refl _ wc).drew) (hU1.below (Below.refl _ wc).drew)).mono ?_
                       rintro e w11 ⟨rfl, hq11⟩
                       have hc11 : Below wc.heap.size wc w11 := (Below.refl _ wc).drew.trans hq11
                       have hk11 : w11.cell? ⟨bm, 0, none⟩ = some (.int .i64 (k : Nat)) ∧ w11.cell? ⟨bm, 1, none⟩ = some (.slice E1 r1 s1) ∧ w11.cell? ⟨bm, 2, none⟩ = some (.slice G1 r1 t1) ∧ w11.cell? ⟨b, o + j * 3 + 1, none⟩ = some (.int .i64 (an : Int)) :=
                         ⟨(hc11.cell (p := ⟨bm, 0, none⟩) hY1.lt).trans p0, (hc11.cell (p := ⟨bm, 1, none⟩) hY1.lt).trans p1, (hc11.cell (p := ⟨bm, 2, none⟩) hY1.lt).trans p2, (HAct.out w11 (below_then HB8.out hc11)).2.1⟩))
                have HE := hide (And.intro (HJ.out.below hc11) (below_then HB8.out hc11))
                clear hk11 hc11 hq11 p0 p1 p2 a1
                go_wp2
                go_roundw
                case rel => first | exact ⟨g', L7, gO, LO, j + 1, rfl, rfl, by go_num, by omega, HE.out.1, HE.out.2⟩ | ((repeat apply Exists.intro); exact ⟨⟨g', L7, gO, LO, j + 1, rfl, rfl, by go_num, by omega, HE.out.1, HE.out.2⟩, rfl⟩)
                case measure => simp [intOf]; omega
              · go_wp2_with fail
                refine (even5 gO k _ LO addr wc HJ.out.2.1 hU2).mono ?_
                rintro e w9 ⟨rfl, hb9⟩
                have X1 := hY1.below hb9
                have X2 := hY2.below hb9
                have U1 := hU1.below hb9
                have J9 := HJ.out.below hb9
                have u0 := X1.cell 0
                have u1 := X1.cell 1
                have u2 := X1.cell 2
                have v0 := X2.cell 0
                have v1 := X2.cell 1
                have v2 := X2.cell 2
                have z0 := X2.frozen 0
                have z1 := X2.frozen 1
                have z2 := X2.frozen 2
                simp at u0 u1 u2 v0 v1 v2
                have hr : r1 = L7.length := by
                  obtain ⟨_, _, _, _, he, -⟩ := U1
                  simp at he
                  omega
                have HJ9 := hide J9
                have hJa : Inv5 (((w9.setCell ⟨bw, 0, none⟩ (.int .i64 (k : Nat))).setCell ⟨bw, 1, none⟩ (.slice E1 r1 s1)).setCell ⟨bw, 2, none⟩ (.slice G1 r1 t1)) bm bw k g' g' L7 L7 :=
                  ⟨RefBox.slots J9.1 J9.2.2.2, RefBox.slots J9.1 J9.2.2.2, RefBox.other J9.2.2.1 J9.2.2.2 (by omega), RefBox.put J9.2.2.2 U1⟩
                have hbA : Below w.heap.size w (((w9.setCell ⟨bw, 0, none⟩ (.int .i64 (k : Nat))).setCell ⟨bw, 1, none⟩ (.slice E1 r1 s1)).setCell ⟨bw, 2, none⟩ (.slice G1 r1 t1)) := below_set3 (below_then HB8.out hb9) (by omega)
                have hXa : Blk (((w9.setCell ⟨bw, 0, none⟩ (.int .i64 (k : Nat))).setCell ⟨bw, 1, none⟩ (.slice E1 r1 s1)).setCell ⟨bw, 2, none⟩ (.slice G1 r1 t1)) bm 32 #[.int .i64 (k : Nat), .slice E1 r1 s1, .slice G1 r1 t1] := ((X1.set_ _ _ _ (by omega)).set_ _ _ _ (by omega)).set_ _ _ _ (by omega)
                have hUa : RefAt (((w9.setCell ⟨bw, 0, none⟩ (.int .i64 (k : Nat))).setCell ⟨bw, 1, none⟩ (.slice E1 r1 s1)).setCell ⟨bw, 2, none⟩ (.slice G1 r1 t1)) (.agg #[.int .i64 (k : Nat), .slice E1 r1 s1, .slice G1 r1 t1]) k L7 := U1.set3 X2
                have hJb := hJa.below (Below.refl _ _).drew
                have hbB := hbA.drew
                have hXb := hXa.drewN 1
                have hUb := hUa.below (Below.refl _ _).drew
                change Blk (((w9.setCell ⟨bw, 0, none⟩ (.int .i64 (k : Nat))).setCell ⟨bw, 1, none⟩ (.slice E1 r1 s1)).setCell ⟨bw, 2, none⟩ (.slice G1 r1 t1)).drew bm _ _ at hXb
                have HXa := hide hXb
                have HUa := hide hUb
                have HJA := hide hJb
                have HBA := hide hbB
                clear hr J9 hJa hbA hXa hUa hJb hbB hXb hUb p0 p1 p2 q0 q1 q2 a1 U1
                go_wp2_with fail
                go_region
                generalize (((w9.setCell ⟨bw, 0, none⟩ (.int .i64 (k : Nat))).setCell ⟨bw, 1, none⟩ (.slice E1 r1 s1)).setCell ⟨bw, 2, none⟩ (.slice G1 r1 t1)).drew = wb at *
                have p0 := HXa.out.cell 0
                have p1 := HXa.out.cell 1
                have p2 := HXa.out.cell 2
                simp at p0 p1 p2
                obtain ⟨-, a1, -⟩ := HAct.out wb HBA.out
                clear u0 u1 u2 v0 v1 v2 z0 z1 z2
                go_wp2_with fail
                go_region_held3 (fun w' => w'.cell? ⟨bm, 0, none⟩ = some (.int .i64 (k : Nat)) ∧ w'.cell? ⟨bm, 1, none⟩ = some (.slice E1 r1 s1) ∧ w'.cell? ⟨bm, 2, none⟩ = some (.slice G1 r1 t1) ∧ w'.cell? ⟨b, o + j * 3 + 1, none⟩ = some (.int .i64 (an : Int)))
                  (first
                    | go_keep
                    | exact hk11)
                  (first
                    | (go_at_call 23
                       refine (even5 g' k _ L7 (an : Int) wb.drew (HJA.out.1.below (Below.refl _ wb).drew) (HUa.out.below (Below.refl _ wb).drew)).mono ?_
                       rintro e w11 ⟨rfl, hq11⟩
                       have hc11 : Below wb.heap.size wb w11 := (Below.refl _ wb).drew.trans hq11
                       have hk11 : w11.cell? ⟨bm, 0, none⟩ = some (.int .i64 (k : Nat)) ∧ w11.cell? ⟨bm, 1, none⟩ = some (.slice E1 r1 s1) ∧ w11.cell? ⟨bm, 2, none⟩ = some (.slice G1 r1 t1) ∧ w11.cell? ⟨b, o + j * 3 + 1, none⟩ = some (.int .i64 (an : Int)) :=
                         ⟨(hc11.cell (p := ⟨bm, 0, none⟩) HXa.out.lt).trans p0, (hc11.cell (p := ⟨bm, 1, none⟩) HXa.out.lt).trans p1, (hc11.cell (p := ⟨bm, 2, none⟩) HXa.out.lt).trans p2, (HAct.out w11 (below_then HBA.out hc11)).2.1⟩))
                have HE := hide (And.intro (HJA.out.below hc11) (below_then HBA.out hc11))
                clear hk11 hc11 hq11 p0 p1 p2 a1
                go_wp2
                go_roundw
                case rel => first | exact ⟨g', L7, g', L7, j + 1, rfl, rfl, by go_num, by omega, HE.out.1, HE.out.2⟩ | ((repeat apply Exists.intro); exact ⟨⟨g', L7, g', L7, j + 1, rfl, rfl, by go_num, by omega, HE.out.1, HE.out.2⟩, rfl⟩)
                case measure => simp [intOf]; omega
        · have hck : chk k a = 3 := by unfold chk; rw [if_neg hth]
          have hdt : decide (0 ≤ a ∧ a < ((2 ^ k : Nat) : Int)) = false := by simp only [decide_eq_false_iff_not]; exact hth
          have HCK := hide hck
          rw [hdt] at CT'
          have CT := hide CT'
          obtain ⟨gv, hgv⟩ : ∃ gv, (getTh L a).getD (.int .u64 0) = gv := ⟨_, rfl⟩
          obtain ⟨gb, hgb⟩ : ∃ gb, (getTh L a).isSome = gb := ⟨_, rfl⟩
          simp only [hgv, hgb] at CG'
          have CG := hide CG'
          clear CG' CT' hgv hgb hck hdt hth
          cases d with
          | true =>
            go_wp2_with fail
            go_region_held3 (fun w' => w'.cell? ⟨bm, 0, none⟩ = some (.int .i64 (k : Nat)) ∧ w'.cell? ⟨bm, 1, none⟩ = some (.slice A1 n1 c1) ∧ w'.cell? ⟨bm, 2, none⟩ = some (.slice B1 n1 d1) ∧ w'.cell? ⟨b, o + j * 3 + 1, none⟩ = some (.int .i64 a) ∧ w'.cell? ⟨b, o + j * 3 + 2, none⟩ = some (.int .u64 x))
              (first
                | go_keep
                | exact hk4)
              (first
                | (go_at_call 17
                   refine (CG.out wr.drew (Below.refl _ wr).drew).mono ?_
                   rintro e w4 ⟨rfl, hq4⟩
                   have hb4 : Below wr.heap.size wr w4 := (Below.refl _ wr).drew.trans hq4
                   have hk4 := HSt.out w4 hb4))
            have f0 := HFl.out w4 hb4
            clear m0 m1 m2 a1 a2
            have hk4 := HSt.out w4 hb4
            have m0 := hk4.1
            have m1 := hk4.2.1
            have m2 := hk4.2.2.1
            have a1 := hk4.2.2.2.1
            have a2 := hk4.2.2.2.2
            go_wp2_with fail
            refine (del_bad_u g k L a w4 (HI.out.1.below hb4) HCK.out).mono ?_
            rintro e w5 ⟨rfl, hq5⟩
            have hb5 : Below wr.heap.size wr w5 := below_then hb4 hq5
            clear m0 m1 m2 a1 a2 f0
            have hk5 := HSt.out w5 hb5
            have m0 := hk5.1
            have m1 := hk5.2.1
            have m2 := hk5.2.2.1
            have a1 := hk5.2.2.2.1
            have a2 := hk5.2.2.2.2
            go_wp2_with fail
            go_region_held3 (fun w' => w'.cell? ⟨bm, 0, none⟩ = some (.int .i64 (k : Nat)) ∧ w'.cell? ⟨bm, 1, none⟩ = some (.slice A1 n1 c1) ∧ w'.cell? ⟨bm, 2, none⟩ = some (.slice B1 n1 d1) ∧ w'.cell? ⟨b, o + j * 3 + 1, none⟩ = some (.int .i64 a) ∧ w'.cell? ⟨b, o + j * 3 + 2, none⟩ = some (.int .u64 x))
              (first
                | go_keep
                | exact hk6)
              (first
                | (go_at_call 19
                   refine (CT.out w5.drew hb5.drew).mono ?_
                   rintro e w6 ⟨rfl, hq6⟩
                   have hb6 : Below wr.heap.size wr w6 := below_then hb5.drew hq6
                   have hk6 := HSt.out w6 hb6))
            go_wp2
            go_roundw
            case rel => exact ⟨g, L, gO, LO, j + 1, rfl, rfl, by go_num, by omega, HI.out.below hb6, below_then hb hb6⟩
            case measure => simp [intOf]; omega
          | false =>
            go_wp2_with fail
            go_region_held3 (fun w' => w'.cell? ⟨bm, 0, none⟩ = some (.int .i64 (k : Nat)) ∧ w'.cell? ⟨bm, 1, none⟩ = some (.slice A1 n1 c1) ∧ w'.cell? ⟨bm, 2, none⟩ = some (.slice B1 n1 d1) ∧ w'.cell? ⟨b, o + j * 3 + 1, none⟩ = some (.int .i64 a) ∧ w'.cell? ⟨b, o + j * 3 + 2, none⟩ = some (.int .u64 x))
              (first
                | go_keep
                | exact hk4)
              (first
                | (go_at_call 17
                   refine (CG.out wr.drew (Below.refl _ wr).drew).mono ?_
                   rintro e w4 ⟨rfl, hq4⟩
                   have hb4 : Below wr.heap.size wr w4 := (Below.refl _ wr).drew.trans hq4
                   have hk4 := HSt.out w4 hb4))
            have f0 := HFl.out w4 hb4
            clear m0 m1 m2 a1 a2
            have hk4 := HSt.out w4 hb4
            have m0 := hk4.1
            have m1 := hk4.2.1
            have m2 := hk4.2.2.1
            have a1 := hk4.2.2.2.1
            have a2 := hk4.2.2.2.2
            go_wp2_with fail
            go_region_held3 (fun w' => w'.cell? ⟨bm, 0, none⟩ = some (.int .i64 (k : Nat)) ∧ w'.cell? ⟨bm, 1, none⟩ = some (.slice A1 n1 c1) ∧ w'.cell? ⟨bm, 2, none⟩ = some (.slice B1 n1 d1) ∧ w'.cell? ⟨b, o + j * 3 + 1, none⟩ = some (.int .i64 a) ∧ w'.cell? ⟨b, o + j * 3 + 2, none⟩ = some (.int .u64 x))
              (first
                | go_keep
                | exact hk5)
              (first
                | (go_at_call 21
                   refine (put_bad_u g k L a (.int .u64 x) w4.drew (HI.out.1.below hb4.drew) HCK.out).mono ?_
                   rintro e w5 ⟨rfl, hq5⟩
                   have hb5 : Below wr.heap.size wr w5 := hq5 ▸ hb4.drew
                   have hk5 := HSt.out w5 hb5))
            clear m0 m1 m2 a1 a2 f0
            have hk5 := HSt.out w5 hb5
            have m0 := hk5.1
            have m1 := hk5.2.1
            have m2 := hk5.2.2.1
            have a1 := hk5.2.2.2.1
            have a2 := hk5.2.2.2.2
            go_wp2_with fail
            go_region_held3 (fun w' => w'.cell? ⟨bm, 0, none⟩ = some (.int .i64 (k : Nat)) ∧ w'.cell? ⟨bm, 1, none⟩ = some (.slice A1 n1 c1) ∧ w'.cell? ⟨bm, 2, none⟩ = some (.slice B1 n1 d1) ∧ w'.cell? ⟨b, o + j * 3 + 1, none⟩ = some (.int .i64 a) ∧ w'.cell? ⟨b, o + j * 3 + 2, none⟩ = some (.int .u64 x))
              (first
                | go_keep
                | exact hk6)
              (first
                | (go_at_call 19
                   refine (CT.out w5.drew hb5.drew).mono ?_
                   rintro e w6 ⟨rfl, hq6⟩
                   have hb6 : Below wr.heap.size wr w6 := below_then hb5.drew hq6
                   have hk6 := HSt.out w6 hb6))
            go_wp2
            go_roundw
            case rel => exact ⟨g, L, gO, LO, j + 1, rfl, rfl, by go_num, by omega, HI.out.below hb6, below_then hb hb6⟩
            case measure => simp [intOf]; omega
      · go_wp2_with fail
        refine (even5 gO k _ LO addr _ HI.out.2.1 hV2).mono ?_
        rintro e w4 ⟨rfl, hb4⟩
        have hV4 := hV1.below hb4
        have hX4 := hX1.below hb4
        have HS4 := HI.out.1.below hb4
        have q0 := hX4.cell 0
        have q1 := hX4.cell 1
        have q2 := hX4.cell 2
        simp at q0 q1 q2
        have HB4 := hide (below_then hb hb4)
        have HS := hide (even5 g k _ L addr _ HS4 hV4)
        clear hb hb4 HS4 hX4 hV4
        go_wp2_with fail
        refine HS.out.mono ?_
        rintro e w5 ⟨rfl, hb5⟩
        go_wp2
        go_ret
        exact ⟨rfl, below_then HB4.out hb5⟩
end Go.Proofs.Ytkknfnjojamgjaa
