/- Nodes: Shape. -/
import Derived.Test.YtkknfnjojamgjaaNd4
set_option linter.unusedSimpArgs false
set_option linter.unusedVariables false
namespace Go.Proofs.Ytkknfnjojamgjaa
open Go.RowKit
theorem Blk.set5 {w : World} {g : Nat} {t : TypeId} {a b c d e x0 x1 x2 x3 x4 : Value} (h : Blk w g t #[a, b, c, d, e]) :
    Blk (((((w.setCell ⟨g, 0, none⟩ x0).setCell ⟨g, 1, none⟩ x1).setCell ⟨g, 2, none⟩ x2).setCell ⟨g, 3, none⟩ x3).setCell ⟨g, 4, none⟩ x4) g t #[x0, x1, x2, x3, x4] :=
  ((((h.set1 x0).set1 x1).set1 x2).set1 x3).set1 x4
theorem cell_far5 {w : World} {b g i0 i1 i2 i3 i4 l : Nat} {x0 x1 x2 x3 x4 : Value} (hne : g ≠ b) :
    (((((w.setCell ⟨b, i0, none⟩ x0).setCell ⟨b, i1, none⟩ x1).setCell ⟨b, i2, none⟩ x2).setCell ⟨b, i3, none⟩ x3).setCell ⟨b, i4, none⟩ x4).cell? ⟨g, l, none⟩ = w.cell? ⟨g, l, none⟩ :=
  (cell_far1 hne).trans ((cell_far1 hne).trans ((cell_far1 hne).trans ((cell_far1 hne).trans (cell_far1 hne))))
theorem below_set5 {B g : Nat} {a w : World} {x0 x1 x2 x3 x4 : Value} (h : Below B a w) (hg : B ≤ g) :
    Below B a (((((w.setCell ⟨g, 0, none⟩ x0).setCell ⟨g, 1, none⟩ x1).setCell ⟨g, 2, none⟩ x2).setCell ⟨g, 3, none⟩ x3).setCell ⟨g, 4, none⟩ x4) :=
  ((((h.setCell hg _).setCell hg _).setCell hg _).setCell hg _).setCell hg _
theorem own_far5 {w : World} {base g : Nat} {e : TypeId} {size : Nat} {v : Value} {n : Nat} {xs : List Value} {x0 x1 x2 x3 x4 : Value} (h : w.ownsRow base e size v n xs) (hg : g < base) :
    (((((w.setCell ⟨g, 0, none⟩ x0).setCell ⟨g, 1, none⟩ x1).setCell ⟨g, 2, none⟩ x2).setCell ⟨g, 3, none⟩ x3).setCell ⟨g, 4, none⟩ x4).ownsRow base e size v n xs :=
  ownsRow_setCell_below (ownsRow_setCell_below (ownsRow_setCell_below (ownsRow_setCell_below (ownsRow_setCell_below h (a := ⟨g, 0, none⟩) hg _) (a := ⟨g, 1, none⟩) hg _) (a := ⟨g, 2, none⟩) hg _) (a := ⟨g, 3, none⟩) hg _) (a := ⟨g, 4, none⟩) hg _
set_option maxHeartbeats 1000000 in
set_option maxRecDepth 100000 in
theorem nd_shape_nil (w : World) : Calls Try.prog 59 #[.pointer none] w fun e w' => e = .returned (.agg #[.int .i64 0, .slice none 0 0, .slice none 0 0, .bool false, .int .u64 0]) ∧ Below w.heap.size w w' := by
  go_enter Try.func59, Try.ntmps59
  go_wp2
  refine bodyPost_ret (v := .agg #[.int .i64 0, .slice none 0 0, .slice none 0 0, .bool false, .int .u64 0]) (by simp [results, Try.results59, go_sem]) rfl ⟨rfl, ?_⟩
  exact below_alloc (Below.refl _ _) (Nat.le_refl _) _
theorem kid_places {w : World} {gs k : Nat} {ks : List Kid} (h : SlotsAt_n w gs k (kidTh ks)) :
    Calls Try.prog 113 #[.pointer (some ⟨gs, 0, none⟩)] w fun e w' => ∃ v, e = .returned v ∧ w'.ownsRow w.heap.size 3 1 v ks.length (ks.map fun q => .int .i64 (q.at_ : Int)) ∧ Below w.heap.size w w' := by
  have := places_n gs k (kidTh ks) w h
  simpa [kidTh, Function.comp_def] using this
theorem kid_dense {w : World} {gs k : Nat} {ks : List Kid} (h : SlotsAt_n w gs k (kidTh ks)) :
    Calls Try.prog 114 #[.pointer (some ⟨gs, 0, none⟩)] w fun e w' => e = .returned (.bool (denseB k ks.length)) ∧ Below w.heap.size w w' := by
  have := denseM_n gs k (kidTh ks) w h
  simpa [kidTh] using this
set_option maxHeartbeats 2000000 in
set_option maxRecDepth 100000 in
theorem nd_shape_fork {w : World} {g : Nat} {lv : Int} {A : Option Addr} {k c v : Nat} {s : Sum4} {p : List Nat} {gs : Nat} {ks : List Kid} (hB : Blk w g 139 (nodeCells lv A k c v (some ⟨gs, 0, none⟩) s)) (hp : Pt w A k p) (hk : k ≤ 16) (hS : SlotsAt_n w gs k (kidTh ks)) :
    Calls Try.prog 59 #[.pointer (some ⟨g, 0, none⟩)] w fun e w' => ∃ B d C f, e = .returned (.agg #[.int .i64 lv, .slice B k d, .slice C ks.length f, .bool (denseB k ks.length), .int .u64 (v : Int)]) ∧ Rw w' 1 B k (u64s p) ∧ Rw w' 1 C ks.length (ks.map fun q => .int .i64 (q.at_ : Int)) ∧ Below w.heap.size w w' := by
  have b1 := (Below.refl w.heap.size w).alloc (Nat.le_refl _) (.cells #[.int .i64 0, .slice none 0 0, .slice none 0 0, .bool false, .int .u64 0] 83)
  have hB1 := hB.alloc (.cells #[.int .i64 0, .slice none 0 0, .slice none 0 0, .bool false, .int .u64 0] 83)
  have hN1 := Blk.new w 83 #[.int .i64 0, .slice none 0 0, .slice none 0 0, .bool false, .int .u64 0]
  have hp1 := hp.below b1
  have hs1 : (w.alloc (.cells #[.int .i64 0, .slice none 0 0, .slice none 0 0, .bool false, .int .u64 0] 83)).heap.size = w.heap.size + 1 := by simp
  have c0 := hB1.cell 0
  have c1 := hB1.cell 1
  have c2 := hB1.cell 2
  have c3 := hB1.cell 3
  simp [nodeCells] at c0 c1 c2 c3
  have hgl := hB.lt
  clear hB
  go_enter Try.func59, Try.ntmps59
  go_upto_region 3 with fail
  generalize w.alloc (.cells #[.int .i64 0, .slice none 0 0, .slice none 0 0, .bool false, .int .u64 0] 83) = w1 at *
  have hg1 : g < w1.heap.size := by omega
  have hne : g ≠ w.heap.size := by omega
  have HC := hide (fun (W : World) (hW : Below w1.heap.size w1 W) => And.intro ((hW.cell (p := ⟨g, 0, none⟩) hg1).trans c0) (And.intro ((hW.cell (p := ⟨g, 1, none⟩) hg1).trans c1) (And.intro ((hW.cell (p := ⟨g, 2, none⟩) hg1).trans c2) ((hW.cell (p := ⟨g, 3, none⟩) hg1).trans c3))))
  have H1 := hide (clone_u64 A k c p w1.drew (hp1.below (Below.refl _ w1).drew) (by omega))
  have H2 := hide (fun (W : World) (hW : Below w.heap.size w W) => kid_places (hS.below hW))
  have H3 := hide (fun (W : World) (hW : Below w.heap.size w W) => kid_dense (hS.below hW))
  have HN := hide (fun (W : World) (hW : Below w1.heap.size w1 W) => hN1.below hW)
  clear hS
  clear hp hp1 hN1
  go_region_held3 (fun w' => w'.cell? ⟨g, 0, none⟩ = some (.int .i64 lv) ∧ w'.cell? ⟨g, 1, none⟩ = some (.slice A k c) ∧ w'.cell? ⟨g, 2, none⟩ = some (.int .u64 (v : Int)) ∧ w'.cell? ⟨g, 3, none⟩ = some (.pointer (some ⟨gs, 0, none⟩)))
    (first
      | go_keep
      | exact hk2
      | exact hk3
      | exact hk4
      | exact hk5)
    (first
      | (go_at_call 103
         refine H1.out.mono ?_
         rintro e w2 ⟨v2, rfl, ho2, hb2⟩
         have hc2 : Below w1.heap.size w1 w2 := (Below.refl _ w1).drew.trans hb2
         obtain ⟨B, d, rfl, -, -⟩ := Rw.of_own ho2
         have hk2 := HC.out w2 hc2)
      | (go_at_call 113
         refine (H2.out w2 (below_then b1 hc2)).mono ?_
         rintro e w3 ⟨v3, rfl, ho3, hb3⟩
         have hc3 := below_then hc2 hb3
         obtain ⟨C, f, rfl, -, -⟩ := Rw.of_own ho3
         have hk3 := HC.out w3 hc3)
      | (go_at_call 114
         refine (H3.out w3 (below_then b1 hc3)).mono ?_
         rintro e w4 ⟨rfl, hb4⟩
         have hc4 := below_then hc3 hb4
         have hk4 := HC.out w4 hc4
         have hN4 := HN.out w4 hc4
         have z0 := hN4.frozen 0
         have z1 := hN4.frozen 1
         have z2 := hN4.frozen 2
         have z3 := hN4.frozen 3
         have z4 := hN4.frozen 4
         have y0 := hN4.cell 0
         have y1 := hN4.cell 1
         have y2 := hN4.cell 2
         have y3 := hN4.cell 3
         have y4 := hN4.cell 4
         simp at y0 y1 y2 y3 y4
         have hk5 := And.intro ((cell_far5 (i0 := 0) (i1 := 1) (i2 := 2) (i3 := 3) (i4 := 4) (x0 := .int .i64 lv) (x1 := .slice B k d) (x2 := (.slice C ks.length f)) (x3 := (.bool (denseB k ks.length))) (x4 := .int .u64 (v : Int)) hne).trans hk4.1) (And.intro ((cell_far5 (i0 := 0) (i1 := 1) (i2 := 2) (i3 := 3) (i4 := 4) (x0 := .int .i64 lv) (x1 := .slice B k d) (x2 := (.slice C ks.length f)) (x3 := (.bool (denseB k ks.length))) (x4 := .int .u64 (v : Int)) hne).trans hk4.2.1) (And.intro ((cell_far5 (i0 := 0) (i1 := 1) (i2 := 2) (i3 := 3) (i4 := 4) (x0 := .int .i64 lv) (x1 := .slice B k d) (x2 := (.slice C ks.length f)) (x3 := (.bool (denseB k ks.length))) (x4 := .int .u64 (v : Int)) hne).trans hk4.2.2.1) ((cell_far5 (i0 := 0) (i1 := 1) (i2 := 2) (i3 := 3) (i4 := 4) (x0 := .int .i64 lv) (x1 := .slice B k d) (x2 := (.slice C ks.length f)) (x3 := (.bool (denseB k ks.length))) (x4 := .int .u64 (v : Int)) hne).trans hk4.2.2.2)))))
  have hd : w1.drew.heap.size = w.heap.size + 1 := hs1
  rw [hd] at ho2
  have e5 := hN4.set5 (x0 := .int .i64 lv) (x1 := .slice B k d) (x2 := (.slice C ks.length f)) (x3 := (.bool (denseB k ks.length))) (x4 := .int .u64 (v : Int))
  have b5 := below_set5 (x0 := .int .i64 lv) (x1 := .slice B k d) (x2 := (.slice C ks.length f)) (x3 := (.bool (denseB k ks.length))) (x4 := .int .u64 (v : Int)) (below_then b1 hc4) (Nat.le_refl w.heap.size)
  have o5 := own_far5 (g := w.heap.size) (x0 := .int .i64 lv) (x1 := .slice B k d) (x2 := (.slice C ks.length f)) (x3 := (.bool (denseB k ks.length))) (x4 := .int .u64 (v : Int)) (own_below ho2 (below_then hb3 hb4)) (by omega)
  have hl2 : w.heap.size < w2.heap.size := by have := hc2.size; omega
  have o6 := hide (own_far5 (g := w.heap.size) (x0 := .int .i64 lv) (x1 := .slice B k d) (x2 := (.slice C ks.length f)) (x3 := (.bool (denseB k ks.length))) (x4 := .int .u64 (v : Int)) (own_below ho3 hb4) hl2)
  clear ho3
  have g0 := e5.cell 0
  have g1 := e5.cell 1
  have g2 := e5.cell 2
  have g3 := e5.cell 3
  have g4 := e5.cell 4
  generalize ((((w4.setCell ⟨w.heap.size, 0, none⟩ (.int .i64 lv)).setCell ⟨w.heap.size, 1, none⟩ (.slice B k d)).setCell ⟨w.heap.size, 2, none⟩ (.slice C ks.length f)).setCell ⟨w.heap.size, 3, none⟩ (.bool (denseB k ks.length))).setCell ⟨w.heap.size, 4, none⟩ (.int .u64 (v : Int)) = w5 at *
  simp at g0 g1 g2 g3 g4
  have HO := hide o5
  clear o5 ho2 y0 y1 y2 y3 y4 z0 z1 z2 z3 z4 hk2 hk3 hk4 hk5 H1 H2 H3 HN HC
  go_wp2
  refine bodyPost_ret (v := .agg #[.int .i64 lv, .slice B k d, (.slice C ks.length f), (.bool (denseB k ks.length)), .int .u64 (v : Int)]) (by simp [results, Try.results59, go_sem, g0, g1, g2, g3, g4]) rfl ⟨B, d, C, f, rfl, (own_rw HO.out).2, (own_rw o6.out).2, b5⟩
set_option maxHeartbeats 2000000 in
set_option maxRecDepth 100000 in
theorem nd_shape_leaf {w : World} {g : Nat} {lv : Int} {A : Option Addr} {k c v : Nat} {s : Sum4} {p : List Nat} (hB : Blk w g 139 (nodeCells lv A k c v none s)) (hp : Pt w A k p) (hk : k ≤ 16) :
    Calls Try.prog 59 #[.pointer (some ⟨g, 0, none⟩)] w fun e w' => ∃ B d, e = .returned (.agg #[.int .i64 lv, .slice B k d, .slice none 0 0, .bool false, .int .u64 (v : Int)]) ∧ Rw w' 1 B k (u64s p) ∧ Below w.heap.size w w' := by
  have b1 := (Below.refl w.heap.size w).alloc (Nat.le_refl _) (.cells #[.int .i64 0, .slice none 0 0, .slice none 0 0, .bool false, .int .u64 0] 83)
  have hB1 := hB.alloc (.cells #[.int .i64 0, .slice none 0 0, .slice none 0 0, .bool false, .int .u64 0] 83)
  have hN1 := Blk.new w 83 #[.int .i64 0, .slice none 0 0, .slice none 0 0, .bool false, .int .u64 0]
  have hp1 := hp.below b1
  have hs1 : (w.alloc (.cells #[.int .i64 0, .slice none 0 0, .slice none 0 0, .bool false, .int .u64 0] 83)).heap.size = w.heap.size + 1 := by simp
  have c0 := hB1.cell 0
  have c1 := hB1.cell 1
  have c2 := hB1.cell 2
  have c3 := hB1.cell 3
  simp [nodeCells] at c0 c1 c2 c3
  have hgl := hB.lt
  clear hB
  go_enter Try.func59, Try.ntmps59
  go_upto_region 3 with fail
  generalize w.alloc (.cells #[.int .i64 0, .slice none 0 0, .slice none 0 0, .bool false, .int .u64 0] 83) = w1 at *
  have hg1 : g < w1.heap.size := by omega
  have hne : g ≠ w.heap.size := by omega
  have HC := hide (fun (W : World) (hW : Below w1.heap.size w1 W) => And.intro ((hW.cell (p := ⟨g, 0, none⟩) hg1).trans c0) (And.intro ((hW.cell (p := ⟨g, 1, none⟩) hg1).trans c1) (And.intro ((hW.cell (p := ⟨g, 2, none⟩) hg1).trans c2) ((hW.cell (p := ⟨g, 3, none⟩) hg1).trans c3))))
  have H1 := hide (clone_u64 A k c p w1.drew (hp1.below (Below.refl _ w1).drew) (by omega))
  have H2 := hide (fun (W : World) (hW : Below w.heap.size w W) => places_nil_n W)
  have H3 := hide (fun (W : World) (hW : Below w.heap.size w W) => denseM_nil_n W)
  have HN := hide (fun (W : World) (hW : Below w1.heap.size w1 W) => hN1.below hW)
  clear hp hp1 hN1
  go_region_held3 (fun w' => w'.cell? ⟨g, 0, none⟩ = some (.int .i64 lv) ∧ w'.cell? ⟨g, 1, none⟩ = some (.slice A k c) ∧ w'.cell? ⟨g, 2, none⟩ = some (.int .u64 (v : Int)) ∧ w'.cell? ⟨g, 3, none⟩ = some (.pointer none))
    (first
      | go_keep
      | exact hk2
      | exact hk3
      | exact hk4
      | exact hk5)
    (first
      | (go_at_call 103
         refine H1.out.mono ?_
         rintro e w2 ⟨v2, rfl, ho2, hb2⟩
         have hc2 : Below w1.heap.size w1 w2 := (Below.refl _ w1).drew.trans hb2
         obtain ⟨B, d, rfl, -, -⟩ := Rw.of_own ho2
         have hk2 := HC.out w2 hc2)
      | (go_at_call 113
         refine (H2.out w2 (below_then b1 hc2)).mono ?_
         rintro e w2 ⟨rfl, rfl⟩
         have hc3 := hc2
         have hk3 := HC.out w2 hc3)
      | (go_at_call 114
         refine (H3.out w2 (below_then b1 hc3)).mono ?_
         rintro e w4 ⟨rfl, hb4⟩
         have hc4 := below_then hc3 hb4
         have hk4 := HC.out w4 hc4
         have hN4 := HN.out w4 hc4
         have z0 := hN4.frozen 0
         have z1 := hN4.frozen 1
         have z2 := hN4.frozen 2
         have z3 := hN4.frozen 3
         have z4 := hN4.frozen 4
         have y0 := hN4.cell 0
         have y1 := hN4.cell 1
         have y2 := hN4.cell 2
         have y3 := hN4.cell 3
         have y4 := hN4.cell 4
         simp at y0 y1 y2 y3 y4
         have hk5 := And.intro ((cell_far5 (i0 := 0) (i1 := 1) (i2 := 2) (i3 := 3) (i4 := 4) (x0 := .int .i64 lv) (x1 := .slice B k d) (x2 := (.slice none 0 0)) (x3 := (.bool false)) (x4 := .int .u64 (v : Int)) hne).trans hk4.1) (And.intro ((cell_far5 (i0 := 0) (i1 := 1) (i2 := 2) (i3 := 3) (i4 := 4) (x0 := .int .i64 lv) (x1 := .slice B k d) (x2 := (.slice none 0 0)) (x3 := (.bool false)) (x4 := .int .u64 (v : Int)) hne).trans hk4.2.1) (And.intro ((cell_far5 (i0 := 0) (i1 := 1) (i2 := 2) (i3 := 3) (i4 := 4) (x0 := .int .i64 lv) (x1 := .slice B k d) (x2 := (.slice none 0 0)) (x3 := (.bool false)) (x4 := .int .u64 (v : Int)) hne).trans hk4.2.2.1) ((cell_far5 (i0 := 0) (i1 := 1) (i2 := 2) (i3 := 3) (i4 := 4) (x0 := .int .i64 lv) (x1 := .slice B k d) (x2 := (.slice none 0 0)) (x3 := (.bool false)) (x4 := .int .u64 (v : Int)) hne).trans hk4.2.2.2)))))
  have hd : w1.drew.heap.size = w.heap.size + 1 := hs1
  rw [hd] at ho2
  have e5 := hN4.set5 (x0 := .int .i64 lv) (x1 := .slice B k d) (x2 := (.slice none 0 0)) (x3 := (.bool false)) (x4 := .int .u64 (v : Int))
  have b5 := below_set5 (x0 := .int .i64 lv) (x1 := .slice B k d) (x2 := (.slice none 0 0)) (x3 := (.bool false)) (x4 := .int .u64 (v : Int)) (below_then b1 hc4) (Nat.le_refl w.heap.size)
  have o5 := own_far5 (g := w.heap.size) (x0 := .int .i64 lv) (x1 := .slice B k d) (x2 := (.slice none 0 0)) (x3 := (.bool false)) (x4 := .int .u64 (v : Int)) (own_below ho2 hb4) (by omega)

  have g0 := e5.cell 0
  have g1 := e5.cell 1
  have g2 := e5.cell 2
  have g3 := e5.cell 3
  have g4 := e5.cell 4
  generalize ((((w4.setCell ⟨w.heap.size, 0, none⟩ (.int .i64 lv)).setCell ⟨w.heap.size, 1, none⟩ (.slice B k d)).setCell ⟨w.heap.size, 2, none⟩ (.slice none 0 0)).setCell ⟨w.heap.size, 3, none⟩ (.bool false)).setCell ⟨w.heap.size, 4, none⟩ (.int .u64 (v : Int)) = w5 at *
  simp at g0 g1 g2 g3 g4
  have HO := hide o5
  clear o5 ho2 y0 y1 y2 y3 y4 z0 z1 z2 z3 z4 hk2 hk3 hk4 hk5 H1 H2 H3 HN HC
  go_wp2
  refine bodyPost_ret (v := .agg #[.int .i64 lv, .slice B k d, (.slice none 0 0), (.bool false), .int .u64 (v : Int)]) (by simp [results, Try.results59, go_sem, g0, g1, g2, g3, g4]) rfl ⟨B, d, rfl, (own_rw HO.out).2, b5⟩
end Go.Proofs.Ytkknfnjojamgjaa
