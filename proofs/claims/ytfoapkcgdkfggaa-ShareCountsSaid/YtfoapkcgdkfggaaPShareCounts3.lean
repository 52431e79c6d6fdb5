/- ShareCounts: contracts and plain laws that the statement leans on (NdB NdC ReA LaB). No condition. -/
import Derived.Test.YtfoapkcgdkfggaaPShareCounts2
import Derived.StillTailTactics
import Derived.Laws.StructEq
import Derived.Deep.Cut
import Derived.Deep.CutRange
set_option linter.unusedSimpArgs false
set_option linter.unusedVariables false
namespace Go.Proofs.Ytfoapkcgdkfggaa
open Go.RowKit
theorem Blk.set5 {w : World} {g : Nat} {t : TypeId} {a b c d e x0 x1 x2 x3 x4 : Value} (h : Blk w g t #[a, b, c, d, e]) :
    Blk (((((w.setCell ⟨g, 0, none⟩ x0).setCell ⟨g, 1, none⟩ x1).setCell ⟨g, 2, none⟩ x2).setCell ⟨g, 3, none⟩ x3).setCell ⟨g, 4, none⟩ x4) g t #[x0, x1, x2, x3, x4] :=
  ((((h.set1 x0).set1 x1).set1 x2).set1 x3).set1 x4
theorem cell_far5 {w : World} {b g i0 i1 i2 i3 i4 l : Nat} {x0 x1 x2 x3 x4 : Value} (hne : g ≠ b) :
    (((((w.setCell ⟨b, i0, none⟩ x0).setCell ⟨b, i1, none⟩ x1).setCell ⟨b, i2, none⟩ x2).setCell ⟨b, i3, none⟩ x3).setCell ⟨b, i4, none⟩ x4).cell? ⟨g, l, none⟩ = w.cell? ⟨g, l, none⟩ :=
  (cell_far1 hne).trans ((cell_far1 hne).trans ((cell_far1 hne).trans ((cell_far1 hne).trans (cell_far1 hne))))
theorem below_set5 {B g : Nat} {a w : World} {x0 x1 x2 x3 x4 : Value} (h : Below B a w) (hg : B ≤ g) :
    Below B a (((((w.setCell ⟨g, 0, none⟩ x0).setCell ⟨g, 1, none⟩ x1).setCell ⟨g, 2, none⟩ x2).setCell ⟨g, 3, none⟩ x3).setCell ⟨g, 4, none⟩ x4) :=
  ((((h.setCell hg _).setCell hg _).setCell hg _).setCell hg _).setCell hg _
theorem own_far5 {w : World} {base g : Nat} {e : TypeId} {size : Nat} {v : Value} {n : Nat} {xs : List Value} {x0 x1 x2 x3 x4 : Value} (h : w.ownsRow base e size v n xs) (hg : g < base) :
    (((((w.setCell ⟨g, 0, none⟩ x0).setCell ⟨g, 1, none⟩ x1).setCell ⟨g, 2, none⟩ x2).setCell ⟨g, 3, none⟩ x3).setCell ⟨g, 4, none⟩ x4).ownsRow base e size v n xs :=
  ownsRow_setCell_below (ownsRow_setCell_below (ownsRow_setCell_below (ownsRow_setCell_below (ownsRow_setCell_below h (a := ⟨g, 0, none⟩) hg _) (a := ⟨g, 1, none⟩) hg _) (a := ⟨g, 2, none⟩) hg _) (a := ⟨g, 3, none⟩) hg _) (a := ⟨g, 4, none⟩) hg _
theorem kid_places {w : World} {gs k : Nat} {ks : List Kid} (h : SlotsAt_n w gs k (kidTh ks)) :
    Calls Try.prog 51 #[.pointer (some ⟨gs, 0, none⟩)] w fun e w' => ∃ v, e = .returned v ∧ w'.ownsRow w.heap.size 3 1 v ks.length (ks.map fun q => .int .i64 (q.at_ : Int)) ∧ Below w.heap.size w w' := by
  have := places_n gs k (kidTh ks) w h
  simpa [kidTh, Function.comp_def] using this
theorem kid_dense {w : World} {gs k : Nat} {ks : List Kid} (h : SlotsAt_n w gs k (kidTh ks)) :
    Calls Try.prog 52 #[.pointer (some ⟨gs, 0, none⟩)] w fun e w' => e = .returned (.bool (denseB k ks.length)) ∧ Below w.heap.size w w' := by
  have := denseM_n gs k (kidTh ks) w h
  simpa [kidTh] using this
set_option maxHeartbeats 2000000 in
set_option maxRecDepth 100000 in
theorem nd_shape_fork_t {w : World} {g : Nat} {lv : Int} {A : Option Addr} {k c v : Nat} {s : Sum4} {p : List Nat} {gs : Nat} {ks : List Kid} (hB : Blk w g 103 (nodeCells lv A k c v (some ⟨gs, 0, none⟩) s)) (hp : Pt w A k p) (hk : k ≤ 16) (hS : SlotsAt_n w gs k (kidTh ks)) :
    Calls Try.prog 34 #[.pointer (some ⟨g, 0, none⟩)] w fun e w' => ∃ B d C f, e = .returned (.agg #[.int .i64 lv, .slice B k d, .slice C ks.length f, .bool (denseB k ks.length), .int .u64 (v : Int)]) ∧ Rw w' 1 B k (u64s p) ∧ Rw w' 1 C ks.length (ks.map fun q => .int .i64 (q.at_ : Int)) ∧ Below w.heap.size w w' ∧ TyRow w' 36 B k ∧ TyRow w' 3 C ks.length := by
  have b1 := (Below.refl w.heap.size w).alloc (Nat.le_refl _) (.cells #[.int .i64 0, .slice none 0 0, .slice none 0 0, .bool false, .int .u64 0] 75)
  have hB1 := hB.alloc (.cells #[.int .i64 0, .slice none 0 0, .slice none 0 0, .bool false, .int .u64 0] 75)
  have hN1 := Blk.new w 75 #[.int .i64 0, .slice none 0 0, .slice none 0 0, .bool false, .int .u64 0]
  have hp1 := hp.below b1
  have hs1 : (w.alloc (.cells #[.int .i64 0, .slice none 0 0, .slice none 0 0, .bool false, .int .u64 0] 75)).heap.size = w.heap.size + 1 := by simp
  have c0 := hB1.cell 0
  have c1 := hB1.cell 1
  have c2 := hB1.cell 2
  have c3 := hB1.cell 3
  simp [nodeCells] at c0 c1 c2 c3
  have hgl := hB.lt
  clear hB
  go_enter Try.func34, Try.ntmps34
  go_upto_region 3 with fail
  generalize w.alloc (.cells #[.int .i64 0, .slice none 0 0, .slice none 0 0, .bool false, .int .u64 0] 75) = w1 at *
  have hg1 : g < w1.heap.size := by omega
  have hne : g ≠ w.heap.size := by omega
  have HC := hide (fun (W : World) (hW : Below w1.heap.size w1 W) => And.intro ((hW.cell (p := ⟨g, 0, none⟩) hg1).trans c0) (And.intro ((hW.cell (p := ⟨g, 1, none⟩) hg1).trans c1) (And.intro ((hW.cell (p := ⟨g, 2, none⟩) hg1).trans c2) ((hW.cell (p := ⟨g, 3, none⟩) hg1).trans c3))))
  have H1 := hide (clone_u64 A k c p w1.drew (hp1.below (Below.refl _ w1).drew) (by omega))
  have H2 := hide (fun (W : World) (hW : Below w.heap.size w W) => kid_places (hS.below hW))
  have H3 := hide (fun (W : World) (hW : Below w.heap.size w W) => kid_dense (hS.below hW))
  have HN := hide (fun (W : World) (hW : Below w1.heap.size w1 W) => hN1.below hW)
  clear hS
  clear hp hp1 hN1
  go_region_held3 (fun w' => w'.cell? ⟨g, 0, none⟩ = some (.int .i64 lv) ∧ w'.cell? ⟨g, 1, none⟩ = some (.slice A k c) ∧ w'.cell? ⟨g, 2, none⟩ = some (.int .u64 (v : Int)) ∧ w'.cell? ⟨g, 3, none⟩ = some (.pointer (some ⟨gs, 0, none⟩)))
    (first
      | go_keep
      | exact hk2
      | exact hk3
      | exact hk4
      | exact hk5)
    (first
      | (go_at_call 50
         refine H1.out.mono ?_
         rintro e w2 ⟨v2, rfl, ho2, hb2⟩
         have hc2 : Below w1.heap.size w1 w2 := (Below.refl _ w1).drew.trans hb2
         obtain ⟨B, d, rfl, -, -⟩ := Rw.of_own ho2
         have hk2 := HC.out w2 hc2)
      | (go_at_call 51
         refine (H2.out w2 (below_then b1 hc2)).mono ?_
         rintro e w3 ⟨v3, rfl, ho3, hb3⟩
         have hc3 := below_then hc2 hb3
         obtain ⟨C, f, rfl, -, -⟩ := Rw.of_own ho3
         have hk3 := HC.out w3 hc3)
      | (go_at_call 52
         refine (H3.out w3 (below_then b1 hc3)).mono ?_
         rintro e w4 ⟨rfl, hb4⟩
         have hc4 := below_then hc3 hb4
         have hk4 := HC.out w4 hc4
         have hN4 := HN.out w4 hc4
         have z0 := hN4.frozen 0
         have z1 := hN4.frozen 1
         have z2 := hN4.frozen 2
         have z3 := hN4.frozen 3
         have z4 := hN4.frozen 4
         have y0 := hN4.cell 0
         have y1 := hN4.cell 1
         have y2 := hN4.cell 2
         have y3 := hN4.cell 3
         have y4 := hN4.cell 4
         simp at y0 y1 y2 y3 y4
         have hk5 := And.intro ((cell_far5 (i0 := 0) (i1 := 1) (i2 := 2) (i3 := 3) (i4 := 4) (x0 := .int .i64 lv) (x1 := .slice B k d) (x2 := (.slice C ks.length f)) (x3 := (.bool (denseB k ks.length))) (x4 := .int .u64 (v : Int)) hne).trans hk4.1) (And.intro ((cell_far5 (i0 := 0) (i1 := 1) (i2 := 2) (i3 := 3) (i4 := 4) (x0 := .int .i64 lv) (x1 := .slice B k d) (x2 := (.slice C ks.length f)) (x3 := (.bool (denseB k ks.length))) (x4 := .int .u64 (v : Int)) hne).trans hk4.2.1) (And.intro ((cell_far5 (i0 := 0) (i1 := 1) (i2 := 2) (i3 := 3) (i4 := 4) (x0 := .int .i64 lv) (x1 := .slice B k d) (x2 := (.slice C ks.length f)) (x3 := (.bool (denseB k ks.length))) (x4 := .int .u64 (v : Int)) hne).trans hk4.2.2.1) ((cell_far5 (i0 := 0) (i1 := 1) (i2 := 2) (i3 := 3) (i4 := 4) (x0 := .int .i64 lv) (x1 := .slice B k d) (x2 := (.slice C ks.length f)) (x3 := (.bool (denseB k ks.length))) (x4 := .int .u64 (v : Int)) hne).trans hk4.2.2.2)))))
  have hd : w1.drew.heap.size = w.heap.size + 1 := hs1
  rw [hd] at ho2
  have e5 := hN4.set5 (x0 := .int .i64 lv) (x1 := .slice B k d) (x2 := (.slice C ks.length f)) (x3 := (.bool (denseB k ks.length))) (x4 := .int .u64 (v : Int))
  have b5 := below_set5 (x0 := .int .i64 lv) (x1 := .slice B k d) (x2 := (.slice C ks.length f)) (x3 := (.bool (denseB k ks.length))) (x4 := .int .u64 (v : Int)) (below_then b1 hc4) (Nat.le_refl w.heap.size)
  have o5 := own_far5 (g := w.heap.size) (x0 := .int .i64 lv) (x1 := .slice B k d) (x2 := (.slice C ks.length f)) (x3 := (.bool (denseB k ks.length))) (x4 := .int .u64 (v : Int)) (own_below ho2 (below_then hb3 hb4)) (by omega)
  have hl2 : w.heap.size < w2.heap.size := by have := hc2.size; omega
  have o6 := hide (own_far5 (g := w.heap.size) (x0 := .int .i64 lv) (x1 := .slice B k d) (x2 := (.slice C ks.length f)) (x3 := (.bool (denseB k ks.length))) (x4 := .int .u64 (v : Int)) (own_below ho3 hb4) hl2)
  clear ho3
  have g0 := e5.cell 0
  have g1 := e5.cell 1
  have g2 := e5.cell 2
  have g3 := e5.cell 3
  have g4 := e5.cell 4
  generalize ((((w4.setCell ⟨w.heap.size, 0, none⟩ (.int .i64 lv)).setCell ⟨w.heap.size, 1, none⟩ (.slice B k d)).setCell ⟨w.heap.size, 2, none⟩ (.slice C ks.length f)).setCell ⟨w.heap.size, 3, none⟩ (.bool (denseB k ks.length))).setCell ⟨w.heap.size, 4, none⟩ (.int .u64 (v : Int)) = w5 at *
  simp at g0 g1 g2 g3 g4
  have HO := hide o5
  clear o5 ho2 y0 y1 y2 y3 y4 z0 z1 z2 z3 z4 hk2 hk3 hk4 hk5 H1 H2 H3 HN HC
  go_wp2
  refine bodyPost_ret (v := .agg #[.int .i64 lv, .slice B k d, (.slice C ks.length f), (.bool (denseB k ks.length)), .int .u64 (v : Int)]) (by simp [results, Try.results34, go_sem, g0, g1, g2, g3, g4]) rfl ⟨B, d, C, f, rfl, (own_rw HO.out).2, (own_rw o6.out).2, b5, own_ty HO.out, own_ty o6.out⟩
set_option maxHeartbeats 2000000 in
set_option maxRecDepth 100000 in
theorem nd_shape_leaf_t {w : World} {g : Nat} {lv : Int} {A : Option Addr} {k c v : Nat} {s : Sum4} {p : List Nat} (hB : Blk w g 103 (nodeCells lv A k c v none s)) (hp : Pt w A k p) (hk : k ≤ 16) :
    Calls Try.prog 34 #[.pointer (some ⟨g, 0, none⟩)] w fun e w' => ∃ B d, e = .returned (.agg #[.int .i64 lv, .slice B k d, .slice none 0 0, .bool false, .int .u64 (v : Int)]) ∧ Rw w' 1 B k (u64s p) ∧ Below w.heap.size w w' ∧ TyRow w' 36 B k := by
  have b1 := (Below.refl w.heap.size w).alloc (Nat.le_refl _) (.cells #[.int .i64 0, .slice none 0 0, .slice none 0 0, .bool false, .int .u64 0] 75)
  have hB1 := hB.alloc (.cells #[.int .i64 0, .slice none 0 0, .slice none 0 0, .bool false, .int .u64 0] 75)
  have hN1 := Blk.new w 75 #[.int .i64 0, .slice none 0 0, .slice none 0 0, .bool false, .int .u64 0]
  have hp1 := hp.below b1
  have hs1 : (w.alloc (.cells #[.int .i64 0, .slice none 0 0, .slice none 0 0, .bool false, .int .u64 0] 75)).heap.size = w.heap.size + 1 := by simp
  have c0 := hB1.cell 0
  have c1 := hB1.cell 1
  have c2 := hB1.cell 2
  have c3 := hB1.cell 3
  simp [nodeCells] at c0 c1 c2 c3
  have hgl := hB.lt
  clear hB
  go_enter Try.func34, Try.ntmps34
  go_upto_region 3 with fail
  generalize w.alloc (.cells #[.int .i64 0, .slice none 0 0, .slice none 0 0, .bool false, .int .u64 0] 75) = w1 at *
  have hg1 : g < w1.heap.size := by omega
  have hne : g ≠ w.heap.size := by omega
  have HC := hide (fun (W : World) (hW : Below w1.heap.size w1 W) => And.intro ((hW.cell (p := ⟨g, 0, none⟩) hg1).trans c0) (And.intro ((hW.cell (p := ⟨g, 1, none⟩) hg1).trans c1) (And.intro ((hW.cell (p := ⟨g, 2, none⟩) hg1).trans c2) ((hW.cell (p := ⟨g, 3, none⟩) hg1).trans c3))))
  have H1 := hide (clone_u64 A k c p w1.drew (hp1.below (Below.refl _ w1).drew) (by omega))
  have H2 := hide (fun (W : World) (hW : Below w.heap.size w W) => places_nil_n W)
  have H3 := hide (fun (W : World) (hW : Below w.heap.size w W) => denseM_nil_n W)
  have HN := hide (fun (W : World) (hW : Below w1.heap.size w1 W) => hN1.below hW)
  clear hp hp1 hN1
  go_region_held3 (fun w' => w'.cell? ⟨g, 0, none⟩ = some (.int .i64 lv) ∧ w'.cell? ⟨g, 1, none⟩ = some (.slice A k c) ∧ w'.cell? ⟨g, 2, none⟩ = some (.int .u64 (v : Int)) ∧ w'.cell? ⟨g, 3, none⟩ = some (.pointer none))
    (first
      | go_keep
      | exact hk2
      | exact hk3
      | exact hk4
      | exact hk5)
    (first
      | (go_at_call 50
         refine H1.out.mono ?_
         rintro e w2 ⟨v2, rfl, ho2, hb2⟩
         have hc2 : Below w1.heap.size w1 w2 := (Below.refl _ w1).drew.trans hb2
         obtain ⟨B, d, rfl, -, -⟩ := Rw.of_own ho2
         have hk2 := HC.out w2 hc2)
      | (go_at_call 51
         refine (H2.out w2 (below_then b1 hc2)).mono ?_
         rintro e w2 ⟨rfl, rfl⟩
         have hc3 := hc2
         have hk3 := HC.out w2 hc3)
      | (go_at_call 52
         refine (H3.out w2 (below_then b1 hc3)).mono ?_
         rintro e w4 ⟨rfl, hb4⟩
         have hc4 := below_then hc3 hb4
         have hk4 := HC.out w4 hc4
         have hN4 := HN.out w4 hc4
         have z0 := hN4.frozen 0
         have z1 := hN4.frozen 1
         have z2 := hN4.frozen 2
         have z3 := hN4.frozen 3
         have z4 := hN4.frozen 4
         have y0 := hN4.cell 0
         have y1 := hN4.cell 1
         have y2 := hN4.cell 2
         have y3 := hN4.cell 3
         have y4 := hN4.cell 4
         simp at y0 y1 y2 y3 y4
         have hk5 := And.intro ((cell_far5 (i0 := 0) (i1 := 1) (i2 := 2) (i3 := 3) (i4 := 4) (x0 := .int .i64 lv) (x1 := .slice B k d) (x2 := (.slice none 0 0)) (x3 := (.bool false)) (x4 := .int .u64 (v : Int)) hne).trans hk4.1) (And.intro ((cell_far5 (i0 := 0) (i1 := 1) (i2 := 2) (i3 := 3) (i4 := 4) (x0 := .int .i64 lv) (x1 := .slice B k d) (x2 := (.slice none 0 0)) (x3 := (.bool false)) (x4 := .int .u64 (v : Int)) hne).trans hk4.2.1) (And.intro ((cell_far5 (i0 := 0) (i1 := 1) (i2 := 2) (i3 := 3) (i4 := 4) (x0 := .int .i64 lv) (x1 := .slice B k d) (x2 := (.slice none 0 0)) (x3 := (.bool false)) (x4 := .int .u64 (v : Int)) hne).trans hk4.2.2.1) ((cell_far5 (i0 := 0) (i1 := 1) (i2 := 2) (i3 := 3) (i4 := 4) (x0 := .int .i64 lv) (x1 := .slice B k d) (x2 := (.slice none 0 0)) (x3 := (.bool false)) (x4 := .int .u64 (v : Int)) hne).trans hk4.2.2.2)))))
  have hd : w1.drew.heap.size = w.heap.size + 1 := hs1
  rw [hd] at ho2
  have e5 := hN4.set5 (x0 := .int .i64 lv) (x1 := .slice B k d) (x2 := (.slice none 0 0)) (x3 := (.bool false)) (x4 := .int .u64 (v : Int))
  have b5 := below_set5 (x0 := .int .i64 lv) (x1 := .slice B k d) (x2 := (.slice none 0 0)) (x3 := (.bool false)) (x4 := .int .u64 (v : Int)) (below_then b1 hc4) (Nat.le_refl w.heap.size)
  have o5 := own_far5 (g := w.heap.size) (x0 := .int .i64 lv) (x1 := .slice B k d) (x2 := (.slice none 0 0)) (x3 := (.bool false)) (x4 := .int .u64 (v : Int)) (own_below ho2 hb4) (by omega)
  have g0 := e5.cell 0
  have g1 := e5.cell 1
  have g2 := e5.cell 2
  have g3 := e5.cell 3
  have g4 := e5.cell 4
  generalize ((((w4.setCell ⟨w.heap.size, 0, none⟩ (.int .i64 lv)).setCell ⟨w.heap.size, 1, none⟩ (.slice B k d)).setCell ⟨w.heap.size, 2, none⟩ (.slice none 0 0)).setCell ⟨w.heap.size, 3, none⟩ (.bool false)).setCell ⟨w.heap.size, 4, none⟩ (.int .u64 (v : Int)) = w5 at *
  simp at g0 g1 g2 g3 g4
  have HO := hide o5
  clear o5 ho2 y0 y1 y2 y3 y4 z0 z1 z2 z3 z4 hk2 hk3 hk4 hk5 H1 H2 H3 HN HC
  go_wp2
  refine bodyPost_ret (v := .agg #[.int .i64 lv, .slice B k d, (.slice none 0 0), (.bool false), .int .u64 (v : Int)]) (by simp [results, Try.results34, go_sem, g0, g1, g2, g3, g4]) rfl ⟨B, d, rfl, (own_rw HO.out).2, b5, own_ty HO.out⟩
theorem nd_shape_leaf {w : World} {g : Nat} {lv : Int} {A : Option Addr} {k c v : Nat} {s : Sum4} {p : List Nat} (hB : Blk w g 103 (nodeCells lv A k c v none s)) (hp : Pt w A k p) (hk : k ≤ 16) :
    Calls Try.prog 34 #[.pointer (some ⟨g, 0, none⟩)] w fun e w' => ∃ B d, e = .returned (.agg #[.int .i64 lv, .slice B k d, .slice none 0 0, .bool false, .int .u64 (v : Int)]) ∧ Rw w' 1 B k (u64s p) ∧ Below w.heap.size w w' :=
  (nd_shape_leaf_t hB hp hk).mono fun e w' ⟨B, d, h1, h2, h3, _⟩ => ⟨B, d, h1, h2, h3⟩
theorem kid_all {w : World} {gs k : Nat} {ks : List Kid} (h : SlotsAt_n w gs k (kidTh ks)) :
    Calls Try.prog 72 #[.pointer (some ⟨gs, 0, none⟩)] w fun e w' => ∃ v, e = .returned v ∧ w'.ownsRow w.heap.size 51 1 v ks.length (ks.map fun q => .pointer (some ⟨q.blk, 0, none⟩)) ∧ Below w.heap.size w w' := by
  have := all_n gs k (kidTh ks) w h
  simpa [kidTh, Function.comp_def] using this
theorem kidEs_take {ks : List Kid} {j : Nat} {q : Kid} (h : ks[j]? = some q) : kidEs (ks.take (j + 1)) = kidEs (ks.take j) ++ q.es := by
  unfold kidEs
  rw [List.take_add_one, h]
  simp
theorem kidEs_ne {ks : List Kid} {j : Nat} {q : Kid} (h : ks[j]? = some q) (hne : q.es ≠ []) : kidEs (ks.take (j + 1)) ≠ [] := by
  rw [kidEs_take h]; simp [hne]
theorem Blk.set4_7 {w : World} {g : Nat} {t : TypeId} {a0 a1 a2 a3 a b c d x0 x1 x2 x3 : Value} (h : Blk w g t #[a0, a1, a2, a3, a, b, c, d]) :
    Blk ((((w.setCell ⟨g, 4, none⟩ x0).setCell ⟨g, 5, none⟩ x1).setCell ⟨g, 6, none⟩ x2).setCell ⟨g, 7, none⟩ x3) g t #[a0, a1, a2, a3, x0, x1, x2, x3] :=
  (((h.set1 x0).set1 x1).set1 x2).set1 x3
theorem Blk.sums {w : World} {g : Nat} {t : TypeId} {lv : Int} {A : Option Addr} {k c v : Nat} {kids : Option Addr} {s : Sum4} (h : Blk w g t (nodeCells lv A k c v kids s)) (s' : Sum4) :
    Blk ((((w.setCell ⟨g, 4, none⟩ (.int .u64 (s'.c : Int))).setCell ⟨g, 5, none⟩ (.int .u64 (s'.s : Int))).setCell ⟨g, 6, none⟩ (.int .u64 (s'.mn : Int))).setCell ⟨g, 7, none⟩ (.int .u64 (s'.mx : Int))) g t (nodeCells lv A k c v kids s') := by
  unfold nodeCells at h ⊢
  exact h.set4_7
theorem below_set4 {B g i0 i1 i2 i3 : Nat} {a w : World} {x0 x1 x2 x3 : Value} (h : Below B a w) (hg : B ≤ g) :
    Below B a ((((w.setCell ⟨g, i0, none⟩ x0).setCell ⟨g, i1, none⟩ x1).setCell ⟨g, i2, none⟩ x2).setCell ⟨g, i3, none⟩ x3) :=
  (((h.setCell hg _).setCell hg _).setCell hg _).setCell hg _
theorem own_far4 {w : World} {base g i0 i1 i2 i3 : Nat} {e : TypeId} {size : Nat} {v : Value} {n : Nat} {xs : List Value} {x0 x1 x2 x3 : Value} (h : w.ownsRow base e size v n xs) (hg : g < base) :
    ((((w.setCell ⟨g, i0, none⟩ x0).setCell ⟨g, i1, none⟩ x1).setCell ⟨g, i2, none⟩ x2).setCell ⟨g, i3, none⟩ x3).ownsRow base e size v n xs :=
  ownsRow_setCell_below (ownsRow_setCell_below (ownsRow_setCell_below (ownsRow_setCell_below h (a := ⟨g, i0, none⟩) hg _) (a := ⟨g, i1, none⟩) hg _) (a := ⟨g, i2, none⟩) hg _) (a := ⟨g, i3, none⟩) hg _
theorem wrap_u64_nat (a b : Nat) : IntKind.u64.wrap ((a : Int) + (b : Int)) = (((a + b) % 2 ^ 64 : Nat) : Int) := by
  rw [IntKind.wrap_u64]; omega
set_option maxHeartbeats 2000000 in
set_option maxRecDepth 100000 in
theorem nd_made {w : World} {lv : Int} {A : Option Addr} {k c gs : Nat} {ks : List Kid} (hS : SlotsAt_n w gs k (kidTh ks)) (hk : ∀ q ∈ ks, NodeOf w k q.blk q.lv q.pre q.es) :
    Calls Try.prog 66 #[.int .i64 lv, .slice A k c, .pointer (some ⟨gs, 0, none⟩)] w fun e w' => e = .returned (.pointer (some ⟨w.heap.size, 0, none⟩)) ∧ Blk w' w.heap.size 103 (nodeCells lv A k c 0 (some ⟨gs, 0, none⟩) (sumsOf (kidEs ks))) ∧ Below w.heap.size w w' := by
  have hl : ks.length ≤ 65536 := by
    have := hS.ok
    have := len_le_of_ok this
    have h2 := pow16 hS.2.1
    simp [kidTh] at this
    omega
  have HK := hide hk
  have b1 := (Below.refl w.heap.size w).alloc (Nat.le_refl _) (.cells (nodeCells lv A k c 0 (some ⟨gs, 0, none⟩) ⟨0, 0, 0, 0⟩) 103)
  have hN1 := Blk.new w 103 (nodeCells lv A k c 0 (some ⟨gs, 0, none⟩) ⟨0, 0, 0, 0⟩)
  have hs1 : (w.alloc (.cells (nodeCells lv A k c 0 (some ⟨gs, 0, none⟩) ⟨0, 0, 0, 0⟩) 103)).heap.size = w.heap.size + 1 := by simp
  have HA := hide (kid_all (hS.below b1))
  clear hS hk
  unfold nodeCells at b1 hN1 hs1 HA
  go_enter Try.func66, Try.ntmps66
  go_wp2_with fail
  have e0 : ((0 : Nat) : Int) = 0 := rfl
  simp only [e0] at b1 hN1 hs1 HA
  refine HA.out.mono ?_
  rintro e w2 ⟨v2, rfl, ho2, hb2⟩
  rw [hs1] at ho2
  have hN2 := hide (hN1.below hb2)
  have hc2 := below_then b1 hb2
  clear hN1 b1 hb2 HA hs1
  obtain ⟨A2, c2, rfl, -, -⟩ := Rw.of_own ho2
  have HO2 := hide ho2
  clear ho2
  have hz2 : w.heap.size < w2.heap.size := hN2.out.lt
  go_wp2
  go_loopw [19] (fun x wr => ∃ (j : Nat), x = .int .i64 j ∧ j ≤ ks.length ∧ Blk wr w.heap.size 103 (nodeCells lv A k c 0 (some ⟨gs, 0, none⟩) (sumsOf (kidEs (ks.take j)))) ∧ wr.ownsRow (w.heap.size + 1) 51 1 (.slice A2 ks.length c2) ks.length (ks.map fun q => .pointer (some ⟨q.blk, 0, none⟩)) ∧ Below w.heap.size w wr) (fun x _ => ks.length - (intOf x).toNat)
  case atStart => exact ⟨0, rfl, Nat.zero_le _, hN2.out, HO2.out, hc2⟩
  case round =>
    obtain ⟨j, rfl, hj, hB, hO, hb⟩ := hrel
    have hBl := hB.lt
    by_cases hjn : j < ks.length
    · obtain ⟨b, o, rfl, hbl, u, hu, k0⟩ := (own_rw hO).2.one hjn
      rw [List.getElem?_map] at hu
      obtain ⟨q, hq, rfl⟩ := Option.map_eq_some_iff.1 hu
      have hn := HK.out q (List.mem_of_getElem? hq)
      have HI := hide hn.info
      obtain ⟨Aq, cq, vq, kq, hBq, -⟩ := hn.head
      have hql : q.blk < w.heap.size := hBq.lt
      have hBq' := hBq.belowB hb hql
      have HO := hide hO
      have HB := hide hB
      have HQ := hide hq
      have HBq := hide hBq'
      have p4 := hBq'.cell 4
      have p5 := hBq'.cell 5
      have p6 := hBq'.cell 6
      have p7 := hBq'.cell 7
      simp [nodeCells] at p4 p5 p6 p7
      clear hO hB hq hu hBq hBq' hn
      generalize hsq : sumsOf q.es = sq at *
      generalize hsp : sumsOf (kidEs (ks.take j)) = sp at *
      have r4 := HB.out.cell 4
      have r5 := HB.out.cell 5
      have r6 := HB.out.cell 6
      have r7 := HB.out.cell 7
      simp [nodeCells] at r4 r5 r6 r7
      have hB3 := HB.out.alloc (.cells #[.int .u64 (sq.c : Int), .int .u64 (sq.s : Int), .int .u64 (sq.mn : Int), .int .u64 (sq.mx : Int)] 101)
      have hS3 := Blk.new wr 101 #[.int .u64 (sq.c : Int), .int .u64 (sq.s : Int), .int .u64 (sq.mn : Int), .int .u64 (sq.mx : Int)]
      have hO3 := own_below HO.out ((Below.refl wr.heap.size wr).alloc (Nat.le_refl _) (.cells #[.int .u64 (sq.c : Int), .int .u64 (sq.s : Int), .int .u64 (sq.mn : Int), .int .u64 (sq.mx : Int)] 101))
      have hb3 := below_alloc hb (Nat.le_refl _) (.cells #[.int .u64 (sq.c : Int), .int .u64 (sq.s : Int), .int .u64 (sq.mn : Int), .int .u64 (sq.mx : Int)] 101)
      have z4 := hB3.frozen 4
      have z5 := hB3.frozen 5
      have z6 := hB3.frozen 6
      have z7 := hB3.frozen 7
      have s0 : (wr.alloc (.cells #[.int .u64 (sq.c : Int), .int .u64 (sq.s : Int), .int .u64 (sq.mn : Int), .int .u64 (sq.mx : Int)] 101)).cell? ⟨wr.heap.size, 0, none⟩ = some (.int .u64 (sq.c : Int)) := hS3.cell 0
      have s1 : (wr.alloc (.cells #[.int .u64 (sq.c : Int), .int .u64 (sq.s : Int), .int .u64 (sq.mn : Int), .int .u64 (sq.mx : Int)] 101)).cell? ⟨wr.heap.size, 1, none⟩ = some (.int .u64 (sq.s : Int)) := hS3.cell 1
      have s2 : (wr.alloc (.cells #[.int .u64 (sq.c : Int), .int .u64 (sq.s : Int), .int .u64 (sq.mn : Int), .int .u64 (sq.mx : Int)] 101)).cell? ⟨wr.heap.size, 2, none⟩ = some (.int .u64 (sq.mn : Int)) := hS3.cell 2
      have s3 : (wr.alloc (.cells #[.int .u64 (sq.c : Int), .int .u64 (sq.s : Int), .int .u64 (sq.mn : Int), .int .u64 (sq.mx : Int)] 101)).cell? ⟨wr.heap.size, 3, none⟩ = some (.int .u64 (sq.mx : Int)) := hS3.cell 3
      have t4 := hB3.cell 4
      have t5 := hB3.cell 5
      have t6 := hB3.cell 6
      have t7 := hB3.cell 7
      simp [nodeCells] at t4 t5 t6 t7
      have HB3 := hide hB3
      have HO3 := hide hO3
      have HQB := hide hb3
      clear hB3 hS3 hO3 hb3
      rcases Nat.eq_zero_or_pos j with hj0 | hj0
      · have e0 : ((j : Int) == 0) = true := by simp; omega
        have HJ0 := hide hj0
        clear hj0
        go_upto_region 7 with fail
        generalize wr.alloc (.cells #[.int .u64 (sq.c : Int), .int .u64 (sq.s : Int), .int .u64 (sq.mn : Int), .int .u64 (sq.mx : Int)] 101) = w3 at *
        go_wp2
        go_roundw
        case rel =>
          refine ⟨j + 1, by go_num, by omega, ?_, own_far4 HO3.out (by omega), below_set4 HQB.out (Nat.le_refl _)⟩
          have : sumsOf (kidEs (ks.take (j + 1))) = sq := by
            rw [kidEs_take HQ.out, HJ0.out]
            simpa [kidEs] using hsq
          rw [this]
          exact HB3.out.sums sq
        case measure => simp [intOf]; omega
      · have e0 : ((j : Int) == 0) = false := by simp; omega
        go_upto_region 8 with fail
        generalize wr.alloc (.cells #[.int .u64 (sq.c : Int), .int .u64 (sq.s : Int), .int .u64 (sq.mn : Int), .int .u64 (sq.mx : Int)] 101) = w3 at *
        go_still_tail 36, (by kernel_rfl)
        change wpList _ _ _ _ _ w3.drew
        have t4' : w3.drew.frozen? ⟨w.heap.size, 4, none⟩ = false := z4
        have t5' : w3.drew.frozen? ⟨w.heap.size, 5, none⟩ = false := z5
        have t6' : w3.drew.frozen? ⟨w.heap.size, 6, none⟩ = false := z6
        have t7' : w3.drew.frozen? ⟨w.heap.size, 7, none⟩ = false := z7
        have HB4 := hide (show Blk w3.drew w.heap.size 103 (nodeCells lv A k c 0 (some ⟨gs, 0, none⟩) sp) from HB3.out.drewN 1)
        have v4 : w3.drew.cell? ⟨w.heap.size, 4, none⟩ = some (.int .u64 (sp.c : Int)) := t4
        have v5 : w3.drew.cell? ⟨w.heap.size, 5, none⟩ = some (.int .u64 (sp.s : Int)) := t5
        have v6 : w3.drew.cell? ⟨w.heap.size, 6, none⟩ = some (.int .u64 (sp.mn : Int)) := t6
        have v7 : w3.drew.cell? ⟨w.heap.size, 7, none⟩ = some (.int .u64 (sp.mx : Int)) := t7
        have HO4 := hide (own_below HO3.out (Below.refl _ w3).drew)
        have hb4 := HQB.out.drew
        generalize w3.drew = w4 at *
        go_wp2
        go_roundw
        case rel =>
          refine ⟨j + 1, by go_num, by omega, ?_, own_far4 HO4.out (by omega), below_set4 hb4 (Nat.le_refl _)⟩
          have hne := HI.out.2.1
          obtain ⟨q', hq'⟩ : ∃ q', ks[j - 1]? = some q' := ⟨_, List.getElem?_eq_getElem (by omega)⟩
          have hne' : kidEs (ks.take j) ≠ [] := by
            have := kidEs_ne hq' ((HK.out q' (List.mem_of_getElem? hq')).info.2.1)
            rwa [show j - 1 + 1 = j by omega] at this
          have hsum : sumsOf (kidEs (ks.take (j + 1))) = sp.join sq := by
            rw [kidEs_take HQ.out, sumsOf_append hne' hne, hsp, hsq]
          rw [hsum]
          have j0 : ((sp.join sq).c : Int) = IntKind.u64.wrap ((sp.c : Int) + (sq.c : Int)) := by
            rw [wrap_u64_nat]; unfold Sum4.join; simp
          have j1 : ((sp.join sq).s : Int) = IntKind.u64.wrap ((sp.s : Int) + (sq.s : Int)) := by
            rw [wrap_u64_nat]; unfold Sum4.join; simp
          have j2 : ((sp.join sq).mn : Int) = min (sp.mn : Int) (sq.mn : Int) := by
            show ((Nat.min sp.mn sq.mn : Nat) : Int) = _
            rw [show Nat.min sp.mn sq.mn = min sp.mn sq.mn from rfl]; omega
          have j3 : ((sp.join sq).mx : Int) = max (sp.mx : Int) (sq.mx : Int) := by
            show ((Nat.max sp.mx sq.mx : Nat) : Int) = _
            rw [show Nat.max sp.mx sq.mx = max sp.mx sq.mx from rfl]; omega
          rw [← j0, ← j1, ← j2, ← j3]
          exact HB4.out.sums (sp.join sq)
        case measure => simp [intOf]; omega
    · have hj' : j = ks.length := by omega
      rw [hj', List.take_of_length_le (Nat.le_refl _)] at hB
      have HB := hide hB
      have HO := hide hO
      clear hB hO hj'
      go_wp2
      go_ret
      exact ⟨rfl, HB.out, hb⟩
/-! ### Cutting -/
theorem bit_cutc (m c b : Nat) : bit (cutc m c) b = if b < m then 0 else bit c b := by
  unfold bit cutc
  split
  · rename_i h
    obtain ⟨d, rfl⟩ : ∃ d, m = b + (d + 1) := ⟨m - b - 1, by omega⟩
    have : c / 2 ^ (b + (d + 1)) * 2 ^ (b + (d + 1)) = (c / 2 ^ (b + (d + 1)) * 2 ^ d * 2) * 2 ^ b := by
      rw [Nat.pow_add, Nat.pow_succ]
      generalize c / (2 ^ b * (2 ^ d * 2)) = X
      generalize 2 ^ b = B
      generalize 2 ^ d = D
      simp only [Nat.mul_comm, Nat.mul_left_comm, Nat.mul_assoc]
    rw [this, Nat.mul_div_cancel _ (Nat.two_pow_pos b), Nat.mul_mod_left]
  · rename_i h
    obtain ⟨d, rfl⟩ : ∃ d, b = m + d := ⟨b - m, by omega⟩
    rw [Nat.pow_add, ← Nat.div_div_eq_div_mul, Nat.mul_div_cancel _ (Nat.two_pow_pos m), Nat.div_div_eq_div_mul]
theorem foldl_zero (b : Nat) : ∀ (p : List Nat), (∀ c ∈ p, bit c b = 0) → p.foldl (fun a c => 2 * a + bit c b) 0 = 0
  | [], _ => rfl
  | c :: p, h => by
    rw [List.foldl_cons, h c List.mem_cons_self]
    exact foldl_zero b p fun c hc => h c (List.mem_cons_of_mem _ hc)
theorem foldl_cut (m b : Nat) (h : m ≤ b) : ∀ (p : List Nat) (a : Nat), (cut m p).foldl (fun a c => 2 * a + bit c b) a = p.foldl (fun a c => 2 * a + bit c b) a
  | [], _ => rfl
  | c :: p, a => by
    show (cut m p).foldl _ (2 * a + bit (cutc m c) b) = p.foldl _ (2 * a + bit c b)
    rw [bit_cutc, if_neg (by omega), foldl_cut m b h p]
theorem addr_cut_lo {m b : Nat} (p : List Nat) (h : b < m) : addrOf (cut m p) b = 0 := by
  unfold addrOf
  apply foldl_zero
  intro c hc
  obtain ⟨d, _, rfl⟩ := List.mem_map.1 hc
  rw [bit_cutc, if_pos h]
theorem addr_cut_hi {m b : Nat} (p : List Nat) (h : m ≤ b) : addrOf (cut m p) b = addrOf p b := foldl_cut m b h p 0
theorem zp_cut {k m : Nat} {p : List Nat} (h : Zp k p) : Zp k (cut m p) := by
  refine ⟨by unfold cut; rw [List.length_map]; exact h.1, fun x hx => ?_⟩
  obtain ⟨d, hd, rfl⟩ := List.mem_map.1 hx
  exact cutc_lt m d (h.2 d hd)
/-! ### Kids in their places -/
def insK (ks : List Kid) (q : Kid) : List Kid := ks.filter (fun r => decide (r.at_ < q.at_)) ++ [q] ++ ks.filter (fun r => decide (q.at_ < r.at_))
def delK (ks : List Kid) (a : Nat) : List Kid := ks.filter fun r => decide (r.at_ ≠ a)
theorem kidTh_ins (ks : List Kid) (q : Kid) : kidTh (insK ks q) = insTh (kidTh ks) q.at_ (.pointer (some ⟨q.blk, 0, none⟩)) := by
  unfold kidTh insK insTh
  simp only [List.map_append, List.map_cons, List.map_nil, List.filter_map, Function.comp_def]
theorem kidTh_del (ks : List Kid) (a : Nat) : kidTh (delK ks a) = delTh (kidTh ks) a := by
  unfold kidTh delK delTh
  simp only [List.filter_map, Function.comp_def]
theorem mem_insK {ks : List Kid} {q r : Kid} (h : r ∈ insK ks q) : r = q ∨ r ∈ ks := by
  unfold insK at h
  simp only [List.mem_append, List.mem_filter, List.mem_singleton] at h
  rcases h with (h | h) | h
  · exact .inr h.1
  · exact .inl h
  · exact .inr h.1
theorem mem_insK_iff {ks : List Kid} {q r : Kid} : r ∈ insK ks q ↔ r = q ∨ (r ∈ ks ∧ r.at_ ≠ q.at_) := by
  unfold insK
  simp only [List.mem_append, List.mem_filter, List.mem_singleton, decide_eq_true_eq]
  constructor
  · rintro ((h | h) | h)
    · exact .inr ⟨h.1, by omega⟩
    · exact .inl h
    · exact .inr ⟨h.1, by omega⟩
  · rintro (h | ⟨h, h2⟩)
    · exact .inl (.inr h)
    · rcases Nat.lt_or_ge r.at_ q.at_ with h3 | h3
      · exact .inl (.inl ⟨h, h3⟩)
      · exact .inr ⟨h, by omega⟩
theorem insK_sorted {ks : List Kid} {q : Kid} (h : ks.Pairwise fun a b => a.at_ < b.at_) : (insK ks q).Pairwise fun a b => a.at_ < b.at_ := by
  unfold insK
  rw [List.pairwise_append, List.pairwise_append]
  refine ⟨⟨h.filter _, List.pairwise_singleton _ _, ?_⟩, h.filter _, ?_⟩
  · intro a ha b hb
    rw [List.mem_singleton] at hb
    subst hb
    simpa using (List.mem_filter.1 ha).2
  · intro a ha b hb
    have hb2 : q.at_ < b.at_ := by simpa using (List.mem_filter.1 hb).2
    rcases List.mem_append.1 ha with ha | ha
    · have : a.at_ < q.at_ := by simpa using (List.mem_filter.1 ha).2
      omega
    · rw [List.mem_singleton] at ha
      subst ha
      exact hb2
theorem delK_sorted {ks : List Kid} {a : Nat} (h : ks.Pairwise fun a b => a.at_ < b.at_) : (delK ks a).Pairwise fun a b => a.at_ < b.at_ := h.filter _
/-! ### A fork -/
/-- Block g is a node with just these kids. -/
def Fork (w : World) (k g lv : Nat) (pre : List Nat) (ks : List Kid) : Prop :=
  ∃ (A : Option Addr) (c gs : Nat), lv < 64 ∧ Pt w A k pre ∧ k ≤ c ∧ (∀ b, b ≤ lv → addrOf pre b = 0) ∧ (∀ q ∈ ks, NodeOf w k q.blk q.lv q.pre q.es) ∧ (∀ q ∈ ks, q.lv < lv) ∧
    (∀ q ∈ ks, addrOf q.pre lv = q.at_ ∧ ∀ b, lv < b → addrOf q.pre b = addrOf pre b) ∧ (ks.Pairwise fun q r => q.at_ < r.at_) ∧ 2 ≤ ks.length ∧ SlotsAt_n w gs k (kidTh ks) ∧
    Blk w g 103 (nodeCells lv A k c 0 (some ⟨gs, 0, none⟩) (sumsOf (kidEs ks)))
theorem Fork.node {w : World} {k g lv : Nat} {pre : List Nat} {ks : List Kid} (h : Fork w k g lv pre ks) : NodeOf w k g lv pre (kidEs ks) := by
  obtain ⟨A, c, gs, h1, h2, h3, h4, h5, h6, h7, h8, h9, h10, h11⟩ := h
  exact .fork ks h1 h2 h3 h4 h5 h6 h7 h8 h9 h10 h11
theorem Fork.stay {w w' : World} {k g lv : Nat} {pre : List Nat} {ks : List Kid} (h : Fork w k g lv pre ks) (hb : Below w.heap.size w w') : Fork w' k g lv pre ks := by
  obtain ⟨A, c, gs, h1, h2, h3, h4, h5, h6, h7, h8, h9, h10, h11⟩ := h
  exact ⟨A, c, gs, h1, h2.below hb, h3, h4, fun q hq => (h5 q hq).stay hb, h6, h7, h8, h9, h10.below hb, h11.below hb⟩
/-- A node is an entry or a fork. -/
theorem NodeOf.cases' {w : World} {k g : Nat} {lv : Int} {pre : List Nat} {es : List Ent} (h : NodeOf w k g lv pre es) :
    (∃ A c v, lv = -1 ∧ es = [(pre, v)] ∧ v < 2 ^ 64 ∧ Pt w A k pre ∧ k ≤ c ∧ Blk w g 103 (nodeCells (-1) A k c v none ⟨1, v, v, v⟩)) ∨
    (∃ (m : Nat) (ks : List Kid), lv = (m : Int) ∧ es = kidEs ks ∧ Fork w k g m pre ks) := by
  cases h with
  | leaf hv hp hc hB => exact .inl ⟨_, _, _, rfl, rfl, hv, hp, hc, hB⟩
  | fork ks hlv hp hc hz hk hl ha hs h2 hS hB => exact .inr ⟨_, ks, rfl, rfl, _, _, _, hlv, hp, hc, hz, hk, hl, ha, hs, h2, hS, hB⟩
theorem addr_lt_pow {k : Nat} {p : List Nat} (h : Zp k p) (b : Nat) : addrOf p b < 2 ^ k := by
  have := addrOf_lt p b
  rwa [h.1] at this
end Go.Proofs.Ytfoapkcgdkfggaa
set_option linter.unusedSimpArgs false
set_option linter.unusedVariables false
namespace Go.Proofs.Ytfoapkcgdkfggaa
section
open Go.RowKit
end
section
open Go.RowKit
/-- What two kids make. -/
def pairK (g g' : Nat) (lv lv' : Int) (pre pre' : List Nat) (es es' : List Ent) (m : Nat) : List Kid :=
  insK (insK [] ⟨addrOf pre m, g, lv, pre, es⟩) ⟨addrOf pre' m, g', lv', pre', es'⟩
theorem pairK_eq {g g' : Nat} {lv lv' : Int} {pre pre' : List Nat} {es es' : List Ent} {m : Nat} (h : addrOf pre m ≠ addrOf pre' m) :
    pairK g g' lv lv' pre pre' es es' m = if addrOf pre m < addrOf pre' m then [⟨addrOf pre m, g, lv, pre, es⟩, ⟨addrOf pre' m, g', lv', pre', es'⟩] else [⟨addrOf pre' m, g', lv', pre', es'⟩, ⟨addrOf pre m, g, lv, pre, es⟩] := by
  unfold pairK insK
  by_cases h1 : addrOf pre m < addrOf pre' m
  · have h2 : ¬ addrOf pre' m < addrOf pre m := by omega
    simp [h1, h2]
  · have h2 : addrOf pre' m < addrOf pre m := by omega
    simp [h1, h2]
set_option maxHeartbeats 2000000 in
set_option maxRecDepth 100000 in
theorem nd_pair {w : World} {k g g' m : Nat} {lv lv' : Int} {pre pre' : List Nat} {es es' : List Ent} (h : NodeOf w k g lv pre es) (h' : NodeOf w k g' lv' pre' es') (hk1 : 1 ≤ k) (hk : k ≤ 16)
    (hm : part pre pre' = (m : Int)) (h1 : lv < m) (h2 : lv' < m) :
    Calls Try.prog 40 #[.pointer (some ⟨g, 0, none⟩), .pointer (some ⟨g', 0, none⟩)] w fun e w' => ∃ gn, e = .returned (.tuple #[.pointer (some ⟨gn, 0, none⟩), .int .i64 0]) ∧ Fork w' k gn m (cut (m + 1) pre) (pairK g g' lv lv' pre pre' es es' m) ∧ w.heap.size ≤ gn ∧ Below w.heap.size w w' := by
  have H := hide h
  have H' := hide h'
  obtain ⟨A, c, v, kids, hB, hp, -⟩ := h.head
  obtain ⟨A', c', v', kids', hB', hp', -⟩ := h'.head
  have hps := part_spec pre pre' (by rw [hp.1, hp'.1]) hp.2.2 hp'.2.2
  rw [hm] at hps
  obtain ⟨-, hm64, hps3, hps4⟩ := hps
  have hne := hps4 (by omega)
  rw [Int.toNat_natCast] at hne
  have c0 := hB.cell 0
  have d0 := hB'.cell 0
  have c1 := hB.cell 1
  have d1 := hB'.cell 1
  simp [nodeCells] at c0 d0 c1 d1
  have hgl := hB.lt
  have hgl' := hB'.lt
  have e1 : decide ((m : Int) ≤ max lv lv') = false := by simp; omega
  have HPS := hide hps3
  have HNE := hide hne
  have HP := hide hp
  have HP' := hide hp'
  have HL := hide (And.intro h1 h2)
  have hm64' : m < 64 := by omega
  clear hB hB' h h' hps3 hps4 hne h1 h2
  go_enter Try.func40, Try.ntmps40
  go_wp2_with fail
  go_region_held3 (fun w' => w'.cell? ⟨g, 1, none⟩ = some (.slice A k c) ∧ w'.cell? ⟨g', 1, none⟩ = some (.slice A' k c'))
    (first
      | go_keep)
    (first
      | (go_at_call 61
         refine (zb_part A A' k c c' pre pre' w.drew (hp.below (Below.refl _ w).drew) (hp'.below (Below.refl _ w).drew) hk1 hk).mono ?_
         rintro e w2 ⟨rfl, rfl⟩))
  go_wp2
  go_quiet (fail)
  go_upto_region 8 with fail
  have hb0 : Below w.heap.size w (w.drew.drewN nq) := below_drewN (Below.refl _ w).drew nq
  generalize w.drew.drewN nq = w0 at *
  have c1' := c1
  have c1w := (hb0.cell (p := ⟨g, 1, none⟩) hgl).trans c1
  have HN := hide (new_n (k : Int) w0 (by omega) (by omega))
  go_wp2_with fail
  refine HN.out.mono ?_
  rintro e w1 ⟨rfl, hS1, hb1⟩
  rw [Int.toNat_natCast] at hS1
  have hc1 := below_then hb0 hb1
  have hN1 := Blk.new w1 51 #[.pointer (some ⟨g, 0, none⟩), .pointer (some ⟨g', 0, none⟩)]
  have hS2 := hide (hS1.below ((Below.refl w1.heap.size w1).alloc (Nat.le_refl _) (.cells #[.pointer (some ⟨g, 0, none⟩), .pointer (some ⟨g', 0, none⟩)] 51)))
  have hc2 := below_alloc hc1 (Nat.le_refl _) (.cells #[.pointer (some ⟨g, 0, none⟩), .pointer (some ⟨g', 0, none⟩)] 51)
  have HN1 := hide hN1
  clear hS1 hN1 HN
  go_wp2
  go_loopw [8, 59] (fun x8 x59 wr => ∃ (j gk : Nat), x59 = .int .i64 j ∧ j ≤ 2 ∧ x8 = .pointer (some ⟨gk, 0, none⟩) ∧ SlotsAt_n wr gk k (kidTh (if j = 0 then [] else if j = 1 then insK [] ⟨addrOf pre m, g, lv, pre, es⟩ else pairK g g' lv lv' pre pre' es es' m)) ∧ Blk wr w1.heap.size 51 #[.pointer (some ⟨g, 0, none⟩), .pointer (some ⟨g', 0, none⟩)] ∧ Below w.heap.size w wr) (fun _ x _ => 2 - (intOf x).toNat)
  case atStart => exact ⟨0, w0.heap.size, rfl, by omega, rfl, hS2.out, HN1.out, hc2⟩
  case round =>
    obtain ⟨j, gk, rfl, hj, rfl, hS, hN, hb⟩ := hrel
    have k0 := hN.cell 0
    have k1 := hN.cell 1
    simp at k0 k1
    have HN := hide hN
    clear hN
    have HB := hide hb
    match j, hj with
    | 0, _ =>
      rw [if_pos rfl] at hS
      have HS := hide hS
      clear hS
      go_wp2_with fail
      have HPU := hide (put_n gk k (kidTh ([])) (addrOf pre m) (some ⟨g, 0, none⟩) _ HS.out (addr_lt_pow (Pt.zp HP.out) m))
      rw [← kidTh_ins ([]) ⟨addrOf pre m, g, lv, pre, es⟩] at HPU
      refine (nd_at (H.out.stay HB.out) hk1 hk m (by omega)).mono ?_
      rintro e w3 ⟨rfl, rfl⟩
      go_wp2_with fail
      refine HPU.out.mono ?_
      rintro e w4 ⟨gk', rfl, hS4, hgk, hb4⟩
      have hb5 := below_then HB.out hb4
      have hN4 := HN.out.below hb4
      go_wp2
      go_roundw
      case rel => exact ⟨1, gk', by go_num, by omega, rfl, hS4, hN4, hb5⟩
      case measure => simp [intOf]
    | 1, _ =>
      rw [if_neg (by omega), if_pos rfl] at hS
      have HS := hide hS
      clear hS
      go_wp2_with fail
      have HPU := hide (put_n gk k (kidTh (insK [] ⟨addrOf pre m, g, lv, pre, es⟩)) (addrOf pre' m) (some ⟨g', 0, none⟩) _ HS.out (addr_lt_pow (Pt.zp HP'.out) m))
      rw [← kidTh_ins (insK [] ⟨addrOf pre m, g, lv, pre, es⟩) ⟨addrOf pre' m, g', lv', pre', es'⟩] at HPU
      refine (nd_at (H'.out.stay HB.out) hk1 hk m (by omega)).mono ?_
      rintro e w3 ⟨rfl, rfl⟩
      go_wp2_with fail
      refine HPU.out.mono ?_
      rintro e w4 ⟨gk', rfl, hS4, hgk, hb4⟩
      have hb5 := below_then HB.out hb4
      have hN4 := HN.out.below hb4
      go_wp2
      go_roundw
      case rel => exact ⟨2, gk', by go_num, by omega, rfl, hS4, hN4, hb5⟩
      case measure => simp [intOf]
    | 2, _ =>
      rw [if_neg (by omega), if_neg (by omega)] at hS
      have HS := hide hS
      clear hS
      have c1r := (HB.out.cell (p := ⟨g, 1, none⟩) hgl).trans c1'
      have CC := zb_cut A k c pre (m + 1) wr (HP.out.below HB.out) hk1 hk (by omega)
      rw [show (((m + 1 : Nat)) : Int) - 1 = (m : Int) by omega] at CC
      have HCC := hide CC
      clear CC
      go_wp2_with fail
      refine HCC.out.mono ?_
      rintro e w5 ⟨v5, rfl, ho5, hb5⟩
      obtain ⟨A5, d5, rfl, hd5, hR5⟩ := Rw.of_own ho5
      have hS5 := HS.out.below hb5
      have hc5 := below_then HB.out hb5
      clear ho5 HCC
      have HM := hide (nd_made (lv := (m : Int)) (A := A5) (c := d5) hS5 (fun q hq => by
        rcases mem_insK hq with rfl | hq
        · exact H'.out.stay hc5
        · rcases mem_insK hq with rfl | hq
          · exact H.out.stay hc5
          · cases hq))
      have HR5 := hide hR5
      have HS5 := hide hS5
      clear hS5 hR5
      go_wp2_with fail
      refine HM.out.mono ?_
      rintro e w6 ⟨rfl, hB6, hb6⟩
      have hc6 := below_then hc5 hb6
      have HB6 := hide hB6
      clear hB6 HM
      go_wp2
      go_ret2
      have hz := zp_cut (m := m + 1) HP.out.zp
      have hz' := HP'.out.zp
      refine ⟨_, rfl, ⟨A5, d5, gk, hm64', ⟨hz.1, HR5.out.below hb6, hz.2⟩, hd5, fun b hb => addr_cut_lo pre (by omega), fun q hq => ?_, fun q hq => ?_, fun q hq => ?_, ?_, ?_, HS5.out.below hb6, HB6.out⟩, hc5.size, hc6⟩
      · rcases mem_insK hq with rfl | hq
        · exact H'.out.stay hc6
        · rcases mem_insK hq with rfl | hq
          · exact H.out.stay hc6
          · cases hq
      · rcases mem_insK hq with rfl | hq
        · exact HL.out.2
        · rcases mem_insK hq with rfl | hq
          · exact HL.out.1
          · cases hq
      · rcases mem_insK hq with rfl | hq
        · exact ⟨rfl, fun b hb => by rw [addr_cut_hi pre (by omega)]; exact (HPS.out b (by omega)).symm⟩
        · rcases mem_insK hq with rfl | hq
          · exact ⟨rfl, fun b hb => by rw [addr_cut_hi pre (by omega)]⟩
          · cases hq
      · exact insK_sorted (insK_sorted List.Pairwise.nil)
      · rw [pairK_eq HNE.out]
        split <;> simp
end
section
open Go.RowKit
end
section
open Go.RowKit
theorem filt_len {ks : List Kid} (a : Nat) (h : ks.Pairwise fun q r => q.at_ < r.at_) :
    ks.length ≤ (ks.filter fun r => decide (r.at_ < a)).length + (ks.filter fun r => decide (a < r.at_)).length + 1 := by
  induction ks with
  | nil => simp
  | cons r t ih =>
    obtain ⟨h1, h2⟩ := List.pairwise_cons.1 h
    have ih := ih h2
    rcases Nat.lt_trichotomy r.at_ a with hlt | heq | hgt
    · rw [List.filter_cons_of_pos (by simpa using hlt), List.filter_cons_of_neg (by simp; omega)]
      simp only [List.length_cons]
      omega
    · have hall : (t.filter fun r => decide (a < r.at_)) = t := by
        rw [List.filter_eq_self]
        intro x hx
        have := h1 x hx
        simp; omega
      rw [List.filter_cons_of_neg (by simp; omega), List.filter_cons_of_neg (by simp; omega), hall]
      simp only [List.length_cons]
      omega
    · rw [List.filter_cons_of_neg (by simp; omega), List.filter_cons_of_pos (by simpa using hgt)]
      simp only [List.length_cons]
      omega
theorem insK_len {ks : List Kid} (q : Kid) (h : ks.Pairwise fun q r => q.at_ < r.at_) : ks.length ≤ (insK ks q).length := by
  have := filt_len q.at_ h
  unfold insK
  simp only [List.length_append, List.length_cons, List.length_nil]
  omega
set_option maxHeartbeats 4000000 in
set_option maxRecDepth 100000 in
theorem nd_with {w : World} {k g g' m : Nat} {lv' : Int} {pre pre' : List Nat} {ks : List Kid} {es' : List Ent} (h : Fork w k g m pre ks) (h' : NodeOf w k g' lv' pre' es') (hk1 : 1 ≤ k) (hk : k ≤ 16) (hq : part pre pre' ≤ (m : Int)) (hl : lv' < (m : Int)) :
    Calls Try.prog 67 #[.pointer (some ⟨g, 0, none⟩), .pointer (some ⟨g', 0, none⟩)] w fun e w' => ∃ gn, e = .returned (.tuple #[.pointer (some ⟨gn, 0, none⟩), .int .i64 0]) ∧ Fork w' k gn m pre (insK ks ⟨addrOf pre' m, g', lv', pre', es'⟩) ∧ w.heap.size ≤ gn ∧ Below w.heap.size w w' := by
  have HF := hide h
  have HN' := hide h'
  obtain ⟨A, c, gs, hm, hp, hkc, -, -, -, -, -, -, hS, hB⟩ := h
  obtain ⟨A', c', v', kids', hB', hp', -⟩ := h'.head
  have hps := part_spec pre pre' (by rw [hp.1, hp'.1]) hp.2.2 hp'.2.2
  have HPS := hide (fun (b : Nat) (hb : m < b) => hps.2.2.1 b (by omega))
  have c0 := hB.cell 0
  have c1 := hB.cell 1
  have c3 := hB.cell 3
  have d0 := hB'.cell 0
  have d1 := hB'.cell 1
  simp [nodeCells] at c0 c1 c3 d0 d1
  have hgl := hB.lt
  have HP := hide hp
  have HP' := hide hp'
  have HS := hide hS
  have HCC := hide (fun (W : World) (hW : Below w.heap.size w W) => And.intro ((hW.cell (p := ⟨g, 0, none⟩) hgl).trans c0) (And.intro ((hW.cell (p := ⟨g, 1, none⟩) hgl).trans c1) ((hW.cell (p := ⟨g, 3, none⟩) hgl).trans c3)))
  have e1 : decide ((m : Int) ≤ lv') = false := by simp; omega
  have HL := hide hl
  clear hB hB' h' hp hp' hS hl hps
  go_enter Try.func67, Try.ntmps67
  go_wp2_with fail
  go_quiet (fail)
  have hb0 : Below w.heap.size w (w.drewN nq) := below_drewN (Below.refl _ w) nq
  have c0' : (w.drewN nq).cell? ⟨g, 0, none⟩ = some (.int .i64 (m : Int)) := c0
  have d0' : (w.drewN nq).cell? ⟨g', 0, none⟩ = some (.int .i64 lv') := d0
  have d1' : (w.drewN nq).cell? ⟨g', 1, none⟩ = some (.slice A' k c') := d1
  go_upto_region 7 with fail
  generalize w.drewN nq = w0 at *
  clear c0 c1 c3 d0 d1
  go_region_held3 (fun w' => w'.cell? ⟨g, 0, none⟩ = some (.int .i64 (m : Int)) ∧ w'.cell? ⟨g', 0, none⟩ = some (.int .i64 lv') ∧ w'.cell? ⟨g', 1, none⟩ = some (.slice A' k c'))
    (first
      | go_keep)
    (first
      | (go_at_call 48
         have CC := nd_covers ((HF.out.stay hb0).stay (Below.refl _ w0).drew).node hk1 hk ((HP'.out.below hb0).below (Below.refl _ w0).drew) (d := c')
         rw [decide_eq_true hq] at CC
         refine CC.mono ?_
         rintro e w2 ⟨rfl, rfl⟩))
  have hb1 := hb0.drew
  clear c0' d0' d1'
  go_upto_region 9 with fail
  generalize w0.drew = w1 at *
  have q0 := (HCC.out w1 hb1).1
  have q3 := (HCC.out w1 hb1).2.2
  go_region_held3 (fun w' => w'.cell? ⟨g, 0, none⟩ = some (.int .i64 (m : Int)) ∧ w'.cell? ⟨g, 3, none⟩ = some (.pointer (some ⟨gs, 0, none⟩)))
    (first
      | go_keep
      | exact hk3)
    (first
      | (go_at_call 64
         refine (nd_at ((HN'.out.stay hb1).stay (Below.refl _ w1).drew) hk1 hk m hm).mono ?_
         rintro e w2 ⟨rfl, rfl⟩)
      | (go_at_call 63
         have CP := put_n gs k (kidTh ks) (addrOf pre' m) (some ⟨g', 0, none⟩) w1.drew ((HS.out.below hb1).below (Below.refl _ w1).drew) (addr_lt_pow (Pt.zp HP'.out) m)
         rw [← kidTh_ins ks ⟨addrOf pre' m, g', lv', pre', es'⟩] at CP
         refine CP.mono ?_
         rintro e w3 ⟨g3, rfl, hS3, hg3, hb3⟩
         have hc3 := below_then hb1.drew hb3
         have hk3 := And.intro (HCC.out w3 hc3).1 (HCC.out w3 hc3).2.2
         have HS3 := hide hS3
         clear hS3))
  clear q0 q3 hk3
  have q0 := (HCC.out w3 hc3).1
  have q1 := (HCC.out w3 hc3).2.1
  have hks : ∀ q ∈ insK ks ⟨addrOf pre' m, g', lv', pre', es'⟩, ∀ W, Below w.heap.size w W → NodeOf W k q.blk q.lv q.pre q.es := by
    intro q hq W hW
    rcases mem_insK hq with rfl | hq
    · exact HN'.out.stay hW
    · obtain ⟨_, _, _, _, _, _, _, h5, _⟩ := HF.out
      exact (h5 q hq).stay hW
  have HKS := hide hks
  clear hks
  go_upto_region 10 with fail
  go_region_held3 (fun w' => w'.cell? ⟨g, 0, none⟩ = some (.int .i64 (m : Int)) ∧ w'.cell? ⟨g, 1, none⟩ = some (.slice A k c))
    (first
      | go_keep
      | exact hk4)
    (first
      | (go_at_call 66
         refine (nd_made (lv := (m : Int)) (A := A) (c := c) (HS3.out.below (Below.refl _ w3).drew) (fun q hq => HKS.out q hq _ hc3.drew)).mono ?_
         rintro e w4 ⟨rfl, hB4, hb4⟩
         have hc4 := below_then hc3.drew hb4
         have hk4 := And.intro (HCC.out w4 hc4).1 (HCC.out w4 hc4).2.1
         have HB4 := hide hB4
         clear hB4))
  clear hk4 q0 q1
  go_wp2
  go_ret2
  refine ⟨_, rfl, ?_, hc3.size, hc4⟩
  obtain ⟨_, _, _, _, _, _, h4, h5, h6, h7, h8, h9, _, _⟩ := HF.out
  refine ⟨A, c, g3, hm, HP.out.below hc4, hkc, h4, fun q hq => HKS.out q hq _ hc4, fun q hq => ?_, fun q hq => ?_, insK_sorted h8, Nat.le_trans h9 (insK_len _ h8), HS3.out.below ((Below.refl _ w3).drew.trans hb4), HB4.out⟩
  · rcases mem_insK hq with rfl | hq
    · exact HL.out
    · exact h6 q hq
  · rcases mem_insK hq with rfl | hq
    · exact ⟨rfl, fun b hb => (HPS.out b hb).symm⟩
    · exact h7 q hq
end
section
open Go.RowKit
theorem delK_len {ks : List Kid} {a : Nat} (h : ks.Pairwise fun q r => q.at_ < r.at_) (hm : ∃ q ∈ ks, q.at_ = a) : (delK ks a).length + 1 = ks.length := by
  induction ks with
  | nil => obtain ⟨q, hq, _⟩ := hm; cases hq
  | cons r t ih =>
    obtain ⟨h1, h2⟩ := List.pairwise_cons.1 h
    unfold delK
    by_cases hr : r.at_ = a
    · have hall : (t.filter fun x => decide (x.at_ ≠ a)) = t := by
        rw [List.filter_eq_self]
        intro x hx
        have := h1 x hx
        simp; omega
      rw [List.filter_cons_of_neg (by simp [hr]), hall]
      simp
    · obtain ⟨q, hq, hqa⟩ := hm
      have hqt : q ∈ t := by
        rcases List.mem_cons.1 hq with rfl | hq
        · exact absurd hqa hr
        · exact hq
      have := ih h2 ⟨q, hqt, hqa⟩
      unfold delK at this
      rw [List.filter_cons_of_pos (by simp [hr])]
      simp only [List.length_cons]
      omega
theorem mem_delK {ks : List Kid} {a : Nat} {r : Kid} : r ∈ delK ks a ↔ r ∈ ks ∧ r.at_ ≠ a := by
  unfold delK
  rw [List.mem_filter]
  simp
set_option maxHeartbeats 2000000 in
set_option maxRecDepth 100000 in
/-- One kid is left: it is what there is. -/
theorem nd_without_two {w : World} {k g m : Nat} {pre : List Nat} {ks : List Kid} {a : Nat} {q r : Kid} (h : Fork w k g m pre ks) (ha : a < 2 ^ k) (hq : q ∈ ks) (hqa : q.at_ = a) (hr : delK ks a = [r]) :
    Calls Try.prog 46 #[.pointer (some ⟨g, 0, none⟩), .int .i64 (a : Int)] w fun e w' => e = .returned (.tuple #[.pointer (some ⟨r.blk, 0, none⟩), .int .i64 0]) ∧ Below w.heap.size w w' := by
  obtain ⟨A, c, gs, -, hp, -, -, -, -, -, -, -, hS, hB⟩ := h
  have c3 := hB.cell 3
  simp [nodeCells] at c3
  have hth : getTh (kidTh ks) (a : Int) = some (.pointer (some ⟨q.blk, 0, none⟩)) := by
    rw [← hqa]
    exact getTh_some hS.ok (t := (q.at_, .pointer (some ⟨q.blk, 0, none⟩))) (List.mem_map.2 ⟨q, hq, rfl⟩)
  have CD := del_n gs k (kidTh ks) a _ w hS ha hth
  rw [← kidTh_del, hr] at CD
  have HD := hide CD
  clear hB hp hS ha hth CD hqa hq hr
  go_enter Try.func46, Try.ntmps46
  go_wp2_with fail
  refine HD.out.mono ?_
  rintro e w1 ⟨g1, rfl, hS1, hg1, hb1⟩
  have HLN := hide (len_n g1 k (kidTh [r]) w1 hS1)
  have HAL := hide (kid_all hS1)
  clear HD hS1 hg1
  go_wp2_with fail
  refine HLN.out.mono ?_
  rintro e w2 ⟨rfl, rfl⟩
  have hl1 : (kidTh [r]).length = 1 := rfl
  rw [hl1]
  clear hl1
  go_wp2_with fail
  refine HAL.out.mono ?_
  rintro e w2 ⟨v2, rfl, ho2, hb2⟩
  obtain ⟨A2, c2, rfl, -, hR2⟩ := Rw.of_own ho2
  obtain ⟨b, o, rfl, -, u, hu, k0⟩ := hR2.one (i := 0) (by simp)
  simp at hu
  rw [← hu, Nat.add_zero] at k0
  clear ho2 hR2 hu HAL HLN
  go_wp2
  go_ret2
  exact ⟨rfl, below_then hb1 hb2⟩
set_option maxHeartbeats 2000000 in
set_option maxRecDepth 100000 in
theorem nd_without {w : World} {k g m : Nat} {pre : List Nat} {ks : List Kid} {a : Nat} {q : Kid} (h : Fork w k g m pre ks) (ha : a < 2 ^ k) (hq : q ∈ ks) (hqa : q.at_ = a) (h3 : 3 ≤ ks.length) :
    Calls Try.prog 46 #[.pointer (some ⟨g, 0, none⟩), .int .i64 (a : Int)] w fun e w' => ∃ gn, e = .returned (.tuple #[.pointer (some ⟨gn, 0, none⟩), .int .i64 0]) ∧ Fork w' k gn m pre (delK ks a) ∧ w.heap.size ≤ gn ∧ Below w.heap.size w w' := by
  have HF := hide h
  obtain ⟨A, c, gs, hm, hp, hkc, -, -, -, -, hs, -, hS, hB⟩ := h
  have c0 := hB.cell 0
  have c1 := hB.cell 1
  have c3 := hB.cell 3
  simp [nodeCells] at c0 c1 c3
  have hgl := hB.lt
  have HCC := hide (fun (W : World) (hW : Below w.heap.size w W) => And.intro ((hW.cell (p := ⟨g, 0, none⟩) hgl).trans c0) ((hW.cell (p := ⟨g, 1, none⟩) hgl).trans c1))
  have hth : getTh (kidTh ks) (a : Int) = some (.pointer (some ⟨q.blk, 0, none⟩)) := by
    rw [← hqa]
    exact getTh_some hS.ok (t := (q.at_, .pointer (some ⟨q.blk, 0, none⟩))) (List.mem_map.2 ⟨q, hq, rfl⟩)
  have hlen := delK_len hs ⟨q, hq, hqa⟩
  have CD := del_n gs k (kidTh ks) a _ w hS ha hth
  rw [← kidTh_del] at CD
  have HD := hide CD
  have HLE := hide hlen
  have hl2 : 2 ≤ (delK ks a).length := by omega
  have hl16 : (delK ks a).length ≤ 65536 := by
    have h1 := len_le_of_ok hS.ok
    have h2 := pow16 hS.2.1
    simp [kidTh] at h1
    omega
  have HP := hide hp
  have hne1 : (((delK ks a).length : Int) == 1) = false := by simp; omega
  clear hB hp hS ha hth CD hqa hq hlen c0 c1 hs
  go_enter Try.func46, Try.ntmps46
  go_wp2_with fail
  refine HD.out.mono ?_
  rintro e w1 ⟨g1, rfl, hS1, hg1, hb1⟩
  have CL := len_n g1 k (kidTh (delK ks a)) w1 hS1
  rw [show (kidTh (delK ks a)).length = (delK ks a).length by simp [kidTh]] at CL
  have HLN := hide CL
  have HS1 := hide hS1
  clear HD hS1 hg1 CL
  go_wp2_with fail
  refine HLN.out.mono ?_
  rintro e w2 ⟨rfl, rfl⟩
  have q0 := (HCC.out w1 hb1).1
  have q1 := (HCC.out w1 hb1).2
  have hks : ∀ q ∈ delK ks a, ∀ W, Below w.heap.size w W → NodeOf W k q.blk q.lv q.pre q.es := by
    intro q hq W hW
    obtain ⟨_, _, _, _, _, _, _, h5, _⟩ := HF.out
    exact (h5 q (mem_delK.1 hq).1).stay hW
  have HKS := hide hks
  clear hks HLN
  go_upto_region 10 with fail
  go_region_held3 (fun w' => w'.cell? ⟨g, 0, none⟩ = some (.int .i64 (m : Int)) ∧ w'.cell? ⟨g, 1, none⟩ = some (.slice A k c))
    (first
      | go_keep
      | exact hk4)
    (first
      | (go_at_call 66
         refine (nd_made (lv := (m : Int)) (A := A) (c := c) (HS1.out.below (Below.refl _ w1).drew) (fun q hq => HKS.out q hq _ hb1.drew)).mono ?_
         rintro e w4 ⟨rfl, hB4, hb4⟩
         have hc4 := below_then hb1.drew hb4
         have hk4 := And.intro (HCC.out w4 hc4).1 (HCC.out w4 hc4).2
         have HB4 := hide hB4
         clear hB4))
  clear hk4 q0 q1
  go_wp2
  go_ret2
  refine ⟨_, rfl, ?_, hb1.size, hc4⟩
  obtain ⟨_, _, _, _, _, _, h4, h5, h6, h7, h8, h9, _, _⟩ := HF.out
  exact ⟨A, c, g1, hm, HP.out.below hc4, hkc, h4, fun q hq => HKS.out q hq _ hc4, fun q hq => h6 q (mem_delK.1 hq).1, fun q hq => h7 q (mem_delK.1 hq).1, delK_sorted h8, hl2, HS1.out.below ((Below.refl _ w1).drew.trans hb4), HB4.out⟩
end
end Go.Proofs.Ytfoapkcgdkfggaa
set_option linter.unusedSimpArgs false
set_option linter.unusedVariables false
namespace Go.Proofs.Ytfoapkcgdkfggaa
section
open Go.RowKit
theorem wrap64_of {n : Int} (h : -9223372036854775808 ≤ n ∧ n ≤ 9223372036854775807) : wrap64 n = n := by unfold wrap64; omega
set_option maxHeartbeats 1000000 in
set_option maxRecDepth 100000 in
theorem ref_bit (z at_ : Nat) (w : World) (hz : z < 2 ^ 64) (ha : at_ < 64) :
    Calls Try.prog 78 #[.int .u64 (z : Int), .int .i64 (at_ : Int)] w fun e w' => e = .returned (.int .i64 (bit z at_ : Nat)) ∧ w = w' := by
  go_enter Try.func78, Try.ntmps78
  go_wp2
  go_ret
  refine ⟨retI ?_, rfl⟩
  have e1 : ((z : Int) / 2 ^ at_) = ((z / 2 ^ at_ : Nat) : Int) := by simp
  have hb := bit_lt z at_
  have e2 : ((z / 2 ^ at_ : Nat) : Int).tmod 2 = (bit z at_ : Nat) := by
    rw [Int.tmod_eq_emod_of_nonneg (Int.natCast_nonneg _)]; unfold bit; omega
  rw [e1, e2, wrap64_of (by omega)]
set_option maxHeartbeats 1000000 in
set_option maxRecDepth 100000 in
theorem ref_addr (A : Option Addr) (n c at_ : Nat) (p : List Nat) (w : World) (hp : Pt w A n p) (hn : n ≤ 40) (ha : at_ < 64) :
    Calls Try.prog 57 #[.slice A n c, .int .i64 (at_ : Int)] w fun e w' => e = .returned (.int .i64 (addrOf p at_ : Nat)) ∧ w = w' := by
  have HP := hide hp
  have hlt : ∀ j, addrOf (p.take j) at_ < 2 ^ 40 := fun j => by
    have h1 := addrOf_lt (p.take j) at_
    refine Nat.lt_of_lt_of_le h1 (pow_len_le ?_)
    have := hp.1
    simp; omega
  have HLT := hide hlt
  clear hp hlt
  go_enter Try.func57, Try.ntmps57
  go_wp2
  go_loop [5, 6] (fun x5 x6 => ∃ (j : Nat), x6 = .int .i64 j ∧ j ≤ n ∧ x5 = .int .i64 (addrOf (p.take j) at_ : Nat)) (fun _ x => n - (intOf x).toNat)
  case atStart => exact ⟨0, rfl, Nat.zero_le _, rfl⟩
  case round =>
    obtain ⟨j, rfl, hj, rfl⟩ := hrel
    by_cases hjn : j < n
    · obtain ⟨b, o, z, rfl, hbl, hz, hzl, k0⟩ := HP.out.at_ hjn
      have hb := HLT.out j
      have hbit := bit_lt z at_
      have hst : addrOf (p.take (j + 1)) at_ = 2 * addrOf (p.take j) at_ + bit z at_ := by
        have hl := (List.getElem?_eq_some_iff.1 hz).1
        rw [addrOf_take p at_ j hl, (List.getElem?_eq_some_iff.1 hz).2]
      have HST := hide hst
      have hz' := hide hz
      clear hz hst
      go_wp2_with fail
      refine (ref_bit z at_ _ hzl ha).mono ?_
      rintro e w1 ⟨rfl, rfl⟩
      generalize addrOf (p.take j) at_ = a at *
      generalize bit z at_ = bt at *
      go_wp2
      go_round
      case rel => exact ⟨j + 1, by go_num, by omega, by rw [HST.out]; go_num⟩
      case measure => simp [intOf]; omega
    · obtain rfl : j = n := by omega
      have hl := HP.out.1
      have hpe : p.take j = p := List.take_of_length_le (by omega)
      rw [hpe]
      clear hl hpe
      go_wp2
      go_ret
      exact ⟨rfl, rfl⟩
set_option maxHeartbeats 1000000 in
set_option maxRecDepth 100000 in
theorem ref_part (A B : Option Addr) (k c d : Nat) (p q : List Nat) (w : World) (hp : Pt w A k p) (hq : Pt w B k q) (hk : k ≤ 40) :
    Calls Try.prog 77 #[.slice A k c, .slice B k d] w fun e w' => e = .returned (.int .i64 (part p q)) ∧ w = w' := by
  have HP := hide hp
  have HQ := hide hq
  clear hp hq
  go_enter Try.func77, Try.ntmps77
  go_wp2
  go_loop [5] (fun x => ∃ (j : Nat), x = .int .i64 ((j : Int) - 1) ∧ j ≤ 64 ∧ (∀ b, j ≤ b → b < 64 → addrOf p b = addrOf q b)) (fun x => (intOf x + 1).toNat)
  case atStart => exact ⟨64, by go_num, Nat.le_refl _, fun b h1 h2 => by omega⟩
  case round =>
    obtain ⟨j, rfl, hj, he⟩ := hrel
    have HE := hide he
    clear he
    rcases Nat.eq_zero_or_pos j with rfl | hj0
    · have hpt : part p q = -1 := by
        obtain ⟨g1, g2, g3, g4⟩ := part_spec p q (by rw [HP.out.1, HQ.out.1]) HP.out.2.2 HQ.out.2.2
        rcases Int.lt_or_le (part p q) 0 with h | h
        · omega
        · exact absurd (HE.out (part p q).toNat (by omega) (by omega)) (g4 h)
      have HPT := hide hpt
      clear hpt
      go_wp2
      go_ret
      rw [HPT.out]
      exact ⟨rfl, rfl⟩
    · obtain ⟨i, rfl⟩ : ∃ i, j = i + 1 := ⟨j - 1, by omega⟩
      have e0 : ((i + 1 : Nat) : Int) - 1 = (i : Int) := by omega
      rw [e0]
      have HA := hide (ref_addr A k c i p w HP.out hk (by omega))
      have HB := hide (ref_addr B k d i q w HQ.out hk (by omega))
      clear e0
      by_cases he : addrOf p i = addrOf q i
      · have HEI := hide he
        clear he
        rw [HEI.out] at HA
        go_wp2_with fail
        refine HA.out.mono ?_
        rintro e w1 ⟨rfl, rfl⟩
        go_wp2_with fail
        refine HB.out.mono ?_
        rintro e w1 ⟨rfl, rfl⟩
        go_wp2
        go_round
        case rel =>
          refine ⟨i, by go_num, by omega, fun b h1 h2 => ?_⟩
          rcases Nat.lt_or_ge i b with h3 | h3
          · exact HE.out b (by omega) h2
          · rw [show b = i by omega]
            exact HEI.out
        case measure => simp [intOf]
      · have hpt : part p q = (i : Int) := by
          refine part_unique HP.out.zp HQ.out.zp (fun b hb => ?_) he
          by_cases h64 : b < 64
          · exact HE.out b (by omega) h64
          · obtain ⟨g1, g2, g3, g4⟩ := part_spec p q (by rw [HP.out.1, HQ.out.1]) HP.out.2.2 HQ.out.2.2
            exact g3 b (by omega)
        have HPT := hide hpt
        have e1 : ((addrOf p i : Int) != (addrOf q i : Int)) = true := by simp; omega
        clear hpt
        generalize addrOf p i = a at *
        generalize addrOf q i = b at *
        clear he
        go_wp2_with fail
        refine HA.out.mono ?_
        rintro e w1 ⟨rfl, rfl⟩
        go_wp2_with fail
        refine HB.out.mono ?_
        rintro e w1 ⟨rfl, rfl⟩
        go_wp2
        go_ret
        rw [HPT.out]
        exact ⟨rfl, rfl⟩
set_option maxHeartbeats 1000000 in
set_option maxRecDepth 100000 in
theorem ref_cmp (A B : Option Addr) (k c d : Nat) (p q : List Nat) (w : World) (hp : Pt w A k p) (hq : Pt w B k q) (hk : k ≤ 40) :
    Calls Try.prog 73 #[.slice A k c, .slice B k d] w fun e w' => e = .returned (.int .i64 (cmp p q)) ∧ w = w' := by
  have HC := ref_part A B k c d p q w hp hq hk
  obtain ⟨g1, g2, g3, g4⟩ := part_spec p q (by rw [hp.1, hq.1]) hp.2.2 hq.2.2
  rcases Int.lt_or_le (part p q) 0 with h | h
  · have hpt : part p q = -1 := by omega
    have hc : cmp p q = 0 := by unfold cmp; rw [if_pos h]
    rw [hpt] at HC
    have HCC := hide HC
    have HR := hide hc
    clear HC hpt hc h g1 g2 g3 g4
    go_enter Try.func73, Try.ntmps73
    go_wp2_with fail
    refine HCC.out.mono ?_
    rintro e w1 ⟨rfl, rfl⟩
    go_wp2
    go_ret
    rw [HR.out]
    exact ⟨rfl, rfl⟩
  · obtain ⟨m, hm⟩ : ∃ m : Nat, part p q = (m : Int) := ⟨(part p q).toNat, by omega⟩
    have HA := hide (ref_addr A k c m p w hp hk (by omega))
    have HB := hide (ref_addr B k d m q w hq hk (by omega))
    have hne := g4 h
    rw [hm] at HC hne
    rw [Int.toNat_natCast] at hne
    have HCC := hide HC
    rcases Nat.lt_or_ge (addrOf p m) (addrOf q m) with hlt | hge
    · have hc : cmp p q = -1 := by unfold cmp; rw [if_neg (by omega), hm, Int.toNat_natCast, if_pos hlt]
      have HR := hide hc
      clear HC hc h g1 g2 g3 g4 hne hm
      generalize addrOf p m = a at *
      generalize addrOf q m = b at *
      go_enter Try.func73, Try.ntmps73
      go_wp2_with fail
      refine HCC.out.mono ?_
      rintro e w1 ⟨rfl, rfl⟩
      go_wp2_with fail
      refine HA.out.mono ?_
      rintro e w1 ⟨rfl, rfl⟩
      go_wp2_with fail
      refine HB.out.mono ?_
      rintro e w1 ⟨rfl, rfl⟩
      go_wp2
      go_ret
      rw [HR.out]
      exact ⟨rfl, rfl⟩
    · have hc : cmp p q = 1 := by unfold cmp; rw [if_neg (by omega), hm, Int.toNat_natCast, if_neg (by omega)]
      have HR := hide hc
      have hnl : ¬ addrOf p m < addrOf q m := by omega
      clear HC hc h g1 g2 g3 g4 hne hm hge
      generalize addrOf p m = a at *
      generalize addrOf q m = b at *
      go_enter Try.func73, Try.ntmps73
      go_wp2_with fail
      refine HCC.out.mono ?_
      rintro e w1 ⟨rfl, rfl⟩
      go_wp2_with fail
      refine HA.out.mono ?_
      rintro e w1 ⟨rfl, rfl⟩
      go_wp2_with fail
      refine HB.out.mono ?_
      rintro e w1 ⟨rfl, rfl⟩
      go_wp2
      go_ret
      rw [HR.out]
      exact ⟨rfl, rfl⟩
set_option maxHeartbeats 1000000 in
set_option maxRecDepth 100000 in
theorem ref_power (n : Nat) (w : World) (hn : n < 64) :
    Calls Try.prog 79 #[.int .i64 (n : Int)] w fun e w' => e = .returned (.int .u64 ((2 ^ n : Nat) : Int)) ∧ w = w' := by
  go_enter Try.func79, Try.ntmps79
  go_wp2
  go_loop [3, 4] (fun x3 x4 => ∃ (j : Nat), x4 = .int .i64 j ∧ j ≤ n ∧ x3 = .int .u64 ((2 ^ j : Nat) : Int)) (fun _ x => n - (intOf x).toNat)
  case atStart => exact ⟨0, rfl, Nat.zero_le _, rfl⟩
  case round =>
    obtain ⟨j, rfl, hj, rfl⟩ := hrel
    by_cases hjn : j < n
    · have h2 : 2 * 2 ^ j < 2 ^ 64 := by
        rw [← Nat.pow_succ']
        exact Nat.pow_lt_pow_right (by omega) (by omega)
      have hst : 2 ^ (j + 1) = 2 * 2 ^ j := Nat.pow_succ'
      have HST := hide hst
      clear hst
      generalize 2 ^ j = P at *
      go_wp2
      go_round
      case rel =>
        refine ⟨j + 1, by go_num, by omega, ?_⟩
        rw [HST.out]
        refine vI ?_
        omega
      case measure => simp [intOf]; omega
    · obtain rfl : j = n := by omega
      go_wp2
      go_ret
      exact ⟨rfl, rfl⟩
set_option maxHeartbeats 1000000 in
set_option maxRecDepth 100000 in
theorem ref_dense (k n : Nat) (w : World) (hk : k ≤ 16) (hn : n ≤ 70000) :
    Calls Try.prog 58 #[.int .i64 (k : Int), .int .i64 (n : Int)] w fun e w' => e = .returned (.bool (denseB k n)) ∧ w = w' := by
  by_cases h6 : k ≤ 6
  · have HP := hide (ref_power k w (by omega))
    have h64 : 2 ^ k ≤ 64 := pow_len_le h6
    by_cases hd : 2 ^ k < 2 * n
    · have HR := hide (show denseB k n = true by unfold denseB; simp; omega)
      generalize 2 ^ k = P at *
      go_enter Try.func58, Try.ntmps58
      go_wp2_with fail
      refine HP.out.mono ?_
      rintro e w1 ⟨rfl, rfl⟩
      go_wp2
      go_ret
      rw [HR.out]
      refine ⟨retB ?_, rfl⟩
      simp; go_num
    · have HR := hide (show denseB k n = false by unfold denseB; simp; omega)
      generalize 2 ^ k = P at *
      go_enter Try.func58, Try.ntmps58
      go_wp2_with fail
      refine HP.out.mono ?_
      rintro e w1 ⟨rfl, rfl⟩
      go_wp2
      go_ret
      rw [HR.out]
      refine ⟨retB ?_, rfl⟩
      simp; go_num
  · have HR := hide (show denseB k n = false by unfold denseB; simp; omega)
    go_enter Try.func58, Try.ntmps58
    go_wp2
    go_ret
    rw [HR.out]
    refine ⟨rfl, rfl⟩
end
section
open Go.RowKit
/-- The bits from m up, below j. -/
def part_cut (m j z : Nat) : Nat := cutc m (z % 2 ^ j)
theorem part_cut_low (m z : Nat) (hm : m ≤ 64) : part_cut m m z = 0 := by
  unfold part_cut cutc
  rw [Nat.div_eq_of_lt (Nat.mod_lt _ (Nat.two_pow_pos _)), Nat.zero_mul]
theorem part_cut_step {m j : Nat} (z : Nat) (h : m ≤ j) : part_cut m (j + 1) z = part_cut m j z + bit z j * 2 ^ j := by
  unfold part_cut cutc bit
  have h1 : z % 2 ^ (j + 1) = z % 2 ^ j + 2 ^ j * (z / 2 ^ j % 2) := by
    rw [Nat.pow_succ, Nat.mod_mul]
  rw [h1]
  obtain ⟨d, rfl⟩ : ∃ d, j = m + d := ⟨j - m, by omega⟩
  generalize z / 2 ^ (m + d) % 2 = t
  rw [Nat.pow_add]
  have h2 : (z % (2 ^ m * 2 ^ d) + 2 ^ m * 2 ^ d * t) / 2 ^ m = z % (2 ^ m * 2 ^ d) / 2 ^ m + 2 ^ d * t := by
    rw [Nat.mul_assoc, Nat.add_mul_div_left _ _ (Nat.two_pow_pos m)]
  rw [h2, Nat.add_mul]
  congr 1
  simp only [Nat.mul_comm, Nat.mul_left_comm, Nat.mul_assoc]
theorem part_cut_top {m z : Nat} (hz : z < 2 ^ 64) : part_cut m 64 z = cutc m z := by
  unfold part_cut
  rw [Nat.mod_eq_of_lt hz]
theorem part_cut_le (m j z : Nat) : part_cut m j z < 2 ^ j := by
  unfold part_cut cutc
  exact Nat.lt_of_le_of_lt (Nat.div_mul_le_self _ _) (Nat.mod_lt _ (Nat.two_pow_pos _))
set_option maxHeartbeats 2000000 in
set_option maxRecDepth 100000 in
theorem ref_cut (A : Option Addr) (n c m : Nat) (p : List Nat) (w : World) (hp : Pt w A n p) (hn : n ≤ 40) (hm : m ≤ 64) :
    Calls Try.prog 56 #[.slice A n c, .int .i64 ((m : Int) - 1)] w fun e w' => ∃ v, e = .returned v ∧ w'.ownsRow w.heap.size 36 1 v n (u64s (cut m p)) ∧ Below w.heap.size w w' := by
  have HP := hide hp
  have b1 := (Below.refl w.heap.size w).alloc (Nat.le_refl _) (.cells #[] 36)
  have HO1 := hide (own_empty w 36 1)
  have hw1 : wrap64 ((m : Int) - 1 + 1) = (m : Int) := by rw [wrap64_of (by omega)]; omega
  clear hp
  go_enter Try.func56, Try.ntmps56
  go_wp2
  go_loopw [5, 6] (fun x5 x6 wr => ∃ (j : Nat), x6 = .int .i64 j ∧ j ≤ n ∧ wr.ownsRow w.heap.size 36 1 x5 j (u64s (cut m (p.take j))) ∧ Below w.heap.size w wr) (fun _ x _ => n - (intOf x).toNat)
  case atStart => exact ⟨0, rfl, Nat.zero_le _, HO1.out, b1⟩
  case round =>
    obtain ⟨j, rfl, hj, hO, hb⟩ := hrel
    have HO := hide hO
    have HB := hide hb
    clear hO
    by_cases hjn : j < n
    · obtain ⟨b, o, z, rfl, hbl, hz, hzl, k0⟩ := (HP.out.below hb).at_ hjn
      have HZ := hide hz
      clear hz
      rename World => w1
      have hzz : (0 : Int) = (part_cut m m z : Nat) := by rw [part_cut_low m z hm]; rfl
      go_wp2
      go_loop [7, 8] (fun x7 x8 => ∃ (i : Nat), x8 = .int .i64 i ∧ m ≤ i ∧ i ≤ 64 ∧ x7 = .int .u64 (part_cut m i z : Nat)) (fun _ x => 64 - (intOf x).toNat)
      case atStart => exact ⟨m, by go_num, Nat.le_refl _, hm, by rw [part_cut_low m z hm]; rfl⟩
      case round =>
        obtain ⟨i, rfl, hmi, hi, rfl⟩ := hrel
        by_cases hi64 : i < 64
        · have hst := part_cut_step z hmi
          have hlt1 := part_cut_le m (i + 1) z
          have hlt2 : part_cut m (i + 1) z < 2 ^ 64 := Nat.lt_of_lt_of_le hlt1 (pow_len_le (by omega))
          have hbit := bit_lt z i
          have HST := hide hst
          clear hst hlt1
          go_wp2_with fail
          refine (ref_bit z i _ hzl hi64).mono ?_
          rintro e w2 ⟨rfl, rfl⟩
          go_wp2
          go_round
          case rel =>
            refine ⟨i + 1, by go_num, by omega, by omega, ?_⟩
            have hs := HST.out
            have e1 : ((bit z i : Nat) : Int) * 2 ^ i = ((bit z i * 2 ^ i : Nat) : Int) := by simp
            rw [e1]
            refine vI ?_
            rw [IntKind.wrap_u64, IntKind.wrap_u64]
            omega
          case measure => simp [intOf]; omega
        · obtain rfl : i = 64 := by omega
          rw [part_cut_top hzl]
          have hb2 := below_alloc HB.out (Nat.le_refl _) (.cells #[.int .u64 (cutc m z : Nat)] 36)
          go_wp2_with (first
            | (at_builtin
               refine app_b _ rfl (.tmp 33) (.tmp 35) _ rfl w.heap.size 36 _ 1 8 Try.underlying35 info_u rfl (by omega) _ j _ rfl (HO.out.alloc _) (some ⟨w1.heap.size, 0, none⟩) 1 1 [.int .u64 (cutc m z : Nat)] rfl w hb2 (Nat.le_refl _) (Rw.new1 w1 36 #[.int .u64 (cutc m z : Nat)] rfl) ?h2 (by unfold maxLen; omega) (by omega) ?_
               case h2 =>
                 intro u hu
                 rw [List.mem_singleton] at hu
                 rw [hu]
                 rfl
               intro v5 w5 ho5 hb5 _
               have HO5 := hide ho5
               have HB5 := hide hb5
               clear ho5 hb5)
            | fail)
          go_roundw
          case rel =>
            refine ⟨j + 1, by go_num, by omega, ?_, HB5.out⟩
            have hl := (List.getElem?_eq_some_iff.1 HZ.out).1
            have he := (List.getElem?_eq_some_iff.1 HZ.out).2
            have : u64s (cut m (p.take (j + 1))) = u64s (cut m (p.take j)) ++ [.int .u64 (cutc m z : Nat)] := by
              rw [List.take_succ_eq_append_getElem hl, he]
              simp [cut, u64s]
            rw [this]
            exact HO5.out
          case measure => simp [intOf]; omega
    · have hj' : j = n := by omega
      have hO := HO.out
      have hl := HP.out.1
      rw [hj', List.take_of_length_le (by omega)] at hO
      have HO' := hide hO
      clear hO hl hj'
      go_wp2
      go_ret
      exact ⟨_, rfl, HO'.out, HB.out⟩
end
section
open Go.RowKit
theorem wrap_i64_sm {n : Int} (h0 : 0 ≤ n) (h1 : n ≤ 70368744177664) : IntKind.i64.wrap n = n := by rw [IntKind.wrap_i64]; omega
theorem wrap64_sm {n : Int} (h0 : 0 ≤ n) (h1 : n ≤ 70368744177664) : wrap64 n = n := by rw [wrap64_of (by omega)]
def notAhead (p : List Nat) (r : ER) : Bool := decide (0 ≤ cmp r.p p)
/-- Where a point stands or would stand. -/
def plR (rows : List ER) (p : List Nat) : Nat := rows.findIdx (notAhead p)
def hasR (rows : List ER) (p : List Nat) : Bool := match rows[plR rows p]? with | some r => decide (cmp r.p p = 0) | none => false
theorem plR_found {rows : List ER} {p : List Nat} {j : Nat} {r : ER} (hr : rows[j]? = some r) (h : 0 ≤ cmp r.p p) (hlt : ∀ (i : Nat) (s : ER), i < j → rows[i]? = some s → cmp s.p p < 0) :
    plR rows p = j ∧ hasR rows p = decide (cmp r.p p = 0) := by
  have hj := (List.getElem?_eq_some_iff.1 hr).1
  have hv := (List.getElem?_eq_some_iff.1 hr).2
  have h1 : plR rows p = j := by
    unfold plR
    rw [List.findIdx_eq hj]
    refine ⟨by rw [hv]; unfold notAhead; simpa using h, fun i hi => ?_⟩
    have hil : i < rows.length := by omega
    have := hlt i rows[i] hi (List.getElem?_eq_getElem hil)
    unfold notAhead
    simp; omega
  refine ⟨h1, ?_⟩
  unfold hasR
  rw [h1, hr]
theorem plR_none {rows : List ER} {p : List Nat} (hlt : ∀ (i : Nat) (s : ER), rows[i]? = some s → cmp s.p p < 0) : plR rows p = rows.length ∧ hasR rows p = false := by
  have h1 : plR rows p = rows.length := by
    unfold plR
    rw [List.findIdx_eq_length]
    intro r hr
    obtain ⟨i, hi⟩ := List.getElem?_of_mem hr
    have := hlt i r hi
    unfold notAhead
    simp; omega
  refine ⟨h1, ?_⟩
  unfold hasR
  rw [h1, List.getElem?_eq_none (Nat.le_refl _)]
set_option maxHeartbeats 2000000 in
set_option maxRecDepth 100000 in
theorem ref_place (A B : Option Addr) (n c k d : Nat) (rows : List ER) (p : List Nat) (w : World) (h : EntsAt w A n rows) (hk : ∀ r ∈ rows, r.n = k) (hp : Pt w B k p) (hk40 : k ≤ 40) (hn : n ≤ 70368744177664) :
    Calls Try.prog 47 #[.slice A n c, .slice B k d] w fun e w' => e = .returned (.tuple #[.int .i64 (plR rows p : Nat), .bool (hasR rows p)]) ∧ w = w' := by
  have HE := hide h
  have HP := hide hp
  have HK := hide hk
  clear h hp hk
  go_enter Try.func47, Try.ntmps47
  go_wp2
  go_loop [6] (fun x => ∃ (j : Nat), x = .int .i64 j ∧ j ≤ n ∧ ∀ (i : Nat) (s : ER), i < j → rows[i]? = some s → cmp s.p p < 0) (fun x => n - (intOf x).toNat)
  case atStart => exact ⟨0, rfl, Nat.zero_le _, fun i s hi => by omega⟩
  case round =>
    obtain ⟨j, rfl, hj, hlt⟩ := hrel
    have HLT := hide hlt
    clear hlt
    by_cases hjn : j < n
    · obtain ⟨b, o, r, rfl, hbl, hr, hok, k0, k1⟩ := HE.out.at_ hjn
      have hrk := HK.out r (List.mem_of_getElem? hr)
      have hpr := hok.1
      rw [hrk] at hpr k0
      have HC := hide (ref_cmp r.A B k r.c d r.p p w hpr HP.out hk40)
      have HR := hide hr
      clear hr hok hrk hpr k1
      rcases cmp_cases r.p p with hc | hc | hc
      · rw [hc] at HC
        have HCV := hide hc
        clear hc
        go_wp2_with fail
        refine HC.out.mono ?_
        rintro e w1 ⟨rfl, rfl⟩
        go_wp2
        go_round
        case rel =>
          refine ⟨j + 1, by go_num, by omega, fun i s hi hs => ?_⟩
          rcases Nat.lt_or_ge i j with h1 | h1
          · exact HLT.out i s h1 hs
          · have h2 := HR.out
            rw [show j = i by omega] at h2
            rw [h2] at hs
            injection hs with hs
            rw [← hs, HCV.out]
            omega
        case measure => simp [intOf]; omega
      · obtain ⟨g1, g2⟩ := plR_found HR.out (by omega : 0 ≤ cmp r.p p) HLT.out
        rw [hc] at HC
        have hc2 : hasR rows p = true := by rw [g2, hc]; rfl
        have HG := hide (And.intro g1 hc2)
        clear hc g1 g2 hc2
        go_wp2_with fail
        refine HC.out.mono ?_
        rintro e w1 ⟨rfl, rfl⟩
        go_wp2
        go_ret2
        rw [HG.out.1, HG.out.2]
        exact ⟨rfl, rfl⟩
      · obtain ⟨g1, g2⟩ := plR_found HR.out (by omega : 0 ≤ cmp r.p p) HLT.out
        rw [hc] at HC
        have hc2 : hasR rows p = false := by rw [g2, hc]; rfl
        have HG := hide (And.intro g1 hc2)
        clear hc g1 g2 hc2
        go_wp2_with fail
        refine HC.out.mono ?_
        rintro e w1 ⟨rfl, rfl⟩
        go_wp2
        go_ret2
        rw [HG.out.1, HG.out.2]
        exact ⟨rfl, rfl⟩
    · obtain rfl : j = n := by omega
      have hl := HE.out.len
      obtain ⟨g1, g2⟩ := plR_none (rows := rows) (p := p) fun i s hs => HLT.out i s (by have := (List.getElem?_eq_some_iff.1 hs).1; omega) hs
      rw [hl] at g1
      have HG := hide (And.intro g1 g2)
      clear hl g1 g2
      go_wp2
      go_ret2
      rw [HG.out.1, HG.out.2]
      exact ⟨rfl, rfl⟩
set_option maxHeartbeats 2000000 in
set_option maxRecDepth 100000 in
theorem ref_get (A B : Option Addr) (n c k d : Nat) (rows : List ER) (p : List Nat) (w : World) (h : EntsAt w A n rows) (hk : ∀ r ∈ rows, r.n = k) (hp : Pt w B k p) (hk40 : k ≤ 40) (hn : n ≤ 70368744177664) :
    Calls Try.prog 29 #[.slice A n c, .slice B k d] w fun e w' => (∃ (v : Nat) (ok : Bool), e = .returned (.tuple #[.int .u64 (v : Int), .bool ok]) ∧ ok = hasR rows p ∧ (ok = false → v = 0) ∧ (ok = true → ∃ r, rows[plR rows p]? = some r ∧ r.v = v)) ∧ w = w' := by
  have HC := hide (ref_place A B n c k d rows p w h hk hp hk40 hn)
  have HE := hide h
  clear h hp hk
  cases hh : hasR rows p with
  | false =>
    rw [hh] at HC
    clear hh
    go_enter Try.func29, Try.ntmps29
    go_wp2_with fail
    refine HC.out.mono ?_
    rintro e w1 ⟨rfl, rfl⟩
    go_wp2
    go_ret2
    exact ⟨⟨0, false, rfl, rfl, fun _ => rfl, fun h => by cases h⟩, rfl⟩
  | true =>
    have hlt : plR rows p < n := by
      unfold hasR at hh
      split at hh
      · rename_i r hr
        have := (List.getElem?_eq_some_iff.1 hr).1
        rwa [HE.out.len] at this
      · cases hh
    obtain ⟨b, o, r, rfl, hbl, hr, hok, k0, k1⟩ := HE.out.at_ hlt
    rw [hh] at HC
    have HR := hide hr
    clear hh hr hok
    generalize plR rows p = at_ at *
    go_enter Try.func29, Try.ntmps29
    go_wp2_with fail
    refine HC.out.mono ?_
    rintro e w1 ⟨rfl, rfl⟩
    go_wp2
    go_ret2
    exact ⟨⟨r.v, true, rfl, rfl, (fun h => by cases h), fun _ => ⟨r, HR.out, rfl⟩⟩, rfl⟩
set_option maxHeartbeats 2000000 in
set_option maxRecDepth 100000 in
theorem ref_level (A : Option Addr) (n c k : Nat) (rows : List ER) (r s : ER) (w : World) (h : EntsAt w A n rows) (hr : rows[0]? = some r) (hs : rows[n - 1]? = some s) (hrk : r.n = k) (hsk : s.n = k) (hk40 : k ≤ 40) (hn : n ≤ 70368744177664) (hn1 : 1 ≤ n) :
    Calls Try.prog 55 #[.slice A n c] w fun e w' => e = .returned (.int .i64 (part r.p s.p)) ∧ Below w.heap.size w w' := by
  obtain ⟨b, o, r', rfl, hbl, hr', hok, k0, -⟩ := h.at_ (i := 0) (by omega)
  rw [hr] at hr'
  injection hr' with hr'
  subst hr'
  obtain ⟨b', o', s', hb', hbl', hs', hok', k1, -⟩ := h.at_ (i := n - 1) (by omega)
  injection hb' with hb'
  injection hb' with h1 h2
  subst h1 h2
  rw [hs] at hs'
  injection hs' with hs'
  subst hs'
  have hp := hok.1
  have hq := hok'.1
  rw [hrk] at hp k0
  rw [hsk] at hq k1
  have HP := hide hp
  have HQ := hide hq
  simp only [Nat.zero_mul, Nat.add_zero] at k0
  obtain ⟨i, hi⟩ : ∃ i, i = n - 1 := ⟨_, rfl⟩
  rw [← hi] at k1
  have e2 : (n : Int) - 1 = (i : Int) := by omega
  have hin : i < n := by omega
  have hi0 : (0 : Int) ≤ (i : Int) := by omega
  have hi7 : (i : Int) ≤ 70368744177664 := by omega
  have e5 := wrap_i64_sm hi0 hi7
  have e6 := wrap64_sm hi0 hi7
  have hin' : (i : Int) < (n : Int) := by omega
  have hn0 : 0 < n := by omega
  have hn0' : (0 : Int) < (n : Int) := by omega
  clear h hr hs hok hok' hp hq hrk hsk hbl' hi
  go_enter Try.func55, Try.ntmps55
  go_wp2_with fail
  go_region_held3 (fun w' => w'.cell? ⟨b, o, none⟩ = some (.slice r.A k r.c) ∧ w'.cell? ⟨b, o + i * 2, none⟩ = some (.slice s.A k s.c))
    (first
      | go_keep)
    (first
      | (go_at_call 77
         refine (ref_part r.A s.A k r.c s.c r.p s.p w.drew (HP.out.below (Below.refl _ w).drew) (HQ.out.below (Below.refl _ w).drew) hk40).mono ?_
         rintro e w2 ⟨rfl, rfl⟩))
  go_wp2
  go_ret
  exact ⟨rfl, (Below.refl _ w).drew⟩
end
section
open Go.RowKit
def delR (rows : List ER) (p : List Nat) : List ER := if hasR rows p then rows.take (plR rows p) ++ rows.drop (plR rows p + 1) else rows
def putR (rows : List ER) (r : ER) : List ER := (delR rows r.p).take (plR (delR rows r.p) r.p) ++ [r] ++ (delR rows r.p).drop (plR (delR rows r.p) r.p)
theorem info_e : (Try.prog.info? 84).map (fun i => (i.zero, i.size, i.bytes)) = some (some (.agg #[.slice none 0 0, .int .u64 0]), 2, 32) := by kernel_rfl
theorem flat_take (rows : List ER) (i : Nat) : (rows.flatMap entv).take (i * 2) = (rows.take i).flatMap entv := by
  induction rows generalizing i with
  | nil => simp
  | cons r rows ih =>
    cases i with
    | zero => simp
    | succ i =>
      rw [List.flatMap_cons, List.take_succ_cons, List.flatMap_cons, Nat.add_mul, Nat.add_comm (i * 2), List.take_append, ← ih i, List.take_of_length_le (by simp [entv])]
      simp [entv]
theorem flat_drop (rows : List ER) (i : Nat) : (rows.flatMap entv).drop (i * 2) = (rows.drop i).flatMap entv := by
  induction rows generalizing i with
  | nil => simp
  | cons r rows ih =>
    cases i with
    | zero => simp
    | succ i =>
      rw [List.flatMap_cons, List.drop_succ_cons, Nat.add_mul, Nat.add_comm (i * 2), List.drop_append, ← ih i]
      simp [entv]
theorem one_ents (rows : List ER) : ∀ u ∈ rows.flatMap entv, u.oneCell' = true := by
  intro u hu
  obtain ⟨r, _, hu⟩ := List.mem_flatMap.1 hu
  unfold entv at hu
  simp at hu
  rcases hu with rfl | rfl <;> rfl
theorem hasR_lt {rows : List ER} {p : List Nat} (h : hasR rows p = true) : plR rows p < rows.length := by
  unfold hasR at h
  split at h
  · rename_i r hr
    exact (List.getElem?_eq_some_iff.1 hr).1
  · cases h
theorem plR_le (rows : List ER) (p : List Nat) : plR rows p ≤ rows.length := List.findIdx_le_length
theorem mem_delR {rows : List ER} {p : List Nat} {r : ER} (h : r ∈ delR rows p) : r ∈ rows := by
  unfold delR at h
  split at h
  · rcases List.mem_append.1 h with h | h
    · exact List.mem_of_mem_take h
    · exact List.mem_of_mem_drop h
  · exact h
theorem mem_putR {rows : List ER} {q r : ER} (h : r ∈ putR rows q) : r = q ∨ r ∈ rows := by
  unfold putR at h
  rcases List.mem_append.1 h with h | h
  · rcases List.mem_append.1 h with h | h
    · exact .inr (mem_delR (List.mem_of_mem_take h))
    · exact .inl (by simpa using h)
  · exact .inr (mem_delR (List.mem_of_mem_drop h))
set_option maxHeartbeats 2000000 in
set_option maxRecDepth 100000 in
theorem ref_del (A B : Option Addr) (n c k d : Nat) (rows : List ER) (p : List Nat) (w : World) (h : EntsAt w A n rows) (hnc : n ≤ c) (hk : ∀ r ∈ rows, r.n = k) (hp : Pt w B k p) (hk40 : k ≤ 40) (hn : n ≤ 65536) :
    Calls Try.prog 30 #[.slice A n c, .slice B k d] w fun e w' => ∃ A' n' c', e = .returned (.slice A' n' c') ∧ EntsAt w' A' n' (delR rows p) ∧ n' ≤ c' ∧ n' ≤ n ∧ Below w.heap.size w w' := by
  have HC := hide (ref_place A B n c k d rows p w h hk hp hk40 (by omega))
  have HE := hide h
  have hl := h.len
  cases hh : hasR rows p with
  | false =>
    have HD := hide (show delR rows p = rows by unfold delR; rw [hh]; rfl)
    rw [hh] at HC
    have HNC := hide hnc
    clear hh h hk hp hl
    go_enter Try.func30, Try.ntmps30
    go_wp2_with fail
    refine HC.out.mono ?_
    rintro e w1 ⟨rfl, rfl⟩
    go_wp2
    go_ret
    refine ⟨A, n, c, rfl, ?_, HNC.out, Nat.le_refl _, Below.refl _ _⟩
    rw [HD.out]
    exact HE.out
  | true =>
    have hlt := hasR_lt hh
    rw [hl] at hlt
    have HD := hide (show delR rows p = rows.take (plR rows p) ++ rows.drop (plR rows p + 1) by unfold delR; rw [hh]; rfl)
    rw [hh] at HC
    generalize plR rows p = i at *
    have HNC := hide hnc
    have r1 := fun W => run_slice_to (P := Try.prog) (w := W) Try.underlying40 (sz := 2) Try.sizeOf84 A n c i (by omega)
    have r2 := fun W => run_slice_lo (P := Try.prog) (w := W) Try.underlying40 (sz := 2) Try.sizeOf84 A n c (i + 1) (by omega)
    simp only [Int.natCast_add, Int.cast_ofNat_Int] at r2
    have e5 : IntKind.i64.wrap ((i : Int) + 1) = (i : Int) + 1 := by rw [IntKind.wrap_i64]; omega
    have hb := ((Below.refl w.heap.size w).alloc (Nat.le_refl _) (.cells #[] 84)).drew
    have hE1 := HE.out.below hb
    have hT := hE1.1.take_ (i := i) (by omega)
    have hC := HE.out.1.cut (i := i + 1) (c := c) (by omega) hnc
    rw [flat_take] at hT
    rw [flat_drop] at hC
    have HT := hide hT
    have HCU := hide hC
    have HL := hide (And.intro hlt (And.intro hl hn))
    clear hh h hk hp hl hE1 hT hC hnc
    go_enter Try.func30, Try.ntmps30
    go_wp2_with fail
    refine HC.out.mono ?_
    rintro e w1 ⟨rfl, rfl⟩
    go_wp2
    go_region_held3 (fun _ => True)
      (first
        | go_keep
        | exact trivial)
      (first
        | (refine step_app _ (by rfl) (.tmp 16) (.tmp 19) _ (by rfl) w.heap.size 84 _ 2 32 Try.underlying40 info_e rfl (by omega) _ 0 [] (by rfl) (own_empty _ _ _) A i c ((rows.take i).flatMap entv) (by rfl) w hb (Nat.le_refl _) HT.out ?h2 (by have := HL.out; unfold maxLen; omega) (by have := HL.out; omega) ?_
           case h2 => exact one_ents _
           intro v2 w2 ho2 hb2 _
           have HO2 := hide ho2
           have HCC := hide (HCU.out.below hb2)
           clear ho2)
        | (refine step_app _ (by rfl) (.tmp 20) (.tmp 24) _ (by rfl) w.heap.size 84 _ 2 32 Try.underlying40 info_e rfl (by omega) _ (0 + i) _ (by rfl) HO2.out (cutA A c 2 (i + 1)) (n - (i + 1)) (c - (i + 1)) ((rows.drop (i + 1)).flatMap entv) (by rfl) w hb2 (Nat.le_refl _) HCC.out ?h2 (by have := HL.out; unfold maxLen; omega) (by have := HL.out; omega) ?_
           case h2 => exact one_ents _
           intro v3 w3 ho3 hb3 _))
    obtain ⟨A3, c3, rfl, hn3, hR3⟩ := Rw.of_own ho3
    have HB3 := hide hb3
    have hR := hide hR3
    clear ho3 hb3 hR3
    go_wp2
    go_ret
    obtain ⟨hlt, hl, hn⟩ := HL.out
    refine ⟨A3, 0 + i + (n - (i + 1)), c3, rfl, ⟨?_, fun r hr => (HE.out.2 r (mem_delR hr)).below HB3.out⟩, hn3, by omega, HB3.out⟩
    rw [HD.out, List.flatMap_append]
    have := hR.out
    rwa [List.nil_append] at this
set_option maxHeartbeats 2000000 in
set_option maxRecDepth 100000 in
theorem ref_put (A B : Option Addr) (n c k d v : Nat) (rows : List ER) (p : List Nat) (w : World) (h : EntsAt w A n rows) (hnc : n ≤ c) (hk : ∀ r ∈ rows, r.n = k) (hp : Pt w B k p) (hkd : k ≤ d) (hdm : d ≤ maxLen) (hk40 : k ≤ 40) (hn : n ≤ 65536) (hv : v < 2 ^ 64) :
    Calls Try.prog 31 #[.slice A n c, .slice B k d, .int .u64 (v : Int)] w fun e w' => ∃ A' n' c', e = .returned (.slice A' n' c') ∧ EntsAt w' A' n' (putR rows ⟨B, k, d, p, v⟩) ∧ n' ≤ c' ∧ n' ≤ n + 1 ∧ Below w.heap.size w w' := by
  have HD := hide (ref_del A B n c k d rows p w h hnc hk hp hk40 hn)
  have HP := hide hp
  have HK := hide (fun r hr => hk r (mem_delR (p := p) hr))
  have HNN := hide hn
  have HV := hide (And.intro hkd (And.intro hdm hv))
  clear h hnc hk hp hn hkd hdm hv
  go_enter Try.func31, Try.ntmps31
  go_wp2_with fail
  refine HD.out.mono ?_
  rintro e w1 ⟨A1, n1, c1, rfl, hE1, hnc1, hnn1, hb1⟩
  have hn16 : n1 ≤ 65537 := by have := HNN.out; omega
  have HC := hide (ref_place A1 B n1 c1 k d (delR rows p) p w1 hE1 HK.out (HP.out.below hb1) hk40 (by omega))
  have hl := hE1.len
  have hpl := plR_le (delR rows p) p
  rw [hl] at hpl
  have hput : putR rows ⟨B, k, d, p, v⟩ = (delR rows p).take (plR (delR rows p) p) ++ [⟨B, k, d, p, v⟩] ++ (delR rows p).drop (plR (delR rows p) p) := rfl
  have HPUT := hide hput
  have HE1 := hide hE1
  generalize delR rows p = dr at *
  generalize plR dr p = i at *
  generalize hasR dr p = hb at *
  have r1 := fun W => run_slice_to (P := Try.prog) (w := W) Try.underlying40 (sz := 2) Try.sizeOf84 A1 n1 c1 i (by omega)
  have r2 := fun W => run_slice_lo (P := Try.prog) (w := W) Try.underlying40 (sz := 2) Try.sizeOf84 A1 n1 c1 i (by omega)
  have b2 := (Below.refl w1.heap.size w1).alloc (Nat.le_refl _) (.cells #[] 84)
  have hE2 := hE1.below b2
  have hT := hE2.1.take_ (i := i) (by omega)
  have hC := hE1.1.cut (i := i) (c := c1) (by omega) hnc1
  rw [flat_take] at hT
  rw [flat_drop] at hC
  have HT := hide hT
  have HCU := hide hC
  have HL := hide (And.intro hpl (And.intro hl hn16))
  have HNC := hide hnc1
  have HNI := hide hnn1
  clear hE1 hl hpl hput hE2 hT hC hnc1 hnn1
  go_wp2_with fail
  refine HC.out.mono ?_
  rintro e w2 ⟨rfl, rfl⟩
  go_wp2_with (first
    | (at_builtin
       refine app_b _ rfl (.tmp 19) (.tmp 22) _ rfl w1.heap.size 84 _ 2 32 Try.underlying40 info_e rfl (by omega) _ 0 [] rfl (own_empty _ _ _) A1 i c1 ((dr.take i).flatMap entv) rfl w1 b2 (Nat.le_refl _) HT.out ?h2 (by have := HL.out; unfold maxLen; omega) (by have := HL.out; omega) ?_
       case h2 => exact one_ents _
       intro v3 w3 ho3 hb3 _
       have HB3 := hide hb3
       clear hb3)
    | (at_builtin
       refine app_b _ rfl (.tmp 23) (.tmp 27) _ rfl w1.heap.size 84 _ 2 32 Try.underlying40 info_e rfl (by omega) _ (0 + i) _ rfl (ho3.alloc _) (some ⟨w3.heap.size, 0, none⟩) 1 1 [.slice B k d, .int .u64 (v : Int)] rfl w1 (below_alloc HB3.out (Nat.le_refl _) _) (Nat.le_refl _) (Rw.new1 w3 84 #[.slice B k d, .int .u64 (v : Int)] (sz := 2) rfl) ?h2 (by have := HL.out; unfold maxLen; omega) (by have := HL.out; omega) ?_
       case h2 => exact one_ents [⟨B, k, d, p, v⟩]
       intro v4 w4 ho4 hb4 _
       have HB4 := hide hb4
       have HC4 := hide (HCU.out.below hb4)
       clear hb4 ho3)
    | (at_builtin
       refine app_b _ rfl (.tmp 29) (.tmp 32) _ rfl w1.heap.size 84 _ 2 32 Try.underlying40 info_e rfl (by omega) _ (0 + i + 1) _ rfl ho4 (cutA A1 c1 2 i) (n1 - i) (c1 - i) ((dr.drop i).flatMap entv) rfl w1 HB4.out (Nat.le_refl _) HC4.out ?h2 (by have := HL.out; unfold maxLen; omega) (by have := HL.out; omega) ?_
       case h2 => exact one_ents _
       intro v5 w5 ho5 hb5 _
       obtain ⟨A5, c5, rfl, hn5, hR5⟩ := Rw.of_own ho5
       simp only [Nat.zero_add] at hn5 hR5
       have HB5 := hide hb5
       have hR := hide hR5
       clear ho5 hb5 hR5 ho4)
    | fail)
  go_ret
  obtain ⟨hlt, hl, hn⟩ := HL.out
  have hbt := below_then hb1 HB5.out
  refine ⟨A5, i + 1 + (n1 - i), c5, rfl, ⟨?_, fun r hr => ?_⟩, hn5, by have := HNI.out; omega, hbt⟩
  · rw [HPUT.out, List.flatMap_append, List.flatMap_append]
    have := hR.out
    rw [List.nil_append] at this
    simpa [entv] using this
  · rw [HPUT.out] at hr
    rcases List.mem_append.1 hr with hr | hr
    · rcases List.mem_append.1 hr with hr | hr
      · exact (HE1.out.2 r (List.mem_of_mem_take hr)).below HB5.out
      · rw [List.mem_singleton] at hr
        subst hr
        exact ⟨HP.out.below hbt, HV.out.1, HV.out.2.1, HV.out.2.2⟩
    · exact (HE1.out.2 r (List.mem_of_mem_drop hr)).below HB5.out
end
section
open Go.RowKit
/-- Sorted rows of k coordinates. -/
def SortR (k : Nat) (rows : List ER) : Prop := (∀ r ∈ rows, Zp k r.p) ∧ rows.Pairwise fun a b => Zlt a.p b.p
theorem SortR.nil (k : Nat) : SortR k [] := ⟨fun r h => by (cases h), List.Pairwise.nil⟩
theorem cmp_ge {k : Nat} {p q : List Nat} (hp : Zp k p) (hq : Zp k q) : 0 ≤ cmp p q ↔ p = q ∨ Zlt q p := by
  rcases cmp_cases p q with h | h | h
  · rw [h]
    constructor
    · intro h'; omega
    · rintro (h' | h')
      · rw [(cmp_eq hp hq).2 h'] at h; omega
      · rw [(cmp_gt hp hq).2 h'] at h; omega
  · exact ⟨fun _ => .inl ((cmp_eq hp hq).1 h), fun _ => by omega⟩
  · exact ⟨fun _ => .inr ((cmp_gt hp hq).1 h), fun _ => by omega⟩
theorem cmp_neg {k : Nat} {p q : List Nat} (hp : Zp k p) (hq : Zp k q) (h : ¬ 0 ≤ cmp p q) : Zlt p q := by
  rcases cmp_cases p q with h' | h' | h'
  · exact (cmp_lt hp hq).1 h'
  · omega
  · omega
theorem pl_take {k : Nat} {rows : List ER} {p : List Nat} (hS : SortR k rows) (hp : Zp k p) : ∀ r ∈ rows.take (plR rows p), Zlt r.p p := by
  intro r hr
  obtain ⟨i, hi⟩ := List.getElem?_of_mem hr
  have hil := (List.getElem?_eq_some_iff.1 hi).1
  have hiv := (List.getElem?_eq_some_iff.1 hi).2
  rw [List.length_take] at hil
  have hlt : i < plR rows p := by omega
  have := List.not_of_lt_findIdx (p := notAhead p) (xs := rows) hlt
  rw [List.getElem_take] at hiv
  rw [hiv] at this
  unfold notAhead at this
  exact cmp_neg (hS.1 r (List.mem_of_mem_take hr)) hp (by simpa using this)
theorem pl_at {k : Nat} {rows : List ER} {p : List Nat} (hS : SortR k rows) (hp : Zp k p) {r : ER} (h : rows[plR rows p]? = some r) : r.p = p ∨ Zlt p r.p := by
  have hl := (List.getElem?_eq_some_iff.1 h).1
  have hv := (List.getElem?_eq_some_iff.1 h).2
  have := List.findIdx_getElem (p := notAhead p) (xs := rows) (w := hl)
  have hv' : rows[List.findIdx (notAhead p) rows]'hl = r := hv
  rw [hv'] at this
  unfold notAhead at this
  exact (cmp_ge (hS.1 r (List.mem_of_getElem? h)) hp).1 (by simpa using this)
theorem pl_drop {k : Nat} {rows : List ER} {p : List Nat} (hS : SortR k rows) (hp : Zp k p) : ∀ r ∈ rows.drop (plR rows p + 1), Zlt p r.p := by
  intro r hr
  rcases Nat.lt_or_ge (plR rows p) rows.length with hl | hl
  · have h0 : rows[plR rows p]? = some rows[plR rows p] := List.getElem?_eq_getElem hl
    have hd : rows.drop (plR rows p) = rows[plR rows p] :: rows.drop (plR rows p + 1) := List.drop_eq_getElem_cons hl
    have hpw : (rows.drop (plR rows p)).Pairwise fun a b => Zlt a.p b.p := hS.2.sublist (List.drop_sublist _ _)
    rw [hd] at hpw
    have h1 := (List.pairwise_cons.1 hpw).1 r hr
    rcases pl_at hS hp h0 with h2 | h2
    · rw [← h2]; exact h1
    · exact zlt_trans h2 h1
  · rw [List.drop_of_length_le (by omega)] at hr
    cases hr
theorem has_spec {k : Nat} {rows : List ER} {p : List Nat} (hS : SortR k rows) (hp : Zp k p) : (hasR rows p = true ↔ ∃ r, rows[plR rows p]? = some r ∧ r.p = p) ∧ (hasR rows p = true ↔ ∃ r ∈ rows, r.p = p) := by
  have h1 : hasR rows p = true ↔ ∃ r, rows[plR rows p]? = some r ∧ r.p = p := by
    unfold hasR
    cases h : rows[plR rows p]? with
    | none => simp
    | some r =>
      simp only [decide_eq_true_eq, Option.some.injEq, exists_eq_left']
      exact cmp_eq (hS.1 r (List.mem_of_getElem? h)) hp
  refine ⟨h1, h1.trans ⟨fun ⟨r, hr, he⟩ => ⟨r, List.mem_of_getElem? hr, he⟩, fun ⟨r, hr, he⟩ => ?_⟩⟩
  rw [← List.take_append_drop (plR rows p) rows] at hr
  rcases List.mem_append.1 hr with hr | hr
  · have := pl_take hS hp r hr
    rw [he] at this
    exact absurd this (zlt_irrefl p)
  · rcases Nat.lt_or_ge (plR rows p) rows.length with hl | hl
    · rw [List.drop_eq_getElem_cons hl] at hr
      rcases List.mem_cons.1 hr with hr | hr
      · exact ⟨r, by rw [hr]; exact List.getElem?_eq_getElem hl, he⟩
      · have := pl_drop hS hp r hr
        rw [he] at this
        exact absurd this (zlt_irrefl p)
    · rw [List.drop_of_length_le hl] at hr
      cases hr
theorem del_spec {k : Nat} {rows : List ER} {p : List Nat} (hS : SortR k rows) (hp : Zp k p) : SortR k (delR rows p) ∧ ∀ r, r ∈ delR rows p ↔ r ∈ rows ∧ r.p ≠ p := by
  obtain ⟨h1, h2⟩ := has_spec hS hp
  unfold delR
  cases hh : hasR rows p with
  | false =>
    rw [if_neg (by simp)]
    refine ⟨hS, fun r => ⟨fun hr => ⟨hr, fun he => ?_⟩, fun hr => hr.1⟩⟩
    have := h2.2 ⟨r, hr, he⟩
    rw [hh] at this
    cases this
  | true =>
    rw [if_pos rfl]
    obtain ⟨r0, hr0, he0⟩ := h1.1 hh
    have hl := (List.getElem?_eq_some_iff.1 hr0).1
    have hv := (List.getElem?_eq_some_iff.1 hr0).2
    have hsplit : rows = rows.take (plR rows p) ++ (r0 :: rows.drop (plR rows p + 1)) := by
      conv => lhs; rw [← List.take_append_drop (plR rows p) rows, List.drop_eq_getElem_cons hl, hv]
    have hT := pl_take hS hp
    have hD := pl_drop hS hp
    have hmem : ∀ r, r ∈ rows ↔ r ∈ rows.take (plR rows p) ∨ r = r0 ∨ r ∈ rows.drop (plR rows p + 1) := fun r => by
      conv => lhs; rw [hsplit]
      rw [List.mem_append, List.mem_cons]
    refine ⟨⟨fun r hr => ?_, ?_⟩, fun r => ?_⟩
    · rcases List.mem_append.1 hr with hr | hr
      · exact hS.1 r (List.mem_of_mem_take hr)
      · exact hS.1 r (List.mem_of_mem_drop hr)
    · rw [List.pairwise_append]
      refine ⟨hS.2.sublist (List.take_sublist _ _), hS.2.sublist (List.drop_sublist _ _), fun a ha b hb => zlt_trans (hT a ha) (hD b hb)⟩
    · rw [hmem, List.mem_append]
      constructor
      · rintro (h | h)
        · exact ⟨.inl h, fun he => zlt_irrefl p (by have := hT r h; rwa [he] at this)⟩
        · exact ⟨.inr (.inr h), fun he => zlt_irrefl p (by have := hD r h; rwa [he] at this)⟩
      · rintro ⟨h | h | h, hne⟩
        · exact .inl h
        · rw [h] at hne; exact absurd he0 hne
        · exact .inr h
theorem put_spec {k : Nat} {rows : List ER} {q : ER} (hS : SortR k rows) (hq : Zp k q.p) : SortR k (putR rows q) ∧ ∀ r, r ∈ putR rows q ↔ r = q ∨ (r ∈ rows ∧ r.p ≠ q.p) := by
  obtain ⟨hS1, hm⟩ := del_spec hS hq
  have hT := pl_take hS1 hq
  have hD : ∀ r ∈ (delR rows q.p).drop (plR (delR rows q.p) q.p), Zlt q.p r.p := by
    intro r hr
    rcases Nat.lt_or_ge (plR (delR rows q.p) q.p) (delR rows q.p).length with hl | hl
    · rw [List.drop_eq_getElem_cons hl] at hr
      rcases List.mem_cons.1 hr with hr | hr
      · rcases pl_at hS1 hq (List.getElem?_eq_getElem hl) with h1 | h1
        · have := (hm _).1 (List.getElem_mem hl)
          exact absurd h1 this.2
        · rw [hr]; exact h1
      · exact pl_drop hS1 hq r hr
    · rw [List.drop_of_length_le hl] at hr
      cases hr
  unfold putR
  refine ⟨⟨fun r hr => ?_, ?_⟩, fun r => ?_⟩
  · rcases List.mem_append.1 hr with hr | hr
    · rcases List.mem_append.1 hr with hr | hr
      · exact hS1.1 r (List.mem_of_mem_take hr)
      · rw [List.mem_singleton] at hr
        rw [hr]; exact hq
    · exact hS1.1 r (List.mem_of_mem_drop hr)
  · rw [List.pairwise_append, List.pairwise_append]
    refine ⟨⟨hS1.2.sublist (List.take_sublist _ _), List.pairwise_singleton _ _, fun a ha b hb => ?_⟩, hS1.2.sublist (List.drop_sublist _ _), fun a ha b hb => ?_⟩
    · rw [List.mem_singleton] at hb
      rw [hb]; exact hT a ha
    · rcases List.mem_append.1 ha with ha | ha
      · exact zlt_trans (hT a ha) (hD b hb)
      · rw [List.mem_singleton] at ha
        rw [ha]; exact hD b hb
  · rw [List.mem_append, List.mem_append, List.mem_singleton, ← hm r]
    conv => rhs; rhs; rw [← List.take_append_drop (plR (delR rows q.p) q.p) (delR rows q.p)]
    rw [List.mem_append]
    constructor
    · rintro ((h | h) | h)
      · exact .inr (.inl h)
      · exact .inl h
      · exact .inr (.inr h)
    · rintro (h | h | h)
      · exact .inl (.inr h)
      · exact .inl (.inl h)
      · exact .inr h
theorem SortR.ents {k : Nat} {rows : List ER} (h : SortR k rows) : Zsorted (ents rows) := by
  unfold Zsorted Go.Proofs.Ytfoapkcgdkfggaa.ents
  rw [List.pairwise_map]
  exact h.2
end
section
open Go.RowKit
theorem run_slice_mid {P : Program} {t e sz : Nat} (ht : P.underlying t = some (.slice e)) (hz : ∀ w, (sizeOf e).run P w = .ok sz w) (A : Option Addr) (n c i j : Nat) (hij : i ≤ j) (hj : j ≤ c) (w : World) :
    (Instr.slice t (.slice A n c) (some (.int .i64 (i : Int))) (some (.int .i64 (j : Int))) none).run P w = .ok (.slice (cutA A c sz i) (j - i) (c - i)) w := by
  have h0 : (0 : Int) ≤ (i : Int) := by omega
  have h1 : (i : Int) ≤ (j : Int) := by omega
  have h2 : (0 : Int) ≤ (j : Int) := by omega
  have h3 : (j : Int) ≤ (c : Int) := by omega
  simp [Instr.slice, run_underlying ht, Instr.sliceBounds, Instr.sliceBound, asIntOf, h0, h1, h2, h3, hz, cutA]
  rw [if_pos hj, if_pos hij]
theorem calls_args {P : Program} {f : FuncId} {args args' : Array Value} {w : World} {Q : Ending → World → Prop} (h : Calls P f args w Q) (e : args = args') : Calls P f args' w Q := e ▸ h
section
variable {α : Type}
def fl (G : List (List α)) (t : Nat) : Nat := (G.take t).flatten.length
theorem fl_zero (G : List (List α)) : fl G 0 = 0 := by simp [fl]
theorem seg_split {G : List (List α)} {t : Nat} {g : List α} (h : G[t]? = some g) : G = G.take t ++ g :: G.drop (t + 1) := by
  have ht := (List.getElem?_eq_some_iff.1 h).1
  have hg := (List.getElem?_eq_some_iff.1 h).2
  conv => lhs; rw [← List.take_append_drop t G, List.drop_eq_getElem_cons ht, hg]
theorem fl_succ {G : List (List α)} {t : Nat} {g : List α} (h : G[t]? = some g) : fl G (t + 1) = fl G t + g.length := by
  unfold fl
  rw [List.take_add_one, h]
  simp
theorem fl_all (G : List (List α)) {t : Nat} (h : G.length ≤ t) : fl G t = G.flatten.length := by
  unfold fl
  rw [List.take_of_length_le h]
theorem fl_get {G : List (List α)} {t : Nat} {g : List α} (h : G[t]? = some g) {d : Nat} (hd : d < g.length) : G.flatten[fl G t + d]? = g[d]? := by
  unfold fl
  conv => lhs; rw [seg_split h]
  rw [List.flatten_append, List.flatten_cons]
  rw [List.take_left' (by have := (List.getElem?_eq_some_iff.1 h).1; simp; omega)]
  rw [List.getElem?_append_right (by omega), Nat.add_sub_cancel_left, List.getElem?_append_left hd]
theorem fl_le {G : List (List α)} {t : Nat} {g : List α} (h : G[t]? = some g) : fl G t + g.length ≤ G.flatten.length := by
  have : G.flatten.length = (G.take t).flatten.length + (g.length + (G.drop (t + 1)).flatten.length) := by
    conv => lhs; rw [seg_split h]
    simp
  unfold fl
  omega
theorem fl_seg {G : List (List α)} {t : Nat} {g : List α} (h : G[t]? = some g) : (G.flatten.drop (fl G t)).take g.length = g := by
  have e : G.flatten = (G.take t).flatten ++ (g ++ (G.drop (t + 1)).flatten) := by
    conv => lhs; rw [seg_split h]
    rw [List.flatten_append, List.flatten_cons]
  unfold fl
  rw [e, List.drop_left' rfl, List.take_left' rfl]
end
/-- The slice of one kid's entries. -/
def segv (A : Option Addr) (c : Nat) (G : List (List ER)) (t : Nat) : Value := .slice (cutA A c 2 (fl G t)) ((G[t]?.getD []).length) (c - fl G t)
def segvs (A : Option Addr) (c : Nat) (G : List (List ER)) (m : Nat) : List Value := (List.range m).map (segv A c G)
theorem segvs_succ (A : Option Addr) (c : Nat) (G : List (List ER)) (m : Nat) : segvs A c G (m + 1) = segvs A c G m ++ [segv A c G m] := by
  unfold segvs
  rw [List.range_succ, List.map_append]
  rfl
/-- A kid's entries in memory. -/
theorem EntsAt.seg {w : World} {A : Option Addr} {n c t : Nat} {G : List (List ER)} {g : List ER} (h : EntsAt w A n G.flatten) (hnc : n ≤ c) (hg : G[t]? = some g) :
    segv A c G t = .slice (cutA A c 2 (fl G t)) g.length (c - fl G t) ∧ EntsAt w (cutA A c 2 (fl G t)) g.length g ∧ g.length ≤ c - fl G t := by
  have hl := h.len
  have hle := fl_le hg
  refine ⟨by unfold segv; rw [hg]; rfl, ⟨?_, fun r hr => h.2 r ?_⟩, by omega⟩
  · have h1 := h.1.cut (i := fl G t) (c := c) (by omega) hnc
    have h2 := h1.take_ (i := g.length) (by omega)
    rw [flat_drop, flat_take, fl_seg hg] at h2
    exact h2
  · exact List.mem_flatten.2 ⟨g, List.mem_of_getElem? hg, hr⟩
theorem info_es : (Try.prog.info? 40).map (fun i => (i.zero, i.size, i.bytes)) = some (some (.slice none 0 0), 1, 24) := by kernel_rfl
/-- These are the kids' lists at a level. -/
structure Parts (G : List (List ER)) (lv : Nat) : Prop where
  ne : ∀ g ∈ G, g ≠ []
  same : ∀ g ∈ G, ∀ r ∈ g, ∀ s ∈ g, addrOf r.p lv = addrOf s.p lv
  diff : G.Pairwise fun g h => ∀ r ∈ g, ∀ s ∈ h, addrOf r.p lv ≠ addrOf s.p lv
set_option maxHeartbeats 4000000 in
set_option maxRecDepth 100000 in
theorem ref_kids (A : Option Addr) (n c k lv : Nat) (G : List (List ER)) (w : World) (h : EntsAt w A n G.flatten) (hnc : n ≤ c) (hk : ∀ r ∈ G.flatten, r.n = k) (hk40 : k ≤ 40) (hn : n ≤ 65536) (hn1 : 1 ≤ n) (hlv : lv < 64) (hP : Parts G lv)
    (hL : ∀ W, Below w.heap.size w W → Calls Try.prog 55 #[.slice A n c] W fun e w' => e = .returned (.int .i64 (lv : Nat)) ∧ Below W.heap.size W w') :
    Calls Try.prog 37 #[.slice A n c] w fun e w' => ∃ C f, e = .returned (.slice C G.length f) ∧ w'.ownsRow w.heap.size 40 1 (.slice C G.length f) G.length (segvs A c G G.length) ∧ Below w.heap.size w w' := by
  have HE := hide h
  have HK := hide hk
  have HP := hide hP
  have hl := h.len
  have HNC := hide hnc
  have b1 := (Below.refl w.heap.size w).alloc (Nat.le_refl _) (.cells #[] 40)
  have HL := hide (hL _ b1)
  have HO := hide (own_empty w 40 1)
  have hG0 : 0 < G.length := by
    rcases Nat.eq_zero_or_pos G.length with h0 | h0
    · rw [List.eq_nil_of_length_eq_zero h0] at hl
      simp at hl; omega
    · exact h0
  have HLN := hide hl
  clear h hk hP hnc hL hl
  go_enter Try.func37, Try.ntmps37
  go_wp2_with fail
  refine HL.out.mono ?_
  rintro e w1 ⟨rfl, hb1⟩
  have hc1 := below_then b1 hb1
  have HO1 := hide (own_below HO.out hb1)
  clear hb1 HO HL
  go_wp2
  go_loopw [3, 5, 6] (fun x3 x5 x6 wr => ∃ (t d i : Nat), t ≤ G.length ∧ x5 = .int .i64 (fl G t : Nat) ∧ x6 = .int .i64 (i : Int) ∧ i = fl G t + d ∧ 1 ≤ d ∧ (∀ g, G[t]? = some g → d ≤ g.length) ∧ (t = G.length → d = 1) ∧ wr.ownsRow w.heap.size 40 1 x3 t (segvs A c G t) ∧ Below w.heap.size w wr) (fun _ _ x _ => n + 1 - (intOf x).toNat)
  case atStart =>
    refine ⟨0, 1, 1, Nat.zero_le _, by rw [fl_zero]; rfl, rfl, by rw [fl_zero], Nat.le_refl _, fun g hg => ?_, fun h => by omega, HO1.out, hc1⟩
    have := HP.out.ne g (List.mem_of_getElem? hg)
    exact List.length_pos_iff.2 this
  case round =>
    obtain ⟨t, d, i, ht, rfl, rfl, hi, hd1, hdg, hdt, hO, hb⟩ := hrel
    have HI := hide hi
    have HO := hide hO
    have HB := hide hb
    have HD := hide (And.intro hdg hdt)
    clear hO hdg hdt
    rcases Nat.lt_or_ge t G.length with htl | htl
    · obtain ⟨g, hg⟩ : ∃ g, G[t]? = some g := ⟨G[t], List.getElem?_eq_getElem htl⟩
      have hdl := HD.out.1 g hg
      have hfl := fl_le hg
      rw [HLN.out] at hfl
      have HG := hide hg
      have HFL := hide (fl_succ hg)
      have hfn : fl G t < n := by omega
      obtain ⟨b, o, r0, hA, hbl, hr0, hok0, k0, -⟩ := (HE.out.below hb).at_ hfn
      subst hA
      have hr0g : g[0]? = some r0 := by rw [← hr0]; exact (fl_get hg (by omega) (d := 0)).symm
      have hok0n := HK.out r0 (List.mem_of_getElem? hr0)
      have hp0 := hok0.1
      rw [hok0n] at hp0 k0
      have HP0 := hide hp0
      have hgt : t < 65536 := by
        have h1 : G.length ≤ G.flatten.length := by
          have : ∀ (H : List (List ER)), (∀ g ∈ H, g ≠ []) → H.length ≤ H.flatten.length := by
            intro H
            induction H with
            | nil => intro _; simp
            | cons g H ih =>
              intro hH
              have h1 := ih fun g' hg' => hH g' (List.mem_cons_of_mem _ hg')
              have h2 := List.length_pos_iff.2 (hH g List.mem_cons_self)
              rw [List.flatten_cons, List.length_append, List.length_cons]; omega
          exact this G HP.out.ne
        rw [HLN.out] at h1
        omega
      have hsame := HP.out.same g (List.mem_of_getElem? hg)
      have HSM := hide (fun r hr => hsame r hr r0 (List.mem_of_getElem? hr0g))
      have HR0 := hide hr0g
      clear hg hr0 hok0 hp0 hok0n hsame hr0g hi
      rcases Nat.lt_or_ge d g.length with hdl2 | hdl2
      · have hin : i < n := by have := HI.out; omega
        obtain ⟨b', o', r1, hA', hbl', hr1, hok1, k1, -⟩ := (HE.out.below hb).at_ hin
        injection hA' with hA'
        injection hA' with h1 h2
        subst h1 h2
        have hr1g : g[d]? = some r1 := by rw [← hr1, HI.out]; exact (fl_get HG.out hdl2).symm
        have hok1n := HK.out r1 (List.mem_of_getElem? hr1)
        have hp1 := hok1.1
        rw [hok1n] at hp1 k1
        have HP1 := hide hp1
        have HEQ := hide (HSM.out r1 (List.mem_of_getElem? hr1g))
        clear hr1 hok1 hp1 hok1n hr1g hbl' hb
        have q2 : ((i : Int) == (n : Int)) = false := by simp; omega
        have q3 : decide ((i : Int) ≤ (n : Int)) = true := by simp; omega
        have q4 : (0 : Int) ≤ (i : Int) := by omega
        have q5 : (i : Int) < (n : Int) := by omega
        go_wp2_with fail
        go_quiet ((first
          | (go_at_call 57
             have CC := fun N => ref_addr r1.A k r1.c lv r1.p (wr.drewN N) (HP1.out.below (below_drewN (Below.refl _ wr) N)) hk40 hlv
             rw [HEQ.out] at CC
             refine Calls.quiet_of_same (still_of (calls_args (CC _) ?_)); rfl)
          | (go_at_call 57
             have CC := fun N => ref_addr r0.A k r0.c lv r0.p (wr.drewN N) (HP0.out.below (below_drewN (Below.refl _ wr) N)) hk40 hlv
             refine Calls.quiet_of_same (still_of (calls_args (CC _) ?_)); rfl)))
        go_wp2
        go_roundw
        case rel =>
          refine ⟨t, d + 1, i + 1, ht, rfl, by go_num, by have := HI.out; omega, by omega, fun g' hg' => ?_, fun h => by omega, own_below HO.out (below_drewN (Below.refl _ wr) nq), below_drewN HB.out nq⟩
          have := HG.out
          rw [hg'] at this
          injection this with this
          subst this
          omega
        case measure => simp [intOf]; omega
      · have hdg : d = g.length := by omega
        rcases Nat.lt_or_ge (t + 1) G.length with ht1 | ht1
        · have hne2 : g ≠ [] := HP.out.ne g (List.mem_of_getElem? HG.out)
          obtain ⟨g2, hg2⟩ : ∃ g2, G[t + 1]? = some g2 := ⟨G[t + 1], List.getElem?_eq_getElem ht1⟩
          have hl2 : 0 < g2.length := List.length_pos_iff.2 (HP.out.ne g2 (List.mem_of_getElem? hg2))
          have hfl2 := fl_le hg2
          rw [HLN.out, HFL.out] at hfl2
          have hin : i < n := by have := HI.out; omega
          obtain ⟨b', o', r1, hA', hbl', hr1, hok1, k1, -⟩ := (HE.out.below hb).at_ hin
          injection hA' with hA'
          injection hA' with h1 h2
          subst h1 h2
          have hr1g : g2[0]? = some r1 := by
            have := fl_get hg2 hl2 (d := 0)
            rw [HFL.out, ← hdg, Nat.add_zero] at this
            rw [← hr1, HI.out]; exact this.symm
          have hok1n := HK.out r1 (List.mem_of_getElem? hr1)
          have hp1 := hok1.1
          rw [hok1n] at hp1 k1
          have HP1 := hide hp1
          have hdiff : addrOf r0.p lv ≠ addrOf r1.p lv := by
            have h1 := HP.out.diff
            rw [List.pairwise_iff_getElem] at h1
            have h2 := h1 t (t + 1) htl ht1 (by omega)
            have e1 : G[t] = g := (List.getElem?_eq_some_iff.1 HG.out).2
            have e2 : G[t + 1] = g2 := (List.getElem?_eq_some_iff.1 hg2).2
            rw [e1, e2] at h2
            exact h2 r0 (List.mem_of_getElem? HR0.out) r1 (List.mem_of_getElem? hr1g)
          clear hr1 hok1 hp1 hok1n hr1g hbl' hb hg2 hne2
          have q2 : ((i : Int) == (n : Int)) = false := by simp; omega
          have q3 : decide ((i : Int) ≤ (n : Int)) = true := by simp; omega
          have q4 : (0 : Int) ≤ (i : Int) := by omega
          have q5 : (i : Int) < (n : Int) := by omega
          have q6 : ((addrOf r1.p lv : Int) != (addrOf r0.p lv : Int)) = true := by simp; omega
          clear hdiff
          go_wp2_with fail
          go_quiet ((first
            | (go_at_call 57
               have CC := fun N => ref_addr r1.A k r1.c lv r1.p (wr.drewN N) (HP1.out.below (below_drewN (Below.refl _ wr) N)) hk40 hlv
               refine Calls.quiet_of_same (still_of (calls_args (CC _) ?_)); rfl)
            | (go_at_call 57
               have CC := fun N => ref_addr r0.A k r0.c lv r0.p (wr.drewN N) (HP0.out.below (below_drewN (Below.refl _ wr) N)) hk40 hlv
               refine Calls.quiet_of_same (still_of (calls_args (CC _) ?_)); rfl)))
          have hb2 : Below w.heap.size w (wr.drewN nq) := below_drewN HB.out nq
          have HO2 := hide (own_below HO.out (below_drewN (Below.refl _ wr) nq))
          go_upto_region 8 with fail
          generalize wr.drewN nq = w2 at *
          have r1 := fun W => run_slice_mid (P := Try.prog) (w := W) Try.underlying40 (sz := 2) Try.sizeOf84 (some ⟨b, o, none⟩) n c (fl G t) i (by have := HI.out; omega) (by have := HNC.out; have := HI.out; omega)
          rw [show i - fl G t = g.length by have := HI.out; omega] at r1
          have hsv : segv (some ⟨b, o, none⟩) c G t = .slice (cutA (some ⟨b, o, none⟩) c 2 (fl G t)) g.length (c - fl G t) := (EntsAt.seg HE.out HNC.out HG.out).1
          have HSV := hide hsv
          have hb3 := below_alloc hb2 (Nat.le_refl _) (.cells #[.slice (cutA (some ⟨b, o, none⟩) c 2 (fl G t)) g.length (c - fl G t)] 40)
          clear hsv
          go_wp2_with (first
            | (at_builtin
               refine app_b _ rfl (.tmp 37) (.tmp 42) _ rfl w.heap.size 40 _ 1 24 Try.underlying81 info_es rfl (by omega) _ t _ rfl (HO2.out.alloc _) (some ⟨w2.heap.size, 0, none⟩) 1 1 [.slice (cutA (some ⟨b, o, none⟩) c 2 (fl G t)) g.length (c - fl G t)] rfl w hb3 (Nat.le_refl _) (Rw.new1 w2 40 #[.slice (cutA (some ⟨b, o, none⟩) c 2 (fl G t)) g.length (c - fl G t)] rfl) ?h2 (by unfold maxLen; omega) (by omega) ?_
               case h2 =>
                 intro u hu
                 rw [List.mem_singleton] at hu
                 rw [hu]
                 rfl
               intro v5 w5 ho5 hb5 _
               have HO5 := hide ho5
               have HB5 := hide hb5
               clear ho5 hb5)
            | fail)
          go_roundw
          case rel =>
            have hf := HFL.out
            refine ⟨t + 1, 1, i + 1, by omega, ?_, by go_num, ?_, Nat.le_refl _, fun g' hg' => ?_, fun _ => rfl, ?_, HB5.out⟩
            · rw [hf, ← hdg, ← HI.out]
            · have := HI.out; omega
            · have := HP.out.ne g' (List.mem_of_getElem? hg')
              exact List.length_pos_iff.2 this
            · rw [segvs_succ, HSV.out]; exact HO5.out
          case measure => simp [intOf]; omega
        · have hdn : i = n := by
            have h0 := HI.out
            have h1 := HFL.out
            have h2 := fl_all G (show G.length ≤ t + 1 by omega)
            rw [HLN.out] at h2
            omega
          have q2 : ((i : Int) == (n : Int)) = true := by simp; omega
          have q3 : decide ((i : Int) ≤ (n : Int)) = true := by simp; omega
          have HDN := hide hdn
          have p3 : i ≤ n := by omega
          clear hb hdn
          go_wp2_with fail
          go_quiet (fail)
          have hb2 : Below w.heap.size w (wr.drewN nq) := below_drewN HB.out nq
          have HO2 := hide (own_below HO.out (below_drewN (Below.refl _ wr) nq))
          go_upto_region 8 with fail
          generalize wr.drewN nq = w2 at *
          have r1 := fun W => run_slice_mid (P := Try.prog) (w := W) Try.underlying40 (sz := 2) Try.sizeOf84 (some ⟨b, o, none⟩) n c (fl G t) i (by have := HI.out; omega) (by have := HNC.out; have := HI.out; omega)
          rw [show i - fl G t = g.length by have := HI.out; omega] at r1
          have hsv : segv (some ⟨b, o, none⟩) c G t = .slice (cutA (some ⟨b, o, none⟩) c 2 (fl G t)) g.length (c - fl G t) := (EntsAt.seg HE.out HNC.out HG.out).1
          have HSV := hide hsv
          have hb3 := below_alloc hb2 (Nat.le_refl _) (.cells #[.slice (cutA (some ⟨b, o, none⟩) c 2 (fl G t)) g.length (c - fl G t)] 40)
          clear hsv
          go_wp2_with (first
            | (at_builtin
               refine app_b _ rfl (.tmp 37) (.tmp 42) _ rfl w.heap.size 40 _ 1 24 Try.underlying81 info_es rfl (by omega) _ t _ rfl (HO2.out.alloc _) (some ⟨w2.heap.size, 0, none⟩) 1 1 [.slice (cutA (some ⟨b, o, none⟩) c 2 (fl G t)) g.length (c - fl G t)] rfl w hb3 (Nat.le_refl _) (Rw.new1 w2 40 #[.slice (cutA (some ⟨b, o, none⟩) c 2 (fl G t)) g.length (c - fl G t)] rfl) ?h2 (by unfold maxLen; omega) (by omega) ?_
               case h2 =>
                 intro u hu
                 rw [List.mem_singleton] at hu
                 rw [hu]
                 rfl
               intro v5 w5 ho5 hb5 _
               have HO5 := hide ho5
               have HB5 := hide hb5
               clear ho5 hb5)
            | fail)
          go_roundw
          case rel =>
            have hf := HFL.out
            refine ⟨t + 1, 1, i + 1, by omega, ?_, by go_num, ?_, Nat.le_refl _, fun g' hg' => ?_, fun _ => rfl, ?_, HB5.out⟩
            · rw [hf, ← hdg, ← HI.out]
            · have := HI.out; omega
            · have := HP.out.ne g' (List.mem_of_getElem? hg')
              exact List.length_pos_iff.2 this
            · rw [segvs_succ, HSV.out]; exact HO5.out
          case measure => simp [intOf]; omega
    · have hte : t = G.length := by omega
      have hf : fl G t = n := by rw [fl_all G (by omega)]; exact HLN.out
      have hd : d = 1 := HD.out.2 hte
      have hO := HO.out
      rw [hte] at hO
      obtain ⟨C, f, rfl, -, hR⟩ := Rw.of_own hO
      have HR := hide hO
      have q3 : decide ((i : Int) ≤ (n : Int)) = false := by simp; omega
      have p3 : ¬ i ≤ n := by omega
      have HX := hide (And.intro hte hd)
      clear hO hR hte hf hd hb
      go_wp2
      go_ret
      exact ⟨C, f, rfl, HR.out, HB.out⟩
end
end Go.Proofs.Ytfoapkcgdkfggaa
set_option linter.unusedSimpArgs false
set_option linter.unusedVariables false
namespace Go.Proofs.Ytfoapkcgdkfggaa
section
open Go.RowKit
theorem u64s_int (p : List Nat) : u64s p = (p.map fun (x : Nat) => (x : Int)).map fun z => Value.int .u64 z := by
  unfold u64s; simp [Function.comp_def]
theorem Fork.head {w : World} {k g lv : Nat} {pre : List Nat} {ks : List Kid} (h : Fork w k g lv pre ks) :
    ∃ A c gs, Pt w A k pre ∧ SlotsAt_n w gs k (kidTh ks) ∧ Blk w g 103 (nodeCells lv A k c 0 (some ⟨gs, 0, none⟩) (sumsOf (kidEs ks))) := by
  obtain ⟨A, c, gs, h1, h2, h3, h4, h5, h6, h7, h8, h9, h10, h11⟩ := h
  exact ⟨A, c, gs, h2, h10, h11⟩
end
section
open Go.RowKit
set_option maxHeartbeats 2000000 in
set_option maxRecDepth 100000 in
theorem ref_shape1 (A : Option Addr) (c : Nat) (r : ER) (w : World) (h : EntsAt w A 1 [r]) :
    Calls Try.prog 36 #[.slice A 1 c] w fun e w' => e = .returned (.agg #[.int .i64 (-1), .slice r.A r.n r.c, .slice none 0 0, .bool false, .int .u64 (r.v : Int)]) ∧ Below w.heap.size w w' := by
  have b1 := (Below.refl w.heap.size w).alloc (Nat.le_refl _) (.cells #[.int .i64 0, .slice none 0 0, .slice none 0 0, .bool false, .int .u64 0] 75)
  have hN1 := Blk.new w 75 #[.int .i64 0, .slice none 0 0, .slice none 0 0, .bool false, .int .u64 0]
  obtain ⟨b, o, r', rfl, hbl, hr, hok, k0, k1⟩ := (h.below b1).at_ (i := 0) (by omega)
  obtain rfl : r = r' := by simpa using hr
  simp only [Nat.zero_mul, Nat.add_zero, Nat.zero_add] at k0 k1
  have HN1 := hide hN1
  clear hr hok h hN1
  go_enter Try.func36, Try.ntmps36
  go_upto_region 2 with fail
  generalize w.alloc (.cells #[.int .i64 0, .slice none 0 0, .slice none 0 0, .bool false, .int .u64 0] 75) = w1 at *
  go_still_tail 9, (by kernel_rfl)
  change wpList _ _ _ _ _ w1.drew
  have hN2 : Blk w1.drew w.heap.size 75 #[.int .i64 0, .slice none 0 0, .slice none 0 0, .bool false, .int .u64 0] := HN1.out.drewN 1
  have b2 := b1.drew
  generalize w1.drew = w2 at *
  have z0 := hN2.frozen 0
  have z1 := hN2.frozen 1
  have z2 := hN2.frozen 2
  have z3 := hN2.frozen 3
  have z4 := hN2.frozen 4
  have y0 := hN2.cell 0
  have y1 := hN2.cell 1
  have y2 := hN2.cell 2
  have y3 := hN2.cell 3
  have y4 := hN2.cell 4
  simp at y0 y1 y2 y3 y4
  have e5 := hN2.set5 (x0 := .int .i64 (-1)) (x1 := .slice r.A r.n r.c) (x2 := .slice none 0 0) (x3 := .bool false) (x4 := .int .u64 (r.v : Int))
  have b5 := below_set5 (x0 := .int .i64 (-1)) (x1 := .slice r.A r.n r.c) (x2 := .slice none 0 0) (x3 := .bool false) (x4 := .int .u64 (r.v : Int)) b2 (Nat.le_refl w.heap.size)
  have g0 := e5.cell 0
  have g1 := e5.cell 1
  have g2 := e5.cell 2
  have g3 := e5.cell 3
  have g4 := e5.cell 4
  simp only [List.getElem?_toArray] at g0 g1 g2 g3 g4
  go_wp2
  refine bodyPost_ret (v := .agg #[.int .i64 (-1), .slice r.A r.n r.c, .slice none 0 0, .bool false, .int .u64 (r.v : Int)]) (by simp [results, Try.results36, go_sem, g0, g1, g2, g3, g4]) rfl ⟨rfl, b5⟩
end
section
open Go.RowKit
/-- An own row and a block of another type. -/
theorem own_set_ty {w : World} {base : Nat} {e t : TypeId} {sz n g i : Nat} {v u : Value} {xs : List Value} {cs : Array Value} (h : w.ownsRow base e sz v n xs) (hB : Blk w g t cs) (hne : e ≠ t) : (w.setCell ⟨g, i, none⟩ u).ownsRow base e sz v n xs := by
  obtain ⟨h1, h2⟩ := h
  refine ⟨h1, ?_⟩
  rcases h2 with h2 | ⟨gr, cap, cur, hv, hg, hh, r⟩
  · exact .inl h2
  · exact .inr ⟨gr, cap, cur, hv, hg, Blk.set_ (t := e) hh g i u (Blk.ne_ (t := e) hh hB hne), r⟩
theorem own_set5_ty {w : World} {base : Nat} {e t : TypeId} {sz n g : Nat} {v x0 x1 x2 x3 x4 : Value} {xs : List Value} {cs : Array Value} (h : w.ownsRow base e sz v n xs) (hB : Blk w g t cs) (hne : e ≠ t) :
    (((((w.setCell ⟨g, 0, none⟩ x0).setCell ⟨g, 1, none⟩ x1).setCell ⟨g, 2, none⟩ x2).setCell ⟨g, 3, none⟩ x3).setCell ⟨g, 4, none⟩ x4).ownsRow base e sz v n xs :=
  own_set_ty (own_set_ty (own_set_ty (own_set_ty (own_set_ty h hB hne) (hB.set1 _) hne) ((hB.set1 _).set1 _) hne) (((hB.set1 _).set1 _).set1 _) hne) ((((hB.set1 _).set1 _).set1 _).set1 _) hne
theorem own_ne_blk {w : World} {base : Nat} {e t : TypeId} {sz n g : Nat} {v : Value} {xs : List Value} {cs : Array Value} (h : w.ownsRow base e sz v n xs) (hB : Blk w g t cs) (hne : e ≠ t) : v.ownBlock ≠ some g := by
  intro hv
  rcases h.2 with ⟨rfl, _⟩ | ⟨gr, cap, cur, rfl, hg, hh, r⟩
  · simp [Value.ownBlock] at hv
  · have : gr = g := by simpa [Value.ownBlock] using hv
    exact Blk.ne_ (t := e) hh hB hne this
/-- A block stays where a row of another type grows. -/
theorem Blk.grown {w w' : World} {base : Nat} {e t : TypeId} {sz n g : Nat} {v : Value} {xs : List Value} {cs : Array Value} (hB : Blk w g t cs) (h : w.ownsRow base e sz v n xs) (hne : e ≠ t) (hg : w.grownBy w' v.ownBlock) : Blk w' g t cs :=
  (hg.block g hB.lt (Ne.symm (own_ne_blk h hB hne))).trans hB
theorem own_grown {w w' : World} {base base' : Nat} {e e' : TypeId} {sz sz' n n' : Nat} {v v' : Value} {xs xs' : List Value} (h : w.ownsRow base e sz v n xs) (h' : w.ownsRow base' e' sz' v' n' xs') (hne : e' ≠ e) (hg : w.grownBy w' v'.ownBlock) : w'.ownsRow base e sz v n xs := by
  obtain ⟨h1, h2⟩ := h
  refine ⟨h1, ?_⟩
  rcases h2 with h2 | ⟨gr, cap, cur, hv, hgb, hh, r⟩
  · exact .inl h2
  · exact .inr ⟨gr, cap, cur, hv, hgb, Blk.grown (t := e) hh h' hne hg, r⟩
/-- The addresses of the kids' lists. -/
def placesG (G : List (List ER)) (lv : Nat) : List Nat := G.map fun g => addrOf ((g.head?.map (·.p)).getD []) lv
set_option maxHeartbeats 4000000 in
set_option maxRecDepth 100000 in
theorem ref_shape_t (A : Option Addr) (n c k lv : Nat) (G : List (List ER)) (r0 : ER) (w : World) (h : EntsAt w A n G.flatten) (hnc : n ≤ c) (hk : ∀ r ∈ G.flatten, r.n = k) (hk1 : 1 ≤ k) (hk16 : k ≤ 16) (hn : n ≤ 65536) (hn2 : 2 ≤ n) (hlv : lv < 64) (hP : Parts G lv) (hr0 : G.flatten[0]? = some r0)
    (hL : ∀ W, Below w.heap.size w W → Calls Try.prog 55 #[.slice A n c] W fun e w' => e = .returned (.int .i64 (lv : Nat)) ∧ Below W.heap.size W w') :
    Calls Try.prog 36 #[.slice A n c] w fun e w' => ∃ B d C f, e = .returned (.agg #[.int .i64 (lv : Nat), .slice B k d, .slice C G.length f, .bool (denseB k G.length), .int .u64 0]) ∧ Rw w' 1 B k (u64s (cut (lv + 1) r0.p)) ∧ Rw w' 1 C G.length ((placesG G lv).map fun (x : Nat) => .int .i64 (x : Int)) ∧ Below w.heap.size w w' ∧ TyRow w' 36 B k ∧ TyRow w' 3 C G.length  := by
  have b1 := (Below.refl w.heap.size w).alloc (Nat.le_refl _) (.cells #[.int .i64 0, .slice none 0 0, .slice none 0 0, .bool false, .int .u64 0] 75)
  have hN1 := Blk.new w 75 #[.int .i64 0, .slice none 0 0, .slice none 0 0, .bool false, .int .u64 0]
  obtain ⟨b, o, r', rfl, hbl, hr, hok, k0, -⟩ := h.at_ (i := 0) (by omega)
  rw [hr0] at hr
  injection hr with hr
  subst hr
  simp only [Nat.zero_mul, Nat.add_zero, Nat.zero_add] at k0
  have hrn := hk r0 (List.mem_of_getElem? hr0)
  rw [hrn] at k0
  have hp0 := (h.2 r0 (List.mem_of_getElem? hr0)).1
  rw [hrn] at hp0
  have HP0 := hide hp0
  have HE := hide h
  have HN1 := hide hN1
  have HL := hide hL
  have HK := hide hk
  have HPP := hide hP
  have HNC := hide hnc
  have HR0 := hide hr0
  have e1 : ((n : Int) == 1) = false := by simp; omega
  have hn0 : (0 : Int) < (n : Int) := by omega
  have hn0' : 0 < n := by omega
  clear h hN1 hL hk hP hnc hr0 hok hp0 hrn
  go_enter Try.func36, Try.ntmps36
  go_upto_region 3 with fail
  generalize w.alloc (.cells #[.int .i64 0, .slice none 0 0, .slice none 0 0, .bool false, .int .u64 0] 75) = w1 at *
  have HC := hide (fun (W : World) (hW : Below w1.heap.size w1 W) => ((below_then b1 hW).cell (p := ⟨b, o, none⟩) hbl).trans k0)
  have HLE := hide (fun (W : World) (hW : Below w1.heap.size w1 W) => hW.size)
  have HL1 := hide (fun (W : World) (hW : Below w1.heap.size w1 W) => HL.out W (below_then b1 hW))
  have HP1 := hide (HP0.out.below b1)
  have HE1 := hide (HE.out.below b1)
  have k1 := HC.out w1 (Below.refl _ w1)
  have hs1 : w.heap.size < w1.heap.size := HN1.out.lt
  have hd := (Below.refl w1.heap.size w1).drew
  have hbr := Below.refl w1.heap.size w1
  clear k0
  go_cut [3] from 18 to 27 (fun s3 W => ∃ g3 B4 d4, s3 = .pointer (some ⟨g3, 0, none⟩) ∧ w1.heap.size ≤ g3 ∧ Blk W g3 75 #[.int .i64 (lv : Int), .slice B4 k d4, .slice none 0 0, .bool false, .int .u64 0] ∧ W.ownsRow w1.heap.size 36 1 (.slice B4 k d4) k (u64s (cut (lv + 1) r0.p)) ∧ Below w1.heap.size w1 W)
  case first =>
    go_region_held3 (fun w' => w'.cell? ⟨b, o, none⟩ = some (.slice r0.A k r0.c))
      (first
        | go_keep
        | exact hk
        | exact HC.out _ (below_alloc hd (Nat.le_refl _) _)
        | exact HC.out _ (below_alloc hbr (Nat.le_refl _) _).drew
        | exact hk5)
      (first
        | (go_at_call 55
           refine (HL1.out _ ?hx).mono ?_
           case hx =>
             first
               | exact hd
               | exact below_alloc hd (Nat.le_refl _) _
               | exact (below_alloc hbr (Nat.le_refl _) _).drew
           rintro e w2 ⟨rfl, hb2⟩
           first
             | (replace hd := below_then hd hb2
                try replace hT := hT.below hb2)
             | (have hd0 := hd
                replace hd := below_then (below_alloc hd (Nat.le_refl _) (.cells #[.int .i64 0, .slice none 0 0, .slice none 0 0, .bool false, .int .u64 0] 75)) hb2
                have hT := (Blk.new _ 75 #[.int .i64 0, .slice none 0 0, .slice none 0 0, .bool false, .int .u64 0]).below hb2
                have hX := hd0)
             | (replace hd := below_then (below_alloc hbr (Nat.le_refl _) (.cells #[.int .i64 0, .slice none 0 0, .slice none 0 0, .bool false, .int .u64 0] 75)).drew hb2
                have hT0 : Blk (w1.alloc (.cells #[.int .i64 0, .slice none 0 0, .slice none 0 0, .bool false, .int .u64 0] 75)).drew w1.heap.size 75 #[.int .i64 0, .slice none 0 0, .slice none 0 0, .bool false, .int .u64 0] := (Blk.new w1 _ _).drewN 1
                have hT := hT0.below hb2
                have hX := hbr)
           have hk := HC.out _ hd)
        | (go_at_call 56
           have CC := fun W (hW : Below w1.heap.size w1 W) => ref_cut r0.A k r0.c (lv + 1) r0.p W (HP1.out.below hW) (by omega) (by omega)
           rw [show ((lv + 1 : Nat) : Int) - 1 = (lv : Int) by omega] at CC
           refine (CC _ ?hx).mono ?_
           case hx =>
             first
               | exact hd
               | exact below_alloc hd (Nat.le_refl _) _
               | exact (below_alloc hbr (Nat.le_refl _) _).drew
           rintro e w4 ⟨v4, rfl, ho4, hb4⟩
           obtain ⟨B4, d4, rfl, -, -⟩ := Rw.of_own ho4
           first
             | (replace ho4 := own_lower ho4 (HLE.out _ hd)
                replace hd := below_then hd hb4
                try replace hT := hT.below hb4)
             | (have hd0 := hd
                replace ho4 := own_lower ho4 (HLE.out _ (below_alloc hd (Nat.le_refl _) (.cells #[.int .i64 0, .slice none 0 0, .slice none 0 0, .bool false, .int .u64 0] 75)))
                replace hd := below_then (below_alloc hd (Nat.le_refl _) (.cells #[.int .i64 0, .slice none 0 0, .slice none 0 0, .bool false, .int .u64 0] 75)) hb4
                have hT := (Blk.new _ 75 #[.int .i64 0, .slice none 0 0, .slice none 0 0, .bool false, .int .u64 0]).below hb4
                have hX := hd0)
           have hk := HC.out _ hd
           try
             have z0 := hT.frozen 0
             have z1 := hT.frozen 1
             have z2 := hT.frozen 2
             have z3 := hT.frozen 3
             have z4 := hT.frozen 4
             have y0 := hT.cell 0
             have y1 := hT.cell 1
             have y2 := hT.cell 2
             have y3 := hT.cell 3
             have y4 := hT.cell 4
             simp at y0 y1 y2 y3 y4
             have hk5 := (cell_far5 (i0 := 0) (i1 := 1) (i2 := 2) (i3 := 3) (i4 := 4) (x0 := .int .i64 (lv : Int)) (x1 := .slice B4 k d4) (x2 := .slice none 0 0) (x3 := .bool false) (x4 := .int .u64 0) (Nat.ne_of_lt (Nat.lt_of_lt_of_le (Nat.lt_trans hbl hs1) (HLE.out _ hX)))).trans hk))
    all_goals
      go_wp2_with fail
      go_meet
    all_goals
      first
        | exact ⟨_, B4, d4, rfl, HLE.out _ hX, hT.set5, own_set5_ty ho4 hT (by decide), below_set5 hd (HLE.out _ hX)⟩
        | exact ⟨_, B4, d4, rfl, HLE.out _ hd, Blk.new _ _ _, own_below ho4 ((Below.refl _ _).alloc (Nat.le_refl _) _), below_alloc hd (Nat.le_refl _) _⟩
  case rest =>
    obtain ⟨g3, B4, d4, rfl, hg3, hT, ho4, hdc⟩ := hcut
    have HKI := hide (ref_kids (some ⟨b, o, none⟩) n c k lv G wc (HE1.out.below hdc) HNC.out HK.out (by omega) hn (by omega) hlv HPP.out (fun W hW => HL1.out W (below_then hdc hW)))
    have HT := hide hT
    have HO4 := hide ho4
    clear hT ho4 hd k1
    go_wp2_with fail
    refine HKI.out.mono ?_
    rintro e w5 ⟨C, f, rfl, ho5, hb5⟩
    have hc5 := below_then hdc hb5
    have HT5 := hide (HT.out.below hb5)
    have HO45 := hide (own_below HO4.out hb5)
    have HO5 := hide ho5
    have hGn : G.length ≤ 65536 := by
      have h1 : ∀ (H : List (List ER)), (∀ g ∈ H, g ≠ []) → H.length ≤ H.flatten.length := by
        intro H
        induction H with
        | nil => intro _; simp
        | cons g H ih =>
          intro hH
          have h1 := ih fun g' hg' => hH g' (List.mem_cons_of_mem _ hg')
          have h2 := List.length_pos_iff.2 (hH g List.mem_cons_self)
          rw [List.flatten_cons, List.length_append, List.length_cons]; omega
      have h2 := h1 G HPP.out.ne
      rw [HE.out.len] at h2
      omega
    clear ho5 HT HO4 HKI hb5
    go_wp2
    go_loopw [5] (fun x5 wr => ∃ (j : Nat) (vp : Value), x5 = .int .i64 (j : Int) ∧ j ≤ G.length ∧ Blk wr g3 75 #[.int .i64 (lv : Int), .slice B4 k d4, vp, .bool false, .int .u64 0] ∧ wr.ownsRow w1.heap.size 3 1 vp j (((placesG G lv).take j).map fun (x : Nat) => .int .i64 (x : Int)) ∧ wr.ownsRow w1.heap.size 36 1 (.slice B4 k d4) k (u64s (cut (lv + 1) r0.p)) ∧ wr.ownsRow w1.heap.size 40 1 (.slice C G.length f) G.length (segvs (some ⟨b, o, none⟩) c G G.length) ∧ Below w1.heap.size w1 wr) (fun x _ => G.length - (intOf x).toNat)
    case atStart => exact ⟨0, .slice none 0 0, rfl, Nat.zero_le _, HT5.out, own_nil _ _ _ _, HO45.out, own_lower HO5.out hdc.size, hc5⟩
    case round =>
      obtain ⟨j, vp, rfl, hj, hT, hvp, hB4, hC, hb⟩ := hrel
      by_cases hjn : j < G.length
      · obtain ⟨g, hg⟩ : ∃ g, G[j]? = some g := ⟨G[j], List.getElem?_eq_getElem hjn⟩
        have hE1 := HE1.out.below hb
        obtain ⟨s1, s2, s3⟩ := hE1.seg HNC.out hg
        have hg0 : 0 < g.length := List.length_pos_iff.2 (HPP.out.ne g (List.mem_of_getElem? hg))
        obtain ⟨b2, o2, r1, hA2, hbl2, hr1, hok1, k2, -⟩ := s2.at_ (i := 0) hg0
        have hr1n := HK.out r1 (List.mem_flatten.2 ⟨g, List.mem_of_getElem? hg, List.mem_of_getElem? hr1⟩)
        rw [hr1n] at k2
        have hp1 := hok1.1
        rw [hr1n] at hp1
        simp only [Nat.zero_mul, Nat.add_zero] at k2
        rw [hA2] at s1
        obtain ⟨b5, o5, rfl, hbl5, u, hu, k5⟩ := (own_rw hC).2.one hjn
        have hu2 : u = .slice (some ⟨b2, o2, none⟩) g.length (c - fl G j) := by
          unfold segvs at hu
          rw [List.getElem?_map, List.getElem?_range hjn] at hu
          simp at hu
          rw [← hu, s1]
        rw [hu2] at k5
        obtain ⟨A6, c6, hv6, hn6, -⟩ := Rw.of_own hvp
        subst hv6
        have t0 := hT.cell 0
        have t2 := hT.cell 2
        simp at t0 t2
        have hg0' : (0 : Int) < (g.length : Int) := by omega
        have HT := hide hT
        have HVP := hide hvp
        have HB4 := hide hB4
        have HC := hide hC
        have HB := hide hb
        have HP1 := hide hp1
        have hplace : (placesG G lv)[j]? = some (addrOf r1.p lv) := by
          unfold placesG
          rw [List.getElem?_map, hg]
          have : g.head? = some r1 := by rw [List.head?_eq_getElem?]; exact hr1
          simp [this]
        have HPL := hide hplace
        clear hT hvp hB4 hC hb hp1 hE1 s1 s2 s3 hr1 hok1 hr1n hu hu2 hg hA2 hplace
        generalize c - fl G j = cg at *
        generalize g.length = gl at *
        rename World => wz
        have hz1 := (below_alloc HB.out (Nat.le_refl _) (.cells #[.int .i64 (addrOf r1.p lv : Nat)] 3)).drew
        have HTz := hide (show Blk (wz.alloc (.cells #[.int .i64 (addrOf r1.p lv : Nat)] 3)).drew g3 75 #[.int .i64 (lv : Int), .slice B4 k d4, .slice A6 j c6, .bool false, .int .u64 0] from (HT.out.alloc _).drewN 1)
        have hqz : Below wz.heap.size wz (wz.alloc (.cells #[.int .i64 (addrOf r1.p lv : Nat)] 3)).drew := ((Below.refl _ wz).alloc (Nat.le_refl _) _).drew
        have HVPz := hide (own_below HVP.out hqz)
        have HB4z := hide (own_below HB4.out hqz)
        have HCz := hide (own_below HC.out hqz)
        have t2z := HTz.out.cell 2
        simp at t2z
        go_upto_region 8 with fail
        go_region_law (first
          | (refine step_app _ (by rfl) (.tmp 37) (.tmp 48) _ (by rfl) w1.heap.size 3 _ 1 8 Try.underlying73 info_i rfl (by omega) _ j _ (by rfl) HVPz.out (some ⟨wz.heap.size, 0, none⟩) 1 1 [.int .i64 (addrOf r1.p lv : Nat)] (by rfl) w1 hz1 (Nat.le_refl _) (Rw.new1 wz 3 #[.int .i64 (addrOf r1.p lv : Nat)] rfl) ?h2 (by unfold maxLen; omega) (by omega) ?_
             case h2 =>
               intro u hu
               rw [List.mem_singleton] at hu
               rw [hu]
               rfl
             intro v8 w8 ho8 hb8 hg8
             obtain ⟨A8, c8, rfl, -, -⟩ := Rw.of_own ho8
             have hT8 := HTz.out.grown HVPz.out (by decide) hg8
             have HB48 := hide (own_grown HB4z.out HVPz.out (by decide) hg8)
             have HC8 := hide (own_grown HCz.out HVPz.out (by decide) hg8)
             have y2 := hT8.cell 2
             have z2 := hT8.frozen 2
             simp at y2
             have HT8 := hide hT8
             have HO8 := hide ho8
             have HB8 := hide hb8
             clear ho8 hb8 hg8 hT8)
          | (go_simp
             go_at_call 57
             refine (ref_addr r1.A k r1.c lv r1.p wz.drew (HP1.out.below (Below.refl _ wz).drew) (by omega) hlv).mono ?_
             rintro e w7 ⟨rfl, rfl⟩))
        all_goals
          go_wp2_with fail
          go_roundw
          case rel =>
            refine ⟨j + 1, .slice A8 (j + 1) c8, by go_num, by omega, HT8.out.set1 _, ?_, own_set_ty HB48.out HT8.out (by decide), own_set_ty HC8.out HT8.out (by decide), HB8.out.setCell (p := ⟨g3, 2, none⟩) hg3 _⟩
            have hl := (List.getElem?_eq_some_iff.1 HPL.out).1
            have he := (List.getElem?_eq_some_iff.1 HPL.out).2
            rw [List.take_succ_eq_append_getElem hl, he, List.map_append]
            exact own_set_ty HO8.out HT8.out (by decide)
          case measure => simp [intOf]; omega
      · have hj' : j = G.length := by omega
        rename World => wz
        have kk : wz.cell? ⟨b, o, none⟩ = some (.slice r0.A k r0.c) := HC.out wz hb
        have HDE := hide (ref_dense k G.length wz (by omega) (by omega))
        rw [hj', List.take_of_length_le (by unfold placesG; rw [List.length_map]; omega)] at hvp
        obtain ⟨A6, c6, hv6, hn6, -⟩ := Rw.of_own hvp
        subst hv6
        have e9 : decide ((j : Int) < (G.length : Int)) = false := by simp; omega
        have hT2 := hT.set1 (i := 3) (.bool (denseB k G.length))
        have hvp2 := own_set_ty (g := g3) (i := 3) (u := .bool (denseB k G.length)) hvp hT (by decide)
        have hB42 := own_set_ty (g := g3) (i := 3) (u := .bool (denseB k G.length)) hB4 hT (by decide)
        have hb2 := below_set1 (g := g3) (i := 3) (x := .bool (denseB k G.length)) hb hg3
        have hN2 := (HN1.out.belowB hb2 hs1)
        have z0 := hN2.frozen 0
        have z1 := hN2.frozen 1
        have z2 := hN2.frozen 2
        have z3 := hN2.frozen 3
        have z4 := hN2.frozen 4
        have y0 := hN2.cell 0
        have y1 := hN2.cell 1
        have y2 := hN2.cell 2
        have y3 := hN2.cell 3
        have y4 := hN2.cell 4
        simp at y0 y1 y2 y3 y4
        have x0 := hT2.cell 0
        have x1 := hT2.cell 1
        have x2 := hT2.cell 2
        have x3 := hT2.cell 3
        have x4 := hT2.cell 4
        simp at x0 x1 x2 x3 x4
        have u3 := hT.cell 3
        have v3 := hT.frozen 3
        simp at u3
        have e5 := hN2.set5 (x0 := .int .i64 (lv : Int)) (x1 := .slice B4 k d4) (x2 := .slice A6 G.length c6) (x3 := .bool (denseB k G.length)) (x4 := .int .u64 0)
        have hs0 : w.heap.size < w1.heap.size := hs1
        have b5 := below_set5 (x0 := .int .i64 (lv : Int)) (x1 := .slice B4 k d4) (x2 := .slice A6 G.length c6) (x3 := .bool (denseB k G.length)) (x4 := .int .u64 0) (below_then b1 hb2) (Nat.le_refl w.heap.size)
        have o5 := own_far5 (g := w.heap.size) (x0 := .int .i64 (lv : Int)) (x1 := .slice B4 k d4) (x2 := .slice A6 G.length c6) (x3 := .bool (denseB k G.length)) (x4 := .int .u64 0) hB42 hs0
        have o6 := own_far5 (g := w.heap.size) (x0 := .int .i64 (lv : Int)) (x1 := .slice B4 k d4) (x2 := .slice A6 G.length c6) (x3 := .bool (denseB k G.length)) (x4 := .int .u64 0) hvp2 hs0
        have g0 := e5.cell 0
        have g1 := e5.cell 1
        have g2 := e5.cell 2
        have g3' := e5.cell 3
        have g4 := e5.cell 4
        simp only [List.getElem?_toArray] at g0 g1 g2 g3' g4
        have HO5' := hide o5
        have HO6' := hide o6
        have HB5' := hide b5
        have HJ := hide hj'
        clear hT hvp hB4 hC hT2 hvp2 hB42 hb2 hN2 e5 b5 o5 o6 hj' hb
        go_wp2_with fail
        refine HDE.out.mono ?_
        rintro e w9 ⟨rfl, rfl⟩
        go_wp2
        refine bodyPost_ret (v := .agg #[.int .i64 (lv : Int), .slice B4 k d4, .slice A6 G.length c6, .bool (denseB k G.length), .int .u64 0]) (by simp [results, Try.results36, go_sem, g0, g1, g2, g3', g4]) rfl ⟨B4, d4, A6, c6, rfl, (own_rw HO5'.out).2, (own_rw HO6'.out).2, HB5'.out, own_ty HO5'.out, own_ty HO6'.out⟩
end
section
open Go.RowKit
/-- The rows of a node's kids. -/
theorem split_rows : ∀ (ks : List Kid) (rows : List ER), ents rows = kidEs ks → ∃ G : List (List ER), G.flatten = rows ∧ G.length = ks.length ∧ ∀ (i : Nat) (g : List ER) (q : Kid), G[i]? = some g → ks[i]? = some q → ents g = q.es
  | [], rows, h => by
    refine ⟨[], ?_, rfl, fun i g q hg => by simp at hg⟩
    have : rows = [] := by
      unfold ents kidEs at h
      simpa using h
    rw [this]; rfl
  | q :: ks, rows, h => by
    have h' : ents rows = q.es ++ kidEs ks := by rw [h]; unfold kidEs; rw [List.flatMap_cons]
    have h1 : ents (rows.take q.es.length) = q.es := by
      unfold ents at h' ⊢
      rw [List.map_take, h', List.take_left' rfl]
    have h2 : ents (rows.drop q.es.length) = kidEs ks := by
      unfold ents at h' ⊢
      rw [List.map_drop, h', List.drop_left' rfl]
    obtain ⟨G, g1, g2, g3⟩ := split_rows ks _ h2
    refine ⟨rows.take q.es.length :: G, ?_, by simp [g2], ?_⟩
    · rw [List.flatten_cons, g1, List.take_append_drop]
    · intro i g r hg hr
      cases i with
      | zero =>
        simp at hg hr
        rw [← hg, ← hr]; exact h1
      | succ i => exact g3 i g r (by simpa using hg) (by simpa using hr)
theorem ents_mem {rows : List ER} {r : ER} (h : r ∈ rows) : (r.p, r.v) ∈ ents rows := List.mem_map.2 ⟨r, h, rfl⟩
/-- What a fork's lists are. -/
structure ForkG (k lv : Nat) (pre : List Nat) (ks : List Kid) (G : List (List ER)) : Prop where
  len : G.length = ks.length
  es : ∀ (i : Nat) (g : List ER) (q : Kid), G[i]? = some g → ks[i]? = some q → ents g = q.es
  parts : Parts G lv
  at_ : ∀ (i : Nat) (g : List ER) (q : Kid) (r : ER), G[i]? = some g → ks[i]? = some q → r ∈ g → addrOf r.p lv = q.at_
  hi : ∀ r ∈ G.flatten, ∀ b, lv < b → addrOf r.p b = addrOf pre b
theorem forkG {w : World} {k g lv : Nat} {pre : List Nat} {ks : List Kid} (h : Fork w k g lv pre ks) {rows : List ER} (he : ents rows = kidEs ks) : ∃ G, G.flatten = rows ∧ ForkG k lv pre ks G := by
  obtain ⟨A, c, gs, hlv, hp, hkc, hz, hk, hl, ha, hs, h2, hS, hB⟩ := h
  obtain ⟨G, g1, g2, g3⟩ := split_rows ks rows he
  have hat : ∀ (i : Nat) (g : List ER) (q : Kid) (r : ER), G[i]? = some g → ks[i]? = some q → r ∈ g → addrOf r.p lv = q.at_ := by
    intro i g q r hg hq hr
    have hqm := List.mem_of_getElem? hq
    have hm := ents_mem hr
    rw [g3 i g q hg hq] at hm
    have := ((hk q hqm).info.2.2.2.2.1 _ hm).2.2 lv (hl q hqm)
    rw [← (ha q hqm).1]
    exact this
  have hq_of : ∀ (i : Nat) (g : List ER), G[i]? = some g → ∃ q, ks[i]? = some q := fun i g hg => by
    have := (List.getElem?_eq_some_iff.1 hg).1
    exact ⟨ks[i]'(by omega), List.getElem?_eq_getElem _⟩
  refine ⟨G, g1, g2, g3, ⟨?_, ?_, ?_⟩, hat, ?_⟩
  · intro g hg h0
    obtain ⟨i, hi⟩ := List.getElem?_of_mem hg
    obtain ⟨q, hq⟩ := hq_of i g hi
    have := (hk q (List.mem_of_getElem? hq)).info.2.1
    rw [← g3 i g q hi hq, h0] at this
    exact this rfl
  · intro g hg r hr s hs
    obtain ⟨i, hi⟩ := List.getElem?_of_mem hg
    obtain ⟨q, hq⟩ := hq_of i g hi
    rw [hat i g q r hi hq hr, hat i g q s hi hq hs]
  · rw [List.pairwise_iff_getElem]
    intro i j hi hj hij r hr s hs'
    have hgi : G[i]? = some G[i] := List.getElem?_eq_getElem hi
    have hgj : G[j]? = some G[j] := List.getElem?_eq_getElem hj
    have hqi : ks[i]? = some (ks[i]'(by omega)) := List.getElem?_eq_getElem _
    have hqj : ks[j]? = some (ks[j]'(by omega)) := List.getElem?_eq_getElem _
    rw [hat i _ _ r hgi hqi hr, hat j _ _ s hgj hqj hs']
    have := (List.pairwise_iff_getElem.1 hs) i j (by omega) (by omega) hij
    omega
  · intro r hr b hb
    obtain ⟨g, hg, hr⟩ := List.mem_flatten.1 hr
    obtain ⟨i, hi⟩ := List.getElem?_of_mem hg
    obtain ⟨q, hq⟩ := hq_of i g hi
    have hqm := List.mem_of_getElem? hq
    have hm := ents_mem hr
    rw [g3 i g q hi hq] at hm
    have h1 := ((hk q hqm).info.2.2.2.2.1 _ hm).2.2 b (by have := hl q hqm; omega)
    rw [← (ha q hqm).2 b hb]
    exact h1
theorem ForkG.places {k lv : Nat} {pre : List Nat} {ks : List Kid} {G : List (List ER)} (h : ForkG k lv pre ks G) : placesG G lv = ks.map (·.at_) := by
  unfold placesG
  apply List.ext_getElem (by simp [h.len])
  intro i h1 h2
  simp only [List.length_map] at h1 h2
  have hg : G[i]? = some G[i] := List.getElem?_eq_getElem h1
  have hq : ks[i]? = some ks[i] := List.getElem?_eq_getElem h2
  rw [List.getElem_map, List.getElem_map]
  obtain ⟨r, t, hrt⟩ := List.exists_cons_of_ne_nil (h.parts.ne G[i] (List.mem_of_getElem? hg))
  rw [hrt]
  simp only [List.head?_cons, Option.map_some, Option.getD_some]
  exact h.at_ i _ _ r hg hq (by rw [hrt]; exact List.mem_cons_self)
/-- The first and the last row part at the node's level. -/
theorem ForkG.part_ {w : World} {k g lv : Nat} {pre : List Nat} {ks : List Kid} {G : List (List ER)} (h : ForkG k lv pre ks G) (hF : Fork w k g lv pre ks) {W : World} {A : Option Addr} {n : Nat} (hE : EntsAt W A n G.flatten) (hk : ∀ r ∈ G.flatten, r.n = k) :
    ∃ r s, G.flatten[0]? = some r ∧ G.flatten[n - 1]? = some s ∧ part r.p s.p = (lv : Int) ∧ cut (lv + 1) r.p = pre ∧ 2 ≤ n := by
  obtain ⟨A', c, gs, hlv, hp, hkc, hz, hkk, hl, ha, hs, h2, hS, hB⟩ := hF
  have hlen := hE.len
  have hGl := h.len
  have hg0 : G[0]? = some (G[0]'(by omega)) := List.getElem?_eq_getElem _
  have hgl : G[G.length - 1]? = some (G[G.length - 1]'(by omega)) := List.getElem?_eq_getElem _
  generalize G[0]'(by omega) = g0 at hg0
  generalize G[G.length - 1]'(by omega) = gl at hgl
  have n0 := List.length_pos_iff.2 (h.parts.ne g0 (List.mem_of_getElem? hg0))
  have nl := List.length_pos_iff.2 (h.parts.ne gl (List.mem_of_getElem? hgl))
  have hf0 : G.flatten[0]? = some (g0[0]'n0) := by
    have := fl_get hg0 n0 (d := 0)
    rw [fl_zero] at this
    rw [this]; exact List.getElem?_eq_getElem _
  have hfl : fl G (G.length - 1) + gl.length = n := by
    have h1 := fl_succ hgl
    rw [← h1, fl_all G (by omega)]
    exact hlen
  have hfL : G.flatten[n - 1]? = some (gl[gl.length - 1]'(by omega)) := by
    have := fl_get hgl (d := gl.length - 1) (by omega)
    rw [show fl G (G.length - 1) + (gl.length - 1) = n - 1 by omega] at this
    rw [this]; exact List.getElem?_eq_getElem _
  have m0 : g0[0] ∈ g0 := List.getElem_mem _
  have ml : gl[gl.length - 1] ∈ gl := List.getElem_mem _
  generalize g0[0]'n0 = r at *
  generalize gl[gl.length - 1]'(by omega) = s at *
  have hq0 : ks[0]? = some (ks[0]'(by omega)) := List.getElem?_eq_getElem _
  have hql : ks[G.length - 1]? = some (ks[G.length - 1]'(by omega)) := List.getElem?_eq_getElem _
  have a0 := h.at_ 0 g0 _ r hg0 hq0 m0
  have al := h.at_ (G.length - 1) gl _ s hgl hql ml
  have hlt := (List.pairwise_iff_getElem.1 hs) 0 (G.length - 1) (by omega) (by omega) (by omega)
  have mr : r ∈ G.flatten := List.mem_of_getElem? hf0
  have ms : s ∈ G.flatten := List.mem_of_getElem? hfL
  have zr : Zp k r.p := by have := (hE.2 r mr).1.zp; rwa [hk r mr] at this
  have zs : Zp k s.p := by have := (hE.2 s ms).1.zp; rwa [hk s ms] at this
  refine ⟨r, s, hf0, hfL, part_unique zr zs (fun b hb => ?_) (by omega), ?_, ?_⟩
  · rw [h.hi r mr b hb, h.hi s ms b hb]
  · refine eq_of_addr (zp_cut zr) hp.zp fun b => ?_
    rcases Nat.lt_or_ge lv b with hb | hb
    · rw [addr_cut_hi _ (by omega)]; exact h.hi r mr b hb
    · rw [addr_cut_lo _ (by omega)]; exact (hz b hb).symm
  · rcases Nat.lt_or_ge n 2 with hn | hn
    · have : n - 1 = 0 := by omega
      rw [this, hf0] at hfL
      injection hfL with hfL
      subst hfL
      omega
    · exact hn
end
section
open Go.RowKit
theorem places_int (ks : List Kid) : (ks.map fun q => Value.int .i64 (q.at_ : Int)) = ((ks.map fun q => (q.at_ : Int)).map fun z => Value.int .i64 z) := by simp [Function.comp_def]
theorem placesG_int {k lv : Nat} {pre : List Nat} {ks : List Kid} {G : List (List ER)} (h : ForkG k lv pre ks G) : ((placesG G lv).map fun (x : Nat) => Value.int .i64 (x : Int)) = ((ks.map fun q => (q.at_ : Int)).map fun z => Value.int .i64 z) := by
  rw [h.places]; simp [Function.comp_def]
end
section
open Go.RowKit
/-- An entry's node, its point a row of its own. -/
def LeafAt (w : World) (k g : Nat) (p : List Nat) (v : Nat) : Prop := ∃ A c, Blk w g 103 (nodeCells (-1) A k c v none ⟨1, v, v, v⟩) ∧ w.ownsRow 0 36 1 (.slice A k c) k (u64s p) ∧ k ≤ c ∧ Zp k p ∧ v < 2 ^ 64
theorem LeafAt.node {w : World} {k g : Nat} {p : List Nat} {v : Nat} (h : LeafAt w k g p v) : NodeOf w k g (-1) p [(p, v)] := by
  obtain ⟨A, c, h1, h2, h3, h4, h5⟩ := h
  exact .leaf h5 ⟨h4.1, (own_rw h2).2, h4.2⟩ h3 h1
theorem LeafAt.stay {w w' : World} {k g : Nat} {p : List Nat} {v : Nat} (h : LeafAt w k g p v) (hb : Below w.heap.size w w') : LeafAt w' k g p v := by
  obtain ⟨A, c, h1, h2, h3, h4, h5⟩ := h
  exact ⟨A, c, h1.below hb, own_below h2 hb, h3, h4, h5⟩
theorem LeafAt.grown {w w' : World} {k g base sz n : Nat} {p : List Nat} {v : Nat} {u : Value} {xs : List Value} (h : LeafAt w k g p v) (ho : w.ownsRow base 51 sz u n xs) (hg : w.grownBy w' u.ownBlock) : LeafAt w' k g p v := by
  obtain ⟨A, c, h1, h2, h3, h4, h5⟩ := h
  exact ⟨A, c, h1.grown ho (by decide) hg, own_grown h2 ho (by decide) hg, h3, h4, h5⟩
theorem info_n : (Try.prog.info? 51).map (fun i => (i.zero, i.size, i.bytes)) = some (some (.pointer none), 1, 8) := by kernel_rfl
def ptrs (gs : List Nat) : List Value := gs.map fun g => Value.pointer (some ⟨g, 0, none⟩)
end
end Go.Proofs.Ytfoapkcgdkfggaa
