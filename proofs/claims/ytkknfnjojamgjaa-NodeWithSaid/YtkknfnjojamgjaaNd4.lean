/- Nodes: Sums, Entry, Shape. -/
import Derived.Test.YtkknfnjojamgjaaNd3
import Derived.Deep.RegionHeld3
import Derived.Deep.Cut
set_option linter.unusedSimpArgs false
set_option linter.unusedVariables false
namespace Go.Proofs.Ytkknfnjojamgjaa
open Go.RowKit
theorem cell_far1 {w : World} {b g i l : Nat} {u : Value} (hne : g ≠ b) : (w.setCell ⟨b, i, none⟩ u).cell? ⟨g, l, none⟩ = w.cell? ⟨g, l, none⟩ :=
  World.cell?_of_block (w := w) (Below.heap_setCell w ⟨b, i, none⟩ u g hne)
theorem cell_far2 {w : World} {b g i j l : Nat} {u v : Value} (hne : g ≠ b) : ((w.setCell ⟨b, i, none⟩ u).setCell ⟨b, j, none⟩ v).cell? ⟨g, l, none⟩ = w.cell? ⟨g, l, none⟩ :=
  (cell_far1 hne).trans (cell_far1 hne)
def Sum4.val (s : Sum4) : Value := .agg #[.int .u64 (s.c : Int), .int .u64 (s.s : Int), .int .u64 (s.mn : Int), .int .u64 (s.mx : Int)]
set_option maxHeartbeats 1000000 in
set_option maxRecDepth 100000 in
theorem nd_sums_nil (w : World) : Calls Try.prog 57 #[.pointer none] w fun e w' => e = .returned (Sum4.val ⟨0, 0, 0, 0⟩) ∧ Below w.heap.size w w' := by
  go_enter Try.func57, Try.ntmps57
  go_wp2
  refine bodyPost_ret (v := Sum4.val ⟨0, 0, 0, 0⟩) (by simp [results, Try.results57, go_sem, Sum4.val]) rfl ⟨rfl, ?_⟩
  exact below_alloc (Below.refl _ _) (Nat.le_refl _) _
set_option maxHeartbeats 1000000 in
set_option maxRecDepth 100000 in
theorem nd_sums {w : World} {g : Nat} {lv : Int} {A : Option Addr} {k c v : Nat} {kids : Option Addr} {s : Sum4} (hB : Blk w g 139 (nodeCells lv A k c v kids s)) :
    Calls Try.prog 57 #[.pointer (some ⟨g, 0, none⟩)] w fun e w' => e = .returned s.val ∧ Below w.heap.size w w' := by
  have hB' := hB.alloc (.cells #[.int .u64 0, .int .u64 0, .int .u64 0, .int .u64 0] 79)
  have c4 := hB'.cell 4
  have c5 := hB'.cell 5
  have c6 := hB'.cell 6
  have c7 := hB'.cell 7
  simp [nodeCells] at c4 c5 c6 c7
  clear hB hB'
  go_enter Try.func57, Try.ntmps57
  go_wp2
  refine bodyPost_ret (v := s.val) (by simp [results, Try.results57, go_sem, Sum4.val]) rfl ⟨rfl, ?_⟩
  exact below_alloc (Below.refl _ _) (Nat.le_refl _) _
set_option maxHeartbeats 1000000 in
set_option maxRecDepth 100000 in
theorem nd_entry_nil (w : World) : Calls Try.prog 48 #[.pointer none] w fun e w' => e = .returned (.tuple #[.agg #[.slice none 0 0, .int .u64 0], .bool false]) ∧ Below w.heap.size w w' := by
  go_enter Try.func48, Try.ntmps48
  go_wp2
  refine bodyPost_ret (v := .tuple #[.agg #[.slice none 0 0, .int .u64 0], .bool false]) (by simp [results, Try.results48, go_sem]) rfl ⟨rfl, ?_⟩
  exact below_alloc (Below.refl _ _) (Nat.le_refl _) _
set_option maxHeartbeats 1000000 in
set_option maxRecDepth 100000 in
theorem nd_entry_fork {w : World} {g : Nat} {lv : Int} {A : Option Addr} {k c v gs : Nat} {s : Sum4} (hB : Blk w g 139 (nodeCells lv A k c v (some ⟨gs, 0, none⟩) s)) :
    Calls Try.prog 48 #[.pointer (some ⟨g, 0, none⟩)] w fun e w' => e = .returned (.tuple #[.agg #[.slice none 0 0, .int .u64 0], .bool false]) ∧ Below w.heap.size w w' := by
  have c3 := (hB.alloc (.cells #[.slice none 0 0, .int .u64 0] 59)).cell 3
  simp [nodeCells] at c3
  clear hB
  go_enter Try.func48, Try.ntmps48
  go_wp2
  refine bodyPost_ret (v := .tuple #[.agg #[.slice none 0 0, .int .u64 0], .bool false]) (by simp [results, Try.results48, go_sem]) rfl ⟨rfl, ?_⟩
  exact below_alloc (Below.refl _ _) (Nat.le_refl _) _
set_option maxHeartbeats 1000000 in
set_option maxRecDepth 100000 in
theorem nd_entry_leaf {w : World} {g : Nat} {lv : Int} {A : Option Addr} {k c v : Nat} {s : Sum4} {p : List Nat} (hB : Blk w g 139 (nodeCells lv A k c v none s)) (hp : Pt w A k p) (hk : k ≤ 16) :
    Calls Try.prog 48 #[.pointer (some ⟨g, 0, none⟩)] w fun e w' => ∃ B d, e = .returned (.tuple #[.agg #[.slice B k d, .int .u64 (v : Int)], .bool true]) ∧ w'.ownsRow (w.heap.size + 1) 28 1 (.slice B k d) k (u64s p) ∧ Below w.heap.size w w' := by
  have b1 := (Below.refl w.heap.size w).alloc (Nat.le_refl _) (.cells #[.slice none 0 0, .int .u64 0] 59)
  have hB1 := hB.alloc (.cells #[.slice none 0 0, .int .u64 0] 59)
  have hN1 := Blk.new w 59 #[.slice none 0 0, .int .u64 0]
  have hp1 := hp.below b1
  have hs1 : (w.alloc (.cells #[.slice none 0 0, .int .u64 0] 59)).heap.size = w.heap.size + 1 := by simp
  have c3 := hB1.cell 3
  have c1 := hB1.cell 1
  have c2 := hB1.cell 2
  simp [nodeCells] at c1 c2 c3
  have hgl := hB.lt
  clear hB
  go_enter Try.func48, Try.ntmps48
  go_upto_region 3 with fail
  generalize w.alloc (.cells #[.slice none 0 0, .int .u64 0] 59) = w1 at *
  have hg1 : g < w1.heap.size := by omega
  go_region_held3 (fun w' => w'.cell? ⟨g, 1, none⟩ = some (.slice A k c) ∧ w'.cell? ⟨g, 2, none⟩ = some (.int .u64 (v : Int)))
    (first
      | go_keep
      | exact hk2
      | exact hk3)
    (first
      | (go_at_call 103
         refine (clone_u64 A k c p w1.drew (hp1.below (Below.refl _ w1).drew) (by omega)).mono ?_
         rintro e w2 ⟨v2, rfl, ho2, hb2⟩
         have hc2 : Below w1.heap.size w1 w2 := (Below.refl _ w1).drew.trans hb2
         obtain ⟨B, d, rfl, -, -⟩ := Rw.of_own ho2
         have hk2 : w2.cell? ⟨g, 1, none⟩ = some (.slice A k c) ∧ w2.cell? ⟨g, 2, none⟩ = some (.int .u64 (v : Int)) := ⟨(hc2.cell (p := ⟨g, 1, none⟩) hg1).trans c1, (hc2.cell (p := ⟨g, 2, none⟩) hg1).trans c2⟩
         have hN2 := hN1.below hc2
         have y0 := hN2.cell 0
         have y1 := hN2.cell 1
         have z0 := hN2.frozen 0
         have z1 := hN2.frozen 1
         try simp at y0 y1
         have hne : g ≠ w.heap.size := by omega
         have hk3 : ((w2.setCell ⟨w.heap.size, 0, none⟩ (.slice B k d)).setCell ⟨w.heap.size, 1, none⟩ (.int .u64 (v : Int))).cell? ⟨g, 1, none⟩ = some (.slice A k c) ∧ ((w2.setCell ⟨w.heap.size, 0, none⟩ (.slice B k d)).setCell ⟨w.heap.size, 1, none⟩ (.int .u64 (v : Int))).cell? ⟨g, 2, none⟩ = some (.int .u64 (v : Int)) :=
           ⟨(cell_far2 hne).trans hk2.1, (cell_far2 hne).trans hk2.2⟩))
  have e3 : Blk ((w2.setCell ⟨w.heap.size, 0, none⟩ (.slice B k d)).setCell ⟨w.heap.size, 1, none⟩ (.int .u64 (v : Int))) w.heap.size 59 #[.slice B k d, .int .u64 (v : Int)] := (hN2.set1 _).set1 _
  have b3 : Below w.heap.size w ((w2.setCell ⟨w.heap.size, 0, none⟩ (.slice B k d)).setCell ⟨w.heap.size, 1, none⟩ (.int .u64 (v : Int))) := ((below_then b1 hc2).setCell (Nat.le_refl _) _).setCell (Nat.le_refl _) _
  have o3 : ((w2.setCell ⟨w.heap.size, 0, none⟩ (.slice B k d)).setCell ⟨w.heap.size, 1, none⟩ (.int .u64 (v : Int))).ownsRow (w.heap.size + 1) 28 1 (.slice B k d) k (u64s p) := by
    have hd : w1.drew.heap.size = w.heap.size + 1 := hs1
    rw [hd] at ho2
    exact ownsRow_setCell_below (ownsRow_setCell_below ho2 (a := ⟨w.heap.size, 0, none⟩) (by simp) _) (a := ⟨w.heap.size, 1, none⟩) (by simp) _
  generalize (w2.setCell ⟨w.heap.size, 0, none⟩ (.slice B k d)).setCell ⟨w.heap.size, 1, none⟩ (.int .u64 (v : Int)) = w3 at *
  have g0 := e3.cell 0
  have g1 := e3.cell 1
  try simp at g0 g1
  have HO := hide o3
  clear o3 ho2 y0 y1 z0 z1 hk2 hk3
  go_wp2
  refine bodyPost_ret (v := .tuple #[.agg #[.slice B k d, .int .u64 (v : Int)], .bool true]) (by simp [results, Try.results48, go_sem, g0, g1]) rfl ⟨B, d, rfl, HO.out, b3⟩
end Go.Proofs.Ytkknfnjojamgjaa
