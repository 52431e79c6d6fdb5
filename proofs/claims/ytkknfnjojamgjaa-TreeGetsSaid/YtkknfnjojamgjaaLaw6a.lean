/- pantilelaw06.awake: the chapter's example. -/
import Derived.Test.YtkknfnjojamgjaaNd8
import Derived.Test.YtkknfnjojamgjaaNd9
import Derived.Test.YtkknfnjojamgjaaRefS
import Derived.Test.YtkknfnjojamgjaaPtr
set_option linter.unusedSimpArgs false
set_option linter.unusedVariables false
namespace Go.Proofs.Ytkknfnjojamgjaa
open Go.RowKit
theorem u64s_int (p : List Nat) : u64s p = (p.map fun (x : Nat) => (x : Int)).map fun z => Value.int .u64 z := by
  unfold u64s; simp [Function.comp_def]
theorem Fork.head {w : World} {k g lv : Nat} {pre : List Nat} {ks : List Kid} (h : Fork w k g lv pre ks) :
    ∃ A c gs, Pt w A k pre ∧ SlotsAt_n w gs k (kidTh ks) ∧ Blk w g 139 (nodeCells lv A k c 0 (some ⟨gs, 0, none⟩) (sumsOf (kidEs ks))) := by
  obtain ⟨A, c, gs, h1, h2, h3, h4, h5, h6, h7, h8, h9, h10, h11⟩ := h
  exact ⟨A, c, gs, h2, h10, h11⟩
set_option maxHeartbeats 4000000 in
set_option maxRecDepth 100000 in
theorem awake6 (w : World) :
    Calls Try.prog 32 #[] w fun e w' => e = .returned (.bool true) ∧ Below w.heap.size w w' := by
  have b1 := (Below.refl w.heap.size w).alloc (Nat.le_refl _) (.cells #[.int .u64 4, .int .u64 0] 28)
  have hN1 := Blk.new w 28 #[.int .u64 4, .int .u64 0]
  have hP1 : Pt (w.alloc (.cells #[.int .u64 4, .int .u64 0] 28)) (some ⟨w.heap.size, 0, none⟩) 2 [4, 0] := by
    refine ⟨rfl, Rw.of_blk hN1 rfl ?_, by decide⟩
    intro j u h
    simpa [u64s] using h
  have HL := hide (nd_leaf _ 2 2 [4, 0] 1 _ hP1 (by omega) (by omega) (by omega))
  clear hN1 hP1
  go_enter Try.func32, Try.ntmps32
  go_wp2_with fail
  refine HL.out.mono ?_
  rintro e w1 ⟨g1, rfl, hn1, hg1, hb1⟩
  have hc1 := below_then b1 hb1
  clear b1 HL
  have b2 := (Below.refl w1.heap.size w1).alloc (Nat.le_refl _) (.cells #[.int .u64 7, .int .u64 3] 28)
  have hN2 := Blk.new w1 28 #[.int .u64 7, .int .u64 3]
  have hP2 : Pt (w1.alloc (.cells #[.int .u64 7, .int .u64 3] 28)) (some ⟨w1.heap.size, 0, none⟩) 2 [7, 3] := by
    refine ⟨rfl, Rw.of_blk hN2 rfl ?_, by decide⟩
    intro j u h
    simpa [u64s] using h
  have HL := hide (nd_leaf _ 2 2 [7, 3] 2 _ hP2 (by omega) (by omega) (by omega))
  have hg1l := hn1.info.2.2.2.2.2.2
  have hn1' := hide (hn1.stay b2)
  clear hn1
  clear hN2 hP2
  go_wp2_with fail
  refine HL.out.mono ?_
  rintro e w2 ⟨g2, rfl, hn2, hg2, hb2⟩
  have hn1 := hn1'.out.stay hb2
  have hc2 := below_then (below_then hc1 b2) hb2
  have hp12 : part [4, 0] [7, 3] = 1 := by decide
  have HPR := hide (nd_pair (m := 1) hn1 hn2 (by omega) (by omega) hp12 (by decide) (by decide))
  have h1l := hn1.info.2.2.2.2.2.2
  have h2l := hn2.info.2.2.2.2.2.2
  have hne : g1 ≠ g2 := by have := b2.size; omega
  clear b2 hn1 hn2 hn1' HL hb1 hb2 hc1
  go_wp2_with fail
  refine HPR.out.mono ?_
  rintro e w3 ⟨g3, rfl, hf3, hg3, hb3⟩
  have hc3 := below_then hc2 hb3
  have hks : pairK g1 g2 (-1) (-1) [4, 0] [7, 3] [([4, 0], 1)] [([7, 3], 2)] 1 = [⟨0, g1, -1, [4, 0], [([4, 0], 1)]⟩, ⟨3, g2, -1, [7, 3], [([7, 3], 2)]⟩] := by
    rw [pairK_eq (by decide)]; rfl
  have hcut : cut 2 [4, 0] = [4, 0] := by decide
  rw [hks, hcut] at hf3
  obtain ⟨A3, c3, gs3, hp3, hS3, hB3⟩ := hf3.head
  have HSH := hide (nd_shape_fork (ks := [⟨0, g1, -1, [4, 0], [([4, 0], 1)]⟩, ⟨3, g2, -1, [7, 3], [([7, 3], 2)]⟩]) hB3 hp3 (by omega) hS3)
  have HB3 := hide hB3
  have HS3 := hide hS3
  clear hB3 hS3 hf3 hks hcut HPR hp3 hb3
  go_wp2_with fail
  refine HSH.out.mono ?_
  rintro e w4 ⟨B, d, C, f, rfl, hRB, hRC, hb4⟩
  have b5 := (Below.refl w4.heap.size w4).alloc (Nat.le_refl _) (.cells #[.int .u64 4, .int .u64 0] 28)
  have hX := (Blk.new w4 28 #[.int .u64 4, .int .u64 0]).alloc (.cells #[.int .i64 0, .int .i64 3] 3)
  have hY := Blk.new (w4.alloc (.cells #[.int .u64 4, .int .u64 0] 28)) 3 #[.int .i64 0, .int .i64 3]
  have b6 := below_alloc b5 (Nat.le_refl _) (.cells #[.int .i64 0, .int .i64 3] 3)
  have hY' : Rw ((w4.alloc (.cells #[.int .u64 4, .int .u64 0] 28)).alloc (.cells #[.int .i64 0, .int .i64 3] 3)) 1 (some ⟨w4.heap.size + 1, 0, none⟩) 2 ([0, 3].map fun (z : Int) => Value.int .i64 z) := by
    have hs : (w4.alloc (.cells #[.int .u64 4, .int .u64 0] 28)).heap.size = w4.heap.size + 1 := by simp
    rw [hs] at hY
    refine Rw.of_blk hY rfl ?_
    intro j u h
    simpa using h
  have hX' : Rw ((w4.alloc (.cells #[.int .u64 4, .int .u64 0] 28)).alloc (.cells #[.int .i64 0, .int .i64 3] 3)) 1 (some ⟨w4.heap.size, 0, none⟩) 2 ([4, 0].map fun (z : Int) => Value.int .u64 z) := by
    refine Rw.of_blk hX rfl ?_
    intro j u h
    simpa using h
  have HSS := hide (same_shape B (some ⟨w4.heap.size, 0, none⟩) C (some ⟨w4.heap.size + 1, 0, none⟩) 2 d 2 2 f 2 1 false 0 [4, 0] [0, 3] _ (hRB.below b6) hX' (hRC.below b6) hY' (by omega) (by omega))
  clear hX hY hX' hY' hRB hRC b5
  have hdn : denseB 2 2 = false := by decide
  go_wp2_with fail
  refine HSS.out.mono ?_
  rintro e w5 ⟨rfl, hb5⟩
  have hc4 := below_then (below_then hc3 hb4) (below_then b6 hb5)
  have hd5 := below_then hb4 (below_then b6 hb5)
  have hB5 := HB3.out.below hd5
  have hS5 := HS3.out.below hd5
  have HK0 := nd_kid hB5 hS5 0
  have q0 := ptr_same ⟨g1, 0, none⟩
  have q3 := ptr_same ⟨g2, 0, none⟩
  have hK0 : (getTh (kidTh [⟨0, g1, -1, [4, 0], [([4, 0], 1)]⟩, ⟨3, g2, -1, [7, 3], [([7, 3], 2)]⟩]) 0).getD (.pointer none) = .pointer (some ⟨g1, 0, none⟩) := by
    simp [getTh, kidTh]
  have hK3 : (getTh (kidTh [⟨0, g1, -1, [4, 0], [([4, 0], 1)]⟩, ⟨3, g2, -1, [7, 3], [([7, 3], 2)]⟩]) 3).getD (.pointer none) = .pointer (some ⟨g2, 0, none⟩) := by
    simp [getTh, kidTh]
  rw [hK0] at HK0
  have HK := hide HK0
  have HE := hide hK3
  have HB5 := hide hB5
  have HS5 := hide hS5
  clear HK0 hK0 hK3 hB5 hS5 HSS b6 hb5
  go_wp2_with fail
  refine HK.out.mono ?_
  rintro e w6 ⟨rfl, hb6⟩
  have HK3 := nd_kid (HB5.out.below hb6) (HS5.out.below hb6) 3
  rw [HE.out] at HK3
  have HK3' := hide HK3
  clear HK3
  go_wp2_with fail
  refine HK3'.out.mono ?_
  rintro e w7 ⟨rfl, hb7⟩
  go_wp2
  go_ret
  exact ⟨rfl, below_then (below_then hc4 hb6) hb7⟩
end Go.Proofs.Ytkknfnjojamgjaa
