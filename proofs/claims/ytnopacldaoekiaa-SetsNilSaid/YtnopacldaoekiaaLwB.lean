/- pantilelaw08: the chapter's example; what isn't there. -/
import Derived.Test.YtnopacldaoekiaaLwA
set_option linter.unusedSimpArgs false
set_option linter.unusedVariables false
namespace Go.Proofs.Ytnopacldaoekiaa
open Go.RowKit
/-- Three entries as they are written out. -/
theorem lit3 (w : World) (a b c d e f x y z : Nat) (ha : a < 2 ^ 64) (hb : b < 2 ^ 64) (hc : c < 2 ^ 64) (hd : d < 2 ^ 64) (he : e < 2 ^ 64) (hf : f < 2 ^ 64) (hx : x < 2 ^ 64) (hy : y < 2 ^ 64) (hz : z < 2 ^ 64) :
    EntsAt ((((w.alloc (.cells #[.int .u64 (a : Int), .int .u64 (b : Int)] 25)).alloc (.cells #[.int .u64 (c : Int), .int .u64 (d : Int)] 25)).alloc (.cells #[.int .u64 (e : Int), .int .u64 (f : Int)] 25)).alloc
      (.cells #[.slice (some ⟨w.heap.size, 0, none⟩) 2 2, .int .u64 (x : Int), .slice (some ⟨w.heap.size + 1, 0, none⟩) 2 2, .int .u64 (y : Int), .slice (some ⟨w.heap.size + 1 + 1, 0, none⟩) 2 2, .int .u64 (z : Int)] 27)) (some ⟨w.heap.size + 1 + 1 + 1, 0, none⟩) 3
      [⟨some ⟨w.heap.size, 0, none⟩, 2, 2, [a, b], x⟩, ⟨some ⟨w.heap.size + 1, 0, none⟩, 2, 2, [c, d], y⟩, ⟨some ⟨w.heap.size + 1 + 1, 0, none⟩, 2, 2, [e, f], z⟩] ∧
    Below w.heap.size w ((((w.alloc (.cells #[.int .u64 (a : Int), .int .u64 (b : Int)] 25)).alloc (.cells #[.int .u64 (c : Int), .int .u64 (d : Int)] 25)).alloc (.cells #[.int .u64 (e : Int), .int .u64 (f : Int)] 25)).alloc
      (.cells #[.slice (some ⟨w.heap.size, 0, none⟩) 2 2, .int .u64 (x : Int), .slice (some ⟨w.heap.size + 1, 0, none⟩) 2 2, .int .u64 (y : Int), .slice (some ⟨w.heap.size + 1 + 1, 0, none⟩) 2 2, .int .u64 (z : Int)] 27)) := by
  have p1 := pt_lit2 w a b ha hb
  have b1 := (Below.refl w.heap.size w).alloc (Nat.le_refl _) (.cells #[.int .u64 (a : Int), .int .u64 (b : Int)] 25)
  generalize hw1 : w.alloc (.cells #[.int .u64 (a : Int), .int .u64 (b : Int)] 25) = w1 at *
  have s1 : w1.heap.size = w.heap.size + 1 := by rw [← hw1]; simp
  have p2 := pt_lit2 w1 c d hc hd
  have b2 := (Below.refl w1.heap.size w1).alloc (Nat.le_refl _) (.cells #[.int .u64 (c : Int), .int .u64 (d : Int)] 25)
  generalize hw2 : w1.alloc (.cells #[.int .u64 (c : Int), .int .u64 (d : Int)] 25) = w2 at *
  have s2 : w2.heap.size = w.heap.size + 1 + 1 := by rw [← hw2]; simp [s1]
  have p3 := pt_lit2 w2 e f he hf
  have b3 := (Below.refl w2.heap.size w2).alloc (Nat.le_refl _) (.cells #[.int .u64 (e : Int), .int .u64 (f : Int)] 25)
  generalize hw3 : w2.alloc (.cells #[.int .u64 (e : Int), .int .u64 (f : Int)] 25) = w3 at *
  have s3 : w3.heap.size = w.heap.size + 1 + 1 + 1 := by rw [← hw3]; simp [s2]
  have b4 := (Below.refl w3.heap.size w3).alloc (Nat.le_refl _) (.cells #[.slice (some ⟨w.heap.size, 0, none⟩) 2 2, .int .u64 (x : Int), .slice (some ⟨w.heap.size + 1, 0, none⟩) 2 2, .int .u64 (y : Int), .slice (some ⟨w.heap.size + 1 + 1, 0, none⟩) 2 2, .int .u64 (z : Int)] 27)
  have n4 := Blk.new w3 27 #[.slice (some ⟨w.heap.size, 0, none⟩) 2 2, .int .u64 (x : Int), .slice (some ⟨w.heap.size + 1, 0, none⟩) 2 2, .int .u64 (y : Int), .slice (some ⟨w.heap.size + 1 + 1, 0, none⟩) 2 2, .int .u64 (z : Int)]
  rw [s3] at n4
  rw [s1] at p2
  rw [s2] at p3
  refine ⟨⟨Rw.of_blk n4 rfl (fun j u hu => by simpa [entv] using hu), fun r hr => ?_⟩, below_then b1 (below_then b2 (below_then b3 b4))⟩
  simp only [List.mem_cons, List.not_mem_nil, or_false] at hr
  rcases hr with rfl | rfl | rfl
  · exact ⟨p1.below (below_then b2 (below_then b3 b4)), by simp, by simp [maxLen], hx⟩
  · exact ⟨p2.below (below_then b3 b4), by simp, by simp [maxLen], hy⟩
  · exact ⟨p3.below b4, by simp, by simp [maxLen], hz⟩
theorem ent_none {w : World} {k : Nat} {e : Ending} {w' : World} (h : EntOut w k none e w') : e = .returned (.tuple #[.agg #[.slice none 0 0, .int .u64 0], .bool false]) ∧ Below w.heap.size w w' := by
  obtain ⟨r, ok, rfl, ⟨h1, ⟨_, _, h2⟩ | ⟨rfl, rfl, _⟩⟩, hb⟩ := h
  · cases h2
  · exact ⟨rfl, hb⟩
set_option maxHeartbeats 4000000 in
set_option maxRecDepth 100000 in
theorem awake8 (w : World) : Calls Try.prog 18 #[] w fun e w' => e = .returned (.bool true) ∧ Below w.heap.size w w' := by
  have HN := hide (tr_new 2 w (by omega) (by omega))
  go_enter Try.func18, Try.ntmps18
  go_wp2_with fail
  refine HN.out.mono ?_
  rintro e w1 ⟨rfl, hT1, hb1⟩
  have hb2 := below_alloc hb1 (Nat.le_refl _) (.cells #[.int .u64 7, .int .u64 3] 25)
  have hq2 := (Below.refl w1.heap.size w1).alloc (Nat.le_refl _) (.cells #[.int .u64 7, .int .u64 3] 25)
  have HP1 := hide (tr_put (v := 1) (c := 2) (TreeOf.stay ⟨by omega, by omega, .inl ⟨hT1, rfl⟩⟩ hq2) (pt_lit2 w1 7 3 (by omega) (by omega)) (by omega))
  have HB2 := hide hb2
  clear hT1 hb1 hb2 hq2 HN
  go_wp2_with fail
  refine HP1.out.mono ?_
  rintro e w3 ⟨t3, es1, rfl, hT3, hm1, -, hb3⟩
  have hc3 := below_then HB2.out hb3
  have hb4 := below_alloc hc3 (Nat.le_refl _) (.cells #[.int .u64 0, .int .u64 8] 25)
  have hq4 := (Below.refl w3.heap.size w3).alloc (Nat.le_refl _) (.cells #[.int .u64 0, .int .u64 8] 25)
  have HP2 := hide (tr_put (v := 2) (c := 2) (hT3.stay hq4) (pt_lit2 w3 0 8 (by omega) (by omega)) (by omega))
  have HB4 := hide hb4
  have HM1 := hide hm1
  clear hT3 hb3 hc3 hb4 hq4 HP1 HB2 hm1
  go_wp2_with fail
  refine HP2.out.mono ?_
  rintro e w5 ⟨t5, es2, rfl, hT5, hm2, -, hb5⟩
  have hc5 := below_then HB4.out hb5
  have hb6 := below_alloc hc5 (Nat.le_refl _) (.cells #[.int .u64 4, .int .u64 0] 25)
  have hq6 := (Below.refl w5.heap.size w5).alloc (Nat.le_refl _) (.cells #[.int .u64 4, .int .u64 0] 25)
  have HP3 := hide (tr_put (v := 3) (c := 2) (hT5.stay hq6) (pt_lit2 w5 4 0 (by omega) (by omega)) (by omega))
  have HB6 := hide hb6
  have HM2 := hide hm2
  clear hT5 hb5 hc5 hb6 hq6 HP2 HB4 hm2
  go_wp2_with fail
  refine HP3.out.mono ?_
  rintro e w7 ⟨t7, es3, rfl, hT7, hm3, -, hb7⟩
  have hc7 := below_then HB6.out hb7
  obtain ⟨hso, -⟩ := hT7.sorted
  have he3 := es_awake HM1.out HM2.out hm3 hso
  subst he3
  obtain ⟨_, _, ⟨_, hnil⟩ | ⟨g, lv, pre, hTB, hNo⟩⟩ := hT7
  · cases hnil
  have HR := hide (tr_root hTB)
  have HA := hide (walk_all hNo (by omega) (by simp))
  have HB7 := hide hc7
  clear hm3 hb7 hc7 hso hTB hNo HP3 HB6 HM1 HM2
  go_wp2_with fail
  refine HR.out.mono ?_
  rintro e w8 ⟨rfl, rfl⟩
  go_wp2_with fail
  refine HA.out.mono ?_
  rintro e w8 h8
  obtain ⟨A, c, rows, rfl, hes, hE, hc, hkk, hb8⟩ := h8.at_
  have hl3 : rows.length = 3 := by have := congrArg List.length hes; unfold ents at this; simpa using this
  rw [hl3] at hE
  obtain ⟨hL, hbL⟩ := lit3 w8 4 0 7 3 0 8 3 1 2 (by omega) (by omega) (by omega) (by omega) (by omega) (by omega) (by omega) (by omega) (by omega)
  have hsm := same_entries (c := c) (d := 3) (hE.below hbL) hL (fun r hr => (by have := hkk r hr; omega)) (by intro r hr; simp at hr; rcases hr with rfl | rfl | rfl <;> simp) (by omega) (by omega)
  rw [hes] at hsm
  have HSM := hide hsm
  have HB8 := hide (below_then (below_then HB7.out hb8) hbL)
  clear hes hE hc hkk hb8 hL hbL hsm HA HR
  go_wp2_with fail
  refine HSM.out.mono ?_
  rintro e w9 ⟨rfl, hb9⟩
  have HB9 := hide (below_then HB8.out hb9)
  clear hb9 HSM
  go_wp2
  go_ret
  exact ⟨rfl, HB9.out⟩
set_option maxHeartbeats 1000000 in
set_option maxRecDepth 100000 in
theorem cur_next_nil (w : World) : Calls Try.prog 19 #[.pointer none] w fun e w' => e = .returned (.tuple #[.agg #[.slice none 0 0, .int .u64 0], .bool false]) ∧ Below w.heap.size w w' := by
  have b1 := (Below.refl w.heap.size w).alloc (Nat.le_refl _) (.cells #[.slice none 0 0, .int .u64 0] 27)
  have HB := hide b1
  have hN := Blk.new w 27 #[.slice none 0 0, .int .u64 0]
  have y0 := hN.cell 0
  have y1 := hN.cell 1
  simp at y0 y1
  clear b1 hN
  go_enter Try.func19, Try.ntmps19
  go_wp2
  refine bodyPost_ret (v := .tuple #[.agg #[.slice none 0 0, .int .u64 0], .bool false]) (by simp [results, Try.results19, go_sem, y0, y1]) rfl ⟨rfl, HB.out⟩
set_option maxHeartbeats 1000000 in
set_option maxRecDepth 100000 in
theorem cur_back_nil (w : World) : Calls Try.prog 20 #[.pointer none] w fun e w' => e = .returned (.tuple #[.agg #[.slice none 0 0, .int .u64 0], .bool false]) ∧ Below w.heap.size w w' := by
  have b1 := (Below.refl w.heap.size w).alloc (Nat.le_refl _) (.cells #[.slice none 0 0, .int .u64 0] 27)
  have HB := hide b1
  have hN := Blk.new w 27 #[.slice none 0 0, .int .u64 0]
  have y0 := hN.cell 0
  have y1 := hN.cell 1
  simp at y0 y1
  clear b1 hN
  go_enter Try.func20, Try.ntmps20
  go_wp2
  refine bodyPost_ret (v := .tuple #[.agg #[.slice none 0 0, .int .u64 0], .bool false]) (by simp [results, Try.results20, go_sem, y0, y1]) rfl ⟨rfl, HB.out⟩
set_option maxHeartbeats 1000000 in
theorem cur_new_nil (w : World) : Calls Try.prog 25 #[.pointer none] w fun e w' => e = .returned (.pointer none) ∧ w = w' := by
  go_enter Try.func25, Try.ntmps25
  go_wp2
  go_ret
  exact ⟨rfl, rfl⟩
set_option maxHeartbeats 1000000 in
theorem cur_seek_nil (A : Option Addr) (n c : Nat) (w : World) : Calls Try.prog 26 #[.pointer none, .slice A n c] w fun e w' => e = .returned (.int .i64 1) ∧ w = w' := by
  go_enter Try.func26, Try.ntmps26
  go_wp2
  go_ret
  exact ⟨rfl, rfl⟩
end Go.Proofs.Ytnopacldaoekiaa
