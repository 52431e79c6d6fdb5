/- pantileref06.Shape of one entry; pantilelaw06.Is of an entry. -/
import Derived.Test.YtkknfnjojamgjaaEnts
import Derived.Test.YtkknfnjojamgjaaNdB
import Derived.Test.YtkknfnjojamgjaaLaw6a
import Derived.Laws.StructEq
import Derived.StillTailTactics
set_option linter.unusedSimpArgs false
set_option linter.unusedVariables false
namespace Go.Proofs.Ytkknfnjojamgjaa
open Go.RowKit
theorem shape_fld0 (x0 x1 x2 x3 x4 : Value) (w : World) : (Instr.field 83 (.agg #[x0, x1, x2, x3, x4]) 0).run Try.prog w = .ok x0 w := by kernel_rfl
theorem shape_fld1 (x0 x1 x2 x3 x4 : Value) (w : World) : (Instr.field 83 (.agg #[x0, x1, x2, x3, x4]) 1).run Try.prog w = .ok x1 w := by kernel_rfl
set_option maxHeartbeats 2000000 in
set_option maxRecDepth 100000 in
theorem ref_shape1 (A : Option Addr) (c : Nat) (r : ER) (w : World) (h : EntsAt w A 1 [r]) :
    Calls Try.prog 99 #[.slice A 1 c] w fun e w' => e = .returned (.agg #[.int .i64 (-1), .slice r.A r.n r.c, .slice none 0 0, .bool false, .int .u64 (r.v : Int)]) ∧ Below w.heap.size w w' := by
  have b1 := (Below.refl w.heap.size w).alloc (Nat.le_refl _) (.cells #[.int .i64 0, .slice none 0 0, .slice none 0 0, .bool false, .int .u64 0] 83)
  have hN1 := Blk.new w 83 #[.int .i64 0, .slice none 0 0, .slice none 0 0, .bool false, .int .u64 0]
  obtain ⟨b, o, r', rfl, hbl, hr, hok, k0, k1⟩ := (h.below b1).at_ (i := 0) (by omega)
  obtain rfl : r = r' := by simpa using hr
  simp only [Nat.zero_mul, Nat.add_zero, Nat.zero_add] at k0 k1
  have HN1 := hide hN1
  clear hr hok h hN1
  go_enter Try.func99, Try.ntmps99
  go_upto_region 2 with fail
  generalize w.alloc (.cells #[.int .i64 0, .slice none 0 0, .slice none 0 0, .bool false, .int .u64 0] 83) = w1 at *
  go_still_tail 9, (by kernel_rfl)
  change wpList _ _ _ _ _ w1.drew
  have hN2 : Blk w1.drew w.heap.size 83 #[.int .i64 0, .slice none 0 0, .slice none 0 0, .bool false, .int .u64 0] := HN1.out.drewN 1
  have b2 := b1.drew
  generalize w1.drew = w2 at *
  have z0 := hN2.frozen 0
  have z1 := hN2.frozen 1
  have z2 := hN2.frozen 2
  have z3 := hN2.frozen 3
  have z4 := hN2.frozen 4
  have y0 := hN2.cell 0
  have y1 := hN2.cell 1
  have y2 := hN2.cell 2
  have y3 := hN2.cell 3
  have y4 := hN2.cell 4
  simp at y0 y1 y2 y3 y4
  have e5 := hN2.set5 (x0 := .int .i64 (-1)) (x1 := .slice r.A r.n r.c) (x2 := .slice none 0 0) (x3 := .bool false) (x4 := .int .u64 (r.v : Int))
  have b5 := below_set5 (x0 := .int .i64 (-1)) (x1 := .slice r.A r.n r.c) (x2 := .slice none 0 0) (x3 := .bool false) (x4 := .int .u64 (r.v : Int)) b2 (Nat.le_refl w.heap.size)
  have g0 := e5.cell 0
  have g1 := e5.cell 1
  have g2 := e5.cell 2
  have g3 := e5.cell 3
  have g4 := e5.cell 4
  simp only [List.getElem?_toArray] at g0 g1 g2 g3 g4
  go_wp2
  refine bodyPost_ret (v := .agg #[.int .i64 (-1), .slice r.A r.n r.c, .slice none 0 0, .bool false, .int .u64 (r.v : Int)]) (by simp [results, Try.results99, go_sem, g0, g1, g2, g3, g4]) rfl ⟨rfl, b5⟩
set_option maxHeartbeats 4000000 in
set_option maxRecDepth 100000 in
theorem is_leaf {w : World} {g k c v : Nat} {A B : Option Addr} {p : List Nat} (m : Nat) {r : ER} (hB : Blk w g 139 (nodeCells (-1) A k c v none ⟨1, v, v, v⟩)) (hp : Pt w A k p) (hkc : k ≤ c) (hk1 : 1 ≤ k) (hk : k ≤ 16)
    (hv : v < 2 ^ 64) (hE : EntsAt w B 1 [r]) (hrp : r.p = p) (hrv : r.v = v) :
    Calls Try.prog 39 #[.pointer (some ⟨g, 0, none⟩), .slice B 1 m] w fun e w' => e = .returned (.bool true) ∧ Below w.heap.size w w' := by
  have HN := hide (NodeOf.leaf hv hp hkc hB)
  have HP := hide hp
  have HB := hide hB
  have HE := hide hE
  have hrn : r.n = k := by
    have h1 := (hE.2 r List.mem_cons_self).1.1
    rw [hrp, hp.1] at h1
    exact h1.symm
  have HNN := hide hrn
  have HRP := hide hrp
  have HRV := hide hrv
  obtain ⟨b, o, r', rfl, hbl, hr, hok, k0, k1⟩ := hE.at_ (i := 0) (by omega)
  obtain rfl : r = r' := by simpa using hr
  simp only [Nat.zero_mul, Nat.add_zero, Nat.zero_add] at k0 k1
  rw [hrn] at k0
  rw [hrv] at k1
  have HEN := hide (nd_entry_leaf hB hp hk)
  have K0 := hide k0
  have K1 := hide k1
  clear hr hok hE hB hp hrn hrp hrv k1
  go_enter Try.func39, Try.ntmps39
  go_wp2_with fail
  refine HEN.out.mono ?_
  rintro e w1 ⟨B1, d1, rfl, ho1, hb1⟩
  have c2 := below_alloc hb1 (Nat.le_refl _) (.cells #[.slice B1 k d1, .int .u64 (v : Int)] 59)
  have HT := hide (Blk.new w1 59 #[.slice B1 k d1, .int .u64 (v : Int)])
  have HO := hide ((own_rw ho1).2.below ((Below.refl w1.heap.size w1).alloc (Nat.le_refl _) (.cells #[.slice B1 k d1, .int .u64 (v : Int)] 59)))
  have ht6 : w1.heap.size < (w1.alloc (.cells #[.slice B1 k d1, .int .u64 (v : Int)] 59)).heap.size := by simp
  clear ho1 hb1 k0 HEN
  go_upto_region 3 with fail
  generalize w1.alloc (.cells #[.slice B1 k d1, .int .u64 (v : Int)] 59) = w2 at *
  have hd := Below.refl w2.heap.size w2
  have HK := hide (nd_k (HN.out.stay c2))
  go_wp2_with fail
  refine HK.out.mono ?_
  rintro e w3 ⟨rfl, rfl⟩
  have HSh := hide (nd_shape_leaf (HB.out.below c2) (HP.out.below c2) hk)
  go_wp2_with fail
  refine HSh.out.mono ?_
  rintro e w3 ⟨B3, d3, rfl, hR3, hb3⟩
  replace hd := below_then hd hb3
  have c3 := below_then c2 hd
  have CS := ref_shape1 (some ⟨b, o, none⟩) m r w3 (HE.out.below c3)
  rw [HNN.out, HRV.out] at CS
  have HCS := hide CS
  have HR3 := hide hR3
  clear CS hR3 HK HSh
  go_wp2_with fail
  refine HCS.out.mono ?_
  rintro e w4 ⟨rfl, hb4⟩
  replace hd := below_then hd hb4
  have c4 := below_then c2 hd
  have hrow4 := (HE.out.below c4).2 r List.mem_cons_self
  have hP4 := hrow4.1.2.1
  rw [HNN.out, HRP.out, u64s_int] at hP4
  have hR4 := HR3.out.below hb4
  rw [u64s_int] at hR4
  have HSS := hide (same_shape B3 r.A none none k d3 r.c 0 0 0 (-1) false v _ [] w4 hR4 hP4 (Rw.nil _ _ _) (Rw.nil _ _ _) (by omega) (by omega))
  clear hP4 hR4 hrow4 HCS
  go_wp2_with fail
  refine HSS.out.mono ?_
  rintro e w5 ⟨rfl, hb5⟩
  replace hd := below_then hd hb5
  have c5 := below_then c2 hd
  have HSu := hide (nd_sums (HB.out.below c5))
  clear HSS hb3 hb4 hb5
  go_wp2_with fail
  refine HSu.out.mono ?_
  rintro e w6 ⟨rfl, hb6⟩
  replace hd := below_then hd hb6
  have c6 := below_then c2 hd
  have CR := ref_sums (some ⟨b, o, none⟩) 1 m [r] w6 (HE.out.below c6) (by omega)
  have hs : sumsOf (ents [r]) = ⟨1, v, v, v⟩ := by
    have : ents [r] = [(p, v)] := by unfold ents ER.e; simp [HRP.out, HRV.out]
    rw [this]; exact sumsOf_one p v hv
  rw [hs] at CR
  have HCR := hide CR
  clear CR hs HSu hb6
  go_wp2_with fail
  refine HCR.out.mono ?_
  rintro e w7 ⟨rfl, hb7⟩
  replace hd := below_then hd hb7
  have c7 := below_then c2 hd
  have HLv := hide (nd_level (HN.out.stay c7))
  clear HCR hb7
  unfold Sum4.val
  go_wp2_with fail
  refine HLv.out.mono ?_
  rintro e w8 ⟨rfl, rfl⟩
  have CS := ref_shape1 (some ⟨b, o, none⟩) m r w7 (HE.out.below c7)
  rw [HNN.out, HRV.out] at CS
  have HCS := hide CS
  clear CS HLv
  go_wp2_with fail
  refine HCS.out.mono ?_
  rintro e w8 ⟨rfl, hb8⟩
  replace hd := below_then hd hb8
  have c8 := below_then c2 hd
  have HPf := hide (nd_prefix (HN.out.stay c8) hk)
  have q0 := shape_fld0 (.int .i64 (-1)) (.slice r.A k r.c) (.slice none 0 0) (.bool false) (.int .u64 (v : Int))
  have q1 := shape_fld1 (.int .i64 (-1)) (.slice r.A k r.c) (.slice none 0 0) (.bool false) (.int .u64 (v : Int))
  clear HCS hb8
  go_wp2_with fail
  refine HPf.out.mono ?_
  rintro e w9 ⟨v9, rfl, ho9, hb9⟩
  replace hd := below_then hd hb9
  have c9 := below_then c2 hd
  obtain ⟨B9, d9, rfl, -, hR9⟩ := Rw.of_own ho9
  have CS := ref_shape1 (some ⟨b, o, none⟩) m r w9 (HE.out.below c9)
  rw [HNN.out, HRV.out] at CS
  have HCS := hide CS
  have HR9 := hide hR9
  clear CS ho9 hR9 HPf hb9
  go_wp2_with fail
  refine HCS.out.mono ?_
  rintro e w10 ⟨rfl, hb10⟩
  replace hd := below_then hd hb10
  have c10 := below_then c2 hd
  have hrow4 := (HE.out.below c10).2 r List.mem_cons_self
  have hP4 := hrow4.1.2.1
  rw [HNN.out, HRP.out, u64s_int] at hP4
  have hR4 := HR9.out.below hb10
  rw [u64s_int] at hR4
  have CQ := same_u64 B9 r.A k d9 k r.c _ _ w10 hR4 hP4 (by omega) (by omega)
  rw [show sameB (p.map fun (x : Nat) => (x : Int)) (p.map fun (x : Nat) => (x : Int)) = true by simp [sameB]] at CQ
  have HCQ := hide CQ
  clear CQ hP4 hR4 hrow4 HCS
  go_wp2_with fail
  refine HCQ.out.mono ?_
  rintro e w11 ⟨rfl, hb11⟩
  replace hd := below_then hd hb11
  have c11 := below_then c2 hd
  have hT := HT.out.below hd
  have t0 := hT.cell 0
  have t1 := hT.cell 1
  simp at t0 t1
  have hbw := c11.cell (p := ⟨b, o, none⟩) hbl
  have hbw1 := c11.cell (p := ⟨b, o + 1, none⟩) hbl
  have k0 := hbw.trans K0.out
  have k1 := hbw1.trans K1.out
  have hR1 := HO.out.below hd
  have hP1 := ((HE.out.below c11).2 r List.mem_cons_self).1.2.1
  rw [HNN.out, HRP.out, u64s_int] at hP1
  rw [u64s_int] at hR1
  have HP1 := hide hP1
  have HR1 := hide hR1
  have HT11 := hide hT
  clear HCQ hbw hbw1 hP1 hR1 hT
  go_upto_region 6 with fail
  go_region_held3 (fun w' => w'.cell? ⟨w1.heap.size, 0, none⟩ = some (.slice B1 k d1) ∧ w'.cell? ⟨w1.heap.size, 1, none⟩ = some (.int .u64 (v : Int)) ∧ w'.cell? ⟨b, o, none⟩ = some (.slice r.A k r.c) ∧ w'.cell? ⟨b, o + 1, none⟩ = some (.int .u64 (v : Int)))
    (first
      | go_keep
      | exact hk2)
    (first
      | (go_at_call 37
         have CQ := same_u64 B1 r.A k d1 k r.c _ _ w11.drew (HR1.out.below (Below.refl _ w11).drew) (HP1.out.below (Below.refl _ w11).drew) (by omega) (by omega)
         rw [show sameB (p.map fun (x : Nat) => (x : Int)) (p.map fun (x : Nat) => (x : Int)) = true by simp [sameB]] at CQ
         refine CQ.mono ?_
         rintro e w12 ⟨rfl, hb12⟩
         have hq : Below w11.heap.size w11 w12 := (Below.refl _ w11).drew.trans hb12
         have hk2 : w12.cell? ⟨w1.heap.size, 0, none⟩ = some (.slice B1 k d1) ∧ w12.cell? ⟨w1.heap.size, 1, none⟩ = some (.int .u64 (v : Int)) ∧ w12.cell? ⟨b, o, none⟩ = some (.slice r.A k r.c) ∧ w12.cell? ⟨b, o + 1, none⟩ = some (.int .u64 (v : Int)) :=
           ⟨(hq.cell (p := ⟨w1.heap.size, 0, none⟩) HT11.out.lt).trans t0, (hq.cell (p := ⟨w1.heap.size, 1, none⟩) HT11.out.lt).trans t1, (hq.cell (p := ⟨b, o, none⟩) (Nat.lt_of_lt_of_le hbl c11.size)).trans k0, (hq.cell (p := ⟨b, o + 1, none⟩) (Nat.lt_of_lt_of_le hbl c11.size)).trans k1⟩))
  go_wp2
  go_ret
  exact ⟨rfl, below_then c11 hq⟩
end Go.Proofs.Ytkknfnjojamgjaa
