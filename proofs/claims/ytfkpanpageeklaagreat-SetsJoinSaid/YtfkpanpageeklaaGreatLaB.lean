/- pantilelaw06: awake, Is, Heavy, Leaves; the reference Shape. -/
import Derived.Test.YtfkpanpageeklaaGreatNdC
import Derived.Test.YtfkpanpageeklaaGreatEnA
import Derived.Test.YtfkpanpageeklaaGreatBaA
import Derived.Test.YtfkpanpageeklaaGreatNdB
import Derived.Laws.StructEq
import Derived.StillTailTactics
import Derived.Test.YtfkpanpageeklaaGreatReA
import Derived.Deep.Cut
import Derived.Deep.CutRange
set_option linter.unusedSimpArgs false
set_option linter.unusedVariables false
namespace Go.Proofs.YtfkpanpageeklaaGreat
section
open Go.RowKit
theorem u64s_int (p : List Nat) : u64s p = (p.map fun (x : Nat) => (x : Int)).map fun z => Value.int .u64 z := by
  unfold u64s; simp [Function.comp_def]
theorem Fork.head {w : World} {k g lv : Nat} {pre : List Nat} {ks : List Kid} (h : Fork w k g lv pre ks) :
    ∃ A c gs, Pt w A k pre ∧ SlotsAt_n w gs k (kidTh ks) ∧ Blk w g 140 (nodeCells lv A k c 0 (some ⟨gs, 0, none⟩) (sumsOf (kidEs ks))) := by
  obtain ⟨A, c, gs, h1, h2, h3, h4, h5, h6, h7, h8, h9, h10, h11⟩ := h
  exact ⟨A, c, gs, h2, h10, h11⟩
end
section
open Go.RowKit
theorem shape_fld0 (x0 x1 x2 x3 x4 : Value) (w : World) : (Instr.field 119 (.agg #[x0, x1, x2, x3, x4]) 0).run Tryz.prog w = .ok x0 w := by kernel_rfl
theorem shape_fld1 (x0 x1 x2 x3 x4 : Value) (w : World) : (Instr.field 119 (.agg #[x0, x1, x2, x3, x4]) 1).run Tryz.prog w = .ok x1 w := by kernel_rfl
set_option maxHeartbeats 2000000 in
set_option maxRecDepth 100000 in
theorem ref_shape1 (A : Option Addr) (c : Nat) (r : ER) (w : World) (h : EntsAt w A 1 [r]) :
    Calls Tryz.prog 65 #[.slice A 1 c] w fun e w' => e = .returned (.agg #[.int .i64 (-1), .slice r.A r.n r.c, .slice none 0 0, .bool false, .int .u64 (r.v : Int)]) ∧ Below w.heap.size w w' := by
  have b1 := (Below.refl w.heap.size w).alloc (Nat.le_refl _) (.cells #[.int .i64 0, .slice none 0 0, .slice none 0 0, .bool false, .int .u64 0] 119)
  have hN1 := Blk.new w 119 #[.int .i64 0, .slice none 0 0, .slice none 0 0, .bool false, .int .u64 0]
  obtain ⟨b, o, r', rfl, hbl, hr, hok, k0, k1⟩ := (h.below b1).at_ (i := 0) (by omega)
  obtain rfl : r = r' := by simpa using hr
  simp only [Nat.zero_mul, Nat.add_zero, Nat.zero_add] at k0 k1
  have HN1 := hide hN1
  clear hr hok h hN1
  go_enter Tryz.func65, Tryz.ntmps65
  go_upto_region 2 with fail
  generalize w.alloc (.cells #[.int .i64 0, .slice none 0 0, .slice none 0 0, .bool false, .int .u64 0] 119) = w1 at *
  go_still_tail 9, (by kernel_rfl)
  change wpList _ _ _ _ _ w1.drew
  have hN2 : Blk w1.drew w.heap.size 119 #[.int .i64 0, .slice none 0 0, .slice none 0 0, .bool false, .int .u64 0] := HN1.out.drewN 1
  have b2 := b1.drew
  generalize w1.drew = w2 at *
  have z0 := hN2.frozen 0
  have z1 := hN2.frozen 1
  have z2 := hN2.frozen 2
  have z3 := hN2.frozen 3
  have z4 := hN2.frozen 4
  have y0 := hN2.cell 0
  have y1 := hN2.cell 1
  have y2 := hN2.cell 2
  have y3 := hN2.cell 3
  have y4 := hN2.cell 4
  simp at y0 y1 y2 y3 y4
  have e5 := hN2.set5 (x0 := .int .i64 (-1)) (x1 := .slice r.A r.n r.c) (x2 := .slice none 0 0) (x3 := .bool false) (x4 := .int .u64 (r.v : Int))
  have b5 := below_set5 (x0 := .int .i64 (-1)) (x1 := .slice r.A r.n r.c) (x2 := .slice none 0 0) (x3 := .bool false) (x4 := .int .u64 (r.v : Int)) b2 (Nat.le_refl w.heap.size)
  have g0 := e5.cell 0
  have g1 := e5.cell 1
  have g2 := e5.cell 2
  have g3 := e5.cell 3
  have g4 := e5.cell 4
  simp only [List.getElem?_toArray] at g0 g1 g2 g3 g4
  go_wp2
  refine bodyPost_ret (v := .agg #[.int .i64 (-1), .slice r.A r.n r.c, .slice none 0 0, .bool false, .int .u64 (r.v : Int)]) (by simp [results, Tryz.results65, go_sem, g0, g1, g2, g3, g4]) rfl ⟨rfl, b5⟩
set_option maxHeartbeats 4000000 in
set_option maxRecDepth 100000 in
theorem is_leaf {w : World} {g k c v : Nat} {A B : Option Addr} {p : List Nat} (m : Nat) {r : ER} (hB : Blk w g 140 (nodeCells (-1) A k c v none ⟨1, v, v, v⟩)) (hp : Pt w A k p) (hkc : k ≤ c) (hk1 : 1 ≤ k) (hk : k ≤ 16)
    (hv : v < 2 ^ 64) (hE : EntsAt w B 1 [r]) (hrp : r.p = p) (hrv : r.v = v) :
    Calls Tryz.prog 40 #[.pointer (some ⟨g, 0, none⟩), .slice B 1 m] w fun e w' => e = .returned (.bool true) ∧ Below w.heap.size w w' := by
  have HN := hide (NodeOf.leaf hv hp hkc hB)
  have HP := hide hp
  have HB := hide hB
  have HE := hide hE
  have hrn : r.n = k := by
    have h1 := (hE.2 r List.mem_cons_self).1.1
    rw [hrp, hp.1] at h1
    exact h1.symm
  have HNN := hide hrn
  have HRP := hide hrp
  have HRV := hide hrv
  obtain ⟨b, o, r', rfl, hbl, hr, hok, k0, k1⟩ := hE.at_ (i := 0) (by omega)
  obtain rfl : r = r' := by simpa using hr
  simp only [Nat.zero_mul, Nat.add_zero, Nat.zero_add] at k0 k1
  rw [hrn] at k0
  rw [hrv] at k1
  have HEN := hide (nd_entry_leaf hB hp hk)
  have K0 := hide k0
  have K1 := hide k1
  clear hr hok hE hB hp hrn hrp hrv k1
  go_enter Tryz.func40, Tryz.ntmps40
  go_wp2_with fail
  refine HEN.out.mono ?_
  rintro e w1 ⟨B1, d1, rfl, ho1, hb1⟩
  have c2 := below_alloc hb1 (Nat.le_refl _) (.cells #[.slice B1 k d1, .int .u64 (v : Int)] 83)
  have HT := hide (Blk.new w1 83 #[.slice B1 k d1, .int .u64 (v : Int)])
  have HO := hide ((own_rw ho1).2.below ((Below.refl w1.heap.size w1).alloc (Nat.le_refl _) (.cells #[.slice B1 k d1, .int .u64 (v : Int)] 83)))
  have ht6 : w1.heap.size < (w1.alloc (.cells #[.slice B1 k d1, .int .u64 (v : Int)] 83)).heap.size := by simp
  clear ho1 hb1 k0 HEN
  go_upto_region 3 with fail
  generalize w1.alloc (.cells #[.slice B1 k d1, .int .u64 (v : Int)] 83) = w2 at *
  have hd := Below.refl w2.heap.size w2
  have HK := hide (nd_k (HN.out.stay c2))
  go_wp2_with fail
  refine HK.out.mono ?_
  rintro e w3 ⟨rfl, rfl⟩
  have HSh := hide (nd_shape_leaf (HB.out.below c2) (HP.out.below c2) hk)
  go_wp2_with fail
  refine HSh.out.mono ?_
  rintro e w3 ⟨B3, d3, rfl, hR3, hb3⟩
  replace hd := below_then hd hb3
  have c3 := below_then c2 hd
  have CS := ref_shape1 (some ⟨b, o, none⟩) m r w3 (HE.out.below c3)
  rw [HNN.out, HRV.out] at CS
  have HCS := hide CS
  have HR3 := hide hR3
  clear CS hR3 HK HSh
  go_wp2_with fail
  refine HCS.out.mono ?_
  rintro e w4 ⟨rfl, hb4⟩
  replace hd := below_then hd hb4
  have c4 := below_then c2 hd
  have hrow4 := (HE.out.below c4).2 r List.mem_cons_self
  have hP4 := hrow4.1.2.1
  rw [HNN.out, HRP.out, u64s_int] at hP4
  have hR4 := HR3.out.below hb4
  rw [u64s_int] at hR4
  have HSS := hide (same_shape B3 r.A none none k d3 r.c 0 0 0 (-1) false v _ [] w4 hR4 hP4 (Rw.nil _ _ _) (Rw.nil _ _ _) (by omega) (by omega))
  clear hP4 hR4 hrow4 HCS
  go_wp2_with fail
  refine HSS.out.mono ?_
  rintro e w5 ⟨rfl, hb5⟩
  replace hd := below_then hd hb5
  have c5 := below_then c2 hd
  have HSu := hide (nd_sums (HB.out.below c5))
  clear HSS hb3 hb4 hb5
  go_wp2_with fail
  refine HSu.out.mono ?_
  rintro e w6 ⟨rfl, hb6⟩
  replace hd := below_then hd hb6
  have c6 := below_then c2 hd
  have CR := ref_sums (some ⟨b, o, none⟩) 1 m [r] w6 (HE.out.below c6) (by omega)
  have hs : sumsOf (ents [r]) = ⟨1, v, v, v⟩ := by
    have : ents [r] = [(p, v)] := by unfold ents ER.e; simp [HRP.out, HRV.out]
    rw [this]; exact sumsOf_one p v hv
  rw [hs] at CR
  have HCR := hide CR
  clear CR hs HSu hb6
  go_wp2_with fail
  refine HCR.out.mono ?_
  rintro e w7 ⟨rfl, hb7⟩
  replace hd := below_then hd hb7
  have c7 := below_then c2 hd
  have HLv := hide (nd_level (HN.out.stay c7))
  clear HCR hb7
  unfold Sum4.val
  go_wp2_with fail
  refine HLv.out.mono ?_
  rintro e w8 ⟨rfl, rfl⟩
  have CS := ref_shape1 (some ⟨b, o, none⟩) m r w7 (HE.out.below c7)
  rw [HNN.out, HRV.out] at CS
  have HCS := hide CS
  clear CS HLv
  go_wp2_with fail
  refine HCS.out.mono ?_
  rintro e w8 ⟨rfl, hb8⟩
  replace hd := below_then hd hb8
  have c8 := below_then c2 hd
  have HPf := hide (nd_prefix (HN.out.stay c8) hk)
  have q0 := shape_fld0 (.int .i64 (-1)) (.slice r.A k r.c) (.slice none 0 0) (.bool false) (.int .u64 (v : Int))
  have q1 := shape_fld1 (.int .i64 (-1)) (.slice r.A k r.c) (.slice none 0 0) (.bool false) (.int .u64 (v : Int))
  clear HCS hb8
  go_wp2_with fail
  refine HPf.out.mono ?_
  rintro e w9 ⟨v9, rfl, ho9, hb9⟩
  replace hd := below_then hd hb9
  have c9 := below_then c2 hd
  obtain ⟨B9, d9, rfl, -, hR9⟩ := Rw.of_own ho9
  have CS := ref_shape1 (some ⟨b, o, none⟩) m r w9 (HE.out.below c9)
  rw [HNN.out, HRV.out] at CS
  have HCS := hide CS
  have HR9 := hide hR9
  clear CS ho9 hR9 HPf hb9
  go_wp2_with fail
  refine HCS.out.mono ?_
  rintro e w10 ⟨rfl, hb10⟩
  replace hd := below_then hd hb10
  have c10 := below_then c2 hd
  have hrow4 := (HE.out.below c10).2 r List.mem_cons_self
  have hP4 := hrow4.1.2.1
  rw [HNN.out, HRP.out, u64s_int] at hP4
  have hR4 := HR9.out.below hb10
  rw [u64s_int] at hR4
  have CQ := same_u64 B9 r.A k d9 k r.c _ _ w10 hR4 hP4 (by omega) (by omega)
  rw [show sameB (p.map fun (x : Nat) => (x : Int)) (p.map fun (x : Nat) => (x : Int)) = true by simp [sameB]] at CQ
  have HCQ := hide CQ
  clear CQ hP4 hR4 hrow4 HCS
  go_wp2_with fail
  refine HCQ.out.mono ?_
  rintro e w11 ⟨rfl, hb11⟩
  replace hd := below_then hd hb11
  have c11 := below_then c2 hd
  have hT := HT.out.below hd
  have t0 := hT.cell 0
  have t1 := hT.cell 1
  simp at t0 t1
  have hbw := c11.cell (p := ⟨b, o, none⟩) hbl
  have hbw1 := c11.cell (p := ⟨b, o + 1, none⟩) hbl
  have k0 := hbw.trans K0.out
  have k1 := hbw1.trans K1.out
  have hR1 := HO.out.below hd
  have hP1 := ((HE.out.below c11).2 r List.mem_cons_self).1.2.1
  rw [HNN.out, HRP.out, u64s_int] at hP1
  rw [u64s_int] at hR1
  have HP1 := hide hP1
  have HR1 := hide hR1
  have HT11 := hide hT
  clear HCQ hbw hbw1 hP1 hR1 hT
  go_upto_region 6 with fail
  go_region_held3 (fun w' => w'.cell? ⟨w1.heap.size, 0, none⟩ = some (.slice B1 k d1) ∧ w'.cell? ⟨w1.heap.size, 1, none⟩ = some (.int .u64 (v : Int)) ∧ w'.cell? ⟨b, o, none⟩ = some (.slice r.A k r.c) ∧ w'.cell? ⟨b, o + 1, none⟩ = some (.int .u64 (v : Int)))
    (first
      | go_keep
      | exact hk2)
    (first
      | (go_at_call 51
         have CQ := same_u64 B1 r.A k d1 k r.c _ _ w11.drew (HR1.out.below (Below.refl _ w11).drew) (HP1.out.below (Below.refl _ w11).drew) (by omega) (by omega)
         rw [show sameB (p.map fun (x : Nat) => (x : Int)) (p.map fun (x : Nat) => (x : Int)) = true by simp [sameB]] at CQ
         refine CQ.mono ?_
         rintro e w12 ⟨rfl, hb12⟩
         have hq : Below w11.heap.size w11 w12 := (Below.refl _ w11).drew.trans hb12
         have hk2 : w12.cell? ⟨w1.heap.size, 0, none⟩ = some (.slice B1 k d1) ∧ w12.cell? ⟨w1.heap.size, 1, none⟩ = some (.int .u64 (v : Int)) ∧ w12.cell? ⟨b, o, none⟩ = some (.slice r.A k r.c) ∧ w12.cell? ⟨b, o + 1, none⟩ = some (.int .u64 (v : Int)) :=
           ⟨(hq.cell (p := ⟨w1.heap.size, 0, none⟩) HT11.out.lt).trans t0, (hq.cell (p := ⟨w1.heap.size, 1, none⟩) HT11.out.lt).trans t1, (hq.cell (p := ⟨b, o, none⟩) (Nat.lt_of_lt_of_le hbl c11.size)).trans k0, (hq.cell (p := ⟨b, o + 1, none⟩) (Nat.lt_of_lt_of_le hbl c11.size)).trans k1⟩))
  go_wp2
  go_ret
  exact ⟨rfl, below_then c11 hq⟩
end
section
open Go.RowKit
/-- An own row and a block of another type. -/
theorem own_set_ty {w : World} {base : Nat} {e t : TypeId} {sz n g i : Nat} {v u : Value} {xs : List Value} {cs : Array Value} (h : w.ownsRow base e sz v n xs) (hB : Blk w g t cs) (hne : e ≠ t) : (w.setCell ⟨g, i, none⟩ u).ownsRow base e sz v n xs := by
  obtain ⟨h1, h2⟩ := h
  refine ⟨h1, ?_⟩
  rcases h2 with h2 | ⟨gr, cap, cur, hv, hg, hh, r⟩
  · exact .inl h2
  · exact .inr ⟨gr, cap, cur, hv, hg, Blk.set_ (t := e) hh g i u (Blk.ne_ (t := e) hh hB hne), r⟩
theorem own_set5_ty {w : World} {base : Nat} {e t : TypeId} {sz n g : Nat} {v x0 x1 x2 x3 x4 : Value} {xs : List Value} {cs : Array Value} (h : w.ownsRow base e sz v n xs) (hB : Blk w g t cs) (hne : e ≠ t) :
    (((((w.setCell ⟨g, 0, none⟩ x0).setCell ⟨g, 1, none⟩ x1).setCell ⟨g, 2, none⟩ x2).setCell ⟨g, 3, none⟩ x3).setCell ⟨g, 4, none⟩ x4).ownsRow base e sz v n xs :=
  own_set_ty (own_set_ty (own_set_ty (own_set_ty (own_set_ty h hB hne) (hB.set1 _) hne) ((hB.set1 _).set1 _) hne) (((hB.set1 _).set1 _).set1 _) hne) ((((hB.set1 _).set1 _).set1 _).set1 _) hne
theorem own_ne_blk {w : World} {base : Nat} {e t : TypeId} {sz n g : Nat} {v : Value} {xs : List Value} {cs : Array Value} (h : w.ownsRow base e sz v n xs) (hB : Blk w g t cs) (hne : e ≠ t) : v.ownBlock ≠ some g := by
  intro hv
  rcases h.2 with ⟨rfl, _⟩ | ⟨gr, cap, cur, rfl, hg, hh, r⟩
  · simp [Value.ownBlock] at hv
  · have : gr = g := by simpa [Value.ownBlock] using hv
    exact Blk.ne_ (t := e) hh hB hne this
/-- A block stays where a row of another type grows. -/
theorem Blk.grown {w w' : World} {base : Nat} {e t : TypeId} {sz n g : Nat} {v : Value} {xs : List Value} {cs : Array Value} (hB : Blk w g t cs) (h : w.ownsRow base e sz v n xs) (hne : e ≠ t) (hg : w.grownBy w' v.ownBlock) : Blk w' g t cs :=
  (hg.block g hB.lt (Ne.symm (own_ne_blk h hB hne))).trans hB
theorem own_grown {w w' : World} {base base' : Nat} {e e' : TypeId} {sz sz' n n' : Nat} {v v' : Value} {xs xs' : List Value} (h : w.ownsRow base e sz v n xs) (h' : w.ownsRow base' e' sz' v' n' xs') (hne : e' ≠ e) (hg : w.grownBy w' v'.ownBlock) : w'.ownsRow base e sz v n xs := by
  obtain ⟨h1, h2⟩ := h
  refine ⟨h1, ?_⟩
  rcases h2 with h2 | ⟨gr, cap, cur, hv, hgb, hh, r⟩
  · exact .inl h2
  · exact .inr ⟨gr, cap, cur, hv, hgb, Blk.grown (t := e) hh h' hne hg, r⟩
/-- The addresses of the kids' lists. -/
def placesG (G : List (List ER)) (lv : Nat) : List Nat := G.map fun g => addrOf ((g.head?.map (·.p)).getD []) lv
set_option maxHeartbeats 4000000 in
set_option maxRecDepth 100000 in
theorem ref_shape_t (A : Option Addr) (n c k lv : Nat) (G : List (List ER)) (r0 : ER) (w : World) (h : EntsAt w A n G.flatten) (hnc : n ≤ c) (hk : ∀ r ∈ G.flatten, r.n = k) (hk1 : 1 ≤ k) (hk16 : k ≤ 16) (hn : n ≤ 65536) (hn2 : 2 ≤ n) (hlv : lv < 64) (hP : Parts G lv) (hr0 : G.flatten[0]? = some r0)
    (hL : ∀ W, Below w.heap.size w W → Calls Tryz.prog 99 #[.slice A n c] W fun e w' => e = .returned (.int .i64 (lv : Nat)) ∧ Below W.heap.size W w') :
    Calls Tryz.prog 65 #[.slice A n c] w fun e w' => ∃ B d C f, e = .returned (.agg #[.int .i64 (lv : Nat), .slice B k d, .slice C G.length f, .bool (denseB k G.length), .int .u64 0]) ∧ Rw w' 1 B k (u64s (cut (lv + 1) r0.p)) ∧ Rw w' 1 C G.length ((placesG G lv).map fun (x : Nat) => .int .i64 (x : Int)) ∧ Below w.heap.size w w' ∧ TyRow w' 45 B k ∧ TyRow w' 3 C G.length  := by
  have b1 := (Below.refl w.heap.size w).alloc (Nat.le_refl _) (.cells #[.int .i64 0, .slice none 0 0, .slice none 0 0, .bool false, .int .u64 0] 119)
  have hN1 := Blk.new w 119 #[.int .i64 0, .slice none 0 0, .slice none 0 0, .bool false, .int .u64 0]
  obtain ⟨b, o, r', rfl, hbl, hr, hok, k0, -⟩ := h.at_ (i := 0) (by omega)
  rw [hr0] at hr
  injection hr with hr
  subst hr
  simp only [Nat.zero_mul, Nat.add_zero, Nat.zero_add] at k0
  have hrn := hk r0 (List.mem_of_getElem? hr0)
  rw [hrn] at k0
  have hp0 := (h.2 r0 (List.mem_of_getElem? hr0)).1
  rw [hrn] at hp0
  have HP0 := hide hp0
  have HE := hide h
  have HN1 := hide hN1
  have HL := hide hL
  have HK := hide hk
  have HPP := hide hP
  have HNC := hide hnc
  have HR0 := hide hr0
  have e1 : ((n : Int) == 1) = false := by simp; omega
  have hn0 : (0 : Int) < (n : Int) := by omega
  have hn0' : 0 < n := by omega
  clear h hN1 hL hk hP hnc hr0 hok hp0 hrn
  go_enter Tryz.func65, Tryz.ntmps65
  go_upto_region 3 with fail
  generalize w.alloc (.cells #[.int .i64 0, .slice none 0 0, .slice none 0 0, .bool false, .int .u64 0] 119) = w1 at *
  have HC := hide (fun (W : World) (hW : Below w1.heap.size w1 W) => ((below_then b1 hW).cell (p := ⟨b, o, none⟩) hbl).trans k0)
  have HLE := hide (fun (W : World) (hW : Below w1.heap.size w1 W) => hW.size)
  have HL1 := hide (fun (W : World) (hW : Below w1.heap.size w1 W) => HL.out W (below_then b1 hW))
  have HP1 := hide (HP0.out.below b1)
  have HE1 := hide (HE.out.below b1)
  have k1 := HC.out w1 (Below.refl _ w1)
  have hs1 : w.heap.size < w1.heap.size := HN1.out.lt
  have hd := (Below.refl w1.heap.size w1).drew
  have hbr := Below.refl w1.heap.size w1
  clear k0
  go_cut [3] from 18 to 27 (fun s3 W => ∃ g3 B4 d4, s3 = .pointer (some ⟨g3, 0, none⟩) ∧ w1.heap.size ≤ g3 ∧ Blk W g3 119 #[.int .i64 (lv : Int), .slice B4 k d4, .slice none 0 0, .bool false, .int .u64 0] ∧ W.ownsRow w1.heap.size 45 1 (.slice B4 k d4) k (u64s (cut (lv + 1) r0.p)) ∧ Below w1.heap.size w1 W)
  case first =>
    go_region_held3 (fun w' => w'.cell? ⟨b, o, none⟩ = some (.slice r0.A k r0.c))
      (first
        | go_keep
        | exact hk
        | exact HC.out _ (below_alloc hd (Nat.le_refl _) _)
        | exact HC.out _ (below_alloc hbr (Nat.le_refl _) _).drew
        | exact hk5)
      (first
        | (go_at_call 99
           refine (HL1.out _ ?hx).mono ?_
           case hx =>
             first
               | exact hd
               | exact below_alloc hd (Nat.le_refl _) _
               | exact (below_alloc hbr (Nat.le_refl _) _).drew
           rintro e w2 ⟨rfl, hb2⟩
           first
             | (replace hd := below_then hd hb2
                try replace hT := hT.below hb2)
             | (have hd0 := hd
                replace hd := below_then (below_alloc hd (Nat.le_refl _) (.cells #[.int .i64 0, .slice none 0 0, .slice none 0 0, .bool false, .int .u64 0] 119)) hb2
                have hT := (Blk.new _ 119 #[.int .i64 0, .slice none 0 0, .slice none 0 0, .bool false, .int .u64 0]).below hb2
                have hX := hd0)
             | (replace hd := below_then (below_alloc hbr (Nat.le_refl _) (.cells #[.int .i64 0, .slice none 0 0, .slice none 0 0, .bool false, .int .u64 0] 119)).drew hb2
                have hT0 : Blk (w1.alloc (.cells #[.int .i64 0, .slice none 0 0, .slice none 0 0, .bool false, .int .u64 0] 119)).drew w1.heap.size 119 #[.int .i64 0, .slice none 0 0, .slice none 0 0, .bool false, .int .u64 0] := (Blk.new w1 _ _).drewN 1
                have hT := hT0.below hb2
                have hX := hbr)
           have hk := HC.out _ hd)
        | (go_at_call 100
           have CC := fun W (hW : Below w1.heap.size w1 W) => ref_cut r0.A k r0.c (lv + 1) r0.p W (HP1.out.below hW) (by omega) (by omega)
           rw [show ((lv + 1 : Nat) : Int) - 1 = (lv : Int) by omega] at CC
           refine (CC _ ?hx).mono ?_
           case hx =>
             first
               | exact hd
               | exact below_alloc hd (Nat.le_refl _) _
               | exact (below_alloc hbr (Nat.le_refl _) _).drew
           rintro e w4 ⟨v4, rfl, ho4, hb4⟩
           obtain ⟨B4, d4, rfl, -, -⟩ := Rw.of_own ho4
           first
             | (replace ho4 := own_lower ho4 (HLE.out _ hd)
                replace hd := below_then hd hb4
                try replace hT := hT.below hb4)
             | (have hd0 := hd
                replace ho4 := own_lower ho4 (HLE.out _ (below_alloc hd (Nat.le_refl _) (.cells #[.int .i64 0, .slice none 0 0, .slice none 0 0, .bool false, .int .u64 0] 119)))
                replace hd := below_then (below_alloc hd (Nat.le_refl _) (.cells #[.int .i64 0, .slice none 0 0, .slice none 0 0, .bool false, .int .u64 0] 119)) hb4
                have hT := (Blk.new _ 119 #[.int .i64 0, .slice none 0 0, .slice none 0 0, .bool false, .int .u64 0]).below hb4
                have hX := hd0)
           have hk := HC.out _ hd
           try
             have z0 := hT.frozen 0
             have z1 := hT.frozen 1
             have z2 := hT.frozen 2
             have z3 := hT.frozen 3
             have z4 := hT.frozen 4
             have y0 := hT.cell 0
             have y1 := hT.cell 1
             have y2 := hT.cell 2
             have y3 := hT.cell 3
             have y4 := hT.cell 4
             simp at y0 y1 y2 y3 y4
             have hk5 := (cell_far5 (i0 := 0) (i1 := 1) (i2 := 2) (i3 := 3) (i4 := 4) (x0 := .int .i64 (lv : Int)) (x1 := .slice B4 k d4) (x2 := .slice none 0 0) (x3 := .bool false) (x4 := .int .u64 0) (Nat.ne_of_lt (Nat.lt_of_lt_of_le (Nat.lt_trans hbl hs1) (HLE.out _ hX)))).trans hk))
    all_goals
      go_wp2_with fail
      go_meet
    all_goals
      first
        | exact ⟨_, B4, d4, rfl, HLE.out _ hX, hT.set5, own_set5_ty ho4 hT (by decide), below_set5 hd (HLE.out _ hX)⟩
        | exact ⟨_, B4, d4, rfl, HLE.out _ hd, Blk.new _ _ _, own_below ho4 ((Below.refl _ _).alloc (Nat.le_refl _) _), below_alloc hd (Nat.le_refl _) _⟩
  case rest =>
    obtain ⟨g3, B4, d4, rfl, hg3, hT, ho4, hdc⟩ := hcut
    have HKI := hide (ref_kids (some ⟨b, o, none⟩) n c k lv G wc (HE1.out.below hdc) HNC.out HK.out (by omega) hn (by omega) hlv HPP.out (fun W hW => HL1.out W (below_then hdc hW)))
    have HT := hide hT
    have HO4 := hide ho4
    clear hT ho4 hd k1
    go_wp2_with fail
    refine HKI.out.mono ?_
    rintro e w5 ⟨C, f, rfl, ho5, hb5⟩
    have hc5 := below_then hdc hb5
    have HT5 := hide (HT.out.below hb5)
    have HO45 := hide (own_below HO4.out hb5)
    have HO5 := hide ho5
    have hGn : G.length ≤ 65536 := by
      have h1 : ∀ (H : List (List ER)), (∀ g ∈ H, g ≠ []) → H.length ≤ H.flatten.length := by
        intro H
        induction H with
        | nil => intro _; simp
        | cons g H ih =>
          intro hH
          have h1 := ih fun g' hg' => hH g' (List.mem_cons_of_mem _ hg')
          have h2 := List.length_pos_iff.2 (hH g List.mem_cons_self)
          rw [List.flatten_cons, List.length_append, List.length_cons]; omega
      have h2 := h1 G HPP.out.ne
      rw [HE.out.len] at h2
      omega
    clear ho5 HT HO4 HKI hb5
    go_wp2
    go_loopw [5] (fun x5 wr => ∃ (j : Nat) (vp : Value), x5 = .int .i64 (j : Int) ∧ j ≤ G.length ∧ Blk wr g3 119 #[.int .i64 (lv : Int), .slice B4 k d4, vp, .bool false, .int .u64 0] ∧ wr.ownsRow w1.heap.size 3 1 vp j (((placesG G lv).take j).map fun (x : Nat) => .int .i64 (x : Int)) ∧ wr.ownsRow w1.heap.size 45 1 (.slice B4 k d4) k (u64s (cut (lv + 1) r0.p)) ∧ wr.ownsRow w1.heap.size 26 1 (.slice C G.length f) G.length (segvs (some ⟨b, o, none⟩) c G G.length) ∧ Below w1.heap.size w1 wr) (fun x _ => G.length - (intOf x).toNat)
    case atStart => exact ⟨0, .slice none 0 0, rfl, Nat.zero_le _, HT5.out, own_nil _ _ _ _, HO45.out, own_lower HO5.out hdc.size, hc5⟩
    case round =>
      obtain ⟨j, vp, rfl, hj, hT, hvp, hB4, hC, hb⟩ := hrel
      by_cases hjn : j < G.length
      · obtain ⟨g, hg⟩ : ∃ g, G[j]? = some g := ⟨G[j], List.getElem?_eq_getElem hjn⟩
        have hE1 := HE1.out.below hb
        obtain ⟨s1, s2, s3⟩ := hE1.seg HNC.out hg
        have hg0 : 0 < g.length := List.length_pos_iff.2 (HPP.out.ne g (List.mem_of_getElem? hg))
        obtain ⟨b2, o2, r1, hA2, hbl2, hr1, hok1, k2, -⟩ := s2.at_ (i := 0) hg0
        have hr1n := HK.out r1 (List.mem_flatten.2 ⟨g, List.mem_of_getElem? hg, List.mem_of_getElem? hr1⟩)
        rw [hr1n] at k2
        have hp1 := hok1.1
        rw [hr1n] at hp1
        simp only [Nat.zero_mul, Nat.add_zero] at k2
        rw [hA2] at s1
        obtain ⟨b5, o5, rfl, hbl5, u, hu, k5⟩ := (own_rw hC).2.one hjn
        have hu2 : u = .slice (some ⟨b2, o2, none⟩) g.length (c - fl G j) := by
          unfold segvs at hu
          rw [List.getElem?_map, List.getElem?_range hjn] at hu
          simp at hu
          rw [← hu, s1]
        rw [hu2] at k5
        obtain ⟨A6, c6, hv6, hn6, -⟩ := Rw.of_own hvp
        subst hv6
        have t0 := hT.cell 0
        have t2 := hT.cell 2
        simp at t0 t2
        have hg0' : (0 : Int) < (g.length : Int) := by omega
        have HT := hide hT
        have HVP := hide hvp
        have HB4 := hide hB4
        have HC := hide hC
        have HB := hide hb
        have HP1 := hide hp1
        have hplace : (placesG G lv)[j]? = some (addrOf r1.p lv) := by
          unfold placesG
          rw [List.getElem?_map, hg]
          have : g.head? = some r1 := by rw [List.head?_eq_getElem?]; exact hr1
          simp [this]
        have HPL := hide hplace
        clear hT hvp hB4 hC hb hp1 hE1 s1 s2 s3 hr1 hok1 hr1n hu hu2 hg hA2 hplace
        generalize c - fl G j = cg at *
        generalize g.length = gl at *
        rename World => wz
        have hz1 := (below_alloc HB.out (Nat.le_refl _) (.cells #[.int .i64 (addrOf r1.p lv : Nat)] 3)).drew
        have HTz := hide (show Blk (wz.alloc (.cells #[.int .i64 (addrOf r1.p lv : Nat)] 3)).drew g3 119 #[.int .i64 (lv : Int), .slice B4 k d4, .slice A6 j c6, .bool false, .int .u64 0] from (HT.out.alloc _).drewN 1)
        have hqz : Below wz.heap.size wz (wz.alloc (.cells #[.int .i64 (addrOf r1.p lv : Nat)] 3)).drew := ((Below.refl _ wz).alloc (Nat.le_refl _) _).drew
        have HVPz := hide (own_below HVP.out hqz)
        have HB4z := hide (own_below HB4.out hqz)
        have HCz := hide (own_below HC.out hqz)
        have t2z := HTz.out.cell 2
        simp at t2z
        go_upto_region 8 with fail
        go_region_law (first
          | (refine step_app _ (by rfl) (.tmp 37) (.tmp 48) _ (by rfl) w1.heap.size 3 _ 1 8 Tryz.underlying117 info_i rfl (by omega) _ j _ (by rfl) HVPz.out (some ⟨wz.heap.size, 0, none⟩) 1 1 [.int .i64 (addrOf r1.p lv : Nat)] (by rfl) w1 hz1 (Nat.le_refl _) (Rw.new1 wz 3 #[.int .i64 (addrOf r1.p lv : Nat)] rfl) ?h2 (by unfold maxLen; omega) (by omega) ?_
             case h2 =>
               intro u hu
               rw [List.mem_singleton] at hu
               rw [hu]
               rfl
             intro v8 w8 ho8 hb8 hg8
             obtain ⟨A8, c8, rfl, -, -⟩ := Rw.of_own ho8
             have hT8 := HTz.out.grown HVPz.out (by decide) hg8
             have HB48 := hide (own_grown HB4z.out HVPz.out (by decide) hg8)
             have HC8 := hide (own_grown HCz.out HVPz.out (by decide) hg8)
             have y2 := hT8.cell 2
             have z2 := hT8.frozen 2
             simp at y2
             have HT8 := hide hT8
             have HO8 := hide ho8
             have HB8 := hide hb8
             clear ho8 hb8 hg8 hT8)
          | (go_simp
             go_at_call 72
             refine (ref_addr r1.A k r1.c lv r1.p wz.drew (HP1.out.below (Below.refl _ wz).drew) (by omega) hlv).mono ?_
             rintro e w7 ⟨rfl, rfl⟩))
        all_goals
          go_wp2_with fail
          go_roundw
          case rel =>
            refine ⟨j + 1, .slice A8 (j + 1) c8, by go_num, by omega, HT8.out.set1 _, ?_, own_set_ty HB48.out HT8.out (by decide), own_set_ty HC8.out HT8.out (by decide), HB8.out.setCell (p := ⟨g3, 2, none⟩) hg3 _⟩
            have hl := (List.getElem?_eq_some_iff.1 HPL.out).1
            have he := (List.getElem?_eq_some_iff.1 HPL.out).2
            rw [List.take_succ_eq_append_getElem hl, he, List.map_append]
            exact own_set_ty HO8.out HT8.out (by decide)
          case measure => simp [intOf]; omega
      · have hj' : j = G.length := by omega
        rename World => wz
        have kk : wz.cell? ⟨b, o, none⟩ = some (.slice r0.A k r0.c) := HC.out wz hb
        have HDE := hide (ref_dense k G.length wz (by omega) (by omega))
        rw [hj', List.take_of_length_le (by unfold placesG; rw [List.length_map]; omega)] at hvp
        obtain ⟨A6, c6, hv6, hn6, -⟩ := Rw.of_own hvp
        subst hv6
        have e9 : decide ((j : Int) < (G.length : Int)) = false := by simp; omega
        have hT2 := hT.set1 (i := 3) (.bool (denseB k G.length))
        have hvp2 := own_set_ty (g := g3) (i := 3) (u := .bool (denseB k G.length)) hvp hT (by decide)
        have hB42 := own_set_ty (g := g3) (i := 3) (u := .bool (denseB k G.length)) hB4 hT (by decide)
        have hb2 := below_set1 (g := g3) (i := 3) (x := .bool (denseB k G.length)) hb hg3
        have hN2 := (HN1.out.belowB hb2 hs1)
        have z0 := hN2.frozen 0
        have z1 := hN2.frozen 1
        have z2 := hN2.frozen 2
        have z3 := hN2.frozen 3
        have z4 := hN2.frozen 4
        have y0 := hN2.cell 0
        have y1 := hN2.cell 1
        have y2 := hN2.cell 2
        have y3 := hN2.cell 3
        have y4 := hN2.cell 4
        simp at y0 y1 y2 y3 y4
        have x0 := hT2.cell 0
        have x1 := hT2.cell 1
        have x2 := hT2.cell 2
        have x3 := hT2.cell 3
        have x4 := hT2.cell 4
        simp at x0 x1 x2 x3 x4
        have u3 := hT.cell 3
        have v3 := hT.frozen 3
        simp at u3
        have e5 := hN2.set5 (x0 := .int .i64 (lv : Int)) (x1 := .slice B4 k d4) (x2 := .slice A6 G.length c6) (x3 := .bool (denseB k G.length)) (x4 := .int .u64 0)
        have hs0 : w.heap.size < w1.heap.size := hs1
        have b5 := below_set5 (x0 := .int .i64 (lv : Int)) (x1 := .slice B4 k d4) (x2 := .slice A6 G.length c6) (x3 := .bool (denseB k G.length)) (x4 := .int .u64 0) (below_then b1 hb2) (Nat.le_refl w.heap.size)
        have o5 := own_far5 (g := w.heap.size) (x0 := .int .i64 (lv : Int)) (x1 := .slice B4 k d4) (x2 := .slice A6 G.length c6) (x3 := .bool (denseB k G.length)) (x4 := .int .u64 0) hB42 hs0
        have o6 := own_far5 (g := w.heap.size) (x0 := .int .i64 (lv : Int)) (x1 := .slice B4 k d4) (x2 := .slice A6 G.length c6) (x3 := .bool (denseB k G.length)) (x4 := .int .u64 0) hvp2 hs0
        have g0 := e5.cell 0
        have g1 := e5.cell 1
        have g2 := e5.cell 2
        have g3' := e5.cell 3
        have g4 := e5.cell 4
        simp only [List.getElem?_toArray] at g0 g1 g2 g3' g4
        have HO5' := hide o5
        have HO6' := hide o6
        have HB5' := hide b5
        have HJ := hide hj'
        clear hT hvp hB4 hC hT2 hvp2 hB42 hb2 hN2 e5 b5 o5 o6 hj' hb
        go_wp2_with fail
        refine HDE.out.mono ?_
        rintro e w9 ⟨rfl, rfl⟩
        go_wp2
        refine bodyPost_ret (v := .agg #[.int .i64 (lv : Int), .slice B4 k d4, .slice A6 G.length c6, .bool (denseB k G.length), .int .u64 0]) (by simp [results, Tryz.results65, go_sem, g0, g1, g2, g3', g4]) rfl ⟨B4, d4, A6, c6, rfl, (own_rw HO5'.out).2, (own_rw HO6'.out).2, HB5'.out, own_ty HO5'.out, own_ty HO6'.out⟩
theorem ref_shape (A : Option Addr) (n c k lv : Nat) (G : List (List ER)) (r0 : ER) (w : World) (h : EntsAt w A n G.flatten) (hnc : n ≤ c) (hk : ∀ r ∈ G.flatten, r.n = k) (hk1 : 1 ≤ k) (hk16 : k ≤ 16) (hn : n ≤ 65536) (hn2 : 2 ≤ n) (hlv : lv < 64) (hP : Parts G lv) (hr0 : G.flatten[0]? = some r0)
    (hL : ∀ W, Below w.heap.size w W → Calls Tryz.prog 99 #[.slice A n c] W fun e w' => e = .returned (.int .i64 (lv : Nat)) ∧ Below W.heap.size W w') :
    Calls Tryz.prog 65 #[.slice A n c] w fun e w' => ∃ B d C f, e = .returned (.agg #[.int .i64 (lv : Nat), .slice B k d, .slice C G.length f, .bool (denseB k G.length), .int .u64 0]) ∧ Rw w' 1 B k (u64s (cut (lv + 1) r0.p)) ∧ Rw w' 1 C G.length ((placesG G lv).map fun (x : Nat) => .int .i64 (x : Int)) ∧ Below w.heap.size w w' :=
  (ref_shape_t A n c k lv G r0 w h hnc hk hk1 hk16 hn hn2 hlv hP hr0 hL).mono fun e w' ⟨B, d, C, f, h1, h2, h3, h4, _⟩ => ⟨B, d, C, f, h1, h2, h3, h4⟩
end
section
open Go.RowKit
/-- The rows of a node's kids. -/
theorem split_rows : ∀ (ks : List Kid) (rows : List ER), ents rows = kidEs ks → ∃ G : List (List ER), G.flatten = rows ∧ G.length = ks.length ∧ ∀ (i : Nat) (g : List ER) (q : Kid), G[i]? = some g → ks[i]? = some q → ents g = q.es
  | [], rows, h => by
    refine ⟨[], ?_, rfl, fun i g q hg => by simp at hg⟩
    have : rows = [] := by
      unfold ents kidEs at h
      simpa using h
    rw [this]; rfl
  | q :: ks, rows, h => by
    have h' : ents rows = q.es ++ kidEs ks := by rw [h]; unfold kidEs; rw [List.flatMap_cons]
    have h1 : ents (rows.take q.es.length) = q.es := by
      unfold ents at h' ⊢
      rw [List.map_take, h', List.take_left' rfl]
    have h2 : ents (rows.drop q.es.length) = kidEs ks := by
      unfold ents at h' ⊢
      rw [List.map_drop, h', List.drop_left' rfl]
    obtain ⟨G, g1, g2, g3⟩ := split_rows ks _ h2
    refine ⟨rows.take q.es.length :: G, ?_, by simp [g2], ?_⟩
    · rw [List.flatten_cons, g1, List.take_append_drop]
    · intro i g r hg hr
      cases i with
      | zero =>
        simp at hg hr
        rw [← hg, ← hr]; exact h1
      | succ i => exact g3 i g r (by simpa using hg) (by simpa using hr)
theorem ents_mem {rows : List ER} {r : ER} (h : r ∈ rows) : (r.p, r.v) ∈ ents rows := List.mem_map.2 ⟨r, h, rfl⟩
/-- What a fork's lists are. -/
structure ForkG (k lv : Nat) (pre : List Nat) (ks : List Kid) (G : List (List ER)) : Prop where
  len : G.length = ks.length
  es : ∀ (i : Nat) (g : List ER) (q : Kid), G[i]? = some g → ks[i]? = some q → ents g = q.es
  parts : Parts G lv
  at_ : ∀ (i : Nat) (g : List ER) (q : Kid) (r : ER), G[i]? = some g → ks[i]? = some q → r ∈ g → addrOf r.p lv = q.at_
  hi : ∀ r ∈ G.flatten, ∀ b, lv < b → addrOf r.p b = addrOf pre b
theorem forkG {w : World} {k g lv : Nat} {pre : List Nat} {ks : List Kid} (h : Fork w k g lv pre ks) {rows : List ER} (he : ents rows = kidEs ks) : ∃ G, G.flatten = rows ∧ ForkG k lv pre ks G := by
  obtain ⟨A, c, gs, hlv, hp, hkc, hz, hk, hl, ha, hs, h2, hS, hB⟩ := h
  obtain ⟨G, g1, g2, g3⟩ := split_rows ks rows he
  have hat : ∀ (i : Nat) (g : List ER) (q : Kid) (r : ER), G[i]? = some g → ks[i]? = some q → r ∈ g → addrOf r.p lv = q.at_ := by
    intro i g q r hg hq hr
    have hqm := List.mem_of_getElem? hq
    have hm := ents_mem hr
    rw [g3 i g q hg hq] at hm
    have := ((hk q hqm).info.2.2.2.2.1 _ hm).2.2 lv (hl q hqm)
    rw [← (ha q hqm).1]
    exact this
  have hq_of : ∀ (i : Nat) (g : List ER), G[i]? = some g → ∃ q, ks[i]? = some q := fun i g hg => by
    have := (List.getElem?_eq_some_iff.1 hg).1
    exact ⟨ks[i]'(by omega), List.getElem?_eq_getElem _⟩
  refine ⟨G, g1, g2, g3, ⟨?_, ?_, ?_⟩, hat, ?_⟩
  · intro g hg h0
    obtain ⟨i, hi⟩ := List.getElem?_of_mem hg
    obtain ⟨q, hq⟩ := hq_of i g hi
    have := (hk q (List.mem_of_getElem? hq)).info.2.1
    rw [← g3 i g q hi hq, h0] at this
    exact this rfl
  · intro g hg r hr s hs
    obtain ⟨i, hi⟩ := List.getElem?_of_mem hg
    obtain ⟨q, hq⟩ := hq_of i g hi
    rw [hat i g q r hi hq hr, hat i g q s hi hq hs]
  · rw [List.pairwise_iff_getElem]
    intro i j hi hj hij r hr s hs'
    have hgi : G[i]? = some G[i] := List.getElem?_eq_getElem hi
    have hgj : G[j]? = some G[j] := List.getElem?_eq_getElem hj
    have hqi : ks[i]? = some (ks[i]'(by omega)) := List.getElem?_eq_getElem _
    have hqj : ks[j]? = some (ks[j]'(by omega)) := List.getElem?_eq_getElem _
    rw [hat i _ _ r hgi hqi hr, hat j _ _ s hgj hqj hs']
    have := (List.pairwise_iff_getElem.1 hs) i j (by omega) (by omega) hij
    omega
  · intro r hr b hb
    obtain ⟨g, hg, hr⟩ := List.mem_flatten.1 hr
    obtain ⟨i, hi⟩ := List.getElem?_of_mem hg
    obtain ⟨q, hq⟩ := hq_of i g hi
    have hqm := List.mem_of_getElem? hq
    have hm := ents_mem hr
    rw [g3 i g q hi hq] at hm
    have h1 := ((hk q hqm).info.2.2.2.2.1 _ hm).2.2 b (by have := hl q hqm; omega)
    rw [← (ha q hqm).2 b hb]
    exact h1
theorem ForkG.places {k lv : Nat} {pre : List Nat} {ks : List Kid} {G : List (List ER)} (h : ForkG k lv pre ks G) : placesG G lv = ks.map (·.at_) := by
  unfold placesG
  apply List.ext_getElem (by simp [h.len])
  intro i h1 h2
  simp only [List.length_map] at h1 h2
  have hg : G[i]? = some G[i] := List.getElem?_eq_getElem h1
  have hq : ks[i]? = some ks[i] := List.getElem?_eq_getElem h2
  rw [List.getElem_map, List.getElem_map]
  obtain ⟨r, t, hrt⟩ := List.exists_cons_of_ne_nil (h.parts.ne G[i] (List.mem_of_getElem? hg))
  rw [hrt]
  simp only [List.head?_cons, Option.map_some, Option.getD_some]
  exact h.at_ i _ _ r hg hq (by rw [hrt]; exact List.mem_cons_self)
/-- The first and the last row part at the node's level. -/
theorem ForkG.part_ {w : World} {k g lv : Nat} {pre : List Nat} {ks : List Kid} {G : List (List ER)} (h : ForkG k lv pre ks G) (hF : Fork w k g lv pre ks) {W : World} {A : Option Addr} {n : Nat} (hE : EntsAt W A n G.flatten) (hk : ∀ r ∈ G.flatten, r.n = k) :
    ∃ r s, G.flatten[0]? = some r ∧ G.flatten[n - 1]? = some s ∧ part r.p s.p = (lv : Int) ∧ cut (lv + 1) r.p = pre ∧ 2 ≤ n := by
  obtain ⟨A', c, gs, hlv, hp, hkc, hz, hkk, hl, ha, hs, h2, hS, hB⟩ := hF
  have hlen := hE.len
  have hGl := h.len
  have hg0 : G[0]? = some (G[0]'(by omega)) := List.getElem?_eq_getElem _
  have hgl : G[G.length - 1]? = some (G[G.length - 1]'(by omega)) := List.getElem?_eq_getElem _
  generalize G[0]'(by omega) = g0 at hg0
  generalize G[G.length - 1]'(by omega) = gl at hgl
  have n0 := List.length_pos_iff.2 (h.parts.ne g0 (List.mem_of_getElem? hg0))
  have nl := List.length_pos_iff.2 (h.parts.ne gl (List.mem_of_getElem? hgl))
  have hf0 : G.flatten[0]? = some (g0[0]'n0) := by
    have := fl_get hg0 n0 (d := 0)
    rw [fl_zero] at this
    rw [this]; exact List.getElem?_eq_getElem _
  have hfl : fl G (G.length - 1) + gl.length = n := by
    have h1 := fl_succ hgl
    rw [← h1, fl_all G (by omega)]
    exact hlen
  have hfL : G.flatten[n - 1]? = some (gl[gl.length - 1]'(by omega)) := by
    have := fl_get hgl (d := gl.length - 1) (by omega)
    rw [show fl G (G.length - 1) + (gl.length - 1) = n - 1 by omega] at this
    rw [this]; exact List.getElem?_eq_getElem _
  have m0 : g0[0] ∈ g0 := List.getElem_mem _
  have ml : gl[gl.length - 1] ∈ gl := List.getElem_mem _
  generalize g0[0]'n0 = r at *
  generalize gl[gl.length - 1]'(by omega) = s at *
  have hq0 : ks[0]? = some (ks[0]'(by omega)) := List.getElem?_eq_getElem _
  have hql : ks[G.length - 1]? = some (ks[G.length - 1]'(by omega)) := List.getElem?_eq_getElem _
  have a0 := h.at_ 0 g0 _ r hg0 hq0 m0
  have al := h.at_ (G.length - 1) gl _ s hgl hql ml
  have hlt := (List.pairwise_iff_getElem.1 hs) 0 (G.length - 1) (by omega) (by omega) (by omega)
  have mr : r ∈ G.flatten := List.mem_of_getElem? hf0
  have ms : s ∈ G.flatten := List.mem_of_getElem? hfL
  have zr : Zp k r.p := by have := (hE.2 r mr).1.zp; rwa [hk r mr] at this
  have zs : Zp k s.p := by have := (hE.2 s ms).1.zp; rwa [hk s ms] at this
  refine ⟨r, s, hf0, hfL, part_unique zr zs (fun b hb => ?_) (by omega), ?_, ?_⟩
  · rw [h.hi r mr b hb, h.hi s ms b hb]
  · refine eq_of_addr (zp_cut zr) hp.zp fun b => ?_
    rcases Nat.lt_or_ge lv b with hb | hb
    · rw [addr_cut_hi _ (by omega)]; exact h.hi r mr b hb
    · rw [addr_cut_lo _ (by omega)]; exact (hz b hb).symm
  · rcases Nat.lt_or_ge n 2 with hn | hn
    · have : n - 1 = 0 := by omega
      rw [this, hf0] at hfL
      injection hfL with hfL
      subst hfL
      omega
    · exact hn
end
section
open Go.RowKit
/-- Is says yes, of any list in memory. -/
def IsYes (w : World) (k g : Nat) (es : List Ent) : Prop :=
  ∀ (W : World) (B : Option Addr) (m : Nat) (rows : List ER), Below w.heap.size w W → EntsAt W B rows.length rows → rows.length ≤ m → rows.length ≤ 65536 → (∀ r ∈ rows, r.n = k) → ents rows = es →
    Calls Tryz.prog 40 #[.pointer (some ⟨g, 0, none⟩), .slice B rows.length m] W fun e w' => e = .returned (.bool true) ∧ Below W.heap.size W w'
theorem places_int (ks : List Kid) : (ks.map fun q => Value.int .i64 (q.at_ : Int)) = ((ks.map fun q => (q.at_ : Int)).map fun z => Value.int .i64 z) := by simp [Function.comp_def]
theorem placesG_int {k lv : Nat} {pre : List Nat} {ks : List Kid} {G : List (List ER)} (h : ForkG k lv pre ks G) : ((placesG G lv).map fun (x : Nat) => Value.int .i64 (x : Int)) = ((ks.map fun q => (q.at_ : Int)).map fun z => Value.int .i64 z) := by
  rw [h.places]; simp [Function.comp_def]
set_option maxHeartbeats 8000000 in
set_option maxRecDepth 100000 in
theorem is_fork {w : World} {k g lv n : Nat} {pre : List Nat} {ks : List Kid} {B : Option Addr} {m : Nat} {G : List (List ER)} (hF : Fork w k g lv pre ks) (hk1 : 1 ≤ k) (hk : k ≤ 16) (hE : EntsAt w B n G.flatten) (hnm : n ≤ m) (hn : n ≤ 65536) (hkk : ∀ r ∈ G.flatten, r.n = k)
    (hG : ForkG k lv pre ks G) (hes : ents G.flatten = kidEs ks) (ih : ∀ q ∈ ks, IsYes w k q.blk q.es) :
    Calls Tryz.prog 40 #[.pointer (some ⟨g, 0, none⟩), .slice B n m] w fun e w' => e = .returned (.bool true) ∧ Below w.heap.size w w' := by
  obtain ⟨r0, s0, hr0, hs0, hpart, hcut, hn2⟩ := hG.part_ hF hE hkk
  have hL : ∀ W, Below w.heap.size w W → Calls Tryz.prog 99 #[.slice B n m] W fun e w' => e = .returned (.int .i64 (lv : Nat)) ∧ Below W.heap.size W w' := fun W hW => by
    have := ref_level B n m k G.flatten r0 s0 W (hE.below hW) hr0 hs0 (hkk r0 (List.mem_of_getElem? hr0)) (hkk s0 (List.mem_of_getElem? hs0)) (by omega) (by omega) (by omega)
    rwa [hpart] at this
  have hlv : lv < 64 := by obtain ⟨_, _, _, h1, _⟩ := hF; exact h1
  obtain ⟨A, c, gs, hp, hS, hB⟩ := hF.head
  have HLG := hide hG.len
  have hkl : ks.length ≤ 65536 := by
    have h1 := len_le_of_ok hS.ok
    have h2 := pow16 hS.2.1
    simp [kidTh] at h1
    omega
  have HRS := hide (fun (W : World) (hW : Below w.heap.size w W) => ref_shape B n m k lv G r0 W (hE.below hW) hnm hkk hk1 hk hn hn2 hlv hG.parts hr0 (fun X hX => hL X (below_then hW hX)))
  have HKI := hide (fun (W : World) (hW : Below w.heap.size w W) => ref_kids B n m k lv G W (hE.below hW) hnm hkk (by omega) hn (by omega) hlv hG.parts (fun X hX => hL X (below_then hW hX)))
  have HSG := hide (fun (W : World) (hW : Below w.heap.size w W) => nd_shape_fork (hB.below hW) (hp.below hW) hk (hS.below hW))
  have HF := hide hF
  have HB := hide hB
  have HS := hide hS
  have HE := hide hE
  have HCUT := hide hcut
  have HG := hide hG
  have HES := hide hes
  have HKK := hide hkk
  have HIH := hide ih
  have HNM := hide hnm
  obtain ⟨b, o, r', rfl, hbl, hr, hok, k0, -⟩ := hE.at_ (i := 0) (by omega)
  rw [hr0] at hr
  injection hr with hr
  subst hr
  simp only [Nat.zero_mul, Nat.add_zero] at k0
  rw [hkk r0 (List.mem_of_getElem? hr0)] at k0
  have hn0 : (0 : Int) < (n : Int) := by omega
  have hn0' : 0 < n := by omega
  have en1 : ((n : Int) == 1) = false := by simp; omega
  clear hF hE hkk hG hes ih hr0 hs0 hpart hcut hL hp hS hB hok hnm
  have HEN := hide (nd_entry_fork HB.out)
  go_enter Tryz.func40, Tryz.ntmps40
  go_wp2_with fail
  refine HEN.out.mono ?_
  rintro e w1 ⟨rfl, hb1⟩
  have c2 := below_alloc hb1 (Nat.le_refl _) (.cells #[.slice none 0 0, .int .u64 0] 83)
  clear hb1 HEN k0
  go_upto_region 3 with fail
  generalize w1.alloc (.cells #[.slice none 0 0, .int .u64 0] 83) = w2 at *
  have HK := hide (nd_k (HF.out.node.stay c2))
  go_wp2_with fail
  refine HK.out.mono ?_
  rintro e w3 ⟨rfl, rfl⟩
  go_wp2_with fail
  refine (HSG.out _ c2).mono ?_
  rintro e w3 ⟨B3, d3, C3, f3, rfl, hR3, hP3, hb3⟩
  have c3 := below_then c2 hb3
  have HR3 := hide hR3
  have HP3 := hide hP3
  clear HK hR3 hP3
  go_wp2_with fail
  refine (HRS.out _ c3).mono ?_
  rintro e w4 ⟨B4, d4, C4, f4, rfl, hR4, hP4, hb4⟩
  have c4 := below_then c3 hb4
  rw [HCUT.out, u64s_int] at hR4
  rw [placesG_int HG.out] at hP4
  have hR3 := HR3.out.below hb4
  have hP3 := HP3.out.below hb4
  rw [u64s_int] at hR3
  rw [places_int] at hP3
  rw [HLG.out] at hP4
  have HSS := hide (same_shape B3 B4 C3 C4 k d3 d4 ks.length f3 f4 (lv : Int) (denseB k ks.length) 0 _ _ w4 hR3 hR4 hP3 hP4 (by omega) (by omega))
  have hlg := HLG.out
  rw [hlg]
  clear hR4 hP4 hR3 hP3
  go_wp2_with fail
  refine HSS.out.mono ?_
  rintro e w5 ⟨rfl, hb5⟩
  have c5 := below_then c4 hb5
  have HSu := hide (nd_sums (HB.out.below c5))
  clear HSS hb3 hb4 hb5 hlg
  go_wp2_with fail
  refine HSu.out.mono ?_
  rintro e w6 ⟨rfl, hb6⟩
  have c6 := below_then c5 hb6
  have CR := ref_sums (some ⟨b, o, none⟩) n m G.flatten w6 (HE.out.below c6) (by omega)
  rw [HES.out] at CR
  have HCR := hide CR
  clear CR HSu hb6
  generalize sumsOf (kidEs ks) = sm at *
  go_wp2_with fail
  refine HCR.out.mono ?_
  rintro e w7 ⟨rfl, hb7⟩
  have c7 := below_then c6 hb7
  have HLv := hide (nd_level (HF.out.node.stay c7))
  clear HCR hb7
  unfold Sum4.val
  go_wp2_with fail
  refine HLv.out.mono ?_
  rintro e w8 ⟨rfl, rfl⟩
  clear HLv
  go_wp2_with fail
  refine (HRS.out _ c7).mono ?_
  rintro e w8 ⟨B8, d8, C8, f8, rfl, -, -, hb8⟩
  have c8 := below_then c7 hb8
  have q0 := shape_fld0 (.int .i64 (lv : Int)) (.slice B8 k d8) (.slice C8 G.length f8) (.bool (denseB k G.length)) (.int .u64 0)
  have HPf := hide (nd_prefix (HF.out.node.stay c8) hk)
  clear hb8
  go_wp2_with fail
  refine HPf.out.mono ?_
  rintro e w9 ⟨v9, rfl, ho9, hb9⟩
  have c9 := below_then c8 hb9
  obtain ⟨B9, d9, rfl, -, hR9⟩ := Rw.of_own ho9
  have HR9 := hide hR9
  clear ho9 hR9 HPf hb9
  go_wp2_with fail
  refine (HRS.out _ c9).mono ?_
  rintro e w10 ⟨Ba, da, Ca, fa, rfl, hRa, -, hb10⟩
  have c10 := below_then c9 hb10
  have q1 := shape_fld1 (.int .i64 (lv : Int)) (.slice Ba k da) (.slice Ca G.length fa) (.bool (denseB k G.length)) (.int .u64 0)
  rw [HCUT.out, u64s_int] at hRa
  have hR9 := HR9.out.below hb10
  rw [u64s_int] at hR9
  have CQ := same_u64 B9 Ba k d9 k da _ _ w10 hR9 hRa (by omega) (by omega)
  rw [show sameB (pre.map fun (x : Nat) => (x : Int)) (pre.map fun (x : Nat) => (x : Int)) = true by simp [sameB]] at CQ
  have HCQ := hide CQ
  clear CQ hRa hR9 hb10
  go_wp2_with fail
  refine HCQ.out.mono ?_
  rintro e w11 ⟨rfl, hb11⟩
  have c11 := below_then c10 hb11
  clear HCQ hb11 q0 q1 HR9 HR3 HP3
  go_wp2_with fail
  refine (HKI.out _ c11).mono ?_
  rintro e w12 ⟨C, f, rfl, hoC, hb12⟩
  have c12 := below_then c11 hb12
  have HOC := hide (own_rw hoC).2
  clear hoC
  go_wp2
  go_loopw [9] (fun x9 wr => ∃ (j : Nat), x9 = .int .i64 (j : Int) ∧ j ≤ G.length ∧ Below w12.heap.size w12 wr) (fun x _ => G.length - (intOf x).toNat)
  case atStart => exact ⟨0, rfl, Nat.zero_le _, Below.refl _ _⟩
  case round =>
    obtain ⟨j, rfl, hj, hb⟩ := hrel
    have hgl2 : G.length ≤ 65536 := by rw [HLG.out]; exact hkl
    by_cases hjn : j < G.length
    · obtain ⟨gg, hg⟩ : ∃ gg, G[j]? = some gg := ⟨G[j], List.getElem?_eq_getElem hjn⟩
      have hjk : j < ks.length := by rw [← HLG.out]; exact hjn
      obtain ⟨q, hq⟩ : ∃ q, ks[j]? = some q := ⟨ks[j], List.getElem?_eq_getElem hjk⟩
      have hqm := List.mem_of_getElem? hq
      have cz := below_then c12 hb
      have hE1 := HE.out.below cz
      obtain ⟨s1, s2, s3⟩ := hE1.seg HNM.out hg
      have hg0 : 0 < gg.length := List.length_pos_iff.2 (HG.out.parts.ne gg (List.mem_of_getElem? hg))
      obtain ⟨b2, o2, r1, hA2, hbl2, hr1, hok1, k2, -⟩ := s2.at_ (i := 0) hg0
      have hr1n := HKK.out r1 (List.mem_flatten.2 ⟨gg, List.mem_of_getElem? hg, List.mem_of_getElem? hr1⟩)
      rw [hr1n] at k2
      have hp1 := hok1.1
      rw [hr1n] at hp1
      simp only [Nat.zero_mul, Nat.add_zero] at k2
      rw [hA2] at s1 s2
      obtain ⟨b5, o5, rfl, hbl5, u, hu, k5⟩ := (HOC.out.below hb).one hjn
      have hu2 : u = .slice (some ⟨b2, o2, none⟩) gg.length (m - fl G j) := by
        unfold segvs at hu
        rw [List.getElem?_map, List.getElem?_range hjn] at hu
        simp at hu
        rw [← hu, s1]
      rw [hu2] at k5
      have hat := HG.out.at_ j gg q r1 hg hq (List.mem_of_getElem? hr1)
      have hge := HG.out.es j gg q hg hq
      have hth : getTh (kidTh ks) (q.at_ : Int) = some (.pointer (some ⟨q.blk, 0, none⟩)) :=
        getTh_some HS.out.ok (t := (q.at_, .pointer (some ⟨q.blk, 0, none⟩))) (List.mem_map.2 ⟨q, hqm, rfl⟩)
      have hgn : gg.length ≤ 65536 := by
        have := fl_le hg
        rw [HE.out.len] at this
        omega
      have hP1 := hide hp1
      have hS2 := hide s2
      have hAT := hide hat
      have hTH := hide hth
      have hKQ := hide (HIH.out q hqm)
      have hRE := hide (And.intro s3 (And.intro hgn (And.intro (fun r hr => HKK.out r (List.mem_flatten.2 ⟨gg, List.mem_of_getElem? hg, hr⟩)) hge)))
      have hg0' : (0 : Int) < (gg.length : Int) := by omega
      clear hg hq hqm hE1 s1 s2 s3 hr1 hok1 hr1n hp1 hu hu2 hat hge hth hA2 hgn
      generalize m - fl G j = cg at *
      have hglz : gg.length = gg.length := rfl
      generalize hgll : gg.length = gl at *
      have HGLL := hide hgll
      clear hgll hglz
      rename World => wz
      go_wp2_with fail
      go_region_held3 (fun w' => w'.cell? ⟨b5, o5 + j, none⟩ = some (.slice (some ⟨b2, o2, none⟩) gl cg) ∧ w'.cell? ⟨b2, o2, none⟩ = some (.slice r1.A k r1.c))
        (first
          | go_keep
          | exact hk13
          | exact hk14)
        (first
          | (go_at_call 70
             refine (nd_level ((HF.out.node.stay cz).stay (Below.refl _ wz).drew)).mono ?_
             rintro e w13 ⟨rfl, rfl⟩)
          | (go_at_call 72
             have CA := ref_addr r1.A k r1.c lv r1.p wz.drew (hP1.out.below (Below.refl _ wz).drew) (by omega) hlv
             rw [hAT.out] at CA
             refine CA.mono ?_
             rintro e w13 ⟨rfl, rfl⟩)
          | (go_at_call 64
             have CK := nd_kid ((HB.out.below cz).below (Below.refl _ wz).drew) ((HS.out.below cz).below (Below.refl _ wz).drew) (q.at_ : Int)
             rw [hTH.out] at CK
             refine CK.mono ?_
             rintro e w13 ⟨rfl, hb13⟩
             have hd13 : Below wz.heap.size wz w13 := (Below.refl _ wz).drew.trans hb13
             have hk13 := And.intro ((hd13.cell (p := ⟨b5, o5 + j, none⟩) hbl5).trans k5) ((hd13.cell (p := ⟨b2, o2, none⟩) hbl2).trans k2))
          | (go_at_call 40
             have hs2 := hS2.out.below hd13
             have hz1 := hRE.out.1
             have hz2 := hRE.out.2.1
             rw [← HGLL.out] at hs2 hz1 hz2
             have CI := hKQ.out w13 (some ⟨b2, o2, none⟩) cg gg (below_then cz hd13) hs2 hz1 hz2 hRE.out.2.2.1 hRE.out.2.2.2
             clear hs2 hz1 hz2
             rw [HGLL.out] at CI
             refine CI.mono ?_
             rintro e w14 ⟨rfl, hb14⟩
             have hd14 := below_then hd13 hb14
             have hk14 := And.intro ((hd14.cell (p := ⟨b5, o5 + j, none⟩) hbl5).trans k5) ((hd14.cell (p := ⟨b2, o2, none⟩) hbl2).trans k2)))
      go_wp2
      go_roundw
      case rel => exact ⟨j + 1, by go_num, by omega, below_then hb hd14⟩
      case measure => simp [intOf]; omega
    · have hj' : ¬ j < G.length := hjn
      have e9 : decide ((j : Int) < (G.length : Int)) = false := by simp; omega
      go_wp2
      go_ret
      exact ⟨rfl, below_then c12 hb⟩
/-- Of any node. -/
theorem is_node {w : World} {k g : Nat} {lv : Int} {pre : List Nat} {es : List Ent} (h : NodeOf w k g lv pre es) (hk1 : 1 ≤ k) (hk : k ≤ 16) : IsYes w k g es := by
  induction h with
  | @leaf g A c p v hv hp hc hB =>
    intro W B m rows hb hE hm hn hkk hes
    obtain ⟨r, rfl⟩ : ∃ r, rows = [r] := by
      have : rows.length = 1 := by
        have := congrArg List.length hes
        unfold ents at this
        simpa using this
      match rows, this with
      | [r], _ => exact ⟨r, rfl⟩
    have hrr : r.p = p ∧ r.v = v := by
      unfold ents ER.e at hes
      simp at hes
      exact hes
    exact is_leaf m (hB.below hb) (hp.below hb) hc hk1 hk hv hE hrr.1 hrr.2
  | @fork g A c lv pre gs ks hlv hp hc hz hkid hl ha hs h2 hS hB ih =>
    intro W B m rows hb hE hm hn hkk hes
    have hF : Fork w k g lv pre ks := ⟨A, c, gs, hlv, hp, hc, hz, hkid, hl, ha, hs, h2, hS, hB⟩
    obtain ⟨G, rfl, hG⟩ := forkG hF hes
    exact is_fork (hF.stay hb) hk1 hk hE hm hn hkk hG hes fun q hq X B' m' rows' hX => ih q hq X B' m' rows' (below_then hb hX)
end
section
open Go.RowKit
/-- An entry's node, its point a row of its own. -/
def LeafAt (w : World) (k g : Nat) (p : List Nat) (v : Nat) : Prop := ∃ A c, Blk w g 140 (nodeCells (-1) A k c v none ⟨1, v, v, v⟩) ∧ w.ownsRow 0 45 1 (.slice A k c) k (u64s p) ∧ k ≤ c ∧ Zp k p ∧ v < 2 ^ 64
theorem LeafAt.node {w : World} {k g : Nat} {p : List Nat} {v : Nat} (h : LeafAt w k g p v) : NodeOf w k g (-1) p [(p, v)] := by
  obtain ⟨A, c, h1, h2, h3, h4, h5⟩ := h
  exact .leaf h5 ⟨h4.1, (own_rw h2).2, h4.2⟩ h3 h1
theorem LeafAt.stay {w w' : World} {k g : Nat} {p : List Nat} {v : Nat} (h : LeafAt w k g p v) (hb : Below w.heap.size w w') : LeafAt w' k g p v := by
  obtain ⟨A, c, h1, h2, h3, h4, h5⟩ := h
  exact ⟨A, c, h1.below hb, own_below h2 hb, h3, h4, h5⟩
theorem LeafAt.grown {w w' : World} {k g base sz n : Nat} {p : List Nat} {v : Nat} {u : Value} {xs : List Value} (h : LeafAt w k g p v) (ho : w.ownsRow base 76 sz u n xs) (hg : w.grownBy w' u.ownBlock) : LeafAt w' k g p v := by
  obtain ⟨A, c, h1, h2, h3, h4, h5⟩ := h
  exact ⟨A, c, h1.grown ho (by decide) hg, own_grown h2 ho (by decide) hg, h3, h4, h5⟩
theorem info_n : (Tryz.prog.info? 76).map (fun i => (i.zero, i.size, i.bytes)) = some (some (.pointer none), 1, 8) := by kernel_rfl
def ptrs (gs : List Nat) : List Value := gs.map fun g => Value.pointer (some ⟨g, 0, none⟩)
end
end Go.Proofs.YtfkpanpageeklaaGreat
