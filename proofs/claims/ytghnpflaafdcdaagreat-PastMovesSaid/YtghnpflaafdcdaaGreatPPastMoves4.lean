/- PastMoves: contracts and plain laws that the statement leans on (LaB Fr Ke Ex TrA TrB). No condition. -/
import Derived.Test.YtghnpflaafdcdaaGreatPPastMoves3
import Derived.Laws.StructEq
import Derived.StillTailTactics
import Derived.Deep.Cut
import Derived.Deep.CutRange
set_option linter.unusedSimpArgs false
set_option linter.unusedVariables false
namespace Go.Proofs.YtghnpflaafdcdaaGreat
section
open Go.RowKit
theorem u64s_int (p : List Nat) : u64s p = (p.map fun (x : Nat) => (x : Int)).map fun z => Value.int .u64 z := by
  unfold u64s; simp [Function.comp_def]
theorem Fork.head {w : World} {k g lv : Nat} {pre : List Nat} {ks : List Kid} (h : Fork w k g lv pre ks) :
    ∃ A c gs, Pt w A k pre ∧ SlotsAt_n w gs k (kidTh ks) ∧ Blk w g 114 (nodeCells lv A k c 0 (some ⟨gs, 0, none⟩) (sumsOf (kidEs ks))) := by
  obtain ⟨A, c, gs, h1, h2, h3, h4, h5, h6, h7, h8, h9, h10, h11⟩ := h
  exact ⟨A, c, gs, h2, h10, h11⟩
end
section
open Go.RowKit
theorem shape_fld0 (x0 x1 x2 x3 x4 : Value) (w : World) : (Instr.field 118 (.agg #[x0, x1, x2, x3, x4]) 0).run Tryz.prog w = .ok x0 w := by kernel_rfl
theorem shape_fld1 (x0 x1 x2 x3 x4 : Value) (w : World) : (Instr.field 118 (.agg #[x0, x1, x2, x3, x4]) 1).run Tryz.prog w = .ok x1 w := by kernel_rfl
set_option maxHeartbeats 2000000 in
set_option maxRecDepth 100000 in
theorem ref_shape1 (A : Option Addr) (c : Nat) (r : ER) (w : World) (h : EntsAt w A 1 [r]) :
    Calls Tryz.prog 60 #[.slice A 1 c] w fun e w' => e = .returned (.agg #[.int .i64 (-1), .slice r.A r.n r.c, .slice none 0 0, .bool false, .int .u64 (r.v : Int)]) ∧ Below w.heap.size w w' := by
  have b1 := (Below.refl w.heap.size w).alloc (Nat.le_refl _) (.cells #[.int .i64 0, .slice none 0 0, .slice none 0 0, .bool false, .int .u64 0] 118)
  have hN1 := Blk.new w 118 #[.int .i64 0, .slice none 0 0, .slice none 0 0, .bool false, .int .u64 0]
  obtain ⟨b, o, r', rfl, hbl, hr, hok, k0, k1⟩ := (h.below b1).at_ (i := 0) (by omega)
  obtain rfl : r = r' := by simpa using hr
  simp only [Nat.zero_mul, Nat.add_zero, Nat.zero_add] at k0 k1
  have HN1 := hide hN1
  clear hr hok h hN1
  go_enter Tryz.func60, Tryz.ntmps60
  go_upto_region 2 with fail
  generalize w.alloc (.cells #[.int .i64 0, .slice none 0 0, .slice none 0 0, .bool false, .int .u64 0] 118) = w1 at *
  go_still_tail 9, (by kernel_rfl)
  change wpList _ _ _ _ _ w1.drew
  have hN2 : Blk w1.drew w.heap.size 118 #[.int .i64 0, .slice none 0 0, .slice none 0 0, .bool false, .int .u64 0] := HN1.out.drewN 1
  have b2 := b1.drew
  generalize w1.drew = w2 at *
  have z0 := hN2.frozen 0
  have z1 := hN2.frozen 1
  have z2 := hN2.frozen 2
  have z3 := hN2.frozen 3
  have z4 := hN2.frozen 4
  have y0 := hN2.cell 0
  have y1 := hN2.cell 1
  have y2 := hN2.cell 2
  have y3 := hN2.cell 3
  have y4 := hN2.cell 4
  simp at y0 y1 y2 y3 y4
  have e5 := hN2.set5 (x0 := .int .i64 (-1)) (x1 := .slice r.A r.n r.c) (x2 := .slice none 0 0) (x3 := .bool false) (x4 := .int .u64 (r.v : Int))
  have b5 := below_set5 (x0 := .int .i64 (-1)) (x1 := .slice r.A r.n r.c) (x2 := .slice none 0 0) (x3 := .bool false) (x4 := .int .u64 (r.v : Int)) b2 (Nat.le_refl w.heap.size)
  have g0 := e5.cell 0
  have g1 := e5.cell 1
  have g2 := e5.cell 2
  have g3 := e5.cell 3
  have g4 := e5.cell 4
  simp only [List.getElem?_toArray] at g0 g1 g2 g3 g4
  go_wp2
  refine bodyPost_ret (v := .agg #[.int .i64 (-1), .slice r.A r.n r.c, .slice none 0 0, .bool false, .int .u64 (r.v : Int)]) (by simp [results, Tryz.results60, go_sem, g0, g1, g2, g3, g4]) rfl ⟨rfl, b5⟩
set_option maxHeartbeats 4000000 in
set_option maxRecDepth 100000 in
theorem is_leaf {w : World} {g k c v : Nat} {A B : Option Addr} {p : List Nat} (m : Nat) {r : ER} (hB : Blk w g 114 (nodeCells (-1) A k c v none ⟨1, v, v, v⟩)) (hp : Pt w A k p) (hkc : k ≤ c) (hk1 : 1 ≤ k) (hk : k ≤ 16)
    (hv : v < 2 ^ 64) (hE : EntsAt w B 1 [r]) (hrp : r.p = p) (hrv : r.v = v) :
    Calls Tryz.prog 42 #[.pointer (some ⟨g, 0, none⟩), .slice B 1 m] w fun e w' => e = .returned (.bool true) ∧ Below w.heap.size w w' := by
  have HN := hide (NodeOf.leaf hv hp hkc hB)
  have HP := hide hp
  have HB := hide hB
  have HE := hide hE
  have hrn : r.n = k := by
    have h1 := (hE.2 r List.mem_cons_self).1.1
    rw [hrp, hp.1] at h1
    exact h1.symm
  have HNN := hide hrn
  have HRP := hide hrp
  have HRV := hide hrv
  obtain ⟨b, o, r', rfl, hbl, hr, hok, k0, k1⟩ := hE.at_ (i := 0) (by omega)
  obtain rfl : r = r' := by simpa using hr
  simp only [Nat.zero_mul, Nat.add_zero, Nat.zero_add] at k0 k1
  rw [hrn] at k0
  rw [hrv] at k1
  have HEN := hide (nd_entry_leaf hB hp hk)
  have K0 := hide k0
  have K1 := hide k1
  clear hr hok hE hB hp hrn hrp hrv k1
  go_enter Tryz.func42, Tryz.ntmps42
  go_wp2_with fail
  refine HEN.out.mono ?_
  rintro e w1 ⟨B1, d1, rfl, ho1, hb1⟩
  have c2 := below_alloc hb1 (Nat.le_refl _) (.cells #[.slice B1 k d1, .int .u64 (v : Int)] 79)
  have HT := hide (Blk.new w1 79 #[.slice B1 k d1, .int .u64 (v : Int)])
  have HO := hide ((own_rw ho1).2.below ((Below.refl w1.heap.size w1).alloc (Nat.le_refl _) (.cells #[.slice B1 k d1, .int .u64 (v : Int)] 79)))
  have ht6 : w1.heap.size < (w1.alloc (.cells #[.slice B1 k d1, .int .u64 (v : Int)] 79)).heap.size := by simp
  clear ho1 hb1 k0 HEN
  go_upto_region 3 with fail
  generalize w1.alloc (.cells #[.slice B1 k d1, .int .u64 (v : Int)] 79) = w2 at *
  have hd := Below.refl w2.heap.size w2
  have HK := hide (nd_k (HN.out.stay c2))
  go_wp2_with fail
  refine HK.out.mono ?_
  rintro e w3 ⟨rfl, rfl⟩
  have HSh := hide (nd_shape_leaf (HB.out.below c2) (HP.out.below c2) hk)
  go_wp2_with fail
  refine HSh.out.mono ?_
  rintro e w3 ⟨B3, d3, rfl, hR3, hb3⟩
  replace hd := below_then hd hb3
  have c3 := below_then c2 hd
  have CS := ref_shape1 (some ⟨b, o, none⟩) m r w3 (HE.out.below c3)
  rw [HNN.out, HRV.out] at CS
  have HCS := hide CS
  have HR3 := hide hR3
  clear CS hR3 HK HSh
  go_wp2_with fail
  refine HCS.out.mono ?_
  rintro e w4 ⟨rfl, hb4⟩
  replace hd := below_then hd hb4
  have c4 := below_then c2 hd
  have hrow4 := (HE.out.below c4).2 r List.mem_cons_self
  have hP4 := hrow4.1.2.1
  rw [HNN.out, HRP.out, u64s_int] at hP4
  have hR4 := HR3.out.below hb4
  rw [u64s_int] at hR4
  have HSS := hide (same_shape B3 r.A none none k d3 r.c 0 0 0 (-1) false v _ [] w4 hR4 hP4 (Rw.nil _ _ _) (Rw.nil _ _ _) (by omega) (by omega))
  clear hP4 hR4 hrow4 HCS
  go_wp2_with fail
  refine HSS.out.mono ?_
  rintro e w5 ⟨rfl, hb5⟩
  replace hd := below_then hd hb5
  have c5 := below_then c2 hd
  have HSu := hide (nd_sums (HB.out.below c5))
  clear HSS hb3 hb4 hb5
  go_wp2_with fail
  refine HSu.out.mono ?_
  rintro e w6 ⟨rfl, hb6⟩
  replace hd := below_then hd hb6
  have c6 := below_then c2 hd
  have CR := ref_sums (some ⟨b, o, none⟩) 1 m [r] w6 (HE.out.below c6) (by omega)
  have hs : sumsOf (ents [r]) = ⟨1, v, v, v⟩ := by
    have : ents [r] = [(p, v)] := by unfold ents ER.e; simp [HRP.out, HRV.out]
    rw [this]; exact sumsOf_one p v hv
  rw [hs] at CR
  have HCR := hide CR
  clear CR hs HSu hb6
  go_wp2_with fail
  refine HCR.out.mono ?_
  rintro e w7 ⟨rfl, hb7⟩
  replace hd := below_then hd hb7
  have c7 := below_then c2 hd
  have HLv := hide (nd_level (HN.out.stay c7))
  clear HCR hb7
  unfold Sum4.val
  go_wp2_with fail
  refine HLv.out.mono ?_
  rintro e w8 ⟨rfl, rfl⟩
  have CS := ref_shape1 (some ⟨b, o, none⟩) m r w7 (HE.out.below c7)
  rw [HNN.out, HRV.out] at CS
  have HCS := hide CS
  clear CS HLv
  go_wp2_with fail
  refine HCS.out.mono ?_
  rintro e w8 ⟨rfl, hb8⟩
  replace hd := below_then hd hb8
  have c8 := below_then c2 hd
  have HPf := hide (nd_prefix (HN.out.stay c8) hk)
  have q0 := shape_fld0 (.int .i64 (-1)) (.slice r.A k r.c) (.slice none 0 0) (.bool false) (.int .u64 (v : Int))
  have q1 := shape_fld1 (.int .i64 (-1)) (.slice r.A k r.c) (.slice none 0 0) (.bool false) (.int .u64 (v : Int))
  clear HCS hb8
  go_wp2_with fail
  refine HPf.out.mono ?_
  rintro e w9 ⟨v9, rfl, ho9, hb9⟩
  replace hd := below_then hd hb9
  have c9 := below_then c2 hd
  obtain ⟨B9, d9, rfl, -, hR9⟩ := Rw.of_own ho9
  have CS := ref_shape1 (some ⟨b, o, none⟩) m r w9 (HE.out.below c9)
  rw [HNN.out, HRV.out] at CS
  have HCS := hide CS
  have HR9 := hide hR9
  clear CS ho9 hR9 HPf hb9
  go_wp2_with fail
  refine HCS.out.mono ?_
  rintro e w10 ⟨rfl, hb10⟩
  replace hd := below_then hd hb10
  have c10 := below_then c2 hd
  have hrow4 := (HE.out.below c10).2 r List.mem_cons_self
  have hP4 := hrow4.1.2.1
  rw [HNN.out, HRP.out, u64s_int] at hP4
  have hR4 := HR9.out.below hb10
  rw [u64s_int] at hR4
  have CQ := same_u64 B9 r.A k d9 k r.c _ _ w10 hR4 hP4 (by omega) (by omega)
  rw [show sameB (p.map fun (x : Nat) => (x : Int)) (p.map fun (x : Nat) => (x : Int)) = true by simp [sameB]] at CQ
  have HCQ := hide CQ
  clear CQ hP4 hR4 hrow4 HCS
  go_wp2_with fail
  refine HCQ.out.mono ?_
  rintro e w11 ⟨rfl, hb11⟩
  replace hd := below_then hd hb11
  have c11 := below_then c2 hd
  have hT := HT.out.below hd
  have t0 := hT.cell 0
  have t1 := hT.cell 1
  simp at t0 t1
  have hbw := c11.cell (p := ⟨b, o, none⟩) hbl
  have hbw1 := c11.cell (p := ⟨b, o + 1, none⟩) hbl
  have k0 := hbw.trans K0.out
  have k1 := hbw1.trans K1.out
  have hR1 := HO.out.below hd
  have hP1 := ((HE.out.below c11).2 r List.mem_cons_self).1.2.1
  rw [HNN.out, HRP.out, u64s_int] at hP1
  rw [u64s_int] at hR1
  have HP1 := hide hP1
  have HR1 := hide hR1
  have HT11 := hide hT
  clear HCQ hbw hbw1 hP1 hR1 hT
  go_upto_region 6 with fail
  go_region_held3 (fun w' => w'.cell? ⟨w1.heap.size, 0, none⟩ = some (.slice B1 k d1) ∧ w'.cell? ⟨w1.heap.size, 1, none⟩ = some (.int .u64 (v : Int)) ∧ w'.cell? ⟨b, o, none⟩ = some (.slice r.A k r.c) ∧ w'.cell? ⟨b, o + 1, none⟩ = some (.int .u64 (v : Int)))
    (first
      | go_keep
      | exact hk2)
    (first
      | (go_at_call 34
         have CQ := same_u64 B1 r.A k d1 k r.c _ _ w11.drew (HR1.out.below (Below.refl _ w11).drew) (HP1.out.below (Below.refl _ w11).drew) (by omega) (by omega)
         rw [show sameB (p.map fun (x : Nat) => (x : Int)) (p.map fun (x : Nat) => (x : Int)) = true by simp [sameB]] at CQ
         refine CQ.mono ?_
         rintro e w12 ⟨rfl, hb12⟩
         have hq : Below w11.heap.size w11 w12 := (Below.refl _ w11).drew.trans hb12
         have hk2 : w12.cell? ⟨w1.heap.size, 0, none⟩ = some (.slice B1 k d1) ∧ w12.cell? ⟨w1.heap.size, 1, none⟩ = some (.int .u64 (v : Int)) ∧ w12.cell? ⟨b, o, none⟩ = some (.slice r.A k r.c) ∧ w12.cell? ⟨b, o + 1, none⟩ = some (.int .u64 (v : Int)) :=
           ⟨(hq.cell (p := ⟨w1.heap.size, 0, none⟩) HT11.out.lt).trans t0, (hq.cell (p := ⟨w1.heap.size, 1, none⟩) HT11.out.lt).trans t1, (hq.cell (p := ⟨b, o, none⟩) (Nat.lt_of_lt_of_le hbl c11.size)).trans k0, (hq.cell (p := ⟨b, o + 1, none⟩) (Nat.lt_of_lt_of_le hbl c11.size)).trans k1⟩))
  go_wp2
  go_ret
  exact ⟨rfl, below_then c11 hq⟩
end
section
open Go.RowKit
/-- An own row and a block of another type. -/
theorem own_set_ty {w : World} {base : Nat} {e t : TypeId} {sz n g i : Nat} {v u : Value} {xs : List Value} {cs : Array Value} (h : w.ownsRow base e sz v n xs) (hB : Blk w g t cs) (hne : e ≠ t) : (w.setCell ⟨g, i, none⟩ u).ownsRow base e sz v n xs := by
  obtain ⟨h1, h2⟩ := h
  refine ⟨h1, ?_⟩
  rcases h2 with h2 | ⟨gr, cap, cur, hv, hg, hh, r⟩
  · exact .inl h2
  · exact .inr ⟨gr, cap, cur, hv, hg, Blk.set_ (t := e) hh g i u (Blk.ne_ (t := e) hh hB hne), r⟩
theorem own_set5_ty {w : World} {base : Nat} {e t : TypeId} {sz n g : Nat} {v x0 x1 x2 x3 x4 : Value} {xs : List Value} {cs : Array Value} (h : w.ownsRow base e sz v n xs) (hB : Blk w g t cs) (hne : e ≠ t) :
    (((((w.setCell ⟨g, 0, none⟩ x0).setCell ⟨g, 1, none⟩ x1).setCell ⟨g, 2, none⟩ x2).setCell ⟨g, 3, none⟩ x3).setCell ⟨g, 4, none⟩ x4).ownsRow base e sz v n xs :=
  own_set_ty (own_set_ty (own_set_ty (own_set_ty (own_set_ty h hB hne) (hB.set1 _) hne) ((hB.set1 _).set1 _) hne) (((hB.set1 _).set1 _).set1 _) hne) ((((hB.set1 _).set1 _).set1 _).set1 _) hne
theorem own_ne_blk {w : World} {base : Nat} {e t : TypeId} {sz n g : Nat} {v : Value} {xs : List Value} {cs : Array Value} (h : w.ownsRow base e sz v n xs) (hB : Blk w g t cs) (hne : e ≠ t) : v.ownBlock ≠ some g := by
  intro hv
  rcases h.2 with ⟨rfl, _⟩ | ⟨gr, cap, cur, rfl, hg, hh, r⟩
  · simp [Value.ownBlock] at hv
  · have : gr = g := by simpa [Value.ownBlock] using hv
    exact Blk.ne_ (t := e) hh hB hne this
/-- A block stays where a row of another type grows. -/
theorem Blk.grown {w w' : World} {base : Nat} {e t : TypeId} {sz n g : Nat} {v : Value} {xs : List Value} {cs : Array Value} (hB : Blk w g t cs) (h : w.ownsRow base e sz v n xs) (hne : e ≠ t) (hg : w.grownBy w' v.ownBlock) : Blk w' g t cs :=
  (hg.block g hB.lt (Ne.symm (own_ne_blk h hB hne))).trans hB
theorem own_grown {w w' : World} {base base' : Nat} {e e' : TypeId} {sz sz' n n' : Nat} {v v' : Value} {xs xs' : List Value} (h : w.ownsRow base e sz v n xs) (h' : w.ownsRow base' e' sz' v' n' xs') (hne : e' ≠ e) (hg : w.grownBy w' v'.ownBlock) : w'.ownsRow base e sz v n xs := by
  obtain ⟨h1, h2⟩ := h
  refine ⟨h1, ?_⟩
  rcases h2 with h2 | ⟨gr, cap, cur, hv, hgb, hh, r⟩
  · exact .inl h2
  · exact .inr ⟨gr, cap, cur, hv, hgb, Blk.grown (t := e) hh h' hne hg, r⟩
/-- The addresses of the kids' lists. -/
def placesG (G : List (List ER)) (lv : Nat) : List Nat := G.map fun g => addrOf ((g.head?.map (·.p)).getD []) lv
set_option maxHeartbeats 4000000 in
set_option maxRecDepth 100000 in
theorem ref_shape_t (A : Option Addr) (n c k lv : Nat) (G : List (List ER)) (r0 : ER) (w : World) (h : EntsAt w A n G.flatten) (hnc : n ≤ c) (hk : ∀ r ∈ G.flatten, r.n = k) (hk1 : 1 ≤ k) (hk16 : k ≤ 16) (hn : n ≤ 65536) (hn2 : 2 ≤ n) (hlv : lv < 64) (hP : Parts G lv) (hr0 : G.flatten[0]? = some r0)
    (hL : ∀ W, Below w.heap.size w W → Calls Tryz.prog 94 #[.slice A n c] W fun e w' => e = .returned (.int .i64 (lv : Nat)) ∧ Below W.heap.size W w') :
    Calls Tryz.prog 60 #[.slice A n c] w fun e w' => ∃ B d C f, e = .returned (.agg #[.int .i64 (lv : Nat), .slice B k d, .slice C G.length f, .bool (denseB k G.length), .int .u64 0]) ∧ Rw w' 1 B k (u64s (cut (lv + 1) r0.p)) ∧ Rw w' 1 C G.length ((placesG G lv).map fun (x : Nat) => .int .i64 (x : Int)) ∧ Below w.heap.size w w' ∧ TyRow w' 36 B k ∧ TyRow w' 3 C G.length  := by
  have b1 := (Below.refl w.heap.size w).alloc (Nat.le_refl _) (.cells #[.int .i64 0, .slice none 0 0, .slice none 0 0, .bool false, .int .u64 0] 118)
  have hN1 := Blk.new w 118 #[.int .i64 0, .slice none 0 0, .slice none 0 0, .bool false, .int .u64 0]
  obtain ⟨b, o, r', rfl, hbl, hr, hok, k0, -⟩ := h.at_ (i := 0) (by omega)
  rw [hr0] at hr
  injection hr with hr
  subst hr
  simp only [Nat.zero_mul, Nat.add_zero, Nat.zero_add] at k0
  have hrn := hk r0 (List.mem_of_getElem? hr0)
  rw [hrn] at k0
  have hp0 := (h.2 r0 (List.mem_of_getElem? hr0)).1
  rw [hrn] at hp0
  have HP0 := hide hp0
  have HE := hide h
  have HN1 := hide hN1
  have HL := hide hL
  have HK := hide hk
  have HPP := hide hP
  have HNC := hide hnc
  have HR0 := hide hr0
  have e1 : ((n : Int) == 1) = false := by simp; omega
  have hn0 : (0 : Int) < (n : Int) := by omega
  have hn0' : 0 < n := by omega
  clear h hN1 hL hk hP hnc hr0 hok hp0 hrn
  go_enter Tryz.func60, Tryz.ntmps60
  go_upto_region 3 with fail
  generalize w.alloc (.cells #[.int .i64 0, .slice none 0 0, .slice none 0 0, .bool false, .int .u64 0] 118) = w1 at *
  have HC := hide (fun (W : World) (hW : Below w1.heap.size w1 W) => ((below_then b1 hW).cell (p := ⟨b, o, none⟩) hbl).trans k0)
  have HLE := hide (fun (W : World) (hW : Below w1.heap.size w1 W) => hW.size)
  have HL1 := hide (fun (W : World) (hW : Below w1.heap.size w1 W) => HL.out W (below_then b1 hW))
  have HP1 := hide (HP0.out.below b1)
  have HE1 := hide (HE.out.below b1)
  have k1 := HC.out w1 (Below.refl _ w1)
  have hs1 : w.heap.size < w1.heap.size := HN1.out.lt
  have hd := (Below.refl w1.heap.size w1).drew
  have hbr := Below.refl w1.heap.size w1
  clear k0
  go_cut [3] from 18 to 27 (fun s3 W => ∃ g3 B4 d4, s3 = .pointer (some ⟨g3, 0, none⟩) ∧ w1.heap.size ≤ g3 ∧ Blk W g3 118 #[.int .i64 (lv : Int), .slice B4 k d4, .slice none 0 0, .bool false, .int .u64 0] ∧ W.ownsRow w1.heap.size 36 1 (.slice B4 k d4) k (u64s (cut (lv + 1) r0.p)) ∧ Below w1.heap.size w1 W)
  case first =>
    go_region_held3 (fun w' => w'.cell? ⟨b, o, none⟩ = some (.slice r0.A k r0.c))
      (first
        | go_keep
        | exact hk
        | exact HC.out _ (below_alloc hd (Nat.le_refl _) _)
        | exact HC.out _ (below_alloc hbr (Nat.le_refl _) _).drew
        | exact hk5)
      (first
        | (go_at_call 94
           refine (HL1.out _ ?hx).mono ?_
           case hx =>
             first
               | exact hd
               | exact below_alloc hd (Nat.le_refl _) _
               | exact (below_alloc hbr (Nat.le_refl _) _).drew
           rintro e w2 ⟨rfl, hb2⟩
           first
             | (replace hd := below_then hd hb2
                try replace hT := hT.below hb2)
             | (have hd0 := hd
                replace hd := below_then (below_alloc hd (Nat.le_refl _) (.cells #[.int .i64 0, .slice none 0 0, .slice none 0 0, .bool false, .int .u64 0] 118)) hb2
                have hT := (Blk.new _ 118 #[.int .i64 0, .slice none 0 0, .slice none 0 0, .bool false, .int .u64 0]).below hb2
                have hX := hd0)
             | (replace hd := below_then (below_alloc hbr (Nat.le_refl _) (.cells #[.int .i64 0, .slice none 0 0, .slice none 0 0, .bool false, .int .u64 0] 118)).drew hb2
                have hT0 : Blk (w1.alloc (.cells #[.int .i64 0, .slice none 0 0, .slice none 0 0, .bool false, .int .u64 0] 118)).drew w1.heap.size 118 #[.int .i64 0, .slice none 0 0, .slice none 0 0, .bool false, .int .u64 0] := (Blk.new w1 _ _).drewN 1
                have hT := hT0.below hb2
                have hX := hbr)
           have hk := HC.out _ hd)
        | (go_at_call 95
           have CC := fun W (hW : Below w1.heap.size w1 W) => ref_cut r0.A k r0.c (lv + 1) r0.p W (HP1.out.below hW) (by omega) (by omega)
           rw [show ((lv + 1 : Nat) : Int) - 1 = (lv : Int) by omega] at CC
           refine (CC _ ?hx).mono ?_
           case hx =>
             first
               | exact hd
               | exact below_alloc hd (Nat.le_refl _) _
               | exact (below_alloc hbr (Nat.le_refl _) _).drew
           rintro e w4 ⟨v4, rfl, ho4, hb4⟩
           obtain ⟨B4, d4, rfl, -, -⟩ := Rw.of_own ho4
           first
             | (replace ho4 := own_lower ho4 (HLE.out _ hd)
                replace hd := below_then hd hb4
                try replace hT := hT.below hb4)
             | (have hd0 := hd
                replace ho4 := own_lower ho4 (HLE.out _ (below_alloc hd (Nat.le_refl _) (.cells #[.int .i64 0, .slice none 0 0, .slice none 0 0, .bool false, .int .u64 0] 118)))
                replace hd := below_then (below_alloc hd (Nat.le_refl _) (.cells #[.int .i64 0, .slice none 0 0, .slice none 0 0, .bool false, .int .u64 0] 118)) hb4
                have hT := (Blk.new _ 118 #[.int .i64 0, .slice none 0 0, .slice none 0 0, .bool false, .int .u64 0]).below hb4
                have hX := hd0)
           have hk := HC.out _ hd
           try
             have z0 := hT.frozen 0
             have z1 := hT.frozen 1
             have z2 := hT.frozen 2
             have z3 := hT.frozen 3
             have z4 := hT.frozen 4
             have y0 := hT.cell 0
             have y1 := hT.cell 1
             have y2 := hT.cell 2
             have y3 := hT.cell 3
             have y4 := hT.cell 4
             simp at y0 y1 y2 y3 y4
             have hk5 := (cell_far5 (i0 := 0) (i1 := 1) (i2 := 2) (i3 := 3) (i4 := 4) (x0 := .int .i64 (lv : Int)) (x1 := .slice B4 k d4) (x2 := .slice none 0 0) (x3 := .bool false) (x4 := .int .u64 0) (Nat.ne_of_lt (Nat.lt_of_lt_of_le (Nat.lt_trans hbl hs1) (HLE.out _ hX)))).trans hk))
    all_goals
      go_wp2_with fail
      go_meet
    all_goals
      first
        | exact ⟨_, B4, d4, rfl, HLE.out _ hX, hT.set5, own_set5_ty ho4 hT (by decide), below_set5 hd (HLE.out _ hX)⟩
        | exact ⟨_, B4, d4, rfl, HLE.out _ hd, Blk.new _ _ _, own_below ho4 ((Below.refl _ _).alloc (Nat.le_refl _) _), below_alloc hd (Nat.le_refl _) _⟩
  case rest =>
    obtain ⟨g3, B4, d4, rfl, hg3, hT, ho4, hdc⟩ := hcut
    have HKI := hide (ref_kids (some ⟨b, o, none⟩) n c k lv G wc (HE1.out.below hdc) HNC.out HK.out (by omega) hn (by omega) hlv HPP.out (fun W hW => HL1.out W (below_then hdc hW)))
    have HT := hide hT
    have HO4 := hide ho4
    clear hT ho4 hd k1
    go_wp2_with fail
    refine HKI.out.mono ?_
    rintro e w5 ⟨C, f, rfl, ho5, hb5⟩
    have hc5 := below_then hdc hb5
    have HT5 := hide (HT.out.below hb5)
    have HO45 := hide (own_below HO4.out hb5)
    have HO5 := hide ho5
    have hGn : G.length ≤ 65536 := by
      have h1 : ∀ (H : List (List ER)), (∀ g ∈ H, g ≠ []) → H.length ≤ H.flatten.length := by
        intro H
        induction H with
        | nil => intro _; simp
        | cons g H ih =>
          intro hH
          have h1 := ih fun g' hg' => hH g' (List.mem_cons_of_mem _ hg')
          have h2 := List.length_pos_iff.2 (hH g List.mem_cons_self)
          rw [List.flatten_cons, List.length_append, List.length_cons]; omega
      have h2 := h1 G HPP.out.ne
      rw [HE.out.len] at h2
      omega
    clear ho5 HT HO4 HKI hb5
    go_wp2
    go_loopw [5] (fun x5 wr => ∃ (j : Nat) (vp : Value), x5 = .int .i64 (j : Int) ∧ j ≤ G.length ∧ Blk wr g3 118 #[.int .i64 (lv : Int), .slice B4 k d4, vp, .bool false, .int .u64 0] ∧ wr.ownsRow w1.heap.size 3 1 vp j (((placesG G lv).take j).map fun (x : Nat) => .int .i64 (x : Int)) ∧ wr.ownsRow w1.heap.size 36 1 (.slice B4 k d4) k (u64s (cut (lv + 1) r0.p)) ∧ wr.ownsRow w1.heap.size 32 1 (.slice C G.length f) G.length (segvs (some ⟨b, o, none⟩) c G G.length) ∧ Below w1.heap.size w1 wr) (fun x _ => G.length - (intOf x).toNat)
    case atStart => exact ⟨0, .slice none 0 0, rfl, Nat.zero_le _, HT5.out, own_nil _ _ _ _, HO45.out, own_lower HO5.out hdc.size, hc5⟩
    case round =>
      obtain ⟨j, vp, rfl, hj, hT, hvp, hB4, hC, hb⟩ := hrel
      by_cases hjn : j < G.length
      · obtain ⟨g, hg⟩ : ∃ g, G[j]? = some g := ⟨G[j], List.getElem?_eq_getElem hjn⟩
        have hE1 := HE1.out.below hb
        obtain ⟨s1, s2, s3⟩ := hE1.seg HNC.out hg
        have hg0 : 0 < g.length := List.length_pos_iff.2 (HPP.out.ne g (List.mem_of_getElem? hg))
        obtain ⟨b2, o2, r1, hA2, hbl2, hr1, hok1, k2, -⟩ := s2.at_ (i := 0) hg0
        have hr1n := HK.out r1 (List.mem_flatten.2 ⟨g, List.mem_of_getElem? hg, List.mem_of_getElem? hr1⟩)
        rw [hr1n] at k2
        have hp1 := hok1.1
        rw [hr1n] at hp1
        simp only [Nat.zero_mul, Nat.add_zero] at k2
        rw [hA2] at s1
        obtain ⟨b5, o5, rfl, hbl5, u, hu, k5⟩ := (own_rw hC).2.one hjn
        have hu2 : u = .slice (some ⟨b2, o2, none⟩) g.length (c - fl G j) := by
          unfold segvs at hu
          rw [List.getElem?_map, List.getElem?_range hjn] at hu
          simp at hu
          rw [← hu, s1]
        rw [hu2] at k5
        obtain ⟨A6, c6, hv6, hn6, -⟩ := Rw.of_own hvp
        subst hv6
        have t0 := hT.cell 0
        have t2 := hT.cell 2
        simp at t0 t2
        have hg0' : (0 : Int) < (g.length : Int) := by omega
        have HT := hide hT
        have HVP := hide hvp
        have HB4 := hide hB4
        have HC := hide hC
        have HB := hide hb
        have HP1 := hide hp1
        have hplace : (placesG G lv)[j]? = some (addrOf r1.p lv) := by
          unfold placesG
          rw [List.getElem?_map, hg]
          have : g.head? = some r1 := by rw [List.head?_eq_getElem?]; exact hr1
          simp [this]
        have HPL := hide hplace
        clear hT hvp hB4 hC hb hp1 hE1 s1 s2 s3 hr1 hok1 hr1n hu hu2 hg hA2 hplace
        generalize c - fl G j = cg at *
        generalize g.length = gl at *
        rename World => wz
        have hz1 := (below_alloc HB.out (Nat.le_refl _) (.cells #[.int .i64 (addrOf r1.p lv : Nat)] 3)).drew
        have HTz := hide (show Blk (wz.alloc (.cells #[.int .i64 (addrOf r1.p lv : Nat)] 3)).drew g3 118 #[.int .i64 (lv : Int), .slice B4 k d4, .slice A6 j c6, .bool false, .int .u64 0] from (HT.out.alloc _).drewN 1)
        have hqz : Below wz.heap.size wz (wz.alloc (.cells #[.int .i64 (addrOf r1.p lv : Nat)] 3)).drew := ((Below.refl _ wz).alloc (Nat.le_refl _) _).drew
        have HVPz := hide (own_below HVP.out hqz)
        have HB4z := hide (own_below HB4.out hqz)
        have HCz := hide (own_below HC.out hqz)
        have t2z := HTz.out.cell 2
        simp at t2z
        go_upto_region 8 with fail
        go_region_law (first
          | (refine step_app _ (by rfl) (.tmp 37) (.tmp 48) _ (by rfl) w1.heap.size 3 _ 1 8 Tryz.underlying116 info_i rfl (by omega) _ j _ (by rfl) HVPz.out (some ⟨wz.heap.size, 0, none⟩) 1 1 [.int .i64 (addrOf r1.p lv : Nat)] (by rfl) w1 hz1 (Nat.le_refl _) (Rw.new1 wz 3 #[.int .i64 (addrOf r1.p lv : Nat)] rfl) ?h2 (by unfold maxLen; omega) (by omega) ?_
             case h2 =>
               intro u hu
               rw [List.mem_singleton] at hu
               rw [hu]
               rfl
             intro v8 w8 ho8 hb8 hg8
             obtain ⟨A8, c8, rfl, -, -⟩ := Rw.of_own ho8
             have hT8 := HTz.out.grown HVPz.out (by decide) hg8
             have HB48 := hide (own_grown HB4z.out HVPz.out (by decide) hg8)
             have HC8 := hide (own_grown HCz.out HVPz.out (by decide) hg8)
             have y2 := hT8.cell 2
             have z2 := hT8.frozen 2
             simp at y2
             have HT8 := hide hT8
             have HO8 := hide ho8
             have HB8 := hide hb8
             clear ho8 hb8 hg8 hT8)
          | (go_simp
             go_at_call 65
             refine (ref_addr r1.A k r1.c lv r1.p wz.drew (HP1.out.below (Below.refl _ wz).drew) (by omega) hlv).mono ?_
             rintro e w7 ⟨rfl, rfl⟩))
        all_goals
          go_wp2_with fail
          go_roundw
          case rel =>
            refine ⟨j + 1, .slice A8 (j + 1) c8, by go_num, by omega, HT8.out.set1 _, ?_, own_set_ty HB48.out HT8.out (by decide), own_set_ty HC8.out HT8.out (by decide), HB8.out.setCell (p := ⟨g3, 2, none⟩) hg3 _⟩
            have hl := (List.getElem?_eq_some_iff.1 HPL.out).1
            have he := (List.getElem?_eq_some_iff.1 HPL.out).2
            rw [List.take_succ_eq_append_getElem hl, he, List.map_append]
            exact own_set_ty HO8.out HT8.out (by decide)
          case measure => simp [intOf]; omega
      · have hj' : j = G.length := by omega
        rename World => wz
        have kk : wz.cell? ⟨b, o, none⟩ = some (.slice r0.A k r0.c) := HC.out wz hb
        have HDE := hide (ref_dense k G.length wz (by omega) (by omega))
        rw [hj', List.take_of_length_le (by unfold placesG; rw [List.length_map]; omega)] at hvp
        obtain ⟨A6, c6, hv6, hn6, -⟩ := Rw.of_own hvp
        subst hv6
        have e9 : decide ((j : Int) < (G.length : Int)) = false := by simp; omega
        have hT2 := hT.set1 (i := 3) (.bool (denseB k G.length))
        have hvp2 := own_set_ty (g := g3) (i := 3) (u := .bool (denseB k G.length)) hvp hT (by decide)
        have hB42 := own_set_ty (g := g3) (i := 3) (u := .bool (denseB k G.length)) hB4 hT (by decide)
        have hb2 := below_set1 (g := g3) (i := 3) (x := .bool (denseB k G.length)) hb hg3
        have hN2 := (HN1.out.belowB hb2 hs1)
        have z0 := hN2.frozen 0
        have z1 := hN2.frozen 1
        have z2 := hN2.frozen 2
        have z3 := hN2.frozen 3
        have z4 := hN2.frozen 4
        have y0 := hN2.cell 0
        have y1 := hN2.cell 1
        have y2 := hN2.cell 2
        have y3 := hN2.cell 3
        have y4 := hN2.cell 4
        simp at y0 y1 y2 y3 y4
        have x0 := hT2.cell 0
        have x1 := hT2.cell 1
        have x2 := hT2.cell 2
        have x3 := hT2.cell 3
        have x4 := hT2.cell 4
        simp at x0 x1 x2 x3 x4
        have u3 := hT.cell 3
        have v3 := hT.frozen 3
        simp at u3
        have e5 := hN2.set5 (x0 := .int .i64 (lv : Int)) (x1 := .slice B4 k d4) (x2 := .slice A6 G.length c6) (x3 := .bool (denseB k G.length)) (x4 := .int .u64 0)
        have hs0 : w.heap.size < w1.heap.size := hs1
        have b5 := below_set5 (x0 := .int .i64 (lv : Int)) (x1 := .slice B4 k d4) (x2 := .slice A6 G.length c6) (x3 := .bool (denseB k G.length)) (x4 := .int .u64 0) (below_then b1 hb2) (Nat.le_refl w.heap.size)
        have o5 := own_far5 (g := w.heap.size) (x0 := .int .i64 (lv : Int)) (x1 := .slice B4 k d4) (x2 := .slice A6 G.length c6) (x3 := .bool (denseB k G.length)) (x4 := .int .u64 0) hB42 hs0
        have o6 := own_far5 (g := w.heap.size) (x0 := .int .i64 (lv : Int)) (x1 := .slice B4 k d4) (x2 := .slice A6 G.length c6) (x3 := .bool (denseB k G.length)) (x4 := .int .u64 0) hvp2 hs0
        have g0 := e5.cell 0
        have g1 := e5.cell 1
        have g2 := e5.cell 2
        have g3' := e5.cell 3
        have g4 := e5.cell 4
        simp only [List.getElem?_toArray] at g0 g1 g2 g3' g4
        have HO5' := hide o5
        have HO6' := hide o6
        have HB5' := hide b5
        have HJ := hide hj'
        clear hT hvp hB4 hC hT2 hvp2 hB42 hb2 hN2 e5 b5 o5 o6 hj' hb
        go_wp2_with fail
        refine HDE.out.mono ?_
        rintro e w9 ⟨rfl, rfl⟩
        go_wp2
        refine bodyPost_ret (v := .agg #[.int .i64 (lv : Int), .slice B4 k d4, .slice A6 G.length c6, .bool (denseB k G.length), .int .u64 0]) (by simp [results, Tryz.results60, go_sem, g0, g1, g2, g3', g4]) rfl ⟨B4, d4, A6, c6, rfl, (own_rw HO5'.out).2, (own_rw HO6'.out).2, HB5'.out, own_ty HO5'.out, own_ty HO6'.out⟩
theorem ref_shape (A : Option Addr) (n c k lv : Nat) (G : List (List ER)) (r0 : ER) (w : World) (h : EntsAt w A n G.flatten) (hnc : n ≤ c) (hk : ∀ r ∈ G.flatten, r.n = k) (hk1 : 1 ≤ k) (hk16 : k ≤ 16) (hn : n ≤ 65536) (hn2 : 2 ≤ n) (hlv : lv < 64) (hP : Parts G lv) (hr0 : G.flatten[0]? = some r0)
    (hL : ∀ W, Below w.heap.size w W → Calls Tryz.prog 94 #[.slice A n c] W fun e w' => e = .returned (.int .i64 (lv : Nat)) ∧ Below W.heap.size W w') :
    Calls Tryz.prog 60 #[.slice A n c] w fun e w' => ∃ B d C f, e = .returned (.agg #[.int .i64 (lv : Nat), .slice B k d, .slice C G.length f, .bool (denseB k G.length), .int .u64 0]) ∧ Rw w' 1 B k (u64s (cut (lv + 1) r0.p)) ∧ Rw w' 1 C G.length ((placesG G lv).map fun (x : Nat) => .int .i64 (x : Int)) ∧ Below w.heap.size w w' :=
  (ref_shape_t A n c k lv G r0 w h hnc hk hk1 hk16 hn hn2 hlv hP hr0 hL).mono fun e w' ⟨B, d, C, f, h1, h2, h3, h4, _⟩ => ⟨B, d, C, f, h1, h2, h3, h4⟩
end
section
open Go.RowKit
/-- The rows of a node's kids. -/
theorem split_rows : ∀ (ks : List Kid) (rows : List ER), ents rows = kidEs ks → ∃ G : List (List ER), G.flatten = rows ∧ G.length = ks.length ∧ ∀ (i : Nat) (g : List ER) (q : Kid), G[i]? = some g → ks[i]? = some q → ents g = q.es
  | [], rows, h => by
    refine ⟨[], ?_, rfl, fun i g q hg => by simp at hg⟩
    have : rows = [] := by
      unfold ents kidEs at h
      simpa using h
    rw [this]; rfl
  | q :: ks, rows, h => by
    have h' : ents rows = q.es ++ kidEs ks := by rw [h]; unfold kidEs; rw [List.flatMap_cons]
    have h1 : ents (rows.take q.es.length) = q.es := by
      unfold ents at h' ⊢
      rw [List.map_take, h', List.take_left' rfl]
    have h2 : ents (rows.drop q.es.length) = kidEs ks := by
      unfold ents at h' ⊢
      rw [List.map_drop, h', List.drop_left' rfl]
    obtain ⟨G, g1, g2, g3⟩ := split_rows ks _ h2
    refine ⟨rows.take q.es.length :: G, ?_, by simp [g2], ?_⟩
    · rw [List.flatten_cons, g1, List.take_append_drop]
    · intro i g r hg hr
      cases i with
      | zero =>
        simp at hg hr
        rw [← hg, ← hr]; exact h1
      | succ i => exact g3 i g r (by simpa using hg) (by simpa using hr)
theorem ents_mem {rows : List ER} {r : ER} (h : r ∈ rows) : (r.p, r.v) ∈ ents rows := List.mem_map.2 ⟨r, h, rfl⟩
/-- What a fork's lists are. -/
structure ForkG (k lv : Nat) (pre : List Nat) (ks : List Kid) (G : List (List ER)) : Prop where
  len : G.length = ks.length
  es : ∀ (i : Nat) (g : List ER) (q : Kid), G[i]? = some g → ks[i]? = some q → ents g = q.es
  parts : Parts G lv
  at_ : ∀ (i : Nat) (g : List ER) (q : Kid) (r : ER), G[i]? = some g → ks[i]? = some q → r ∈ g → addrOf r.p lv = q.at_
  hi : ∀ r ∈ G.flatten, ∀ b, lv < b → addrOf r.p b = addrOf pre b
theorem forkG {w : World} {k g lv : Nat} {pre : List Nat} {ks : List Kid} (h : Fork w k g lv pre ks) {rows : List ER} (he : ents rows = kidEs ks) : ∃ G, G.flatten = rows ∧ ForkG k lv pre ks G := by
  obtain ⟨A, c, gs, hlv, hp, hkc, hz, hk, hl, ha, hs, h2, hS, hB⟩ := h
  obtain ⟨G, g1, g2, g3⟩ := split_rows ks rows he
  have hat : ∀ (i : Nat) (g : List ER) (q : Kid) (r : ER), G[i]? = some g → ks[i]? = some q → r ∈ g → addrOf r.p lv = q.at_ := by
    intro i g q r hg hq hr
    have hqm := List.mem_of_getElem? hq
    have hm := ents_mem hr
    rw [g3 i g q hg hq] at hm
    have := ((hk q hqm).info.2.2.2.2.1 _ hm).2.2 lv (hl q hqm)
    rw [← (ha q hqm).1]
    exact this
  have hq_of : ∀ (i : Nat) (g : List ER), G[i]? = some g → ∃ q, ks[i]? = some q := fun i g hg => by
    have := (List.getElem?_eq_some_iff.1 hg).1
    exact ⟨ks[i]'(by omega), List.getElem?_eq_getElem _⟩
  refine ⟨G, g1, g2, g3, ⟨?_, ?_, ?_⟩, hat, ?_⟩
  · intro g hg h0
    obtain ⟨i, hi⟩ := List.getElem?_of_mem hg
    obtain ⟨q, hq⟩ := hq_of i g hi
    have := (hk q (List.mem_of_getElem? hq)).info.2.1
    rw [← g3 i g q hi hq, h0] at this
    exact this rfl
  · intro g hg r hr s hs
    obtain ⟨i, hi⟩ := List.getElem?_of_mem hg
    obtain ⟨q, hq⟩ := hq_of i g hi
    rw [hat i g q r hi hq hr, hat i g q s hi hq hs]
  · rw [List.pairwise_iff_getElem]
    intro i j hi hj hij r hr s hs'
    have hgi : G[i]? = some G[i] := List.getElem?_eq_getElem hi
    have hgj : G[j]? = some G[j] := List.getElem?_eq_getElem hj
    have hqi : ks[i]? = some (ks[i]'(by omega)) := List.getElem?_eq_getElem _
    have hqj : ks[j]? = some (ks[j]'(by omega)) := List.getElem?_eq_getElem _
    rw [hat i _ _ r hgi hqi hr, hat j _ _ s hgj hqj hs']
    have := (List.pairwise_iff_getElem.1 hs) i j (by omega) (by omega) hij
    omega
  · intro r hr b hb
    obtain ⟨g, hg, hr⟩ := List.mem_flatten.1 hr
    obtain ⟨i, hi⟩ := List.getElem?_of_mem hg
    obtain ⟨q, hq⟩ := hq_of i g hi
    have hqm := List.mem_of_getElem? hq
    have hm := ents_mem hr
    rw [g3 i g q hi hq] at hm
    have h1 := ((hk q hqm).info.2.2.2.2.1 _ hm).2.2 b (by have := hl q hqm; omega)
    rw [← (ha q hqm).2 b hb]
    exact h1
theorem ForkG.places {k lv : Nat} {pre : List Nat} {ks : List Kid} {G : List (List ER)} (h : ForkG k lv pre ks G) : placesG G lv = ks.map (·.at_) := by
  unfold placesG
  apply List.ext_getElem (by simp [h.len])
  intro i h1 h2
  simp only [List.length_map] at h1 h2
  have hg : G[i]? = some G[i] := List.getElem?_eq_getElem h1
  have hq : ks[i]? = some ks[i] := List.getElem?_eq_getElem h2
  rw [List.getElem_map, List.getElem_map]
  obtain ⟨r, t, hrt⟩ := List.exists_cons_of_ne_nil (h.parts.ne G[i] (List.mem_of_getElem? hg))
  rw [hrt]
  simp only [List.head?_cons, Option.map_some, Option.getD_some]
  exact h.at_ i _ _ r hg hq (by rw [hrt]; exact List.mem_cons_self)
/-- The first and the last row part at the node's level. -/
theorem ForkG.part_ {w : World} {k g lv : Nat} {pre : List Nat} {ks : List Kid} {G : List (List ER)} (h : ForkG k lv pre ks G) (hF : Fork w k g lv pre ks) {W : World} {A : Option Addr} {n : Nat} (hE : EntsAt W A n G.flatten) (hk : ∀ r ∈ G.flatten, r.n = k) :
    ∃ r s, G.flatten[0]? = some r ∧ G.flatten[n - 1]? = some s ∧ part r.p s.p = (lv : Int) ∧ cut (lv + 1) r.p = pre ∧ 2 ≤ n := by
  obtain ⟨A', c, gs, hlv, hp, hkc, hz, hkk, hl, ha, hs, h2, hS, hB⟩ := hF
  have hlen := hE.len
  have hGl := h.len
  have hg0 : G[0]? = some (G[0]'(by omega)) := List.getElem?_eq_getElem _
  have hgl : G[G.length - 1]? = some (G[G.length - 1]'(by omega)) := List.getElem?_eq_getElem _
  generalize G[0]'(by omega) = g0 at hg0
  generalize G[G.length - 1]'(by omega) = gl at hgl
  have n0 := List.length_pos_iff.2 (h.parts.ne g0 (List.mem_of_getElem? hg0))
  have nl := List.length_pos_iff.2 (h.parts.ne gl (List.mem_of_getElem? hgl))
  have hf0 : G.flatten[0]? = some (g0[0]'n0) := by
    have := fl_get hg0 n0 (d := 0)
    rw [fl_zero] at this
    rw [this]; exact List.getElem?_eq_getElem _
  have hfl : fl G (G.length - 1) + gl.length = n := by
    have h1 := fl_succ hgl
    rw [← h1, fl_all G (by omega)]
    exact hlen
  have hfL : G.flatten[n - 1]? = some (gl[gl.length - 1]'(by omega)) := by
    have := fl_get hgl (d := gl.length - 1) (by omega)
    rw [show fl G (G.length - 1) + (gl.length - 1) = n - 1 by omega] at this
    rw [this]; exact List.getElem?_eq_getElem _
  have m0 : g0[0] ∈ g0 := List.getElem_mem _
  have ml : gl[gl.length - 1] ∈ gl := List.getElem_mem _
  generalize g0[0]'n0 = r at *
  generalize gl[gl.length - 1]'(by omega) = s at *
  have hq0 : ks[0]? = some (ks[0]'(by omega)) := List.getElem?_eq_getElem _
  have hql : ks[G.length - 1]? = some (ks[G.length - 1]'(by omega)) := List.getElem?_eq_getElem _
  have a0 := h.at_ 0 g0 _ r hg0 hq0 m0
  have al := h.at_ (G.length - 1) gl _ s hgl hql ml
  have hlt := (List.pairwise_iff_getElem.1 hs) 0 (G.length - 1) (by omega) (by omega) (by omega)
  have mr : r ∈ G.flatten := List.mem_of_getElem? hf0
  have ms : s ∈ G.flatten := List.mem_of_getElem? hfL
  have zr : Zp k r.p := by have := (hE.2 r mr).1.zp; rwa [hk r mr] at this
  have zs : Zp k s.p := by have := (hE.2 s ms).1.zp; rwa [hk s ms] at this
  refine ⟨r, s, hf0, hfL, part_unique zr zs (fun b hb => ?_) (by omega), ?_, ?_⟩
  · rw [h.hi r mr b hb, h.hi s ms b hb]
  · refine eq_of_addr (zp_cut zr) hp.zp fun b => ?_
    rcases Nat.lt_or_ge lv b with hb | hb
    · rw [addr_cut_hi _ (by omega)]; exact h.hi r mr b hb
    · rw [addr_cut_lo _ (by omega)]; exact (hz b hb).symm
  · rcases Nat.lt_or_ge n 2 with hn | hn
    · have : n - 1 = 0 := by omega
      rw [this, hf0] at hfL
      injection hfL with hfL
      subst hfL
      omega
    · exact hn
end
section
open Go.RowKit
/-- Is says yes, of any list in memory. -/
def IsYes (w : World) (k g : Nat) (es : List Ent) : Prop :=
  ∀ (W : World) (B : Option Addr) (m : Nat) (rows : List ER), Below w.heap.size w W → EntsAt W B rows.length rows → rows.length ≤ m → rows.length ≤ 65536 → (∀ r ∈ rows, r.n = k) → ents rows = es →
    Calls Tryz.prog 42 #[.pointer (some ⟨g, 0, none⟩), .slice B rows.length m] W fun e w' => e = .returned (.bool true) ∧ Below W.heap.size W w'
theorem places_int (ks : List Kid) : (ks.map fun q => Value.int .i64 (q.at_ : Int)) = ((ks.map fun q => (q.at_ : Int)).map fun z => Value.int .i64 z) := by simp [Function.comp_def]
theorem placesG_int {k lv : Nat} {pre : List Nat} {ks : List Kid} {G : List (List ER)} (h : ForkG k lv pre ks G) : ((placesG G lv).map fun (x : Nat) => Value.int .i64 (x : Int)) = ((ks.map fun q => (q.at_ : Int)).map fun z => Value.int .i64 z) := by
  rw [h.places]; simp [Function.comp_def]
set_option maxHeartbeats 8000000 in
set_option maxRecDepth 100000 in
theorem is_fork {w : World} {k g lv n : Nat} {pre : List Nat} {ks : List Kid} {B : Option Addr} {m : Nat} {G : List (List ER)} (hF : Fork w k g lv pre ks) (hk1 : 1 ≤ k) (hk : k ≤ 16) (hE : EntsAt w B n G.flatten) (hnm : n ≤ m) (hn : n ≤ 65536) (hkk : ∀ r ∈ G.flatten, r.n = k)
    (hG : ForkG k lv pre ks G) (hes : ents G.flatten = kidEs ks) (ih : ∀ q ∈ ks, IsYes w k q.blk q.es) :
    Calls Tryz.prog 42 #[.pointer (some ⟨g, 0, none⟩), .slice B n m] w fun e w' => e = .returned (.bool true) ∧ Below w.heap.size w w' := by
  obtain ⟨r0, s0, hr0, hs0, hpart, hcut, hn2⟩ := hG.part_ hF hE hkk
  have hL : ∀ W, Below w.heap.size w W → Calls Tryz.prog 94 #[.slice B n m] W fun e w' => e = .returned (.int .i64 (lv : Nat)) ∧ Below W.heap.size W w' := fun W hW => by
    have := ref_level B n m k G.flatten r0 s0 W (hE.below hW) hr0 hs0 (hkk r0 (List.mem_of_getElem? hr0)) (hkk s0 (List.mem_of_getElem? hs0)) (by omega) (by omega) (by omega)
    rwa [hpart] at this
  have hlv : lv < 64 := by obtain ⟨_, _, _, h1, _⟩ := hF; exact h1
  obtain ⟨A, c, gs, hp, hS, hB⟩ := hF.head
  have HLG := hide hG.len
  have hkl : ks.length ≤ 65536 := by
    have h1 := len_le_of_ok hS.ok
    have h2 := pow16 hS.2.1
    simp [kidTh] at h1
    omega
  have HRS := hide (fun (W : World) (hW : Below w.heap.size w W) => ref_shape B n m k lv G r0 W (hE.below hW) hnm hkk hk1 hk hn hn2 hlv hG.parts hr0 (fun X hX => hL X (below_then hW hX)))
  have HKI := hide (fun (W : World) (hW : Below w.heap.size w W) => ref_kids B n m k lv G W (hE.below hW) hnm hkk (by omega) hn (by omega) hlv hG.parts (fun X hX => hL X (below_then hW hX)))
  have HSG := hide (fun (W : World) (hW : Below w.heap.size w W) => nd_shape_fork (hB.below hW) (hp.below hW) hk (hS.below hW))
  have HF := hide hF
  have HB := hide hB
  have HS := hide hS
  have HE := hide hE
  have HCUT := hide hcut
  have HG := hide hG
  have HES := hide hes
  have HKK := hide hkk
  have HIH := hide ih
  have HNM := hide hnm
  obtain ⟨b, o, r', rfl, hbl, hr, hok, k0, -⟩ := hE.at_ (i := 0) (by omega)
  rw [hr0] at hr
  injection hr with hr
  subst hr
  simp only [Nat.zero_mul, Nat.add_zero] at k0
  rw [hkk r0 (List.mem_of_getElem? hr0)] at k0
  have hn0 : (0 : Int) < (n : Int) := by omega
  have hn0' : 0 < n := by omega
  have en1 : ((n : Int) == 1) = false := by simp; omega
  clear hF hE hkk hG hes ih hr0 hs0 hpart hcut hL hp hS hB hok hnm
  have HEN := hide (nd_entry_fork HB.out)
  go_enter Tryz.func42, Tryz.ntmps42
  go_wp2_with fail
  refine HEN.out.mono ?_
  rintro e w1 ⟨rfl, hb1⟩
  have c2 := below_alloc hb1 (Nat.le_refl _) (.cells #[.slice none 0 0, .int .u64 0] 79)
  clear hb1 HEN k0
  go_upto_region 3 with fail
  generalize w1.alloc (.cells #[.slice none 0 0, .int .u64 0] 79) = w2 at *
  have HK := hide (nd_k (HF.out.node.stay c2))
  go_wp2_with fail
  refine HK.out.mono ?_
  rintro e w3 ⟨rfl, rfl⟩
  go_wp2_with fail
  refine (HSG.out _ c2).mono ?_
  rintro e w3 ⟨B3, d3, C3, f3, rfl, hR3, hP3, hb3⟩
  have c3 := below_then c2 hb3
  have HR3 := hide hR3
  have HP3 := hide hP3
  clear HK hR3 hP3
  go_wp2_with fail
  refine (HRS.out _ c3).mono ?_
  rintro e w4 ⟨B4, d4, C4, f4, rfl, hR4, hP4, hb4⟩
  have c4 := below_then c3 hb4
  rw [HCUT.out, u64s_int] at hR4
  rw [placesG_int HG.out] at hP4
  have hR3 := HR3.out.below hb4
  have hP3 := HP3.out.below hb4
  rw [u64s_int] at hR3
  rw [places_int] at hP3
  rw [HLG.out] at hP4
  have HSS := hide (same_shape B3 B4 C3 C4 k d3 d4 ks.length f3 f4 (lv : Int) (denseB k ks.length) 0 _ _ w4 hR3 hR4 hP3 hP4 (by omega) (by omega))
  have hlg := HLG.out
  rw [hlg]
  clear hR4 hP4 hR3 hP3
  go_wp2_with fail
  refine HSS.out.mono ?_
  rintro e w5 ⟨rfl, hb5⟩
  have c5 := below_then c4 hb5
  have HSu := hide (nd_sums (HB.out.below c5))
  clear HSS hb3 hb4 hb5 hlg
  go_wp2_with fail
  refine HSu.out.mono ?_
  rintro e w6 ⟨rfl, hb6⟩
  have c6 := below_then c5 hb6
  have CR := ref_sums (some ⟨b, o, none⟩) n m G.flatten w6 (HE.out.below c6) (by omega)
  rw [HES.out] at CR
  have HCR := hide CR
  clear CR HSu hb6
  generalize sumsOf (kidEs ks) = sm at *
  go_wp2_with fail
  refine HCR.out.mono ?_
  rintro e w7 ⟨rfl, hb7⟩
  have c7 := below_then c6 hb7
  have HLv := hide (nd_level (HF.out.node.stay c7))
  clear HCR hb7
  unfold Sum4.val
  go_wp2_with fail
  refine HLv.out.mono ?_
  rintro e w8 ⟨rfl, rfl⟩
  clear HLv
  go_wp2_with fail
  refine (HRS.out _ c7).mono ?_
  rintro e w8 ⟨B8, d8, C8, f8, rfl, -, -, hb8⟩
  have c8 := below_then c7 hb8
  have q0 := shape_fld0 (.int .i64 (lv : Int)) (.slice B8 k d8) (.slice C8 G.length f8) (.bool (denseB k G.length)) (.int .u64 0)
  have HPf := hide (nd_prefix (HF.out.node.stay c8) hk)
  clear hb8
  go_wp2_with fail
  refine HPf.out.mono ?_
  rintro e w9 ⟨v9, rfl, ho9, hb9⟩
  have c9 := below_then c8 hb9
  obtain ⟨B9, d9, rfl, -, hR9⟩ := Rw.of_own ho9
  have HR9 := hide hR9
  clear ho9 hR9 HPf hb9
  go_wp2_with fail
  refine (HRS.out _ c9).mono ?_
  rintro e w10 ⟨Ba, da, Ca, fa, rfl, hRa, -, hb10⟩
  have c10 := below_then c9 hb10
  have q1 := shape_fld1 (.int .i64 (lv : Int)) (.slice Ba k da) (.slice Ca G.length fa) (.bool (denseB k G.length)) (.int .u64 0)
  rw [HCUT.out, u64s_int] at hRa
  have hR9 := HR9.out.below hb10
  rw [u64s_int] at hR9
  have CQ := same_u64 B9 Ba k d9 k da _ _ w10 hR9 hRa (by omega) (by omega)
  rw [show sameB (pre.map fun (x : Nat) => (x : Int)) (pre.map fun (x : Nat) => (x : Int)) = true by simp [sameB]] at CQ
  have HCQ := hide CQ
  clear CQ hRa hR9 hb10
  go_wp2_with fail
  refine HCQ.out.mono ?_
  rintro e w11 ⟨rfl, hb11⟩
  have c11 := below_then c10 hb11
  clear HCQ hb11 q0 q1 HR9 HR3 HP3
  go_wp2_with fail
  refine (HKI.out _ c11).mono ?_
  rintro e w12 ⟨C, f, rfl, hoC, hb12⟩
  have c12 := below_then c11 hb12
  have HOC := hide (own_rw hoC).2
  clear hoC
  go_wp2
  go_loopw [9] (fun x9 wr => ∃ (j : Nat), x9 = .int .i64 (j : Int) ∧ j ≤ G.length ∧ Below w12.heap.size w12 wr) (fun x _ => G.length - (intOf x).toNat)
  case atStart => exact ⟨0, rfl, Nat.zero_le _, Below.refl _ _⟩
  case round =>
    obtain ⟨j, rfl, hj, hb⟩ := hrel
    have hgl2 : G.length ≤ 65536 := by rw [HLG.out]; exact hkl
    by_cases hjn : j < G.length
    · obtain ⟨gg, hg⟩ : ∃ gg, G[j]? = some gg := ⟨G[j], List.getElem?_eq_getElem hjn⟩
      have hjk : j < ks.length := by rw [← HLG.out]; exact hjn
      obtain ⟨q, hq⟩ : ∃ q, ks[j]? = some q := ⟨ks[j], List.getElem?_eq_getElem hjk⟩
      have hqm := List.mem_of_getElem? hq
      have cz := below_then c12 hb
      have hE1 := HE.out.below cz
      obtain ⟨s1, s2, s3⟩ := hE1.seg HNM.out hg
      have hg0 : 0 < gg.length := List.length_pos_iff.2 (HG.out.parts.ne gg (List.mem_of_getElem? hg))
      obtain ⟨b2, o2, r1, hA2, hbl2, hr1, hok1, k2, -⟩ := s2.at_ (i := 0) hg0
      have hr1n := HKK.out r1 (List.mem_flatten.2 ⟨gg, List.mem_of_getElem? hg, List.mem_of_getElem? hr1⟩)
      rw [hr1n] at k2
      have hp1 := hok1.1
      rw [hr1n] at hp1
      simp only [Nat.zero_mul, Nat.add_zero] at k2
      rw [hA2] at s1 s2
      obtain ⟨b5, o5, rfl, hbl5, u, hu, k5⟩ := (HOC.out.below hb).one hjn
      have hu2 : u = .slice (some ⟨b2, o2, none⟩) gg.length (m - fl G j) := by
        unfold segvs at hu
        rw [List.getElem?_map, List.getElem?_range hjn] at hu
        simp at hu
        rw [← hu, s1]
      rw [hu2] at k5
      have hat := HG.out.at_ j gg q r1 hg hq (List.mem_of_getElem? hr1)
      have hge := HG.out.es j gg q hg hq
      have hth : getTh (kidTh ks) (q.at_ : Int) = some (.pointer (some ⟨q.blk, 0, none⟩)) :=
        getTh_some HS.out.ok (t := (q.at_, .pointer (some ⟨q.blk, 0, none⟩))) (List.mem_map.2 ⟨q, hqm, rfl⟩)
      have hgn : gg.length ≤ 65536 := by
        have := fl_le hg
        rw [HE.out.len] at this
        omega
      have hP1 := hide hp1
      have hS2 := hide s2
      have hAT := hide hat
      have hTH := hide hth
      have hKQ := hide (HIH.out q hqm)
      have hRE := hide (And.intro s3 (And.intro hgn (And.intro (fun r hr => HKK.out r (List.mem_flatten.2 ⟨gg, List.mem_of_getElem? hg, hr⟩)) hge)))
      have hg0' : (0 : Int) < (gg.length : Int) := by omega
      clear hg hq hqm hE1 s1 s2 s3 hr1 hok1 hr1n hp1 hu hu2 hat hge hth hA2 hgn
      generalize m - fl G j = cg at *
      have hglz : gg.length = gg.length := rfl
      generalize hgll : gg.length = gl at *
      have HGLL := hide hgll
      clear hgll hglz
      rename World => wz
      go_wp2_with fail
      go_region_held3 (fun w' => w'.cell? ⟨b5, o5 + j, none⟩ = some (.slice (some ⟨b2, o2, none⟩) gl cg) ∧ w'.cell? ⟨b2, o2, none⟩ = some (.slice r1.A k r1.c))
        (first
          | go_keep
          | exact hk13
          | exact hk14)
        (first
          | (go_at_call 51
             refine (nd_level ((HF.out.node.stay cz).stay (Below.refl _ wz).drew)).mono ?_
             rintro e w13 ⟨rfl, rfl⟩)
          | (go_at_call 65
             have CA := ref_addr r1.A k r1.c lv r1.p wz.drew (hP1.out.below (Below.refl _ wz).drew) (by omega) hlv
             rw [hAT.out] at CA
             refine CA.mono ?_
             rintro e w13 ⟨rfl, rfl⟩)
          | (go_at_call 59
             have CK := nd_kid ((HB.out.below cz).below (Below.refl _ wz).drew) ((HS.out.below cz).below (Below.refl _ wz).drew) (q.at_ : Int)
             rw [hTH.out] at CK
             refine CK.mono ?_
             rintro e w13 ⟨rfl, hb13⟩
             have hd13 : Below wz.heap.size wz w13 := (Below.refl _ wz).drew.trans hb13
             have hk13 := And.intro ((hd13.cell (p := ⟨b5, o5 + j, none⟩) hbl5).trans k5) ((hd13.cell (p := ⟨b2, o2, none⟩) hbl2).trans k2))
          | (go_at_call 42
             have hs2 := hS2.out.below hd13
             have hz1 := hRE.out.1
             have hz2 := hRE.out.2.1
             rw [← HGLL.out] at hs2 hz1 hz2
             have CI := hKQ.out w13 (some ⟨b2, o2, none⟩) cg gg (below_then cz hd13) hs2 hz1 hz2 hRE.out.2.2.1 hRE.out.2.2.2
             clear hs2 hz1 hz2
             rw [HGLL.out] at CI
             refine CI.mono ?_
             rintro e w14 ⟨rfl, hb14⟩
             have hd14 := below_then hd13 hb14
             have hk14 := And.intro ((hd14.cell (p := ⟨b5, o5 + j, none⟩) hbl5).trans k5) ((hd14.cell (p := ⟨b2, o2, none⟩) hbl2).trans k2)))
      go_wp2
      go_roundw
      case rel => exact ⟨j + 1, by go_num, by omega, below_then hb hd14⟩
      case measure => simp [intOf]; omega
    · have hj' : ¬ j < G.length := hjn
      have e9 : decide ((j : Int) < (G.length : Int)) = false := by simp; omega
      go_wp2
      go_ret
      exact ⟨rfl, below_then c12 hb⟩
/-- Of any node. -/
theorem is_node {w : World} {k g : Nat} {lv : Int} {pre : List Nat} {es : List Ent} (h : NodeOf w k g lv pre es) (hk1 : 1 ≤ k) (hk : k ≤ 16) : IsYes w k g es := by
  induction h with
  | @leaf g A c p v hv hp hc hB =>
    intro W B m rows hb hE hm hn hkk hes
    obtain ⟨r, rfl⟩ : ∃ r, rows = [r] := by
      have : rows.length = 1 := by
        have := congrArg List.length hes
        unfold ents at this
        simpa using this
      match rows, this with
      | [r], _ => exact ⟨r, rfl⟩
    have hrr : r.p = p ∧ r.v = v := by
      unfold ents ER.e at hes
      simp at hes
      exact hes
    exact is_leaf m (hB.below hb) (hp.below hb) hc hk1 hk hv hE hrr.1 hrr.2
  | @fork g A c lv pre gs ks hlv hp hc hz hkid hl ha hs h2 hS hB ih =>
    intro W B m rows hb hE hm hn hkk hes
    have hF : Fork w k g lv pre ks := ⟨A, c, gs, hlv, hp, hc, hz, hkid, hl, ha, hs, h2, hS, hB⟩
    obtain ⟨G, rfl, hG⟩ := forkG hF hes
    exact is_fork (hF.stay hb) hk1 hk hE hm hn hkk hG hes fun q hq X B' m' rows' hX => ih q hq X B' m' rows' (below_then hb hX)
end
section
open Go.RowKit
/-- An entry's node, its point a row of its own. -/
def LeafAt (w : World) (k g : Nat) (p : List Nat) (v : Nat) : Prop := ∃ A c, Blk w g 114 (nodeCells (-1) A k c v none ⟨1, v, v, v⟩) ∧ w.ownsRow 0 36 1 (.slice A k c) k (u64s p) ∧ k ≤ c ∧ Zp k p ∧ v < 2 ^ 64
theorem LeafAt.node {w : World} {k g : Nat} {p : List Nat} {v : Nat} (h : LeafAt w k g p v) : NodeOf w k g (-1) p [(p, v)] := by
  obtain ⟨A, c, h1, h2, h3, h4, h5⟩ := h
  exact .leaf h5 ⟨h4.1, (own_rw h2).2, h4.2⟩ h3 h1
theorem LeafAt.stay {w w' : World} {k g : Nat} {p : List Nat} {v : Nat} (h : LeafAt w k g p v) (hb : Below w.heap.size w w') : LeafAt w' k g p v := by
  obtain ⟨A, c, h1, h2, h3, h4, h5⟩ := h
  exact ⟨A, c, h1.below hb, own_below h2 hb, h3, h4, h5⟩
theorem LeafAt.grown {w w' : World} {k g base sz n : Nat} {p : List Nat} {v : Nat} {u : Value} {xs : List Value} (h : LeafAt w k g p v) (ho : w.ownsRow base 82 sz u n xs) (hg : w.grownBy w' u.ownBlock) : LeafAt w' k g p v := by
  obtain ⟨A, c, h1, h2, h3, h4, h5⟩ := h
  exact ⟨A, c, h1.grown ho (by decide) hg, own_grown h2 ho (by decide) hg, h3, h4, h5⟩
theorem info_n : (Tryz.prog.info? 82).map (fun i => (i.zero, i.size, i.bytes)) = some (some (.pointer none), 1, 8) := by kernel_rfl
def ptrs (gs : List Nat) : List Value := gs.map fun g => Value.pointer (some ⟨g, 0, none⟩)
end
end Go.Proofs.YtghnpflaafdcdaaGreat
set_option linter.unusedSimpArgs false
set_option linter.unusedVariables false
namespace Go.Proofs.YtghnpflaafdcdaaGreat
open Go.RowKit
def kAt (ks : List Kid) (j : Nat) : Nat := match ks[j]? with | some q => q.at_ | none => 0
def kPt (ks : List Kid) (j : Nat) : Value := match ks[j]? with | some q => .pointer (some ⟨q.blk, 0, none⟩) | none => .pointer none
theorem kAt_some {ks : List Kid} {j : Nat} {q : Kid} (h : ks[j]? = some q) : kAt ks j = q.at_ := by unfold kAt; rw [h]
theorem kPt_some {ks : List Kid} {j : Nat} {q : Kid} (h : ks[j]? = some q) : kPt ks j = .pointer (some ⟨q.blk, 0, none⟩) := by unfold kPt; rw [h]
theorem kPt_none {ks : List Kid} {j : Nat} (h : ks.length ≤ j) : kPt ks j = .pointer none := by unfold kPt; rw [List.getElem?_eq_none h]
theorem kAt_none {ks : List Kid} {j : Nat} (h : ks.length ≤ j) : kAt ks j = 0 := by unfold kAt; rw [List.getElem?_eq_none h]
theorem kidTh_get (ks : List Kid) (j : Nat) : (kidTh ks)[j]? = (ks[j]?).map fun q => (q.at_, Value.pointer (some ⟨q.blk, 0, none⟩)) := by
  unfold kidTh
  rw [List.getElem?_map]
theorem kids_lt {ks : List Kid} (h : ks.Pairwise fun q r => q.at_ < r.at_) {i j : Nat} {q r : Kid} (hi : ks[i]? = some q) (hj : ks[j]? = some r) (hij : i < j) : q.at_ < r.at_ := by
  obtain ⟨h1, rfl⟩ := List.getElem?_eq_some_iff.1 hi
  obtain ⟨h2, rfl⟩ := List.getElem?_eq_some_iff.1 hj
  exact List.pairwise_iff_getElem.1 h i j h1 h2 hij
section
variable {w : World} {k g m : Nat} {pre : List Nat} {ks : List Kid}
theorem Fork.sorted (h : Fork w k g m pre ks) : ks.Pairwise fun q r => q.at_ < r.at_ := by
  obtain ⟨A, c, gs, h1, h2, h3, h4, h5, h6, h7, h8, h9, h10, h11⟩ := h
  exact h8
theorem Fork.two (h : Fork w k g m pre ks) : 2 ≤ ks.length := by
  obtain ⟨A, c, gs, h1, h2, h3, h4, h5, h6, h7, h8, h9, h10, h11⟩ := h
  exact h9
theorem Fork.kid (h : Fork w k g m pre ks) : ∀ q ∈ ks, NodeOf w k q.blk q.lv q.pre q.es ∧ q.lv < m ∧ addrOf q.pre m = q.at_ ∧ (∀ b, m < b → addrOf q.pre b = addrOf pre b) ∧ q.at_ < 2 ^ k := by
  obtain ⟨A, c, gs, h1, h2, h3, h4, h5, h6, h7, h8, h9, h10, h11⟩ := h
  intro q hq
  refine ⟨h5 q hq, h6 q hq, (h7 q hq).1, (h7 q hq).2, ?_⟩
  rw [← (h7 q hq).1]
  exact addr_lt_pow (h5 q hq).info.1 m
theorem Fork.lv (h : Fork w k g m pre ks) : m < 64 := by
  obtain ⟨A, c, gs, h1, _⟩ := h
  exact h1
theorem pow_le_16 {k a : Nat} (h : a < 2 ^ k) (hk : k ≤ 16) : a < 65536 := Nat.lt_of_lt_of_le h (pow_len_le (k := k) (n := 16) hk)
theorem nd_from_j (h : Fork w k g m pre ks) (j : Nat) (addr : Int) (hl : ∀ (i : Nat) (q : Kid), ks[i]? = some q → i < j → (q.at_ : Int) < addr) (hr : ∀ q, ks[j]? = some q → addr ≤ (q.at_ : Int)) :
    Calls Tryz.prog 110 #[.pointer (some ⟨g, 0, none⟩), .int .i64 addr] w fun e w' => e = .returned (.tuple #[.int .i64 ((kAt ks j : Nat) : Int), kPt ks j]) ∧ Below w.heap.size w w' := by
  obtain ⟨A, c, gs, hp, hS, hB⟩ := h.head
  refine (nd_from hB hS addr).mono ?_
  rintro e w' ⟨⟨a, x, rfl, hh⟩, hb⟩
  refine ⟨?_, hb⟩
  have h1 : fromTh (kidTh ks) addr = (kidTh ks)[j]? := by
    refine th_from_at hS.ok ?_ ?_
    · intro i t ht hij
      rw [kidTh_get] at ht
      cases hq : ks[i]? with
      | none => rw [hq] at ht; cases ht
      | some q => rw [hq] at ht; cases ht; exact hl i q hq hij
    · intro t ht
      rw [kidTh_get] at ht
      cases hq : ks[j]? with
      | none => rw [hq] at ht; cases ht
      | some q => rw [hq] at ht; cases ht; exact hr q hq
  rw [h1, kidTh_get] at hh
  unfold kAt kPt
  cases hq : ks[j]? with
  | none =>
    rw [hq] at hh
    rcases hh with hh | ⟨-, rfl, rfl⟩
    · cases hh
    · rfl
  | some q =>
    rw [hq] at hh
    rcases hh with hh | ⟨hh, -, -⟩
    · injection hh with hh
      injection hh with e1 e2
      rw [← e1, ← e2]
    · cases hh
theorem nd_from_0 (h : Fork w k g m pre ks) :
    Calls Tryz.prog 110 #[.pointer (some ⟨g, 0, none⟩), .int .i64 0] w fun e w' => e = .returned (.tuple #[.int .i64 ((kAt ks 0 : Nat) : Int), kPt ks 0]) ∧ Below w.heap.size w w' :=
  nd_from_j h 0 0 (fun i q _ hi => absurd hi (by omega)) (fun q _ => by omega)
theorem nd_from_next (h : Fork w k g m pre ks) {j : Nat} {q : Kid} (hq : ks[j]? = some q) :
    Calls Tryz.prog 110 #[.pointer (some ⟨g, 0, none⟩), .int .i64 ((q.at_ : Int) + 1)] w fun e w' => e = .returned (.tuple #[.int .i64 ((kAt ks (j + 1) : Nat) : Int), kPt ks (j + 1)]) ∧ Below w.heap.size w w' := by
  refine nd_from_j h (j + 1) _ (fun i r hr hi => ?_) (fun r hr => ?_)
  · rcases Nat.lt_or_ge i j with h1 | h1
    · have := kids_lt h.sorted hr hq h1
      omega
    · obtain rfl : i = j := by omega
      rw [hq] at hr
      injection hr with hr
      subst hr
      omega
  · have := kids_lt h.sorted hq hr (by omega)
    omega
end
end Go.Proofs.YtghnpflaafdcdaaGreat
set_option linter.unusedSimpArgs false
set_option linter.unusedVariables false
namespace Go.Proofs.YtghnpflaafdcdaaGreat
open Go.RowKit
def Keep (t : TypeId) (w w' : World) : Prop := ∀ (b : Nat) (cs : Array Value) (fr : Nat × Nat), w.heap[b]? = some (Obj.cells cs t fr) → w'.heap[b]? = some (Obj.cells cs t fr)
section
variable {t : TypeId} {w w' w'' : World}
theorem heap_lt {w : World} {b : Nat} {o : Obj} (h : w.heap[b]? = some o) : b < w.heap.size := (Array.getElem?_eq_some_iff.1 h).1
theorem Keep.refl (t : TypeId) (w : World) : Keep t w w := fun _ _ _ h => h
theorem Keep.trans (h : Keep t w w') (h' : Keep t w' w'') : Keep t w w'' := fun b cs fr hb => h' b cs fr (h b cs fr hb)
theorem Keep.below (hb : Below w.heap.size w w') : Keep t w w' := fun b cs fr h => (hb.block b (heap_lt h)).trans h
theorem Keep.set {g i : Nat} {t' : TypeId} {cs : Array Value} (hB : Blk w g t' cs) (hne : t ≠ t') (u : Value) : Keep t w (w.setCell ⟨g, i, none⟩ u) := by
  intro b cs' fr h
  refine (Below.heap_setCell w ⟨g, i, none⟩ u b ?_).trans h
  rintro rfl
  unfold Blk at hB
  rw [hB] at h
  injection h with h
  injection h with _ h
  exact hne h.symm
theorem Keep.grown {base n sz : Nat} {t' : TypeId} {v : Value} {xs : List Value} (ho : w.ownsRow base t' sz v n xs) (hne : t ≠ t') (hg : w.grownBy w' v.ownBlock) : Keep t w w' := by
  intro b cs fr h
  refine (hg.block b (heap_lt h) ?_).trans h
  intro hv
  rcases ho.2 with ⟨rfl, _⟩ | ⟨g, cap, cur, rfl, hg, hh, _⟩
  · simp [Value.ownBlock] at hv
  · have hgb : b = g := by simpa [Value.ownBlock] using hv
    subst hgb
    rw [hh] at h
    injection h with h
    injection h with _ h
    exact hne h.symm
theorem Blk.keep {g : Nat} {cs : Array Value} (h : Blk w g t cs) (hk : Keep t w w') : Blk w' g t cs := hk g cs (0, 0) h
theorem own_keep {base n sz : Nat} {v : Value} {xs : List Value} (h : w.ownsRow base t sz v n xs) (hk : Keep t w w') : w'.ownsRow base t sz v n xs := by
  obtain ⟨h1, h2⟩ := h
  refine ⟨h1, ?_⟩
  rcases h2 with h2 | ⟨g, cap, cur, h2, h3, h4, h5⟩
  · exact .inl h2
  · exact .inr ⟨g, cap, cur, h2, h3, hk g cur (0, 0) h4, h5⟩
theorem TyRow.keep {A : Option Addr} {n : Nat} (h : TyRow w t A n) (hk : Keep t w w') : TyRow w' t A n := by
  intro hn
  obtain ⟨b, o, cs, fr, h1, h2⟩ := h hn
  exact ⟨b, o, cs, fr, h1, hk b cs fr h2⟩
theorem Rw.keep {sz n : Nat} {A : Option Addr} {vs : List Value} (h : Rw w sz A n vs) (ht : TyRow w t A n) (hk : Keep t w w') : Rw w' sz A n vs := by
  refine ⟨h.1, fun hn => ?_⟩
  obtain ⟨b, o, h1, hl, hc⟩ := h.2 hn
  obtain ⟨b', o', cs, fr, h1', h2⟩ := ht hn
  rw [h1] at h1'
  injection h1' with h1'
  injection h1' with h3 h4
  subst h3 h4
  have h5 := hk b cs fr h2
  refine ⟨b, o, h1, heap_lt h5, fun j u hu => ?_⟩
  rw [World.cell?_of_block (w := w) (a := ⟨b, o + j, none⟩) (h5.trans h2.symm)]
  exact hc j u hu
end
/-- An entry whose point lies in a block of numbers. -/
def ER.okT (w : World) (r : ER) : Prop := r.ok w ∧ TyRow w 36 r.A r.n
section
variable {w w' : World} {r : ER}
theorem ER.okT.keep (h : r.okT w) (hk : Keep 36 w w') : r.okT w' := ⟨⟨⟨h.1.1.1, h.1.1.2.1.keep h.2 hk, h.1.1.2.2⟩, h.1.2⟩, h.2.keep hk⟩
theorem ER.okT.below (h : r.okT w) (hb : Below w.heap.size w w') : r.okT w' := h.keep (Keep.below hb)
theorem ER.okT.of_own {base n : Nat} {A : Option Addr} {c v : Nat} {p : List Nat} (h : w.ownsRow base 36 1 (.slice A n c) n (u64s p)) (hp : Zp n p) (hv : v < 2 ^ 64) : ER.okT w ⟨A, n, c, p, v⟩ := by
  obtain ⟨A', c', e, hc, hR⟩ := Rw.of_own h
  injection e with e1 e2 e3
  subst e1 e3
  refine ⟨⟨⟨hp.1, hR, hp.2⟩, hc, ?_, hv⟩, own_ty h⟩
  rcases h.2 with ⟨h1, -⟩ | ⟨g, cap, cur, h1, _, _, _, hm, _⟩
  · injection h1 with _ _ h3
    show c ≤ maxLen
    rw [h3]
    exact Nat.zero_le _
  · injection h1 with _ _ h3
    show c ≤ maxLen
    rw [h3]
    exact hm
theorem ER.okT.nil (w : World) : ER.okT w ⟨none, 0, 0, [], 0⟩ := ⟨⟨pt_nil w, Nat.le_refl _, Nat.zero_le _, by decide⟩, fun h => absurd h (by decide)⟩
end
/-- A list that grows behind a captured variable. -/
def Col {α : Type} (tv te : TypeId) (sz : Nat) (f : α → List Value) (B : Nat) (w : World) (bo : Nat) (rows : List α) : Prop :=
  B ≤ bo ∧ ∃ v, Blk w bo tv #[v] ∧ w.ownsRow B te sz v rows.length (rows.flatMap f)
theorem Col.start {α : Type} (tv te : TypeId) (sz : Nat) (f : α → List Value) (w : World) : Col tv te sz f w.heap.size (w.alloc (.cells #[.slice none 0 0] tv)) w.heap.size [] :=
  ⟨Nat.le_refl _, _, Blk.new w tv _, World.ownsRow_nil _ _ _ _⟩
theorem Col.below {α : Type} {tv te : TypeId} {sz : Nat} {f : α → List Value} {B : Nat} {w w' : World} {bo : Nat} {rows : List α} (h : Col tv te sz f B w bo rows) (hb : Below w.heap.size w w') : Col tv te sz f B w' bo rows := by
  obtain ⟨h1, v, h2, h3⟩ := h
  exact ⟨h1, v, h2.below hb, own_below h3 hb⟩
/-- What the captured variable holds. -/
theorem Col.cell {α : Type} {tv te : TypeId} {sz : Nat} {f : α → List Value} {B : Nat} {w : World} {bo : Nat} {rows : List α} (h : Col tv te sz f B w bo rows) :
    ∃ A c, w.cell? ⟨bo, 0, none⟩ = some (.slice A rows.length c) ∧ w.frozen? ⟨bo, 0, none⟩ = false ∧ bo < w.heap.size ∧ Blk w bo tv #[.slice A rows.length c] ∧ w.ownsRow B te sz (.slice A rows.length c) rows.length (rows.flatMap f) := by
  obtain ⟨h1, v, h2, h3⟩ := h
  obtain ⟨A, c, rfl, -, -⟩ := Rw.of_own h3
  exact ⟨A, c, h2.cell 0, h2.frozen 0, h2.lt, h2, h3⟩
/-- One more: the row has grown, the variable has been stored. -/
theorem Col.step {α : Type} {tv te : TypeId} {sz : Nat} {f : α → List Value} {B : Nat} {w w' : World} {bo : Nat} {rows : List α} {v v' : Value} (hB : B ≤ bo) (h2 : Blk w bo tv #[v]) (h3 : w.ownsRow B te sz v rows.length (rows.flatMap f)) (hne : tv ≠ te)
    (hg : w.grownBy w' v.ownBlock) {r : α} (ho : w'.ownsRow B te sz v' (rows.length + 1) (rows.flatMap f ++ f r)) :
    Blk w' bo tv #[v] ∧ Col tv te sz f B (w'.setCell ⟨bo, 0, none⟩ v') bo (rows ++ [r]) ∧ (∀ t, t ≠ tv → t ≠ te → Keep t w (w'.setCell ⟨bo, 0, none⟩ v')) := by
  have hB' := h2.keep (Keep.grown h3 hne hg)
  refine ⟨hB', ⟨hB, v', ?_, ?_⟩, fun t h4 h5 => (Keep.grown h3 h5 hg).trans (Keep.set hB' h4 v')⟩
  · have := hB'.set1 (i := 0) v'
    simpa using this
  · rw [List.length_append, List.length_singleton, List.flatMap_append, show [r].flatMap f = f r by simp]
    exact own_keep ho (Keep.set hB' (Ne.symm hne) v')
end Go.Proofs.YtghnpflaafdcdaaGreat
set_option linter.unusedSimpArgs false
set_option linter.unusedVariables false
namespace Go.Proofs.YtghnpflaafdcdaaGreat
open Go.RowKit
/-- All is as it was but one block. -/
structure Ex (c : Nat) (w w' : World) : Prop where
  os : w'.os = w.os
  tape : w'.tape = w.tape
  output : w'.output = w.output
  size : w.heap.size ≤ w'.heap.size
  block : ∀ k, k < w.heap.size → k ≠ c → w'.heap[k]? = w.heap[k]?
section
variable {c : Nat} {w a a' : World}
theorem Ex.refl (c : Nat) (w : World) : Ex c w w := ⟨rfl, rfl, rfl, Nat.le_refl _, fun _ _ _ => rfl⟩
theorem Ex.below (h : Ex c w a) (hb : Below a.heap.size a a') : Ex c w a' :=
  ⟨hb.os.trans h.os, hb.tape.trans h.tape, hb.output.trans h.output, Nat.le_trans h.size hb.size, fun k hk hne => (hb.block k (Nat.lt_of_lt_of_le hk h.size)).trans (h.block k hk hne)⟩
theorem Ex.alloc (h : Ex c w a) (o : Obj) : Ex c w (a.alloc o) := h.below ((Below.refl _ _).alloc (Nat.le_refl _) o)
theorem Ex.drew (h : Ex c w a) : Ex c w a.drew := h.below (Below.refl _ _).drew
theorem Ex.set (h : Ex c w a) (i : Nat) (u : Value) : Ex c w (a.setCell ⟨c, i, none⟩ u) := by
  have hs := (Below.refl 0 a).setCell (p := ⟨c, i, none⟩) (Nat.zero_le _) u
  exact ⟨hs.os.trans h.os, hs.tape.trans h.tape, hs.output.trans h.output, Nat.le_trans h.size hs.size, fun k hk hne => (Below.heap_setCell a ⟨c, i, none⟩ u k hne).trans (h.block k hk hne)⟩
theorem Ex.trans (h : Ex c w a) (k : Ex c a a') : Ex c w a' :=
  ⟨k.os.trans h.os, k.tape.trans h.tape, k.output.trans h.output, Nat.le_trans h.size k.size, fun j hj hne => (k.block j (Nat.lt_of_lt_of_le hj h.size) hne).trans (h.block j hj hne)⟩
theorem Ex.to_below {B : Nat} (h : Ex c w a) (hc : B ≤ c) (hB : B ≤ w.heap.size) : Below B w a :=
  ⟨h.os, h.tape, h.output, h.size, fun k hk => h.block k (Nat.lt_of_lt_of_le hk hB) (by omega)⟩
theorem Ex.keep {t tc : TypeId} {cs : Array Value} (h : Ex c w a) (hB : Blk w c tc cs) (hne : t ≠ tc) : Keep t w a := by
  intro b cs' fr hb
  refine (h.block b (heap_lt hb) ?_).trans hb
  rintro rfl
  unfold Blk at hB
  rw [hB] at hb
  injection hb with hb
  injection hb with _ hb
  exact hne hb.symm
theorem Ex.blk {t : TypeId} {g : Nat} {cs : Array Value} (h : Ex c w a) (hB : Blk w g t cs) (hne : g ≠ c) : Blk a g t cs := (h.block g hB.lt hne).trans hB
end
end Go.Proofs.YtghnpflaafdcdaaGreat
set_option linter.unusedSimpArgs false
set_option linter.unusedVariables false
namespace Go.Proofs.YtghnpflaafdcdaaGreat
open Go.RowKit
/-- A tree of k coordinates with a root. -/
def TreeBlk (w : World) (t k : Nat) (root : Option Addr) : Prop := Blk w t 101 #[.int .i64 (k : Int), .pointer root]
/-- A tree with these entries. -/
def TreeOf (w : World) (k t : Nat) (es : List Ent) : Prop :=
  1 ≤ k ∧ k ≤ 16 ∧ ((TreeBlk w t k none ∧ es = []) ∨ ∃ g lv pre, TreeBlk w t k (some ⟨g, 0, none⟩) ∧ NodeOf w k g lv pre es)
theorem TreeOf.stay {w w' : World} {k t : Nat} {es : List Ent} (h : TreeOf w k t es) (hb : Below w.heap.size w w') : TreeOf w' k t es := by
  obtain ⟨h1, h2, h3⟩ := h
  refine ⟨h1, h2, ?_⟩
  rcases h3 with ⟨h3, h4⟩ | ⟨g, lv, pre, h3, h4⟩
  · exact .inl ⟨Blk.below h3 hb, h4⟩
  · exact .inr ⟨g, lv, pre, Blk.below h3 hb, h4.stay hb⟩
set_option maxHeartbeats 1000000 in
set_option maxRecDepth 100000 in
theorem tr_k {w : World} {t k : Nat} {root : Option Addr} (h : TreeBlk w t k root) : Calls Tryz.prog 26 #[.pointer (some ⟨t, 0, none⟩)] w fun e w' => e = .returned (.int .i64 (k : Int)) ∧ w = w' := by
  have c0 := Blk.cell h 0
  simp at c0
  clear h
  go_enter Tryz.func26, Tryz.ntmps26
  go_wp2
  go_ret
  exact ⟨rfl, rfl⟩
set_option maxHeartbeats 1000000 in
set_option maxRecDepth 100000 in
theorem tr_root {w : World} {t k : Nat} {root : Option Addr} (h : TreeBlk w t k root) : Calls Tryz.prog 37 #[.pointer (some ⟨t, 0, none⟩)] w fun e w' => e = .returned (.pointer root) ∧ w = w' := by
  have c1 := Blk.cell h 1
  simp at c1
  clear h
  go_enter Tryz.func37, Tryz.ntmps37
  go_wp2
  go_ret
  exact ⟨rfl, rfl⟩
set_option maxHeartbeats 1000000 in
set_option maxRecDepth 100000 in
theorem tr_of_nil (k : Nat) (w : World) (h1 : 1 ≤ k) (h2 : k ≤ 16) : Calls Tryz.prog 25 #[.int .i64 (k : Int), .pointer none] w fun e w' => e = .returned (.tuple #[.pointer (some ⟨w.heap.size, 0, none⟩), .int .i64 0]) ∧ TreeBlk w' w.heap.size k none ∧ Below w.heap.size w w' := by
  have e1 : decide ((k : Int) < 1) = false := by simp; omega
  have e2 : decide ((16 : Int) < (k : Int)) = false := by simp; omega
  go_enter Tryz.func25, Tryz.ntmps25
  go_wp2
  go_ret2
  exact ⟨rfl, Blk.new w _ _, (Below.refl _ _).alloc (Nat.le_refl _) _⟩
set_option maxHeartbeats 1000000 in
set_option maxRecDepth 100000 in
theorem tr_new (k : Nat) (w : World) (h1 : 1 ≤ k) (h2 : k ≤ 16) : Calls Tryz.prog 5 #[.int .i64 (k : Int)] w fun e w' => e = .returned (.tuple #[.pointer (some ⟨w.heap.size, 0, none⟩), .int .i64 0]) ∧ TreeBlk w' w.heap.size k none ∧ Below w.heap.size w w' := by
  have HO := hide (tr_of_nil k w h1 h2)
  go_enter Tryz.func5, Tryz.ntmps5
  go_wp2_with fail
  refine HO.out.mono ?_
  rintro e w1 ⟨rfl, hB, hb⟩
  have HB := hide hB
  clear hB
  go_wp2
  go_ret2
  exact ⟨rfl, HB.out, hb⟩
set_option maxHeartbeats 1000000 in
set_option maxRecDepth 100000 in
theorem tr_check_dim {w : World} {t k : Nat} {root : Option Addr} (h : TreeBlk w t k root) (A : Option Addr) (n c : Nat) (hn : n ≠ k) : Calls Tryz.prog 43 #[.pointer (some ⟨t, 0, none⟩), .slice A n c] w fun e w' => e = .returned (.int .i64 2) ∧ w = w' := by
  have c0 := Blk.cell h 0
  simp at c0
  have e1 : ((n : Int) != (k : Int)) = true := by simp; omega
  clear h hn
  go_enter Tryz.func43, Tryz.ntmps43
  go_wp2
  go_ret
  exact ⟨rfl, rfl⟩
set_option maxHeartbeats 1000000 in
set_option maxRecDepth 100000 in
theorem tr_check {w : World} {t k : Nat} {root : Option Addr} (h : TreeBlk w t k root) (A : Option Addr) (c : Nat) : Calls Tryz.prog 43 #[.pointer (some ⟨t, 0, none⟩), .slice A k c] w fun e w' => e = .returned (.int .i64 0) ∧ w = w' := by
  have c0 := Blk.cell h 0
  simp at c0
  clear h
  go_enter Tryz.func43, Tryz.ntmps43
  go_wp2
  go_ret
  exact ⟨rfl, rfl⟩
set_option maxHeartbeats 1000000 in
set_option maxRecDepth 100000 in
theorem tr_down {w : World} {k g m : Nat} {pre : List Nat} {ks : List Kid} (h : Fork w k g m pre ks) (hk1 : 1 ≤ k) (hk : k ≤ 16) {A : Option Addr} {c : Nat} {p : List Nat} (hp : Pt w A k p) :
    Calls Tryz.prog 67 #[.pointer (some ⟨g, 0, none⟩), .slice A k c] w fun e w' => e = .returned ((getTh (kidTh ks) (addrOf p m : Int)).getD (.pointer none)) ∧ Below w.heap.size w w' := by
  have hm : m < 64 := by obtain ⟨_, _, _, h1, _⟩ := h; exact h1
  obtain ⟨A', c', gs, hp', hS, hB⟩ := h.head
  have HL := hide (nd_level h.node)
  have HA := hide (zb_addr A k p c m w hp hk1 hk hm)
  have HK := hide (nd_kid hB hS (addrOf p m : Int))
  have hv : ∃ x, (getTh (kidTh ks) (addrOf p m : Int)).getD (.pointer none) = .pointer x := by
    cases hg : getTh (kidTh ks) (addrOf p m : Int) with
    | none => exact ⟨none, rfl⟩
    | some v =>
      obtain ⟨i, t, h1, h2⟩ := getTh_idx hg
      have ht := List.mem_of_getElem? h1
      have := getTh_some hS.ok ht
      rw [h2, hg] at this
      injection this with this
      obtain ⟨q, hq, rfl⟩ := List.mem_map.1 ht
      exact ⟨_, by rw [this]; rfl⟩
  obtain ⟨x, hx⟩ := hv
  rw [hx] at HK ⊢
  clear h hp hp' hS hB hx
  go_enter Tryz.func67, Tryz.ntmps67
  go_wp2_with fail
  refine HL.out.mono ?_
  rintro e w1 ⟨rfl, rfl⟩
  go_wp2_with fail
  refine HA.out.mono ?_
  rintro e w1 ⟨rfl, rfl⟩
  go_wp2_with fail
  refine HK.out.mono ?_
  rintro e w1 ⟨rfl, hb1⟩
  go_wp2
  go_ret
  exact ⟨rfl, hb1⟩
set_option maxHeartbeats 1000000 in
set_option maxRecDepth 100000 in
theorem tr_found_none (A : Option Addr) (c : Nat) (w : World) : Calls Tryz.prog 45 #[.slice A 0 c] w fun e w' => e = .returned (.tuple #[.agg #[.slice none 0 0, .int .u64 0], .bool false]) ∧ Below w.heap.size w w' := by
  have b1 := (Below.refl w.heap.size w).alloc (Nat.le_refl _) (.cells #[.slice none 0 0, .int .u64 0] 79)
  have hN := Blk.new w 79 #[.slice none 0 0, .int .u64 0]
  have z0 := hN.frozen 0
  have z1 := hN.frozen 1
  have e2 := (hN.set1 (i := 0) (.slice none 0 0)).set1 (i := 1) (.int .u64 0)
  have b2 := ((b1.setCell (p := ⟨w.heap.size, 0, none⟩) (Nat.le_refl _) (.slice none 0 0)).setCell (p := ⟨w.heap.size, 1, none⟩) (Nat.le_refl _) (.int .u64 0))
  have g0 := e2.cell 0
  have g1 := e2.cell 1
  simp at g0 g1
  have HB2 := hide b2
  have HB1 := hide b1
  clear hN e2 b2
  go_enter Tryz.func45, Tryz.ntmps45
  go_wp2
  first
    | refine bodyPost_ret (v := .tuple #[.agg #[.slice none 0 0, .int .u64 0], .bool false]) (by simp [results, Tryz.results45, go_sem, g0, g1]) rfl ⟨rfl, HB2.out⟩
    | refine bodyPost_ret (v := .tuple #[.agg #[.slice none 0 0, .int .u64 0], .bool false]) (by simp [results, Tryz.results45, go_sem]) rfl ⟨rfl, HB1.out⟩
/-- A fork on a path. -/
structure PF where
  g : Nat
  lv : Nat
  pre : List Nat
  ks : List Kid
/-- What a node tells: its level, prefix, entries. -/
structure NT where
  lv : Int
  pre : List Nat
  es : List Ent
/-- The node that hangs at the path's head, when another one hangs at its end. -/
def upN : List PF → NT → NT
  | [], n => n
  | f :: fs, n => ⟨f.lv, f.pre, kidEs (insK f.ks ⟨addrOf (upN fs n).pre f.lv, 0, (upN fs n).lv, (upN fs n).pre, (upN fs n).es⟩)⟩
def ChainOk : List PF → NT → Prop
  | [], _ => True
  | f :: fs, n => ChainOk fs n ∧ part f.pre (upN fs n).pre ≤ (f.lv : Int) ∧ (upN fs n).lv < (f.lv : Int)
theorem kidEs_blk (ks : List Kid) (a g g' : Nat) (l : Int) (p : List Nat) (es : List Ent) : kidEs (insK ks ⟨a, g, l, p, es⟩) = kidEs (insK ks ⟨a, g', l, p, es⟩) := by
  unfold kidEs insK
  simp
theorem chain_drop : ∀ (fs : List PF) (n : NT) (i : Nat), ChainOk fs n → ChainOk (fs.drop i) n
  | fs, n, 0, h => by simpa using h
  | [], n, i + 1, h => by simpa using h
  | f :: fs, n, i + 1, h => by simpa using chain_drop fs n i h.1
set_option maxHeartbeats 2000000 in
set_option maxRecDepth 100000 in
theorem tr_up {w : World} {t k g0 : Nat} {root : Option Addr} (fs : List PF) (n0 : NT) (A : Option Addr) (m c : Nat) (hT : TreeBlk w t k root) (hk1 : 1 ≤ k) (hk : k ≤ 16) (hA : Rw w 1 A m (ptrs (fs.map (·.g)))) (hm : fs.length = m) (hm100 : m ≤ 1000)
    (hF : ∀ f ∈ fs, Fork w k f.g f.lv f.pre f.ks) (hn : NodeOf w k g0 n0.lv n0.pre n0.es) (hc : ChainOk fs n0) :
    Calls Tryz.prog 48 #[.pointer (some ⟨t, 0, none⟩), .slice A m c, .pointer (some ⟨g0, 0, none⟩)] w fun e w' => ∃ t' g', e = .returned (.pointer (some ⟨t', 0, none⟩)) ∧ w.heap.size ≤ t' ∧ TreeBlk w' t' k (some ⟨g', 0, none⟩) ∧ NodeOf w' k g' (upN fs n0).lv (upN fs n0).pre (upN fs n0).es ∧ Below w.heap.size w w' := by
  have HT := hide hT
  have HA := hide hA
  have HF := hide hF
  have HN := hide hn
  have HC := hide hc
  have HM := hide hm
  have ew : IntKind.i64.wrap ((m : Int) - 1) = (m : Int) - 1 := by rw [IntKind.wrap_i64]; omega
  clear hT hA hF hn hc hm
  go_enter Tryz.func48, Tryz.ntmps48
  go_wp2
  go_loopw [2, 7] (fun x2 x7 wr => ∃ (i gc : Nat), x7 = .int .i64 ((i : Int) - 1) ∧ i ≤ m ∧ x2 = .pointer (some ⟨gc, 0, none⟩) ∧ NodeOf wr k gc (upN (fs.drop i) n0).lv (upN (fs.drop i) n0).pre (upN (fs.drop i) n0).es ∧ Below w.heap.size w wr) (fun _ x _ => (intOf x + 1).toNat)
  case atStart =>
    refine ⟨m, g0, rfl, Nat.le_refl _, rfl, ?_, Below.refl _ _⟩
    rw [List.drop_of_length_le (by have := HM.out; omega)]
    exact HN.out
  case round =>
    obtain ⟨i, gc, rfl, hi, rfl, hN, hb⟩ := hrel
    have HNN := hide hN
    clear hN
    rcases Nat.eq_zero_or_pos i with rfl | hi0
    · have t0 := Blk.cell (Blk.below HT.out hb) 0
      simp at t0
      go_wp2
      go_ret
      refine ⟨_, gc, rfl, hb.size, Blk.new _ _ _, HNN.out.stay ((Below.refl _ _).alloc (Nat.le_refl _) _), below_alloc hb (Nat.le_refl _) _⟩
    · obtain ⟨j, rfl⟩ : ∃ j, i = j + 1 := ⟨i - 1, by omega⟩
      have hjl : j < fs.length := by have := HM.out; omega
      obtain ⟨b, o, rfl, hbl, u, hu, k0⟩ := (HA.out.below hb).one (i := j) (by omega)
      have hfj : fs[j]? = some fs[j] := List.getElem?_eq_getElem hjl
      have hd : fs.drop j = fs[j] :: fs.drop (j + 1) := List.drop_eq_getElem_cons hjl
      generalize fs[j] = f at *
      unfold ptrs at hu
      rw [List.map_map, List.getElem?_map, hfj] at hu
      simp at hu
      rw [← hu] at k0
      have hch := chain_drop fs n0 j HC.out
      rw [hd] at hch
      have hW := nd_with ((HF.out f (List.mem_of_getElem? hfj)).stay hb) HNN.out hk1 hk hch.2.1 hch.2.2
      have HW := hide hW
      have HD := hide hd
      have e0 : ((j + 1 : Nat) : Int) - 1 = (j : Int) := by omega
      rw [e0]
      have ej : (0 : Int) ≤ (j : Int) := by omega
      have ejm : (j : Int) < (m : Int) := by omega
      have ejn : j < m := by omega
      clear hu hfj hd hch hW e0
      go_wp2_with fail
      refine HW.out.mono ?_
      rintro e w2 ⟨gn, rfl, hFn, hgn, hb2⟩
      have HFn := hide hFn
      clear hFn HW
      go_wp2
      go_roundw
      case rel =>
        refine ⟨j, gn, by go_num, by omega, rfl, ?_, below_then hb hb2⟩
        rw [HD.out]
        have := HFn.out.node
        rw [kidEs_blk _ _ _ 0] at this
        exact this
      case measure => simp [intOf]
set_option maxHeartbeats 2000000 in
set_option maxRecDepth 100000 in
/-- found, over what the last node's Entry tells. -/
theorem tr_found_some (A : Option Addr) (n c g : Nat) (gs : List Nat) (w : World) (hA : Rw w 1 A n (ptrs gs)) (hn1 : 1 ≤ n) (hn : n ≤ 1000) (hg : gs[n - 1]? = some g) (k v : Nat) (ok : Bool)
    (hE : ∀ W, Below w.heap.size w W → Calls Tryz.prog 62 #[.pointer (some ⟨g, 0, none⟩)] W fun e w' => (∃ B d, e = .returned (.tuple #[.agg #[.slice B k d, .int .u64 (v : Int)], .bool ok])) ∧ Below W.heap.size W w') :
    Calls Tryz.prog 45 #[.slice A n c] w fun e w' => (∃ B d, e = .returned (.tuple #[.agg #[.slice B k d, .int .u64 (v : Int)], .bool ok])) ∧ Below w.heap.size w w' := by
  have b1 := (Below.refl w.heap.size w).alloc (Nat.le_refl _) (.cells #[.slice none 0 0, .int .u64 0] 79)
  have hN := Blk.new w 79 #[.slice none 0 0, .int .u64 0]
  obtain ⟨i, hi⟩ : ∃ i, i = n - 1 := ⟨_, rfl⟩
  rw [← hi] at hg
  obtain ⟨b, o, rfl, hbl, u, hu, k0⟩ := (hA.below b1).one (i := i) (by omega)
  unfold ptrs at hu
  rw [List.getElem?_map, hg] at hu
  simp at hu
  rw [← hu] at k0
  have HE := hide (hE _ b1)
  have HN := hide hN
  have e2 : (n : Int) - 1 = (i : Int) := by omega
  have hin : i < n := by omega
  have hi0 : (0 : Int) ≤ (i : Int) := by omega
  have hi7 : (i : Int) ≤ 70368744177664 := by omega
  have e5 : IntKind.i64.wrap (i : Int) = (i : Int) := by rw [IntKind.wrap_i64]; omega
  have e6 : wrap64 (i : Int) = (i : Int) := by unfold wrap64; omega
  have hin' : (i : Int) < (n : Int) := by omega
  have ne0 : ((n : Int) == 0) = false := by simp; omega
  clear hA hg hu hE hN hi
  go_enter Tryz.func45, Tryz.ntmps45
  go_wp2_with fail
  refine HE.out.mono ?_
  rintro e w2 ⟨⟨B, d, rfl⟩, hb2⟩
  have hN2 := HN.out.below hb2
  have z0 := hN2.frozen 0
  have z1 := hN2.frozen 1
  have y0 := hN2.cell 0
  have y1 := hN2.cell 1
  simp at y0 y1
  have c2 := below_then b1 hb2
  have e3 := (hN2.set1 (i := 0) (.slice B k d)).set1 (i := 1) (.int .u64 (v : Int))
  have b3 := ((c2.setCell (p := ⟨w.heap.size, 0, none⟩) (Nat.le_refl _) (.slice B k d)).setCell (p := ⟨w.heap.size, 1, none⟩) (Nat.le_refl _) (.int .u64 (v : Int)))
  have g0 := e3.cell 0
  have g1 := e3.cell 1
  simp at g0 g1
  have HB3 := hide b3
  clear hN2 e3 b3
  go_wp2
  refine bodyPost_ret (v := .tuple #[.agg #[.slice B k d, .int .u64 (v : Int)], .bool ok]) (by simp [results, Tryz.results45, go_sem, g0, g1]) rfl ⟨⟨B, d, rfl⟩, HB3.out⟩
theorem part_le_iff {k : Nat} {p q : List Nat} (hp : Zp k p) (hq : Zp k q) (m : Int) (hm : -1 ≤ m) : part p q ≤ m ↔ ∀ b : Nat, m < (b : Int) → addrOf p b = addrOf q b := by
  obtain ⟨h1, h2, h3, h4⟩ := part_spec p q (by rw [hp.1, hq.1]) hp.2 hq.2
  constructor
  · intro h b hb
    exact h3 b (by omega)
  · intro h
    rcases Int.lt_or_le m (part p q) with h5 | h5
    · exact absurd (h (part p q).toNat (by omega)) (h4 (by omega))
    · exact h5
/-- What is told of a fork, with no world in sight. -/
structure FK (k : Nat) (f : PF) : Prop where
  lv : f.lv < 64
  pre : Zp k f.pre
  ksz : ∀ q ∈ f.ks, Zp k q.pre
  at_ : ∀ q ∈ f.ks, addrOf q.pre f.lv = q.at_ ∧ ∀ b, f.lv < b → addrOf q.pre b = addrOf f.pre b
  low : ∀ q ∈ f.ks, q.lv < f.lv
  up : ∀ q ∈ f.ks, -1 ≤ q.lv
  es : ∀ q ∈ f.ks, ∀ e ∈ q.es, Zp k e.1 ∧ addrOf e.1 f.lv = q.at_ ∧ ∀ b, f.lv < b → addrOf e.1 b = addrOf f.pre b
  sort : f.ks.Pairwise fun q r => q.at_ < r.at_
  two : 2 ≤ f.ks.length
theorem Fork.fk {w : World} {k : Nat} {f : PF} (h : Fork w k f.g f.lv f.pre f.ks) : FK k f := by
  obtain ⟨A, c, gs, h1, h2, h3, h4, h5, h6, h7, h8, h9, h10, h11⟩ := h
  refine ⟨h1, h2.zp, fun q hq => (h5 q hq).info.1, h7, h6, fun q hq => (h5 q hq).info.2.2.1, fun q hq e he => ?_, h8, h9⟩
  obtain ⟨i1, i2, i3, i4, i5, i6⟩ := (h5 q hq).info
  obtain ⟨j1, j2, j3⟩ := i5 e he
  have hl := h6 q hq
  refine ⟨j1, ?_, fun b hb => ?_⟩
  · rw [j3 f.lv hl, (h7 q hq).1]
  · rw [j3 b (by omega), (h7 q hq).2 b hb]
def PF.nt (f : PF) : NT := ⟨f.lv, f.pre, kidEs f.ks⟩
def kidAt (ks : List Kid) (a : Nat) : Option (Nat × NT) := (ks.find? fun q => decide (q.at_ = a)).map fun q => (q.blk, ⟨q.lv, q.pre, q.es⟩)
def esOf : Option (Nat × NT) → List Ent
  | none => []
  | some x => x.2.es
theorem kidAt_none {ks : List Kid} {a : Nat} (h : kidAt ks a = none) : ∀ q ∈ ks, q.at_ ≠ a := by
  unfold kidAt at h
  rw [Option.map_eq_none_iff, List.find?_eq_none] at h
  intro q hq hqa
  exact h q hq (by simpa using hqa)
theorem kidAt_some {ks : List Kid} {a : Nat} {x : Nat × NT} (h : kidAt ks a = some x) : ∃ q ∈ ks, q.at_ = a ∧ x = (q.blk, ⟨q.lv, q.pre, q.es⟩) := by
  unfold kidAt at h
  obtain ⟨q, hq, rfl⟩ := Option.map_eq_some_iff.1 h
  exact ⟨q, List.mem_of_find?_eq_some hq, by simpa using List.find?_some hq, rfl⟩
/-- The forks on a point's path, and what hangs where they end. -/
def Way (p : List Nat) : List PF → Option (Nat × NT) → Option (Nat × NT) → Prop
  | [], top, bot => top = bot
  | f :: fs, top, bot => top = some (f.g, f.nt) ∧ part f.pre p ≤ (f.lv : Int) ∧ Way p fs (kidAt f.ks (addrOf p f.lv)) bot
theorem Way.snoc {p : List Nat} : ∀ {fs : List PF} {top bot : Option (Nat × NT)} {f : PF}, Way p fs top bot → bot = some (f.g, f.nt) → part f.pre p ≤ (f.lv : Int) → Way p (fs ++ [f]) top (kidAt f.ks (addrOf p f.lv))
  | [], top, bot, f, h, hb, hc => ⟨by rw [show top = bot from h, hb], hc, rfl⟩
  | f' :: fs, top, bot, f, h, hb, hc => ⟨h.1, h.2.1, Way.snoc h.2.2 hb hc⟩
theorem Way.cut {p : List Nat} : ∀ {fs : List PF} {top bot : Option (Nat × NT)} {f : PF}, Way p (fs ++ [f]) top bot → Way p fs top (some (f.g, f.nt)) ∧ part f.pre p ≤ (f.lv : Int) ∧ bot = kidAt f.ks (addrOf p f.lv)
  | [], top, bot, f, h => ⟨h.1, h.2.1, h.2.2.symm⟩
  | f' :: fs, top, bot, f, h => by
    obtain ⟨h1, h2, h3⟩ := h
    obtain ⟨g1, g2, g3⟩ := Way.cut h3
    exact ⟨⟨h1, h2, g1⟩, g2, g3⟩
theorem Way.len {p : List Nat} {k : Nat} : ∀ {fs : List PF} {x : Nat × NT} {bot : Option (Nat × NT)}, (∀ f ∈ fs, FK k f) → -1 ≤ x.2.lv → Way p fs (some x) bot → (fs.length : Int) ≤ x.2.lv + 1
  | [], x, bot, hF, hx, h => by simp; omega
  | f :: fs, x, bot, hF, hx, h => by
    obtain ⟨h1, h2, h3⟩ := h
    injection h1 with h1
    subst h1
    have hf := hF f List.mem_cons_self
    cases hk : kidAt f.ks (addrOf p f.lv) with
    | none =>
      rw [hk] at h3
      cases fs with
      | nil => simp [PF.nt]; omega
      | cons f2 fs => exact absurd h3.1 (by simp)
    | some y =>
      rw [hk] at h3
      obtain ⟨q, hq, -, rfl⟩ := kidAt_some hk
      have := Way.len (fun f hf => hF f (List.mem_cons_of_mem _ hf)) (hf.up q hq) h3
      have := hf.low q hq
      simp [PF.nt] at *
      omega
/-- A point's entries are where its path ends. -/
theorem FK.mem {k : Nat} {f : PF} (h : FK k f) {e : Ent} {a : Nat} (he : addrOf e.1 f.lv = a) : e ∈ kidEs f.ks ↔ e ∈ esOf (kidAt f.ks a) := by
  unfold kidEs
  rw [List.mem_flatMap]
  cases hk : kidAt f.ks a with
  | none =>
    simp only [esOf]
    constructor
    · rintro ⟨q, hq, heq⟩
      exact absurd ((h.es q hq e heq).2.1.symm.trans he) (kidAt_none hk q hq)
    · intro h; cases h
  | some x =>
    obtain ⟨q, hq, hqa, rfl⟩ := kidAt_some hk
    simp only [esOf]
    constructor
    · rintro ⟨r, hr, her⟩
      have hra := (h.es r hr e her).2.1
      have : r = q := by
        have hs := h.sort
        obtain ⟨i, hi, rfl⟩ := List.getElem_of_mem hr
        obtain ⟨j, hj, rfl⟩ := List.getElem_of_mem hq
        rw [List.pairwise_iff_getElem] at hs
        rcases Nat.lt_trichotomy i j with hij | hij | hij
        · have := hs i j hi hj hij
          omega
        · simp [hij]
        · have := hs j i hj hi hij
          omega
      rw [← this]
      exact her
    · intro h2
      exact ⟨q, hq, h2⟩
theorem Way.mem {k : Nat} {p : List Nat} : ∀ {fs : List PF} {top bot : Option (Nat × NT)}, (∀ f ∈ fs, FK k f) → Way p fs top bot → ∀ v, (p, v) ∈ esOf top ↔ (p, v) ∈ esOf bot
  | [], top, bot, hF, h, v => by rw [show top = bot from h]
  | f :: fs, top, bot, hF, h, v => by
    obtain ⟨rfl, h2, h3⟩ := h
    rw [← Way.mem (fun f hf => hF f (List.mem_cons_of_mem _ hf)) h3 v]
    exact (hF f List.mem_cons_self).mem rfl
/-- What fits below the last fork of a path. -/
def FitsAt (p : List Nat) (f : PF) (n : NT) : Prop := part f.pre n.pre ≤ (f.lv : Int) ∧ n.lv < (f.lv : Int) ∧ addrOf n.pre f.lv = addrOf p f.lv
theorem way_up {k : Nat} {p : List Nat} {n : NT} {N : Ent → Prop} (hN : ∀ e, N e → e.1 = p) : ∀ {fs : List PF} {top bot : Option (Nat × NT)}, (∀ f ∈ fs, FK k f) → Way p fs top bot → (∀ f ∈ fs.getLast?, FitsAt p f n) → (∀ e, e ∈ n.es ↔ N e ∨ (e ∈ esOf bot ∧ e.1 ≠ p)) →
    ChainOk fs n ∧ ∀ e, e ∈ (upN fs n).es ↔ N e ∨ (e ∈ esOf top ∧ e.1 ≠ p)
  | [], top, bot, hF, hW, hL, he => ⟨trivial, by rw [show top = bot from hW]; exact he⟩
  | f :: fs, top, bot, hF, hW, hL, he => by
    obtain ⟨rfl, h2, h3⟩ := hW
    have hf := hF f List.mem_cons_self
    have hL2 : ∀ f' ∈ fs.getLast?, FitsAt p f' n := by
      intro f' hf'
      refine hL f' ?_
      cases fs with
      | nil => simp at hf'
      | cons f2 fs => rwa [List.getLast?_cons_cons]
    obtain ⟨i1, i2⟩ := way_up hN (fun f hf => hF f (List.mem_cons_of_mem _ hf)) h3 hL2 he
    have hfit : FitsAt p f (upN fs n) := by
      cases fs with
      | nil => exact hL f (by simp)
      | cons f2 fs =>
        obtain ⟨h4, h5, h6⟩ := h3
        obtain ⟨q, hq, hqa, hx⟩ := kidAt_some h4
        injection hx with hx1 hx2
        have hlow := hf.low q hq
        obtain ⟨a1, a2⟩ := hf.at_ q hq
        have hz := hf.ksz q hq
        simp only [PF.nt, NT.mk.injEq] at hx2
        obtain ⟨x1, x2, x3⟩ := hx2
        refine ⟨?_, ?_, ?_⟩
        · show part f.pre f2.pre ≤ _
          rw [x2]
          exact (part_le_iff hf.pre hz _ (by omega)).2 fun b hb => (a2 b (by omega)).symm
        · show (f2.lv : Int) < _
          rw [x1]; exact hlow
        · show addrOf f2.pre f.lv = _
          rw [x2, a1, hqa]
    refine ⟨⟨i1, hfit.1, hfit.2.1⟩, fun e => ?_⟩
    have ha := hfit.2.2
    have hi := i2 e
    have hun : (upN (f :: fs) n).es = kidEs (insK f.ks ⟨addrOf (upN fs n).pre f.lv, 0, (upN fs n).lv, (upN fs n).pre, (upN fs n).es⟩) := rfl
    rw [hun]
    generalize upN fs n = m at *
    rw [ha]
    have h4 : e ∈ kidEs (insK f.ks ⟨addrOf p f.lv, 0, m.lv, m.pre, m.es⟩) ↔ e ∈ m.es ∨ ∃ r ∈ f.ks, r.at_ ≠ addrOf p f.lv ∧ e ∈ r.es := by
      unfold kidEs
      simp only [List.mem_flatMap, mem_insK_iff]
      constructor
      · rintro ⟨r, rfl | ⟨hr, hra⟩, her⟩
        · exact .inl her
        · exact .inr ⟨r, hr, hra, her⟩
      · rintro (h | ⟨r, hr, hra, her⟩)
        · exact ⟨_, .inl rfl, h⟩
        · exact ⟨r, .inr ⟨hr, hra⟩, her⟩
    rw [h4, hi]
    show _ ↔ N e ∨ (e ∈ kidEs f.ks ∧ e.1 ≠ p)
    constructor
    · rintro ((h | ⟨h, hp⟩) | ⟨r, hr, hra, her⟩)
      · exact .inl h
      · refine .inr ⟨?_, hp⟩
        cases hk : kidAt f.ks (addrOf p f.lv) with
        | none => rw [hk] at h; cases h
        | some x =>
          rw [hk] at h
          obtain ⟨q, hq, hqa, rfl⟩ := kidAt_some hk
          exact List.mem_flatMap.2 ⟨q, hq, h⟩
      · refine .inr ⟨List.mem_flatMap.2 ⟨r, hr, her⟩, fun h => ?_⟩
        have := (hf.es r hr e her).2.1
        rw [h] at this
        exact hra this.symm
    · rintro (h | ⟨h, hp⟩)
      · exact .inl (.inl h)
      · obtain ⟨r, hr, her⟩ := List.mem_flatMap.1 h
        by_cases hra : r.at_ = addrOf p f.lv
        · refine .inl (.inr ⟨?_, hp⟩)
          have := (hf.es r hr e her).2.1
          exact (hf.mem (this.trans hra)).1 h
        · exact .inr ⟨r, hr, hra, her⟩
theorem Way.last {p : List Nat} {fs : List PF} {top bot : Option (Nat × NT)} {f : PF} (h : Way p fs top bot) (hf : f ∈ fs.getLast?) : part f.pre p ≤ (f.lv : Int) ∧ bot = kidAt f.ks (addrOf p f.lv) := by
  obtain ⟨fs0, rfl⟩ := List.getLast?_eq_some_iff.1 hf
  exact (Way.cut h).2
theorem last_mem {fs : List PF} {f : PF} (hf : f ∈ fs.getLast?) : f ∈ fs := by
  obtain ⟨fs0, rfl⟩ := List.getLast?_eq_some_iff.1 hf
  simp
/-- What hangs at the path's end parts from the point below the last fork. -/
theorem FK.below {k : Nat} {p : List Nat} {f : PF} {x : Nat × NT} (h : FK k f) (hp : Zp k p) (hc : part f.pre p ≤ (f.lv : Int)) (hx : kidAt f.ks (addrOf p f.lv) = some x) : part x.2.pre p < (f.lv : Int) ∧ Zp k x.2.pre ∧ FitsAt p f x.2 ∧ ∀ b, f.lv ≤ b → addrOf x.2.pre b = addrOf p b := by
  obtain ⟨q, hq, hqa, rfl⟩ := kidAt_some hx
  obtain ⟨a1, a2⟩ := h.at_ q hq
  have hz := h.ksz q hq
  have hcc := (part_le_iff h.pre hp _ (by omega)).1 hc
  have hall : ∀ b, f.lv ≤ b → addrOf q.pre b = addrOf p b := by
    intro b hb
    rcases Nat.eq_or_lt_of_le hb with rfl | hb
    · rw [a1, hqa]
    · rw [a2 b hb, hcc b (by omega)]
  refine ⟨?_, hz, ⟨?_, h.low q hq, ?_⟩, hall⟩
  · have := (part_le_iff hz hp ((f.lv : Int) - 1) (by omega)).2 fun b hb => hall b (by omega)
    show part q.pre p < _
    omega
  · exact (part_le_iff h.pre hz _ (by omega)).2 fun b hb => (a2 b (by omega)).symm
  · rw [a1, hqa]
theorem put_leaf {k v : Nat} {p : List Nat} (hp : Zp k p) {fs : List PF} {top bot : Option (Nat × NT)} (hF : ∀ f ∈ fs, FK k f) (hW : Way p fs top bot) (hb : ∀ e ∈ esOf bot, e.1 = p) :
    ChainOk fs ⟨-1, p, [(p, v)]⟩ ∧ ∀ e, e ∈ (upN fs ⟨-1, p, [(p, v)]⟩).es ↔ e = (p, v) ∨ (e ∈ esOf top ∧ e.1 ≠ p) := by
  refine way_up (N := fun e => e = (p, v)) (fun e h => by rw [h]) hF hW (fun f hf => ?_) fun e => ?_
  · exact ⟨(hW.last hf).1, by show (-1 : Int) < _; omega, rfl⟩
  · simp only [List.mem_singleton]
    constructor
    · exact .inl
    · rintro (h | ⟨h, h2⟩)
      · exact h
      · exact absurd (hb e h) h2
theorem put_pair {k v m : Nat} {p : List Nat} {g g' : Nat} {nt : NT} (hp : Zp k p) {fs : List PF} {top : Option (Nat × NT)} (hF : ∀ f ∈ fs, FK k f) (hW : Way p fs top (some (g, nt))) (hm : part nt.pre p = (m : Int)) (hl : nt.lv < m) (hz : Zp k nt.pre)
    (hes : ∀ e ∈ nt.es, Zp k e.1 ∧ ∀ b : Nat, nt.lv < b → addrOf e.1 b = addrOf nt.pre b) :
    ChainOk fs ⟨m, cut (m + 1) nt.pre, kidEs (pairK g g' nt.lv (-1) nt.pre p nt.es [(p, v)] m)⟩ ∧ ∀ e, e ∈ (upN fs ⟨m, cut (m + 1) nt.pre, kidEs (pairK g g' nt.lv (-1) nt.pre p nt.es [(p, v)] m)⟩).es ↔ e = (p, v) ∨ (e ∈ esOf top ∧ e.1 ≠ p) := by
  have hne : addrOf nt.pre m ≠ addrOf p m := by
    have := (part_spec nt.pre p (by rw [hz.1, hp.1]) hz.2 hp.2).2.2.2
    rw [hm] at this
    exact this (by omega)
  refine way_up (N := fun e => e = (p, v)) (fun e h => by rw [h]) hF hW (fun f hf => ?_) fun e => ?_
  · obtain ⟨h1, h2⟩ := hW.last hf
    have hf' := hF f (last_mem hf)
    obtain ⟨g1, g2, g3, g4⟩ := hf'.below hp h1 h2.symm
    simp only at g1 g2 g3 g4
    rw [hm] at g1
    have hm2 : m < f.lv := by omega
    refine ⟨?_, by show (m : Int) < _; omega, ?_⟩
    · refine (part_le_iff hf'.pre (zp_cut hz) _ (by omega)).2 fun b hb => ?_
      rw [addr_cut_hi _ (by omega)]
      exact (part_le_iff hf'.pre hz _ (by omega)).1 g3.1 b hb
    · show addrOf (cut (m + 1) nt.pre) f.lv = _
      rw [addr_cut_hi _ (by omega)]
      exact g4 _ (Nat.le_refl _)
  · have h4 : e ∈ kidEs (pairK g g' nt.lv (-1) nt.pre p nt.es [(p, v)] m) ↔ e ∈ nt.es ∨ e = (p, v) := by
      rw [pairK_eq hne]
      unfold kidEs
      split
      · simp [List.flatMap]
      · simp [List.flatMap]
        exact Or.comm
    show e ∈ kidEs (pairK g g' nt.lv (-1) nt.pre p nt.es [(p, v)] m) ↔ _
    rw [h4]
    simp only [esOf]
    constructor
    · rintro (h | h)
      · refine .inr ⟨h, fun he => ?_⟩
        have := (hes e h).2 m hl
        rw [he] at this
        exact hne this.symm
      · exact .inl h
    · rintro (h | h)
      · exact .inr h
      · exact .inl h.1
/-- A fork on the way without one of its kids. -/
theorem del_fork {k : Nat} {p : List Nat} (hp : Zp k p) {fs : List PF} {f : PF} {top bot : Option (Nat × NT)} (hF : ∀ f' ∈ fs, FK k f') (hf : FK k f) (hW : Way p fs top (some (f.g, f.nt))) (hb : ∀ e ∈ esOf (kidAt f.ks (addrOf p f.lv)), e.1 = p) {n : NT}
    (hes : ∀ e, e ∈ n.es ↔ ∃ r ∈ f.ks, r.at_ ≠ addrOf p f.lv ∧ e ∈ r.es) (hpre : Zp k n.pre) (hlv : n.lv ≤ f.lv) (hag : ∀ b, f.lv < b → addrOf n.pre b = addrOf f.pre b) :
    ChainOk fs n ∧ ∀ e, e ∈ (upN fs n).es ↔ (e ∈ esOf top ∧ e.1 ≠ p) := by
  have := way_up (n := n) (N := fun e => False) (fun e h => h.elim) hF hW (fun f' hf' => ?_) fun e => ?_
  · refine ⟨this.1, fun e => ?_⟩
    rw [this.2 e]
    simp
  · obtain ⟨h1, h2⟩ := hW.last hf'
    have hff := hF f' (last_mem hf')
    obtain ⟨g1, g2, g3, g4⟩ := hff.below hp h1 h2.symm
    simp only [PF.nt] at g1 g2 g3 g4
    have hlow : (f.lv : Int) < f'.lv := g3.2.1
    refine ⟨?_, by omega, ?_⟩
    · refine (part_le_iff hff.pre hpre _ (by omega)).2 fun b hb => ?_
      rw [hag b (by omega)]
      exact (part_le_iff hff.pre hf.pre _ (by omega)).1 g3.1 b hb
    · rw [hag _ (by omega)]
      exact g3.2.2
  · rw [hes e]
    simp only [false_or, esOf, PF.nt]
    constructor
    · rintro ⟨r, hr, hra, her⟩
      refine ⟨List.mem_flatMap.2 ⟨r, hr, her⟩, fun h => ?_⟩
      have := (hf.es r hr e her).2.1
      rw [h] at this
      exact hra this.symm
    · rintro ⟨h, hp⟩
      obtain ⟨r, hr, her⟩ := List.mem_flatMap.1 h
      refine ⟨r, hr, fun hra => ?_, her⟩
      have := (hf.es r hr e her).2.1
      exact hp (hb e ((hf.mem (this.trans hra)).1 h))
end Go.Proofs.YtghnpflaafdcdaaGreat
set_option linter.unusedSimpArgs false
set_option linter.unusedVariables false
namespace Go.Proofs.YtghnpflaafdcdaaGreat
open Go.RowKit
theorem wp_scope_goto2 {P : Program} {Q : Exit → Act → World → Prop} {a : Act} {w : World} {c p1 p2 rest : Code} (l : Nat) (J : Act → World → Prop) (μ : Act → World → Nat) (hc : c = p1.seq (p2.seq ((Code.label l).seq rest))) (hf1 : findLabel p1 l = none) (hf2 : findLabel p2 l = none)
    (first : p1.wp P (Exit.then (p2.wp P (Exit.then J NoExit)) NoExit) a w)
    (pass : ∀ a w, J a w → rest.wp P (Exit.jump l (fun a' w' => J a' w' ∧ μ a' w' < μ a w) Q) a w) : (Code.scope c).wp P Q a w := by
  subst hc
  refine wp_scope_jumps l J μ (rest := Code.skip.seq rest) (by simp [findLabel, hf1, hf2]) ?_ (fun a w h => Go.wp_seq (Go.wp_skip (pass a w h)))
  refine Go.wp_seq (Code.wp_mono (fun e a w h => ?_) first)
  cases e with
  | normal =>
    refine Go.wp_seq (Code.wp_mono (fun e a w h => ?_) h)
    cases e with
    | normal => exact Go.wp_seq (Go.wp_label (jump_mono (pass a w h) fun _ _ h => h.1))
    | _ => exact False.elim h
  | _ => exact False.elim h
def sliceLen : Value → Nat
  | .slice _ n _ => n
  | _ => 0
def ptrOf (x : Option (Nat × NT)) : Value := .pointer (x.map fun y => ⟨y.1, 0, none⟩)
/-- How a path may end: the nodes on it, and what hangs below. -/
inductive PathEnd (w : World) (k : Nat) (p : List Nat) (fs : List PF) : Option (Nat × NT) → List Nat → Option (Nat × NT) → Prop
  | none : PathEnd w k p fs none (fs.map (·.g)) none
  | leaf (g v : Nat) (hn : NodeOf w k g (-1) p [(p, v)]) : PathEnd w k p fs (some (g, ⟨-1, p, [(p, v)]⟩)) (fs.map (·.g) ++ [g]) none
  | miss (x : Nat × NT) (hn : NodeOf w k x.1 x.2.lv x.2.pre x.2.es) (hm : x.2.lv < part x.2.pre p) : PathEnd w k p fs (some x) (fs.map (·.g)) (some x)
def TopOk (w : World) (k : Nat) (top : Option (Nat × NT)) : Prop := ∀ x, top = some x → NodeOf w k x.1 x.2.lv x.2.pre x.2.es
theorem kid_ptr {w : World} {k g m : Nat} {pre : List Nat} {ks : List Kid} (h : Fork w k g m pre ks) (a : Nat) : (getTh (kidTh ks) (a : Int)).getD (.pointer none) = ptrOf (kidAt ks a) := by
  obtain ⟨A, c, gs, hp, hS, hB⟩ := h.head
  cases hk : kidAt ks a with
  | none =>
    rw [getTh_none]
    · rfl
    · intro t ht
      obtain ⟨q, hq, rfl⟩ := List.mem_map.1 ht
      have := kidAt_none hk q hq
      simp only
      omega
  | some x =>
    obtain ⟨q, hq, rfl, rfl⟩ := kidAt_some hk
    have := getTh_some hS.ok (t := (q.at_, .pointer (some ⟨q.blk, 0, none⟩))) (List.mem_map.2 ⟨q, hq, rfl⟩)
    simp only at this
    rw [this]
    rfl
theorem kid_top {w : World} {k g m : Nat} {pre : List Nat} {ks : List Kid} (h : Fork w k g m pre ks) (a : Nat) : TopOk w k (kidAt ks a) := by
  intro x hx
  obtain ⟨q, hq, -, rfl⟩ := kidAt_some hx
  obtain ⟨A, c, gs, h1, h2, h3, h4, h5, h6, h7, h8, h9, h10, h11⟩ := h
  exact h5 q hq
theorem ptrs_snoc (gs : List Nat) (g : Nat) : ptrs (gs ++ [g]) = ptrs gs ++ [.pointer (some ⟨g, 0, none⟩)] := by simp [ptrs]
set_option maxHeartbeats 4000000 in
set_option maxRecDepth 100000 in
theorem tr_path {w : World} {t k : Nat} {top : Option (Nat × NT)} (hT : TreeBlk w t k (top.map fun y => ⟨y.1, 0, none⟩)) (hn : TopOk w k top) (hk1 : 1 ≤ k) (hk : k ≤ 16) {A : Option Addr} {c : Nat} {p : List Nat} (hp : Pt w A k p) :
    Calls Tryz.prog 44 #[.pointer (some ⟨t, 0, none⟩), .slice A k c] w fun e w' => ∃ (fs : List PF) (bot : Option (Nat × NT)) (gs : List Nat) (below : Option (Nat × NT)) (B : Option Addr) (d : Nat), Way p fs top bot ∧ (∀ f ∈ fs, Fork w k f.g f.lv f.pre f.ks) ∧ fs.length ≤ 64 ∧ PathEnd w k p fs bot gs below ∧ e = .returned (.tuple #[.slice B gs.length d, ptrOf below]) ∧ w'.ownsRow w.heap.size 82 1 (.slice B gs.length d) gs.length (ptrs gs) ∧ Below w.heap.size w w' := by
  have c1 := Blk.cell hT 1
  simp at c1
  have HP := hide hp
  have HTN := hide hn
  have hlen : ∀ (fs : List PF) (bot : Option (Nat × NT)), (∀ f ∈ fs, Fork w k f.g f.lv f.pre f.ks) → Way p fs top bot → fs.length ≤ 64 := by
    intro fs bot hF hW
    cases fs with
    | nil => simp
    | cons f fs =>
      have h0 := hW.1
      rw [h0] at hW
      have hi := (hn _ h0).info
      have := Way.len (fun f hf => (hF f hf).fk) hi.2.2.1 hW
      have := hi.2.2.2.1
      omega
  have HLEN := hide hlen
  clear hT hp hn hlen
  go_enter Tryz.func44, Tryz.ntmps44
  go_wp2
  refine wp_scope_goto2 0 (fun a' wr => ∃ (fs : List PF) (bot : Option (Nat × NT)) (B : Option Addr) (d : Nat) (u2 u3 u8 u9 u10 u11 u12 u13 u14 u15 u16 u17 u18 u19 u20 u21 u22 u23 u24 u25 u26 u27 u28 : Value), a' = { tmps := #[.pointer (some ⟨t, 0, none⟩), .slice A k c, u2, u3, .slice none 0 0, .pointer none, .slice B fs.length d, ptrOf bot, u8, u9, u10, u11, u12, u13, u14, u15, u16, u17, u18, u19, u20, u21, u22, u23, u24, u25, u26, u27, u28], defers := [] } ∧ Way p fs top bot ∧ (∀ f ∈ fs, Fork w k f.g f.lv f.pre f.ks) ∧ TopOk w k bot ∧ wr.ownsRow w.heap.size 82 1 (.slice B fs.length d) fs.length (ptrs (fs.map (·.g))) ∧ Below w.heap.size w wr) (fun a' _ => 65 - sliceLen (a'.tmps.getD 6 undef)) (by rfl) (by rfl) (by rfl) ?_ ?_
  · go_wp2
    exact ⟨[], top, none, 0, _, _, _, _, _, _, _, _, _, _, _, _, _, _, _, _, _, _, _, _, _, _, _, rfl, rfl, fun f hf => (by cases hf), HTN.out, World.ownsRow_nil _ _ _ _, Below.refl _ _⟩
  · rintro a' wr ⟨fs, bot, B, d, u2, u3, u8, u9, u10, u11, u12, u13, u14, u15, u16, u17, u18, u19, u20, u21, u22, u23, u24, u25, u26, u27, u28, rfl, hW, hF, hN, hO, hb⟩
    have HW := hide hW
    have HF := hide hF
    have HO := hide hO
    have HB := hide hb
    have hfl : fs.length ≤ 64 := HLEN.out fs bot hF hW
    cases bot with
    | none =>
      clear hW hF hN hO hb
      unfold ptrOf
      simp only [Option.map_none]
      go_wp2_with fail
      refine (nd_covers_nil _ _ _ _).mono ?_
      rintro e w1 ⟨rfl, rfl⟩
      go_wp2
      simp only [Exit.jump]
      go_ret2
      refine ⟨fs, none, _, _, B, d, HW.out, HF.out, hfl, .none, by simp [ptrOf], by simpa using HO.out, HB.out⟩
    | some x =>
      have hNx := hN x rfl
      have HX := hide hNx
      have HC := hide (nd_covers (d := c) (hNx.stay hb) hk1 hk (HP.out.below hb))
      clear hW hF hN hO hb
      unfold ptrOf
      simp only [Option.map_some]
      by_cases hcv : part x.2.pre p ≤ x.2.lv
      · rw [show decide (part x.2.pre p ≤ x.2.lv) = true by simpa using hcv] at HC
        rcases hNx.cases' with ⟨A', c', v, hlv, hes, hv, hP', hc', hB'⟩ | ⟨m, ks, hlv, hes, hFk⟩
        · have HL := hide (nd_level (HX.out.stay HB.out))
          rw [hlv] at HL
          have hpe : x.2.pre = p := part_neg hP'.zp HP.out.zp (by omega)
          have hx : x = (x.1, ⟨-1, p, [(p, v)]⟩) := by
            obtain ⟨g, ⟨l, pr, es⟩⟩ := x
            simp only at hlv hes hpe
            rw [hlv, hes, hpe]
          have HXE := hide hx
          clear hNx hcv hlv hes hv hP' hc' hB' hpe hx
          go_wp2_with fail
          refine HC.out.mono ?_
          rintro e w1 ⟨rfl, rfl⟩
          have hb4 := below_alloc HB.out (Nat.le_refl _) (.cells #[.pointer (some ⟨x.1, 0, none⟩)] 82)
          go_wp2_with (first
            | (at_builtin
               refine app_b _ rfl (.tmp 18) (.tmp 20) _ rfl w.heap.size 82 _ 1 8 Tryz.underlying91 info_n rfl (by omega) _ fs.length _ rfl (HO.out.alloc _) (some ⟨wr.heap.size, 0, none⟩) 1 1 [.pointer (some ⟨x.1, 0, none⟩)] rfl w hb4 (Nat.le_refl _) (Rw.new1 wr 82 #[.pointer (some ⟨x.1, 0, none⟩)] rfl) ?h2 (by unfold maxLen; omega) (by omega) ?_
               case h2 =>
                 intro u hu
                 rw [List.mem_singleton] at hu
                 rw [hu]
                 rfl
               intro v5 w5 ho5 hb5 _
               have HO5 := hide ho5
               have HB5 := hide hb5
               obtain ⟨B5, d5, rfl, -, hR5⟩ := Rw.of_own ho5
               have HL5 := hide (nd_level (HX.out.stay hb5))
               rw [show x.2.lv = -1 by rw [HXE.out]] at HL5
               clear ho5 hb5 hR5 HL)
            | fail)
          go_wp2_with fail
          refine HL5.out.mono ?_
          rintro e w6 ⟨rfl, rfl⟩
          go_wp2
          simp only [Exit.jump]
          go_ret2
          have hxx := HX.out
          have hww := HW.out
          rw [HXE.out] at hxx hww
          refine ⟨fs, _, _, _, B5, d5, hww, HF.out, hfl, .leaf x.1 v hxx, by simp [ptrOf], ?_, HB5.out⟩
          have := HO5.out
          rw [ptrs_snoc]
          simpa using this
        · have hm64 : m < 64 := by obtain ⟨_, _, _, h1, _⟩ := hFk; exact h1
          have HFK := hide hFk
          have HLV := hide hlv
          have HES := hide hes
          rw [hlv] at hcv
          have HCV := hide hcv
          clear hNx hcv hlv hes hFk
          go_wp2_with fail
          refine HC.out.mono ?_
          rintro e w1 ⟨rfl, rfl⟩
          have hb4 := below_alloc HB.out (Nat.le_refl _) (.cells #[.pointer (some ⟨x.1, 0, none⟩)] 82)
          go_wp2_with (first
            | (at_builtin
               refine app_b _ rfl (.tmp 18) (.tmp 20) _ rfl w.heap.size 82 _ 1 8 Tryz.underlying91 info_n rfl (by omega) _ fs.length _ rfl (HO.out.alloc _) (some ⟨wr.heap.size, 0, none⟩) 1 1 [.pointer (some ⟨x.1, 0, none⟩)] rfl w hb4 (Nat.le_refl _) (Rw.new1 wr 82 #[.pointer (some ⟨x.1, 0, none⟩)] rfl) ?h2 (by unfold maxLen; omega) (by omega) ?_
               case h2 =>
                 intro u hu
                 rw [List.mem_singleton] at hu
                 rw [hu]
                 rfl
               intro v5 w5 ho5 hb5 _
               have HO5 := hide ho5
               have HB5 := hide hb5
               obtain ⟨B5, d5, rfl, -, hR5⟩ := Rw.of_own ho5
               have HL5 := hide (nd_level (HX.out.stay hb5))
               rw [HLV.out] at HL5
               have HD5 := hide (tr_down (c := c) (HFK.out.stay hb5) hk1 hk (HP.out.below hb5))
               rw [kid_ptr HFK.out] at HD5
               unfold ptrOf at HD5
               clear ho5 hb5 hR5)
            | fail)
          go_wp2_with fail
          refine HL5.out.mono ?_
          rintro e w6 ⟨rfl, rfl⟩
          have em : decide ((m : Int) < 0) = false := by simp
          go_wp2_with fail
          refine HD5.out.mono ?_
          rintro e w7 ⟨rfl, hb7⟩
          go_wp2
          go_step3
          have hnt : x = (x.1, (⟨x.1, m, x.2.pre, ks⟩ : PF).nt) := by
            obtain ⟨g, ⟨l, pr, es⟩⟩ := x
            have h1 := HLV.out
            have h2 := HES.out
            simp only at h1 h2
            rw [h1, h2]
            rfl
          have hW2 := HW.out.snoc (f := ⟨x.1, m, x.2.pre, ks⟩) (by rw [← hnt]) HCV.out
          have hF2 : ∀ f ∈ fs ++ [(⟨x.1, m, x.2.pre, ks⟩ : PF)], Fork w k f.g f.lv f.pre f.ks := by
            intro f hf
            rcases List.mem_append.1 hf with hf | hf
            · exact HF.out f hf
            · rw [List.mem_singleton] at hf
              subst hf
              exact HFK.out
          have hl2 := HLEN.out _ _ hF2 hW2
          rw [List.length_append, List.length_singleton] at hl2
          refine ⟨rfl, ⟨fs ++ [⟨x.1, m, x.2.pre, ks⟩], kidAt ks (addrOf p m), B5, d5, _, _, _, _, _, _, _, _, _, _, _, _, _, _, _, _, _, _, _, _, _, _, _, by rw [List.length_append]; rfl, hW2, hF2, kid_top HFK.out _, ?_, below_then HB5.out hb7⟩, ?_⟩
          · have := own_below HO5.out hb7
            rw [List.map_append, List.map_singleton, ptrs_snoc]
            simpa using this
          · simp [sliceLen]
            omega
      · rw [show decide (part x.2.pre p ≤ x.2.lv) = false by simpa using hcv] at HC
        have hcv2 : x.2.lv < part x.2.pre p := by omega
        have HCV := hide hcv2
        clear hNx hcv hcv2
        go_wp2_with fail
        refine HC.out.mono ?_
        rintro e w1 ⟨rfl, rfl⟩
        go_wp2
        simp only [Exit.jump]
        go_ret2
        refine ⟨fs, some x, _, _, B, d, HW.out, HF.out, hfl, .miss x HX.out HCV.out, by simp [ptrOf], by simpa using HO.out, HB.out⟩
theorem TreeOf.top {w : World} {k t : Nat} {es : List Ent} (h : TreeOf w k t es) : ∃ top, TreeBlk w t k (top.map fun y => ⟨y.1, 0, none⟩) ∧ TopOk w k top ∧ esOf top = es ∧ 1 ≤ k ∧ k ≤ 16 := by
  obtain ⟨h1, h2, ⟨h3, rfl⟩ | ⟨g, lv, pre, h3, h4⟩⟩ := h
  · exact ⟨none, h3, fun x hx => (by cases hx), rfl, h1, h2⟩
  · refine ⟨some (g, ⟨lv, pre, es⟩), h3, fun x hx => ?_, rfl, h1, h2⟩
    injection hx with hx
    subst hx
    exact h4
theorem TopOk.stay {w w' : World} {k : Nat} {top : Option (Nat × NT)} (h : TopOk w k top) (hb : Below w.heap.size w w') : TopOk w' k top := fun x hx => (h x hx).stay hb
section
variable {w : World} {k : Nat} {p : List Nat} {fs : List PF} {top bot below : Option (Nat × NT)} {gs : List Nat}
theorem PathEnd.no (h : PathEnd w k p fs bot gs below) (hp : Zp k p) (hl : gs = fs.map (·.g)) : ∀ v, (p, v) ∉ esOf bot := by
  intro v hv
  cases h with
  | none => cases hv
  | leaf g v' hn => simp at hl
  | miss x hn hm =>
    obtain ⟨i1, i2, i3, i4, i5, i6, i7⟩ := hn.info
    obtain ⟨j1, j2, j3⟩ := i5 _ hv
    obtain ⟨s1, s2, s3, s4⟩ := part_spec x.2.pre p (by rw [i1.1, hp.1]) i1.2 hp.2
    exact s4 (by omega) (j3 _ (by omega)).symm
theorem PathEnd.cases_ (h : PathEnd w k p fs bot gs below) : gs = fs.map (·.g) ∨ ∃ g v, gs = fs.map (·.g) ++ [g] ∧ below = Option.none ∧ bot = some (g, ⟨-1, p, [(p, v)]⟩) ∧ NodeOf w k g (-1) p [(p, v)] := by
  cases h with
  | none => exact .inl rfl
  | leaf g v hn => exact .inr ⟨g, v, rfl, rfl, rfl, hn⟩
  | miss x hn hm => exact .inl rfl
end
/-- found, where no entry ends the path. -/
theorem tr_found_fork {w : World} {k : Nat} {fs : List PF} {B : Option Addr} {d n : Nat} (hn : n = fs.length) (hF : ∀ f ∈ fs, Fork w k f.g f.lv f.pre f.ks) (hl : fs.length ≤ 64) (hR : Rw w 1 B n (ptrs (fs.map (·.g)))) :
    Calls Tryz.prog 45 #[.slice B n d] w fun e w' => (∃ C m c, e = .returned (.tuple #[.agg #[.slice C m c, .int .u64 ((0 : Nat) : Int)], .bool false])) ∧ Below w.heap.size w w' := by
  subst hn
  rcases Nat.eq_zero_or_pos fs.length with h0 | h0
  · rw [h0]
    exact (tr_found_none B d w).mono fun e w' ⟨h1, h2⟩ => ⟨⟨none, 0, 0, (by rw [h1]; rfl)⟩, h2⟩
  · have hi : fs.length - 1 < fs.length := by omega
    have hg := List.getElem?_eq_getElem hi
    generalize fs[fs.length - 1] = f at hg
    have hFf := hF f (List.mem_of_getElem? hg)
    obtain ⟨A, c, s, hp', hS, hB⟩ := hFf.head
    refine (tr_found_some B fs.length d f.g (fs.map (·.g)) w hR h0 (by omega) (by rw [List.getElem?_map, hg]; rfl) 0 0 false fun W hW => ?_).mono fun e w' ⟨⟨C, c, h1⟩, h2⟩ => ⟨⟨C, 0, c, h1⟩, h2⟩
    exact (nd_entry_fork (hB.below hW)).mono fun e w' ⟨h1, h2⟩ => ⟨⟨none, 0, (by rw [h1]; rfl)⟩, h2⟩
/-- found, where an entry ends it. -/
theorem tr_found_leaf {w : World} {k g v n : Nat} {p : List Nat} {fs : List PF} {B : Option Addr} {d : Nat} (hn : n = (fs.map (·.g) ++ [g]).length) (hN : NodeOf w k g (-1) p [(p, v)]) (hk : k ≤ 16) (hl : fs.length ≤ 64) (hR : Rw w 1 B n (ptrs (fs.map (·.g) ++ [g]))) :
    Calls Tryz.prog 45 #[.slice B n d] w fun e w' => (∃ C m c, e = .returned (.tuple #[.agg #[.slice C m c, .int .u64 (v : Int)], .bool true])) ∧ Below w.heap.size w w' := by
  have hn2 : n = fs.length + 1 := by simpa using hn
  clear hn
  subst hn2
  refine (tr_found_some B (fs.length + 1) d g (fs.map (·.g) ++ [g]) w hR (by omega) (by omega) (by simp) k v true fun W hW => ?_).mono fun e w' ⟨⟨C, c, h1⟩, h2⟩ => ⟨⟨C, k, c, h1⟩, h2⟩
  rcases (hN.stay hW).cases' with ⟨A', c', v', -, hes, hv, hP', hc', hB'⟩ | ⟨m, ks, hlv, -, -⟩
  · have : v' = v := by simpa using hes.symm
    subst this
    exact (nd_entry_leaf hB' hP' hk).mono fun e w' ⟨C, c, h1, _, h2⟩ => ⟨⟨C, c, h1⟩, h2⟩
  · omega
set_option maxHeartbeats 1000000 in
set_option maxRecDepth 100000 in
theorem tr_put_dim {w : World} {t k : Nat} {root : Option Addr} (h : TreeBlk w t k root) (A : Option Addr) (n c : Nat) (v : Int) (hn : n ≠ k) : Calls Tryz.prog 24 #[.pointer (some ⟨t, 0, none⟩), .slice A n c, .int .u64 v] w fun e w' => e = .returned (.tuple #[.pointer none, .int .i64 2]) ∧ w = w' := by
  have HC := hide (tr_check_dim h A n c hn)
  clear h hn
  go_enter Tryz.func24, Tryz.ntmps24
  go_wp2_with fail
  refine HC.out.mono ?_
  rintro e w1 ⟨rfl, rfl⟩
  go_wp2
  go_ret2
  exact ⟨rfl, rfl⟩
set_option maxHeartbeats 1000000 in
set_option maxRecDepth 100000 in
theorem tr_del_dim {w : World} {t k : Nat} {root : Option Addr} (h : TreeBlk w t k root) (A : Option Addr) (n c : Nat) (hn : n ≠ k) : Calls Tryz.prog 27 #[.pointer (some ⟨t, 0, none⟩), .slice A n c] w fun e w' => e = .returned (.tuple #[.pointer none, .int .i64 2]) ∧ w = w' := by
  have HC := hide (tr_check_dim h A n c hn)
  clear h hn
  go_enter Tryz.func27, Tryz.ntmps27
  go_wp2_with fail
  refine HC.out.mono ?_
  rintro e w1 ⟨rfl, rfl⟩
  go_wp2
  go_ret2
  exact ⟨rfl, rfl⟩
theorem up_tree {w : World} {k t g : Nat} {fs : List PF} {n : NT} (hk1 : 1 ≤ k) (hk : k ≤ 16) (h1 : TreeBlk w t k (some ⟨g, 0, none⟩)) (h2 : NodeOf w k g (upN fs n).lv (upN fs n).pre (upN fs n).es) : TreeOf w k t (upN fs n).es :=
  ⟨hk1, hk, .inr ⟨g, _, _, h1, h2⟩⟩
theorem Rw.init {w : World} {A : Option Addr} {n : Nat} {vs : List Value} {x : Value} (h : Rw w 1 A (n + 1) (vs ++ [x])) : Rw w 1 A n vs := by
  have hl := h.1
  have := h.take_ (i := n) (by omega)
  simp at hl
  rw [Nat.mul_one, List.take_append_of_le_length (by omega), List.take_of_length_le (by omega)] at this
  exact this
/-- What Put answers. -/
def PutOut (w : World) (t k : Nat) (p : List Nat) (v : Nat) (es : List Ent) (e : Ending) (w' : World) : Prop :=
  ∃ t' es', e = .returned (.tuple #[.pointer (some ⟨t', 0, none⟩), .int .i64 0]) ∧ TreeOf w' k t' es' ∧ (∀ x, x ∈ es' ↔ x = (p, v) ∨ (x ∈ es ∧ x.1 ≠ p)) ∧ (t' = t ↔ (p, v) ∈ es) ∧ Below w.heap.size w w'
set_option maxHeartbeats 4000000 in
set_option maxRecDepth 100000 in
theorem tr_put {w : World} {t k v : Nat} {es : List Ent} (hT : TreeOf w k t es) {A : Option Addr} {c : Nat} {p : List Nat} (hp : Pt w A k p) (hv : v < 2 ^ 64) :
    Calls Tryz.prog 24 #[.pointer (some ⟨t, 0, none⟩), .slice A k c, .int .u64 (v : Int)] w (PutOut w t k p v es) := by
  obtain ⟨top, hB, hN, hes, hk1, hk⟩ := hT.top
  have HC := hide (tr_check hB A c)
  have HP := hide (tr_path hB hN hk1 hk (c := c) hp)
  have HZ := hide hp.zp
  have HES := hide hes
  have HT := hide hT
  have HTB := hide hB
  have HPT := hide hp
  have htlt : t < w.heap.size := hB.lt
  have HLT := hide htlt
  have HLF := hide (fun (W : World) (hW : Below w.heap.size w W) => nd_leaf A k c p v W (hp.below hW) hv hk1 hk)
  clear hT hB hN hp hes htlt
  go_enter Tryz.func24, Tryz.ntmps24
  go_wp2_with fail
  refine HC.out.mono ?_
  rintro e w1 ⟨rfl, rfl⟩
  go_wp2_with fail
  refine HP.out.mono ?_
  rintro e w1 ⟨fs, bot, gs, below, B, d, hW, hF, hl, hE, rfl, hO, hb⟩
  have HW := hide hW
  have HF := hide hF
  have HB := hide hb
  obtain ⟨hcap, hR⟩ := own_rw hO
  have HE := hide hE
  have HR := hide hR
  rcases hE.cases_ with hgs | ⟨g, v0, hgs, hbe, hbot, hNl⟩
  · have hno := hE.no HZ.out hgs
    have HNO := hide hno
    have HFO := hide (tr_found_fork (n := gs.length) (d := d) (by rw [hgs]; simp) (fun f hf => (hF f hf).stay hb) hl (by rw [hgs] at hR ⊢; exact hR))
    have hnt : ∀ x, (p, x) ∉ es := fun x hx => by
      rw [← HES.out, Way.mem (fun f hf => (HF.out f hf).fk) HW.out] at hx
      exact hno x hx
    have HNT := hide hnt
    have HGS := hide hgs
    have hgl : gs.length = fs.length := by rw [hgs]; simp
    have HGL := hide hgl
    rw [hgs] at HR
    have HNT := hide (HNT.out v)
    cases hE with
    | leaf g v' hn => simp at hgs
    | none =>
      unfold ptrOf
      simp only [Option.map_none]
      clear hW hF hO hb hR hgs hno hnt hcap
      rw [hgl] at HFO HR ⊢
      clear hgl
      go_wp2_with fail
      refine HFO.out.mono ?_
      rintro e w2 ⟨⟨C, m, cc, rfl⟩, hb2⟩
      have t1 := (Blk.new w2 79 #[.slice C m cc, .int .u64 ((0 : Nat) : Int)]).cell 1
      simp at t1
      have hb3 := below_alloc (below_then HB.out hb2) (Nat.le_refl _) (.cells #[.slice C m cc, .int .u64 ((0 : Nat) : Int)] 79)
      have hq3 := below_alloc hb2 (Nat.le_refl _) (.cells #[.slice C m cc, .int .u64 ((0 : Nat) : Int)] 79)
      have HL := hide (HLF.out _ hb3)
      have HB3 := hide hb3
      have HQ3 := hide hq3
      clear hb2 hb3 hq3 HFO
      go_wp2_with fail
      refine HL.out.mono ?_
      rintro e w4 ⟨g4, rfl, hN4, -, hb4⟩
      have hb4' := below_then HB3.out hb4
      have hq4 := below_then HQ3.out hb4
      have hPL := put_leaf (v := v) HZ.out (fun f hf => (HF.out f hf).fk) HW.out (fun e he => by cases he)
      have HME := hide hPL.2
      have HUP := hide (tr_up (fs := fs) ⟨-1, p, [(p, v)]⟩ B fs.length d (HTB.out.below hb4') hk1 hk (HR.out.below hq4) rfl (by omega) (fun f hf => (HF.out f hf).stay hb4') hN4 hPL.1)
      have HB4 := hide hb4'
      clear hN4 hb4 hb4' hq4 hPL HL t1
      go_wp2_with fail
      refine HUP.out.mono ?_
      rintro e w5 ⟨t', g', rfl, ht', hT5, hN5, hb5⟩
      have HH := hide (And.intro ht' (And.intro hT5 (And.intro hN5 hb5)))
      clear ht' hT5 hN5 hb5
      go_wp2
      go_ret2
      obtain ⟨ht', hT5, hN5, hb5⟩ := HH.out
      refine ⟨t', _, rfl, up_tree hk1 hk hT5 hN5, ?_, ?_, below_then HB4.out hb5⟩
      · rw [← HES.out]; exact HME.out
      · constructor
        · intro h
          have := HB4.out.size
          have := HLT.out
          omega
        · intro h
          exact absurd h (HNT.out)
    | miss x hn hm =>
      have HN := hide hn
      have HM := hide hm
      unfold ptrOf
      simp only [Option.map_some]
      clear hW hF hO hb hR hgs hno hnt hcap hn hm
      rw [hgl] at HFO HR ⊢
      clear hgl
      go_wp2_with fail
      refine HFO.out.mono ?_
      rintro e w2 ⟨⟨C, m, cc, rfl⟩, hb2⟩
      have t1 := (Blk.new w2 79 #[.slice C m cc, .int .u64 ((0 : Nat) : Int)]).cell 1
      simp at t1
      have hb3 := below_alloc (below_then HB.out hb2) (Nat.le_refl _) (.cells #[.slice C m cc, .int .u64 ((0 : Nat) : Int)] 79)
      have hq3 := below_alloc hb2 (Nat.le_refl _) (.cells #[.slice C m cc, .int .u64 ((0 : Nat) : Int)] 79)
      have HL := hide (HLF.out _ hb3)
      have HB3 := hide hb3
      have HQ3 := hide hq3
      clear hb2 hb3 hq3 HFO
      go_wp2_with fail
      refine HL.out.mono ?_
      rintro e w4 ⟨g4, rfl, hN4, -, hb4⟩
      have hb4' := below_then HB3.out hb4
      have hq4 := below_then HQ3.out hb4
      obtain ⟨i1, i2, i3, i4, i5, i6, i7⟩ := HN.out.info
      obtain ⟨mm, hmm⟩ : ∃ mm : Nat, part x.2.pre p = (mm : Int) := ⟨(part x.2.pre p).toNat, by have := HM.out; omega⟩
      have hlm : x.2.lv < (mm : Int) := by rw [← hmm]; exact HM.out
      have HPR := hide (nd_pair (HN.out.stay hb4') hN4 hk1 hk hmm hlm (by omega))
      have hPP := fun g' => put_pair (v := v) (g' := g') HZ.out (fun f hf => (HF.out f hf).fk) HW.out hmm hlm i1 (fun e he => ⟨(i5 e he).1, (i5 e he).2.2⟩)
      have HPP := hide hPP
      have HB4 := hide hb4'
      have HQ4 := hide hq4
      clear i1 i2 i3 i4 i5 i6 i7 hmm hlm hPP hN4 hb4 hb4' hq4 HL t1
      go_wp2_with fail
      refine HPR.out.mono ?_
      rintro e w6 ⟨g6, rfl, hF6, -, hb6⟩
      have hN4 := hF6.node
      have hb4' := below_then HB4.out hb6
      have hq4 := below_then HQ4.out hb6
      have hPL := HPP.out g4
      have t1 := trivial
      have HL := trivial
      have hb4 := trivial
      clear HB4 HPR hF6 hb6
      have HME := hide hPL.2
      have HUP := hide (tr_up (fs := fs) ⟨mm, cut (mm + 1) x.2.pre, kidEs (pairK x.1 g4 x.2.lv (-1) x.2.pre p x.2.es [(p, v)] mm)⟩ B fs.length d (HTB.out.below hb4') hk1 hk (HR.out.below hq4) rfl (by omega) (fun f hf => (HF.out f hf).stay hb4') hN4 hPL.1)
      have HB4 := hide hb4'
      clear hN4 hb4 hb4' hq4 hPL HL t1
      go_wp2_with fail
      refine HUP.out.mono ?_
      rintro e w5 ⟨t', g', rfl, ht', hT5, hN5, hb5⟩
      have HH := hide (And.intro ht' (And.intro hT5 (And.intro hN5 hb5)))
      clear ht' hT5 hN5 hb5
      go_wp2
      go_ret2
      obtain ⟨ht', hT5, hN5, hb5⟩ := HH.out
      refine ⟨t', _, rfl, up_tree hk1 hk hT5 hN5, ?_, ?_, below_then HB4.out hb5⟩
      · rw [← HES.out]; exact HME.out
      · constructor
        · intro h
          have := HB4.out.size
          have := HLT.out
          omega
        · intro h
          exact absurd h (HNT.out)
  · have HBO := hide hbot
    have HFO := hide (tr_found_leaf (n := gs.length) (d := d) (fs := fs) (by rw [hgs]) (hNl.stay hb) hk hl (by rw [hgs] at hR ⊢; exact hR))
    have hgl : gs.length = fs.length + 1 := by rw [hgs]; simp
    have hin : (p, v0) ∈ es := by
      rw [← HES.out, Way.mem (fun f hf => (HF.out f hf).fk) HW.out, hbot]
      exact List.mem_singleton.2 rfl
    have hun : ∀ x, (p, x) ∈ es → x = v0 := fun x hx => by
      rw [← HES.out, Way.mem (fun f hf => (HF.out f hf).fk) HW.out, hbot] at hx
      injection List.mem_singleton.1 hx
    have HIN := hide hin
    have HUN := hide hun
    rw [hgs, ptrs_snoc] at HR
    rw [hbe]
    unfold ptrOf
    simp only [Option.map_none]
    clear hW hF hO hb hR hgs hE HE hNl hbot hin hun hbe
    rw [show (List.map (fun x => x.g) fs ++ [g]).length = fs.length + 1 by simp] at HR
    rw [hgl] at HFO hcap ⊢
    clear hgl
    by_cases hvv : v0 = v
    · subst hvv
      go_wp2_with fail
      refine HFO.out.mono ?_
      rintro e w2 ⟨⟨C, m, cc, rfl⟩, hb2⟩
      have t1 := (Blk.new w2 79 #[.slice C m cc, .int .u64 (v0 : Int)]).cell 1
      simp at t1
      have hb3 := below_alloc (below_then HB.out hb2) (Nat.le_refl _) (.cells #[.slice C m cc, .int .u64 (v0 : Int)] 79)
      have hq3 := below_alloc hb2 (Nat.le_refl _) (.cells #[.slice C m cc, .int .u64 (v0 : Int)] 79)
      have HL := hide (HLF.out _ hb3)
      have HB3 := hide hb3
      have HQ3 := hide hq3
      clear hb2 hb3 hq3 HFO
      go_wp2
      go_ret2
      refine ⟨t, es, rfl, HT.out.stay HB3.out, fun x => ?_, ?_, HB3.out⟩
      · constructor
        · intro hx
          by_cases hxp : x.1 = p
          · left
            obtain ⟨xp, xv⟩ := x
            simp only at hxp
            subst hxp
            rw [HUN.out xv hx]
          · exact .inr ⟨hx, hxp⟩
        · rintro (rfl | h)
          · exact HIN.out
          · exact h.1
      · exact ⟨fun _ => HIN.out, fun _ => rfl⟩
    · have evv : ((v0 : Int) == (v : Int)) = false := by simp; omega
      have HNT : Hid ((p, v) ∉ es) := hide fun h => hvv (HUN.out v h).symm
      have r2s := fun W => run_slice_to (P := Tryz.prog) (w := W) Tryz.underlying91 (sz := 1) Tryz.sizeOf82 B (fs.length + 1) d fs.length (by omega)
      clear hvv hcap
      go_wp2_with fail
      refine HFO.out.mono ?_
      rintro e w2 ⟨⟨C, m, cc, rfl⟩, hb2⟩
      have t1 := (Blk.new w2 79 #[.slice C m cc, .int .u64 (v0 : Int)]).cell 1
      simp at t1
      have hb3 := below_alloc (below_then HB.out hb2) (Nat.le_refl _) (.cells #[.slice C m cc, .int .u64 (v0 : Int)] 79)
      have hq3 := below_alloc hb2 (Nat.le_refl _) (.cells #[.slice C m cc, .int .u64 (v0 : Int)] 79)
      have HL := hide (HLF.out _ hb3)
      have HB3 := hide hb3
      have HQ3 := hide hq3
      clear hb2 hb3 hq3 HFO
      go_wp2_with fail
      refine HL.out.mono ?_
      rintro e w4 ⟨g4, rfl, hN4, -, hb4⟩
      have hb4' := below_then HB3.out hb4
      have hq4 := below_then HQ3.out hb4
      have hPL := put_leaf (v := v) HZ.out (fun f hf => (HF.out f hf).fk) HW.out (fun e he => by rw [HBO.out] at he; rw [List.mem_singleton.1 he])
      replace HR := hide HR.out.init
      have HME := hide hPL.2
      have HUP := hide (tr_up (fs := fs) ⟨-1, p, [(p, v)]⟩ B fs.length d (HTB.out.below hb4') hk1 hk (HR.out.below hq4) rfl (by omega) (fun f hf => (HF.out f hf).stay hb4') hN4 hPL.1)
      have HB4 := hide hb4'
      clear hN4 hb4 hb4' hq4 hPL HL t1
      go_wp2_with fail
      refine HUP.out.mono ?_
      rintro e w5 ⟨t', g', rfl, ht', hT5, hN5, hb5⟩
      have HH := hide (And.intro ht' (And.intro hT5 (And.intro hN5 hb5)))
      clear ht' hT5 hN5 hb5
      go_wp2
      go_ret2
      obtain ⟨ht', hT5, hN5, hb5⟩ := HH.out
      refine ⟨t', _, rfl, up_tree hk1 hk hT5 hN5, ?_, ?_, below_then HB4.out hb5⟩
      · rw [← HES.out]; exact HME.out
      · constructor
        · intro h
          have := HB4.out.size
          have := HLT.out
          omega
        · intro h
          exact absurd h (HNT.out)
/-- A fork with one kid less: another fork, or its other kid. -/
theorem nd_less {w : World} {k : Nat} {p : List Nat} {f : PF} (h : Fork w k f.g f.lv f.pre f.ks) (hk : k ≤ 16) (hp : Zp k p) {q : Kid} (hq : q ∈ f.ks) (hqa : q.at_ = addrOf p f.lv) :
    Calls Tryz.prog 52 #[.pointer (some ⟨f.g, 0, none⟩), .int .i64 (addrOf p f.lv : Int)] w fun e w' => ∃ (gn : Nat) (n : NT), e = .returned (.tuple #[.pointer (some ⟨gn, 0, none⟩), .int .i64 0]) ∧ NodeOf w' k gn n.lv n.pre n.es ∧
      (∀ e, e ∈ n.es ↔ ∃ r ∈ f.ks, r.at_ ≠ addrOf p f.lv ∧ e ∈ r.es) ∧ Zp k n.pre ∧ n.lv ≤ f.lv ∧ (∀ b, f.lv < b → addrOf n.pre b = addrOf f.pre b) ∧ Below w.heap.size w w' := by
  have hf := h.fk
  have hl := delK_len (a := addrOf p f.lv) hf.sort ⟨q, hq, hqa⟩
  have h2 := hf.two
  have ha := addr_lt_pow hp f.lv
  rcases Nat.lt_or_ge f.ks.length 3 with h3 | h3
  · obtain ⟨r, hr⟩ : ∃ r, delK f.ks (addrOf p f.lv) = [r] := List.length_eq_one_iff.1 (by omega)
    have hrm : r ∈ f.ks ∧ r.at_ ≠ addrOf p f.lv := mem_delK.1 (by rw [hr]; simp)
    have hrN : NodeOf w k r.blk r.lv r.pre r.es := by
      obtain ⟨A, c, gs, _, _, _, _, h5, _⟩ := h
      exact h5 r hrm.1
    refine (nd_without_two h ha hq hqa hr).mono fun e w' ⟨h4, h5⟩ => ⟨r.blk, ⟨r.lv, r.pre, r.es⟩, h4, hrN.stay h5, fun e => ?_, hf.ksz r hrm.1, ?_, (hf.at_ r hrm.1).2, h5⟩
    · constructor
      · intro he
        exact ⟨r, hrm.1, hrm.2, he⟩
      · rintro ⟨s, hs, hsa, hes⟩
        have : s ∈ delK f.ks (addrOf p f.lv) := mem_delK.2 ⟨hs, hsa⟩
        rw [hr, List.mem_singleton] at this
        rw [← this]
        exact hes
    · have := hf.low r hrm.1
      show r.lv ≤ _
      omega
  · refine (nd_without h ha hq hqa h3).mono fun e w' ⟨gn, h4, h5, _, h6⟩ => ⟨gn, ⟨f.lv, f.pre, kidEs (delK f.ks (addrOf p f.lv))⟩, h4, h5.node, fun e => ?_, hf.pre, Int.le_refl _, fun _ _ => rfl, h6⟩
    unfold kidEs
    rw [List.mem_flatMap]
    constructor
    · rintro ⟨s, hs, hes⟩
      exact ⟨s, (mem_delK.1 hs).1, (mem_delK.1 hs).2, hes⟩
    · rintro ⟨s, hs, hsa, hes⟩
      exact ⟨s, mem_delK.2 ⟨hs, hsa⟩, hes⟩
theorem idx2 {j n : Nat} (hn : n = j + 2) (hj : j ≤ 64) : (n : Int) - 2 = (j : Int) ∧ j < n ∧ (0 : Int) ≤ (j : Int) ∧ (j : Int) ≤ 70368744177664 ∧ IntKind.i64.wrap (j : Int) = (j : Int) ∧ wrap64 (j : Int) = (j : Int) ∧ (j : Int) < (n : Int) ∧ ((n : Int) == 1) = false := by
  refine ⟨by omega, by omega, by omega, by omega, by rw [IntKind.wrap_i64]; omega, by unfold wrap64; omega, by omega, ?_⟩
  simp
  omega
/-- What Del answers. -/
def DelOut (w : World) (t k : Nat) (p : List Nat) (es : List Ent) (e : Ending) (w' : World) : Prop :=
  ((e = .returned (.tuple #[.pointer none, .int .i64 6]) ∧ ∀ v, (p, v) ∉ es) ∨ ∃ t' es' v, e = .returned (.tuple #[.pointer (some ⟨t', 0, none⟩), .int .i64 0]) ∧ TreeOf w' k t' es' ∧ (p, v) ∈ es ∧ (∀ x, x ∈ es' ↔ x ∈ es ∧ x.1 ≠ p)) ∧ Below w.heap.size w w'
set_option maxHeartbeats 4000000 in
set_option maxRecDepth 100000 in
theorem tr_del {w : World} {t k : Nat} {es : List Ent} (hT : TreeOf w k t es) {A : Option Addr} {c : Nat} {p : List Nat} (hp : Pt w A k p) :
    Calls Tryz.prog 27 #[.pointer (some ⟨t, 0, none⟩), .slice A k c] w (DelOut w t k p es) := by
  obtain ⟨top, hB, hN, hes, hk1, hk⟩ := hT.top
  have HC := hide (tr_check hB A c)
  have HP := hide (tr_path hB hN hk1 hk (c := c) hp)
  have HZ := hide hp.zp
  have HES := hide hes
  have HTB := hide hB
  have HPT := hide hp
  clear hT hB hN hp hes
  go_enter Tryz.func27, Tryz.ntmps27
  go_wp2_with fail
  refine HC.out.mono ?_
  rintro e w1 ⟨rfl, rfl⟩
  go_wp2_with fail
  refine HP.out.mono ?_
  rintro e w1 ⟨fs, bot, gs, below, B, d, hW, hF, hl, hE, rfl, hO, hb⟩
  have HW := hide hW
  have HF := hide hF
  have HB := hide hb
  obtain ⟨hcap, hR⟩ := own_rw hO
  have HR := hide hR
  rcases hE.cases_ with hgs | ⟨g, v0, hgs, hbe, hbot, hNl⟩
  · have hno := hE.no HZ.out hgs
    have HFO := hide (tr_found_fork (n := gs.length) (d := d) (by rw [hgs]; simp) (fun f hf => (hF f hf).stay hb) hl (by rw [hgs] at hR ⊢; exact hR))
    have hnt : ∀ x, (p, x) ∉ es := fun x hx => by
      rw [← HES.out, Way.mem (fun f hf => (HF.out f hf).fk) HW.out] at hx
      exact hno x hx
    have HNT := hide hnt
    unfold ptrOf
    clear hW hF hO hb hR hgs hno hnt hcap hE
    go_wp2_with fail
    refine HFO.out.mono ?_
    rintro e w2 ⟨⟨C, m, cc, rfl⟩, hb2⟩
    have HB3 := hide (below_alloc (below_then HB.out hb2) (Nat.le_refl _) (.cells #[.slice C m cc, .int .u64 ((0 : Nat) : Int)] 79))
    clear hb2
    go_wp2
    go_ret2
    exact ⟨.inl ⟨rfl, HNT.out⟩, HB3.out⟩
  · have HBO := hide hbot
    have HFO := hide (tr_found_leaf (n := gs.length) (d := d) (fs := fs) (by rw [hgs]) (hNl.stay hb) hk hl (by rw [hgs] at hR ⊢; exact hR))
    have hgl : gs.length = fs.length + 1 := by rw [hgs]; simp
    have hin : (p, v0) ∈ es := by
      rw [← HES.out, Way.mem (fun f hf => (HF.out f hf).fk) HW.out, hbot]
      exact List.mem_singleton.2 rfl
    have HIN := hide hin
    rw [hgs, ptrs_snoc] at HR
    unfold ptrOf
    clear hF hO hb hR hgs hE hNl hbot hin hbe
    rw [show (List.map (fun x => x.g) fs ++ [g]).length = fs.length + 1 by simp] at HR
    rw [hgl] at HFO hcap ⊢
    clear hgl
    rcases (show fs = [] ∨ ∃ fs0 f, fs = fs0 ++ [f] from (List.eq_nil_or_concat fs).imp id fun ⟨a, b, h⟩ => ⟨a, b, by rw [h, List.concat_eq_append]⟩) with rfl | ⟨fs0, f, rfl⟩
    · have hes0 : es = [(p, v0)] := by
        rw [← HES.out, show top = bot from hW, HBO.out]
        rfl
      have HE0 := hide hes0
      have t0 := (Blk.cell HTB.out 0)
      simp at t0
      clear hW hcap hes0
      simp only [List.length_nil, Nat.zero_add] at HFO ⊢
      go_wp2_with fail
      refine HFO.out.mono ?_
      rintro e w2 ⟨⟨C, m, cc, rfl⟩, hb2⟩
      have hb3 := below_alloc (below_then HB.out hb2) (Nat.le_refl _) (.cells #[.slice C m cc, .int .u64 (v0 : Int)] 79)
      have HB3 := hide hb3
      have t0 := Blk.cell (Blk.below HTB.out hb3) 0
      simp at t0
      clear hb2 hb3
      go_wp2
      go_ret2
      refine ⟨.inr ⟨_, [], v0, rfl, ⟨hk1, hk, .inl ⟨by
        have h := Blk.new (w2.alloc (.cells #[.slice C m cc, .int .u64 (v0 : Int)] 79)) 101 #[.int .i64 (k : Int), .pointer none]
        rw [show (w2.alloc (.cells #[.slice C m cc, .int .u64 (v0 : Int)] 79)).heap.size = w2.heap.size + 1 by simp] at h
        exact h, rfl⟩⟩, HIN.out, fun x => ?_⟩, below_alloc HB3.out (Nat.le_refl _) _⟩
      rw [HE0.out]
      simp only [List.not_mem_nil, List.mem_singleton, false_iff]
      rintro ⟨rfl, h⟩
      exact h rfl
    · have hlen : (fs0 ++ [f]).length + 1 = fs0.length + 2 := by simp
      obtain ⟨c1, c2, c3⟩ := hW.cut
      have hFk := HF.out f (by simp)
      obtain ⟨q, hq, hqa, hqx⟩ := kidAt_some (c3.symm.trans HBO.out)
      have HLS := hide (fun (W : World) (hW : Below w.heap.size w W) => nd_less (hFk.stay hW) hk HZ.out hq hqa)
      have HLV := hide (fun (W : World) (hW : Below w.heap.size w W) => nd_level (hFk.stay hW).node)
      have HAD := hide (fun (W : World) (hW : Below w.heap.size w W) => zb_addr A k p c f.lv W (HPT.out.below hW) hk1 hk hFk.fk.lv)
      have HCW := hide c1
      have hq1 : ∀ e ∈ esOf (kidAt f.ks (addrOf p f.lv)), e.1 = p := fun e he => by
        rw [← c3, HBO.out] at he
        rw [List.mem_singleton.1 he]
      have HQ1 := hide hq1
      have HFK := hide hFk.fk
      have hl0 : fs0.length ≤ 64 := by simp at hl; omega
      have hfs0 : ∀ f ∈ fs0, Fork w k f.g f.lv f.pre f.ks := fun f hf => HF.out f (by simp [hf])
      have HF0 := hide hfs0
      obtain ⟨n, hn⟩ : ∃ n, n = fs0.length + 2 := ⟨_, rfl⟩
      obtain ⟨j, hj⟩ : ∃ j, j = fs0.length := ⟨_, rfl⟩
      rw [hlen, ← hn] at HFO hcap HR ⊢
      have hRj : (ptrs (List.map (fun x => x.g) (fs0 ++ [f])) ++ [Value.pointer (some ⟨g, 0, none⟩)])[j]? = some (.pointer (some ⟨f.g, 0, none⟩)) := by
        rw [hj]; simp [ptrs]
      have hRt : Rw w1 1 B j (ptrs (fs0.map (·.g))) := by
        have := HR.out.take_ (i := j) (by omega)
        rw [Nat.mul_one, hj] at this
        simpa [ptrs, hj] using this
      have HRT := hide hRt
      obtain ⟨b, o, rfl, hbl, u, hu, k0⟩ := HR.out.one (i := j) (by omega)
      rw [hRj] at hu
      injection hu with hu
      rw [← hu] at k0
      have K0 := hide (fun (W : World) (hW : Below w1.heap.size w1 W) => ((hW.cell (p := ⟨b, o + j, none⟩) hbl).trans k0))
      obtain ⟨e2, hin, hi0, hi7, e5, e6, hin', ne1⟩ := idx2 (j := j) (n := n) (hn.trans (by rw [hj])) (by rw [hj]; exact hl0)
      have hjd : j ≤ d := Nat.le_trans (Nat.le_of_lt hin) hcap
      have r2s := fun W => run_slice_to (P := Tryz.prog) (w := W) Tryz.underlying91 (sz := 1) Tryz.sizeOf82 (some ⟨b, o, none⟩) n d j hjd
      have HJ := hide hj
      clear hW hcap hlen c1 c2 c3 hFk hq hqa hqx hq1 hfs0 hn hRj hRt hu hj
      go_wp2_with fail
      refine HFO.out.mono ?_
      rintro e w2 ⟨⟨C, m, cc, rfl⟩, hb2⟩
      have hb3 := below_alloc (below_then HB.out hb2) (Nat.le_refl _) (.cells #[.slice C m cc, .int .u64 (v0 : Int)] 79)
      have hq3 := below_alloc hb2 (Nat.le_refl _) (.cells #[.slice C m cc, .int .u64 (v0 : Int)] 79)
      have HB3 := hide hb3
      have HQ3 := hide hq3
      have k0 := K0.out _ hq3
      have HL := hide (HLV.out _ hb3)
      have HA := hide (HAD.out _ hb3)
      have HN := hide (HLS.out _ hb3)
      clear hb2 hb3 hq3 HFO
      go_wp2_with fail
      refine HL.out.mono ?_
      rintro e w3 ⟨rfl, rfl⟩
      go_wp2_with fail
      refine HA.out.mono ?_
      rintro e w3 ⟨rfl, rfl⟩
      go_wp2_with fail
      refine HN.out.mono ?_
      rintro e w4 ⟨gn, nn, rfl, hN4, hes4, hz4, hl4, ha4, hb4⟩
      have hb4' := below_then HB3.out hb4
      have hq4 := below_then HQ3.out hb4
      have hPL := del_fork (bot := none) HZ.out (fun f hf => (HF0.out f hf).fk) HFK.out HCW.out HQ1.out hes4 hz4 hl4 ha4
      have HME := hide hPL.2
      have HUP := hide (tr_up (fs := fs0) nn (some ⟨b, o, none⟩) j d (HTB.out.below hb4') hk1 hk (HRT.out.below hq4) HJ.out.symm (by have := HJ.out; omega) (fun f hf => (HF0.out f hf).stay hb4') hN4 hPL.1)
      have HB4 := hide hb4'
      clear hN4 hb4 hb4' hq4 hPL HL HA HN k0 hes4 hz4 hl4 ha4
      go_wp2_with fail
      refine HUP.out.mono ?_
      rintro e w5 ⟨t', g', rfl, ht', hT5, hN5, hb5⟩
      have HH := hide (And.intro ht' (And.intro hT5 (And.intro hN5 hb5)))
      clear ht' hT5 hN5 hb5
      go_wp2
      go_ret2
      obtain ⟨ht', hT5, hN5, hb5⟩ := HH.out
      refine ⟨.inr ⟨t', _, v0, rfl, up_tree hk1 hk hT5 hN5, HIN.out, ?_⟩, below_then HB4.out hb5⟩
      rw [← HES.out]
      exact HME.out
end Go.Proofs.YtghnpflaafdcdaaGreat
