/- sets: two leaves of one point joined; trees that aren't there. -/
import Derived.Test.YtfkpanpageeklaaGreatStC
import Derived.Test.YtfkpanpageeklaaGreatRkJ
set_option linter.unusedSimpArgs false
set_option linter.unusedVariables false
namespace Go.Proofs.YtfkpanpageeklaaGreat
open Go.RowKit
theorem leaf_of {w : World} {k g v : Nat} {lv : Int} {pre p : List Nat} (h : NodeOf w k g lv pre [(p, v)]) : lv = -1 ∧ pre = p := by
  generalize hes : [(p, v)] = es at h
  have h0 := h
  rcases h.cases' with ⟨A, c, v', rfl, he, _⟩ | ⟨m, ks, rfl, he, hF⟩
  · rw [he] at hes
    injection hes with h1 _
    injection h1 with h1 _
    exact ⟨rfl, h1.symm⟩
  · exfalso
    have h2 := hF.two
    have hm : ks[0] ∈ ks := List.getElem_mem (by omega)
    have h3 := kid_small hF hm
    rw [← he, ← hes] at h3
    have h4 := List.length_pos_iff.2 (hF.kid _ hm).1.info.2.1
    simp at h3
    rw [h3] at h4
    simp at h4
set_option maxHeartbeats 8000000 in
set_option maxRecDepth 100000 in
theorem st_join_leaf {w : World} {k ga gb r va vb : Nat} {l rt bo : Bool} {p : List Nat} (hk1 : 1 ≤ k) (hk : k ≤ 16) (h1 : 1 ≤ r) (h6 : r ≤ 6) (hA : NodeOf w k ga (-1) p [(p, va)]) (hB : NodeOf w k gb (-1) p [(p, vb)]) :
    Calls Tryz.prog 61 #[.agg #[.int .i64 (r : Int), .bool l, .bool rt, .bool bo], .pointer (some ⟨ga, 0, none⟩), .pointer (some ⟨gb, 0, none⟩)] w (EtOut w k r bo p va vb) := by
  have hb1 := (Below.refl w.heap.size w).alloc (Nat.le_refl _) (.cells #[.int .i64 (r : Int), .bool l, .bool rt, .bool bo] 71)
  have hJ := Blk.new w 71 #[.int .i64 (r : Int), .bool l, .bool rt, .bool bo]
  have HB1 := hide hb1
  have HJ := hide hJ
  have HA := hide hA
  have HBB := hide hB
  have HLA := hide (nd_level (hA.stay hb1))
  have HLB := hide (nd_level (hB.stay hb1))
  have HPB := hide (nd_prefix (hB.stay hb1) hk)
  have hzp := hA.info.1
  have HZ := hide hzp
  have hcA := hA.cases'
  have hps := part_self hzp
  clear hb1 hJ hA hB hzp
  rcases hcA with ⟨A, c, v, _, hes, hv, hP, hc, hBk⟩ | ⟨m, ks, h0, _⟩
  case inr => omega
  obtain rfl : v = va := by
    injection hes with h _
    injection h with _ h
    exact h.symm
  have HLF := hide (fun W (hW : Below w.heap.size w W) => nd_entry_leaf (hBk.below hW) (hP.below hW) hk)
  have HVA := hide hv
  clear hes hv hP hc hBk
  have e1 : decide (part p p ≤ (-1 : Int)) = true := by rw [hps]; rfl
  have HE1 := hide e1
  clear hps e1
  go_enter Tryz.func61, Tryz.ntmps61
  go_wp2_with fail
  refine HLA.out.mono ?_
  rintro e w1 ⟨rfl, rfl⟩
  go_wp2_with fail
  refine HLB.out.mono ?_
  rintro e w1 ⟨rfl, rfl⟩
  go_wp2_with fail
  refine HPB.out.mono ?_
  rintro e w2 ⟨v2, rfl, ho2, hb2⟩
  obtain ⟨A2, c2, rfl, hp2⟩ := Pt.of_own ho2 HZ.out.1 HZ.out.2
  have HB2 := hide (HB1.out.trans (hb2.mono (by simp)))
  have HJ2 := hide (HJ.out.below hb2)
  have hcv := nd_covers (d := c2) (HA.out.stay HB2.out) hk1 hk hp2
  rw [HE1.out] at hcv
  have HCV := hide hcv
  clear ho2 hb2 hp2 hcv
  go_wp2_with fail
  refine HCV.out.mono ?_
  rintro e w3 ⟨rfl, rfl⟩
  go_wp2_with fail
  refine (HLF.out _ HB2.out).mono ?_
  rintro e w4 ⟨BB, d, rfl, ho4, hb4⟩
  have hal := (Below.refl w4.heap.size w4).alloc (Nat.le_refl _) (.cells #[.slice BB k d, .int .u64 (v : Int)] 83)
  have hN4 := Blk.new w4 83 #[.slice BB k d, .int .u64 (v : Int)]
  have hJ4 := HJ2.out.below (below_then hb4 hal)
  have y0 := hN4.cell 0
  have y1 := hN4.cell 1
  have j0 := hJ4.cell 0
  have j1 := hJ4.cell 1
  have j2 := hJ4.cell 2
  have j3 := hJ4.cell 3
  simp at y0 y1 j0 j1 j2 j3
  have HB4 := hide (below_then HB2.out (below_then hb4 hal))
  have hX : Pt w4 BB k p := by
    obtain ⟨B', d', hq, hp⟩ := Pt.of_own ho4 HZ.out.1 HZ.out.2
    injection hq with hq1 hq2 hq3
    subst hq1
    exact hp
  have HET := hide (st_entry (xc := d) (l := l) (rt := rt) (bo := bo) hk1 hk h1 h6 (HA.out.stay HB4.out) (HBB.out.stay HB4.out) (hX.below hal))
  clear ho4 hb4 hal hN4 hJ4 hX
  go_wp2_with fail
  refine HET.out.mono ?_
  rintro e w5 ⟨tc, rfl, htc, hmc, hb5⟩
  have HF := hide (show EtOut w k r bo p v vb (.returned (ptrOf tc)) w5 from ⟨tc, rfl, htc, hmc, below_then HB4.out hb5⟩)
  clear htc hmc hb5
  go_wp2
  go_ret
  exact HF.out
set_option maxHeartbeats 8000000 in
set_option maxRecDepth 100000 in
theorem st_trees_nil_l (w : World) (r : Int) (l rt bo : Bool) (g : Nat) : Calls Tryz.prog 34 #[.agg #[.int .i64 r, .bool l, .bool rt, .bool bo], .pointer none, .pointer (some ⟨g, 0, none⟩)] w fun e w' => e = .returned (.tuple #[.pointer none, .int .i64 1]) ∧ Below w.heap.size w w' := by
  have hb1 := (Below.refl w.heap.size w).alloc (Nat.le_refl _) (.cells #[.int .i64 r, .bool l, .bool rt, .bool bo] 71)
  have HB1 := hide hb1
  have HC := hide (st_check_nil_l (w.alloc (.cells #[.int .i64 r, .bool l, .bool rt, .bool bo] 71)) (.pointer (some ⟨g, 0, none⟩)) r (.inr ⟨g, rfl⟩))
  clear hb1
  go_enter Tryz.func34, Tryz.ntmps34
  go_wp2_with fail
  refine HC.out.mono ?_
  rintro e w1 ⟨rfl, rfl⟩
  go_wp2
  go_ret2
  exact ⟨rfl, HB1.out⟩
set_option maxHeartbeats 8000000 in
set_option maxRecDepth 100000 in
theorem st_trees_nil_ll (w : World) (r : Int) (l rt bo : Bool)  : Calls Tryz.prog 34 #[.agg #[.int .i64 r, .bool l, .bool rt, .bool bo], .pointer none, .pointer none] w fun e w' => e = .returned (.tuple #[.pointer none, .int .i64 1]) ∧ Below w.heap.size w w' := by
  have hb1 := (Below.refl w.heap.size w).alloc (Nat.le_refl _) (.cells #[.int .i64 r, .bool l, .bool rt, .bool bo] 71)
  have HB1 := hide hb1
  have HC := hide (st_check_nil_l (w.alloc (.cells #[.int .i64 r, .bool l, .bool rt, .bool bo] 71)) (.pointer none) r (.inl rfl))
  clear hb1
  go_enter Tryz.func34, Tryz.ntmps34
  go_wp2_with fail
  refine HC.out.mono ?_
  rintro e w1 ⟨rfl, rfl⟩
  go_wp2
  go_ret2
  exact ⟨rfl, HB1.out⟩
set_option maxHeartbeats 8000000 in
set_option maxRecDepth 100000 in
theorem st_trees_nil_r (w : World) (r : Int) (l rt bo : Bool) (g : Nat) : Calls Tryz.prog 34 #[.agg #[.int .i64 r, .bool l, .bool rt, .bool bo], .pointer (some ⟨g, 0, none⟩), .pointer none] w fun e w' => e = .returned (.tuple #[.pointer none, .int .i64 1]) ∧ Below w.heap.size w w' := by
  have hb1 := (Below.refl w.heap.size w).alloc (Nat.le_refl _) (.cells #[.int .i64 r, .bool l, .bool rt, .bool bo] 71)
  have HB1 := hide hb1
  have HC := hide (st_check_nil_r (w.alloc (.cells #[.int .i64 r, .bool l, .bool rt, .bool bo] 71)) g r)
  clear hb1
  go_enter Tryz.func34, Tryz.ntmps34
  go_wp2_with fail
  refine HC.out.mono ?_
  rintro e w1 ⟨rfl, rfl⟩
  go_wp2
  go_ret2
  exact ⟨rfl, HB1.out⟩
set_option maxHeartbeats 8000000 in
set_option maxRecDepth 100000 in
theorem st_union_nil (w : World) (g : Nat) (r : Int) : Calls Tryz.prog 8 #[.pointer none, .pointer (some ⟨g, 0, none⟩), .int .i64 r] w fun e w' => e = .returned (.tuple #[.pointer none, .int .i64 1]) ∧ Below w.heap.size w w' := by
  have HC := hide (st_trees_nil_l w r true true true g)
  go_enter Tryz.func8, Tryz.ntmps8
  go_wp2_with fail
  refine HC.out.mono ?_
  rintro e w1 ⟨rfl, hb⟩
  have HB := hide hb
  clear hb
  go_wp2
  go_ret2
  exact ⟨rfl, HB.out⟩
set_option maxHeartbeats 8000000 in
set_option maxRecDepth 100000 in
theorem st_common_nil (w : World) (g : Nat) (r : Int) : Calls Tryz.prog 9 #[.pointer (some ⟨g, 0, none⟩), .pointer none, .int .i64 r] w fun e w' => e = .returned (.tuple #[.pointer none, .int .i64 1]) ∧ Below w.heap.size w w' := by
  have HC := hide (st_trees_nil_r w r false false true g)
  go_enter Tryz.func9, Tryz.ntmps9
  go_wp2_with fail
  refine HC.out.mono ?_
  rintro e w1 ⟨rfl, hb⟩
  have HB := hide hb
  clear hb
  go_wp2
  go_ret2
  exact ⟨rfl, HB.out⟩
set_option maxHeartbeats 8000000 in
set_option maxRecDepth 100000 in
theorem st_without_nil (w : World)  : Calls Tryz.prog 10 #[.pointer none, .pointer none] w fun e w' => e = .returned (.tuple #[.pointer none, .int .i64 1]) ∧ Below w.heap.size w w' := by
  have HC := hide (st_trees_nil_ll w 1 true false false)
  go_enter Tryz.func10, Tryz.ntmps10
  go_wp2_with fail
  refine HC.out.mono ?_
  rintro e w1 ⟨rfl, hb⟩
  have HB := hide hb
  clear hb
  go_wp2
  go_ret2
  exact ⟨rfl, HB.out⟩
end Go.Proofs.YtfkpanpageeklaaGreat
