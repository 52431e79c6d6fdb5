/- Nodes: made. -/
import Derived.Test.YtkknfnjojamgjaaNd5
import Derived.StillTailTactics
set_option linter.unusedSimpArgs false
set_option linter.unusedVariables false
namespace Go.Proofs.Ytkknfnjojamgjaa
open Go.RowKit
theorem kid_all {w : World} {gs k : Nat} {ks : List Kid} (h : SlotsAt_n w gs k (kidTh ks)) :
    Calls Try.prog 109 #[.pointer (some ⟨gs, 0, none⟩)] w fun e w' => ∃ v, e = .returned v ∧ w'.ownsRow w.heap.size 54 1 v ks.length (ks.map fun q => .pointer (some ⟨q.blk, 0, none⟩)) ∧ Below w.heap.size w w' := by
  have := all_n gs k (kidTh ks) w h
  simpa [kidTh, Function.comp_def] using this
theorem kidEs_take {ks : List Kid} {j : Nat} {q : Kid} (h : ks[j]? = some q) : kidEs (ks.take (j + 1)) = kidEs (ks.take j) ++ q.es := by
  unfold kidEs
  rw [List.take_add_one, h]
  simp
theorem kidEs_ne {ks : List Kid} {j : Nat} {q : Kid} (h : ks[j]? = some q) (hne : q.es ≠ []) : kidEs (ks.take (j + 1)) ≠ [] := by
  rw [kidEs_take h]; simp [hne]
theorem Blk.set4_7 {w : World} {g : Nat} {t : TypeId} {a0 a1 a2 a3 a b c d x0 x1 x2 x3 : Value} (h : Blk w g t #[a0, a1, a2, a3, a, b, c, d]) :
    Blk ((((w.setCell ⟨g, 4, none⟩ x0).setCell ⟨g, 5, none⟩ x1).setCell ⟨g, 6, none⟩ x2).setCell ⟨g, 7, none⟩ x3) g t #[a0, a1, a2, a3, x0, x1, x2, x3] :=
  (((h.set1 x0).set1 x1).set1 x2).set1 x3
theorem Blk.sums {w : World} {g : Nat} {t : TypeId} {lv : Int} {A : Option Addr} {k c v : Nat} {kids : Option Addr} {s : Sum4} (h : Blk w g t (nodeCells lv A k c v kids s)) (s' : Sum4) :
    Blk ((((w.setCell ⟨g, 4, none⟩ (.int .u64 (s'.c : Int))).setCell ⟨g, 5, none⟩ (.int .u64 (s'.s : Int))).setCell ⟨g, 6, none⟩ (.int .u64 (s'.mn : Int))).setCell ⟨g, 7, none⟩ (.int .u64 (s'.mx : Int))) g t (nodeCells lv A k c v kids s') := by
  unfold nodeCells at h ⊢
  exact h.set4_7
theorem below_set4 {B g i0 i1 i2 i3 : Nat} {a w : World} {x0 x1 x2 x3 : Value} (h : Below B a w) (hg : B ≤ g) :
    Below B a ((((w.setCell ⟨g, i0, none⟩ x0).setCell ⟨g, i1, none⟩ x1).setCell ⟨g, i2, none⟩ x2).setCell ⟨g, i3, none⟩ x3) :=
  (((h.setCell hg _).setCell hg _).setCell hg _).setCell hg _
theorem own_far4 {w : World} {base g i0 i1 i2 i3 : Nat} {e : TypeId} {size : Nat} {v : Value} {n : Nat} {xs : List Value} {x0 x1 x2 x3 : Value} (h : w.ownsRow base e size v n xs) (hg : g < base) :
    ((((w.setCell ⟨g, i0, none⟩ x0).setCell ⟨g, i1, none⟩ x1).setCell ⟨g, i2, none⟩ x2).setCell ⟨g, i3, none⟩ x3).ownsRow base e size v n xs :=
  ownsRow_setCell_below (ownsRow_setCell_below (ownsRow_setCell_below (ownsRow_setCell_below h (a := ⟨g, i0, none⟩) hg _) (a := ⟨g, i1, none⟩) hg _) (a := ⟨g, i2, none⟩) hg _) (a := ⟨g, i3, none⟩) hg _
theorem wrap_u64_nat (a b : Nat) : IntKind.u64.wrap ((a : Int) + (b : Int)) = (((a + b) % 2 ^ 64 : Nat) : Int) := by
  rw [IntKind.wrap_u64]; omega
set_option maxHeartbeats 2000000 in
set_option maxRecDepth 100000 in
theorem nd_made {w : World} {lv : Int} {A : Option Addr} {k c gs : Nat} {ks : List Kid} (hS : SlotsAt_n w gs k (kidTh ks)) (hk : ∀ q ∈ ks, NodeOf w k q.blk q.lv q.pre q.es) :
    Calls Try.prog 97 #[.int .i64 lv, .slice A k c, .pointer (some ⟨gs, 0, none⟩)] w fun e w' => e = .returned (.pointer (some ⟨w.heap.size, 0, none⟩)) ∧ Blk w' w.heap.size 139 (nodeCells lv A k c 0 (some ⟨gs, 0, none⟩) (sumsOf (kidEs ks))) ∧ Below w.heap.size w w' := by
  have hl : ks.length ≤ 65536 := by
    have := hS.ok
    have := len_le_of_ok this
    have h2 := pow16 hS.2.1
    simp [kidTh] at this
    omega
  have HK := hide hk
  have b1 := (Below.refl w.heap.size w).alloc (Nat.le_refl _) (.cells (nodeCells lv A k c 0 (some ⟨gs, 0, none⟩) ⟨0, 0, 0, 0⟩) 139)
  have hN1 := Blk.new w 139 (nodeCells lv A k c 0 (some ⟨gs, 0, none⟩) ⟨0, 0, 0, 0⟩)
  have hs1 : (w.alloc (.cells (nodeCells lv A k c 0 (some ⟨gs, 0, none⟩) ⟨0, 0, 0, 0⟩) 139)).heap.size = w.heap.size + 1 := by simp
  have HA := hide (kid_all (hS.below b1))
  clear hS hk
  unfold nodeCells at b1 hN1 hs1 HA
  go_enter Try.func97, Try.ntmps97
  go_wp2_with fail
  have e0 : ((0 : Nat) : Int) = 0 := rfl
  simp only [e0] at b1 hN1 hs1 HA
  refine HA.out.mono ?_
  rintro e w2 ⟨v2, rfl, ho2, hb2⟩
  rw [hs1] at ho2
  have hN2 := hide (hN1.below hb2)
  have hc2 := below_then b1 hb2
  clear hN1 b1 hb2 HA hs1
  obtain ⟨A2, c2, rfl, -, -⟩ := Rw.of_own ho2
  have HO2 := hide ho2
  clear ho2
  have hz2 : w.heap.size < w2.heap.size := hN2.out.lt
  go_wp2
  go_loopw [19] (fun x wr => ∃ (j : Nat), x = .int .i64 j ∧ j ≤ ks.length ∧ Blk wr w.heap.size 139 (nodeCells lv A k c 0 (some ⟨gs, 0, none⟩) (sumsOf (kidEs (ks.take j)))) ∧ wr.ownsRow (w.heap.size + 1) 54 1 (.slice A2 ks.length c2) ks.length (ks.map fun q => .pointer (some ⟨q.blk, 0, none⟩)) ∧ Below w.heap.size w wr) (fun x _ => ks.length - (intOf x).toNat)
  case atStart => exact ⟨0, rfl, Nat.zero_le _, hN2.out, HO2.out, hc2⟩
  case round =>
    obtain ⟨j, rfl, hj, hB, hO, hb⟩ := hrel
    have hBl := hB.lt
    by_cases hjn : j < ks.length
    · obtain ⟨b, o, rfl, hbl, u, hu, k0⟩ := (own_rw hO).2.one hjn
      rw [List.getElem?_map] at hu
      obtain ⟨q, hq, rfl⟩ := Option.map_eq_some_iff.1 hu
      have hn := HK.out q (List.mem_of_getElem? hq)
      have HI := hide hn.info
      obtain ⟨Aq, cq, vq, kq, hBq, -⟩ := hn.head
      have hql : q.blk < w.heap.size := hBq.lt
      have hBq' := hBq.belowB hb hql
      have HO := hide hO
      have HB := hide hB
      have HQ := hide hq
      have HBq := hide hBq'
      have p4 := hBq'.cell 4
      have p5 := hBq'.cell 5
      have p6 := hBq'.cell 6
      have p7 := hBq'.cell 7
      simp [nodeCells] at p4 p5 p6 p7
      clear hO hB hq hu hBq hBq' hn
      generalize hsq : sumsOf q.es = sq at *
      generalize hsp : sumsOf (kidEs (ks.take j)) = sp at *
      have r4 := HB.out.cell 4
      have r5 := HB.out.cell 5
      have r6 := HB.out.cell 6
      have r7 := HB.out.cell 7
      simp [nodeCells] at r4 r5 r6 r7
      have hB3 := HB.out.alloc (.cells #[.int .u64 (sq.c : Int), .int .u64 (sq.s : Int), .int .u64 (sq.mn : Int), .int .u64 (sq.mx : Int)] 79)
      have hS3 := Blk.new wr 79 #[.int .u64 (sq.c : Int), .int .u64 (sq.s : Int), .int .u64 (sq.mn : Int), .int .u64 (sq.mx : Int)]
      have hO3 := own_below HO.out ((Below.refl wr.heap.size wr).alloc (Nat.le_refl _) (.cells #[.int .u64 (sq.c : Int), .int .u64 (sq.s : Int), .int .u64 (sq.mn : Int), .int .u64 (sq.mx : Int)] 79))
      have hb3 := below_alloc hb (Nat.le_refl _) (.cells #[.int .u64 (sq.c : Int), .int .u64 (sq.s : Int), .int .u64 (sq.mn : Int), .int .u64 (sq.mx : Int)] 79)
      have z4 := hB3.frozen 4
      have z5 := hB3.frozen 5
      have z6 := hB3.frozen 6
      have z7 := hB3.frozen 7
      have s0 : (wr.alloc (.cells #[.int .u64 (sq.c : Int), .int .u64 (sq.s : Int), .int .u64 (sq.mn : Int), .int .u64 (sq.mx : Int)] 79)).cell? ⟨wr.heap.size, 0, none⟩ = some (.int .u64 (sq.c : Int)) := hS3.cell 0
      have s1 : (wr.alloc (.cells #[.int .u64 (sq.c : Int), .int .u64 (sq.s : Int), .int .u64 (sq.mn : Int), .int .u64 (sq.mx : Int)] 79)).cell? ⟨wr.heap.size, 1, none⟩ = some (.int .u64 (sq.s : Int)) := hS3.cell 1
      have s2 : (wr.alloc (.cells #[.int .u64 (sq.c : Int), .int .u64 (sq.s : Int), .int .u64 (sq.mn : Int), .int .u64 (sq.mx : Int)] 79)).cell? ⟨wr.heap.size, 2, none⟩ = some (.int .u64 (sq.mn : Int)) := hS3.cell 2
      have s3 : (wr.alloc (.cells #[.int .u64 (sq.c : Int), .int .u64 (sq.s : Int), .int .u64 (sq.mn : Int), .int .u64 (sq.mx : Int)] 79)).cell? ⟨wr.heap.size, 3, none⟩ = some (.int .u64 (sq.mx : Int)) := hS3.cell 3
      have t4 := hB3.cell 4
      have t5 := hB3.cell 5
      have t6 := hB3.cell 6
      have t7 := hB3.cell 7
      simp [nodeCells] at t4 t5 t6 t7
      have HB3 := hide hB3
      have HO3 := hide hO3
      have HQB := hide hb3
      clear hB3 hS3 hO3 hb3
      rcases Nat.eq_zero_or_pos j with hj0 | hj0
      · have e0 : ((j : Int) == 0) = true := by simp; omega
        have HJ0 := hide hj0
        clear hj0
        go_upto_region 7 with fail
        generalize wr.alloc (.cells #[.int .u64 (sq.c : Int), .int .u64 (sq.s : Int), .int .u64 (sq.mn : Int), .int .u64 (sq.mx : Int)] 79) = w3 at *
        go_wp2
        go_roundw
        case rel =>
          refine ⟨j + 1, by go_num, by omega, ?_, own_far4 HO3.out (by omega), below_set4 HQB.out (Nat.le_refl _)⟩
          have : sumsOf (kidEs (ks.take (j + 1))) = sq := by
            rw [kidEs_take HQ.out, HJ0.out]
            simpa [kidEs] using hsq
          rw [this]
          exact HB3.out.sums sq
        case measure => simp [intOf]; omega
      · have e0 : ((j : Int) == 0) = false := by simp; omega
        go_upto_region 8 with fail
        generalize wr.alloc (.cells #[.int .u64 (sq.c : Int), .int .u64 (sq.s : Int), .int .u64 (sq.mn : Int), .int .u64 (sq.mx : Int)] 79) = w3 at *
        go_still_tail 36, (by kernel_rfl)
        change wpList _ _ _ _ _ w3.drew
        have t4' : w3.drew.frozen? ⟨w.heap.size, 4, none⟩ = false := z4
        have t5' : w3.drew.frozen? ⟨w.heap.size, 5, none⟩ = false := z5
        have t6' : w3.drew.frozen? ⟨w.heap.size, 6, none⟩ = false := z6
        have t7' : w3.drew.frozen? ⟨w.heap.size, 7, none⟩ = false := z7
        have HB4 := hide (show Blk w3.drew w.heap.size 139 (nodeCells lv A k c 0 (some ⟨gs, 0, none⟩) sp) from HB3.out.drewN 1)
        have v4 : w3.drew.cell? ⟨w.heap.size, 4, none⟩ = some (.int .u64 (sp.c : Int)) := t4
        have v5 : w3.drew.cell? ⟨w.heap.size, 5, none⟩ = some (.int .u64 (sp.s : Int)) := t5
        have v6 : w3.drew.cell? ⟨w.heap.size, 6, none⟩ = some (.int .u64 (sp.mn : Int)) := t6
        have v7 : w3.drew.cell? ⟨w.heap.size, 7, none⟩ = some (.int .u64 (sp.mx : Int)) := t7
        have HO4 := hide (own_below HO3.out (Below.refl _ w3).drew)
        have hb4 := HQB.out.drew
        generalize w3.drew = w4 at *
        go_wp2
        go_roundw
        case rel =>
          refine ⟨j + 1, by go_num, by omega, ?_, own_far4 HO4.out (by omega), below_set4 hb4 (Nat.le_refl _)⟩
          have hne := HI.out.2.1
          obtain ⟨q', hq'⟩ : ∃ q', ks[j - 1]? = some q' := ⟨_, List.getElem?_eq_getElem (by omega)⟩
          have hne' : kidEs (ks.take j) ≠ [] := by
            have := kidEs_ne hq' ((HK.out q' (List.mem_of_getElem? hq')).info.2.1)
            rwa [show j - 1 + 1 = j by omega] at this
          have hsum : sumsOf (kidEs (ks.take (j + 1))) = sp.join sq := by
            rw [kidEs_take HQ.out, sumsOf_append hne' hne, hsp, hsq]
          rw [hsum]
          have j0 : ((sp.join sq).c : Int) = IntKind.u64.wrap ((sp.c : Int) + (sq.c : Int)) := by
            rw [wrap_u64_nat]; unfold Sum4.join; simp
          have j1 : ((sp.join sq).s : Int) = IntKind.u64.wrap ((sp.s : Int) + (sq.s : Int)) := by
            rw [wrap_u64_nat]; unfold Sum4.join; simp
          have j2 : ((sp.join sq).mn : Int) = min (sp.mn : Int) (sq.mn : Int) := by
            show ((Nat.min sp.mn sq.mn : Nat) : Int) = _
            rw [show Nat.min sp.mn sq.mn = min sp.mn sq.mn from rfl]; omega
          have j3 : ((sp.join sq).mx : Int) = max (sp.mx : Int) (sq.mx : Int) := by
            show ((Nat.max sp.mx sq.mx : Nat) : Int) = _
            rw [show Nat.max sp.mx sq.mx = max sp.mx sq.mx from rfl]; omega
          rw [← j0, ← j1, ← j2, ← j3]
          exact HB4.out.sums (sp.join sq)
        case measure => simp [intOf]; omega
    · have hj' : j = ks.length := by omega
      rw [hj', List.take_of_length_le (Nat.le_refl _)] at hB
      have HB := hide hB
      have HO := hide hO
      clear hB hO hj'
      go_wp2
      go_ret
      exact ⟨rfl, HB.out, hb⟩
end Go.Proofs.Ytkknfnjojamgjaa
