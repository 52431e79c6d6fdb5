/- Nodes: shapes, made, forks. -/
import Derived.Test.YtfkpanpageeklaaNdA
import Derived.StillTailTactics
set_option linter.unusedSimpArgs false
set_option linter.unusedVariables false
namespace Go.Proofs.Ytfkpanpageeklaa
open Go.RowKit
theorem Blk.set5 {w : World} {g : Nat} {t : TypeId} {a b c d e x0 x1 x2 x3 x4 : Value} (h : Blk w g t #[a, b, c, d, e]) :
    Blk (((((w.setCell ⟨g, 0, none⟩ x0).setCell ⟨g, 1, none⟩ x1).setCell ⟨g, 2, none⟩ x2).setCell ⟨g, 3, none⟩ x3).setCell ⟨g, 4, none⟩ x4) g t #[x0, x1, x2, x3, x4] :=
  ((((h.set1 x0).set1 x1).set1 x2).set1 x3).set1 x4
theorem cell_far5 {w : World} {b g i0 i1 i2 i3 i4 l : Nat} {x0 x1 x2 x3 x4 : Value} (hne : g ≠ b) :
    (((((w.setCell ⟨b, i0, none⟩ x0).setCell ⟨b, i1, none⟩ x1).setCell ⟨b, i2, none⟩ x2).setCell ⟨b, i3, none⟩ x3).setCell ⟨b, i4, none⟩ x4).cell? ⟨g, l, none⟩ = w.cell? ⟨g, l, none⟩ :=
  (cell_far1 hne).trans ((cell_far1 hne).trans ((cell_far1 hne).trans ((cell_far1 hne).trans (cell_far1 hne))))
theorem below_set5 {B g : Nat} {a w : World} {x0 x1 x2 x3 x4 : Value} (h : Below B a w) (hg : B ≤ g) :
    Below B a (((((w.setCell ⟨g, 0, none⟩ x0).setCell ⟨g, 1, none⟩ x1).setCell ⟨g, 2, none⟩ x2).setCell ⟨g, 3, none⟩ x3).setCell ⟨g, 4, none⟩ x4) :=
  ((((h.setCell hg _).setCell hg _).setCell hg _).setCell hg _).setCell hg _
theorem own_far5 {w : World} {base g : Nat} {e : TypeId} {size : Nat} {v : Value} {n : Nat} {xs : List Value} {x0 x1 x2 x3 x4 : Value} (h : w.ownsRow base e size v n xs) (hg : g < base) :
    (((((w.setCell ⟨g, 0, none⟩ x0).setCell ⟨g, 1, none⟩ x1).setCell ⟨g, 2, none⟩ x2).setCell ⟨g, 3, none⟩ x3).setCell ⟨g, 4, none⟩ x4).ownsRow base e size v n xs :=
  ownsRow_setCell_below (ownsRow_setCell_below (ownsRow_setCell_below (ownsRow_setCell_below (ownsRow_setCell_below h (a := ⟨g, 0, none⟩) hg _) (a := ⟨g, 1, none⟩) hg _) (a := ⟨g, 2, none⟩) hg _) (a := ⟨g, 3, none⟩) hg _) (a := ⟨g, 4, none⟩) hg _
theorem kid_all {w : World} {gs k : Nat} {ks : List Kid} (h : SlotsAt_n w gs k (kidTh ks)) :
    Calls Try.prog 98 #[.pointer (some ⟨gs, 0, none⟩)] w fun e w' => ∃ v, e = .returned v ∧ w'.ownsRow w.heap.size 60 1 v ks.length (ks.map fun q => .pointer (some ⟨q.blk, 0, none⟩)) ∧ Below w.heap.size w w' := by
  have := all_n gs k (kidTh ks) w h
  simpa [kidTh, Function.comp_def] using this
theorem kidEs_take {ks : List Kid} {j : Nat} {q : Kid} (h : ks[j]? = some q) : kidEs (ks.take (j + 1)) = kidEs (ks.take j) ++ q.es := by
  unfold kidEs
  rw [List.take_add_one, h]
  simp
theorem kidEs_ne {ks : List Kid} {j : Nat} {q : Kid} (h : ks[j]? = some q) (hne : q.es ≠ []) : kidEs (ks.take (j + 1)) ≠ [] := by
  rw [kidEs_take h]; simp [hne]
theorem Blk.set4_7 {w : World} {g : Nat} {t : TypeId} {a0 a1 a2 a3 a b c d x0 x1 x2 x3 : Value} (h : Blk w g t #[a0, a1, a2, a3, a, b, c, d]) :
    Blk ((((w.setCell ⟨g, 4, none⟩ x0).setCell ⟨g, 5, none⟩ x1).setCell ⟨g, 6, none⟩ x2).setCell ⟨g, 7, none⟩ x3) g t #[a0, a1, a2, a3, x0, x1, x2, x3] :=
  (((h.set1 x0).set1 x1).set1 x2).set1 x3
theorem Blk.sums {w : World} {g : Nat} {t : TypeId} {lv : Int} {A : Option Addr} {k c v : Nat} {kids : Option Addr} {s : Sum4} (h : Blk w g t (nodeCells lv A k c v kids s)) (s' : Sum4) :
    Blk ((((w.setCell ⟨g, 4, none⟩ (.int .u64 (s'.c : Int))).setCell ⟨g, 5, none⟩ (.int .u64 (s'.s : Int))).setCell ⟨g, 6, none⟩ (.int .u64 (s'.mn : Int))).setCell ⟨g, 7, none⟩ (.int .u64 (s'.mx : Int))) g t (nodeCells lv A k c v kids s') := by
  unfold nodeCells at h ⊢
  exact h.set4_7
theorem below_set4 {B g i0 i1 i2 i3 : Nat} {a w : World} {x0 x1 x2 x3 : Value} (h : Below B a w) (hg : B ≤ g) :
    Below B a ((((w.setCell ⟨g, i0, none⟩ x0).setCell ⟨g, i1, none⟩ x1).setCell ⟨g, i2, none⟩ x2).setCell ⟨g, i3, none⟩ x3) :=
  (((h.setCell hg _).setCell hg _).setCell hg _).setCell hg _
theorem own_far4 {w : World} {base g i0 i1 i2 i3 : Nat} {e : TypeId} {size : Nat} {v : Value} {n : Nat} {xs : List Value} {x0 x1 x2 x3 : Value} (h : w.ownsRow base e size v n xs) (hg : g < base) :
    ((((w.setCell ⟨g, i0, none⟩ x0).setCell ⟨g, i1, none⟩ x1).setCell ⟨g, i2, none⟩ x2).setCell ⟨g, i3, none⟩ x3).ownsRow base e size v n xs :=
  ownsRow_setCell_below (ownsRow_setCell_below (ownsRow_setCell_below (ownsRow_setCell_below h (a := ⟨g, i0, none⟩) hg _) (a := ⟨g, i1, none⟩) hg _) (a := ⟨g, i2, none⟩) hg _) (a := ⟨g, i3, none⟩) hg _
theorem wrap_u64_nat (a b : Nat) : IntKind.u64.wrap ((a : Int) + (b : Int)) = (((a + b) % 2 ^ 64 : Nat) : Int) := by
  rw [IntKind.wrap_u64]; omega
set_option maxHeartbeats 2000000 in
set_option maxRecDepth 100000 in
theorem nd_made {w : World} {lv : Int} {A : Option Addr} {k c gs : Nat} {ks : List Kid} (hS : SlotsAt_n w gs k (kidTh ks)) (hk : ∀ q ∈ ks, NodeOf w k q.blk q.lv q.pre q.es) :
    Calls Try.prog 81 #[.int .i64 lv, .slice A k c, .pointer (some ⟨gs, 0, none⟩)] w fun e w' => e = .returned (.pointer (some ⟨w.heap.size, 0, none⟩)) ∧ Blk w' w.heap.size 120 (nodeCells lv A k c 0 (some ⟨gs, 0, none⟩) (sumsOf (kidEs ks))) ∧ Below w.heap.size w w' := by
  have hl : ks.length ≤ 65536 := by
    have := hS.ok
    have := len_le_of_ok this
    have h2 := pow16 hS.2.1
    simp [kidTh] at this
    omega
  have HK := hide hk
  have b1 := (Below.refl w.heap.size w).alloc (Nat.le_refl _) (.cells (nodeCells lv A k c 0 (some ⟨gs, 0, none⟩) ⟨0, 0, 0, 0⟩) 120)
  have hN1 := Blk.new w 120 (nodeCells lv A k c 0 (some ⟨gs, 0, none⟩) ⟨0, 0, 0, 0⟩)
  have hs1 : (w.alloc (.cells (nodeCells lv A k c 0 (some ⟨gs, 0, none⟩) ⟨0, 0, 0, 0⟩) 120)).heap.size = w.heap.size + 1 := by simp
  have HA := hide (kid_all (hS.below b1))
  clear hS hk
  unfold nodeCells at b1 hN1 hs1 HA
  go_enter Try.func81, Try.ntmps81
  go_wp2_with fail
  have e0 : ((0 : Nat) : Int) = 0 := rfl
  simp only [e0] at b1 hN1 hs1 HA
  refine HA.out.mono ?_
  rintro e w2 ⟨v2, rfl, ho2, hb2⟩
  rw [hs1] at ho2
  have hN2 := hide (hN1.below hb2)
  have hc2 := below_then b1 hb2
  clear hN1 b1 hb2 HA hs1
  obtain ⟨A2, c2, rfl, -, -⟩ := Rw.of_own ho2
  have HO2 := hide ho2
  clear ho2
  have hz2 : w.heap.size < w2.heap.size := hN2.out.lt
  go_wp2
  go_loopw [19] (fun x wr => ∃ (j : Nat), x = .int .i64 j ∧ j ≤ ks.length ∧ Blk wr w.heap.size 120 (nodeCells lv A k c 0 (some ⟨gs, 0, none⟩) (sumsOf (kidEs (ks.take j)))) ∧ wr.ownsRow (w.heap.size + 1) 60 1 (.slice A2 ks.length c2) ks.length (ks.map fun q => .pointer (some ⟨q.blk, 0, none⟩)) ∧ Below w.heap.size w wr) (fun x _ => ks.length - (intOf x).toNat)
  case atStart => exact ⟨0, rfl, Nat.zero_le _, hN2.out, HO2.out, hc2⟩
  case round =>
    obtain ⟨j, rfl, hj, hB, hO, hb⟩ := hrel
    have hBl := hB.lt
    by_cases hjn : j < ks.length
    · obtain ⟨b, o, rfl, hbl, u, hu, k0⟩ := (own_rw hO).2.one hjn
      rw [List.getElem?_map] at hu
      obtain ⟨q, hq, rfl⟩ := Option.map_eq_some_iff.1 hu
      have hn := HK.out q (List.mem_of_getElem? hq)
      have HI := hide hn.info
      obtain ⟨Aq, cq, vq, kq, hBq, -⟩ := hn.head
      have hql : q.blk < w.heap.size := hBq.lt
      have hBq' := hBq.belowB hb hql
      have HO := hide hO
      have HB := hide hB
      have HQ := hide hq
      have HBq := hide hBq'
      have p4 := hBq'.cell 4
      have p5 := hBq'.cell 5
      have p6 := hBq'.cell 6
      have p7 := hBq'.cell 7
      simp [nodeCells] at p4 p5 p6 p7
      clear hO hB hq hu hBq hBq' hn
      generalize hsq : sumsOf q.es = sq at *
      generalize hsp : sumsOf (kidEs (ks.take j)) = sp at *
      have r4 := HB.out.cell 4
      have r5 := HB.out.cell 5
      have r6 := HB.out.cell 6
      have r7 := HB.out.cell 7
      simp [nodeCells] at r4 r5 r6 r7
      have hB3 := HB.out.alloc (.cells #[.int .u64 (sq.c : Int), .int .u64 (sq.s : Int), .int .u64 (sq.mn : Int), .int .u64 (sq.mx : Int)] 102)
      have hS3 := Blk.new wr 102 #[.int .u64 (sq.c : Int), .int .u64 (sq.s : Int), .int .u64 (sq.mn : Int), .int .u64 (sq.mx : Int)]
      have hO3 := own_below HO.out ((Below.refl wr.heap.size wr).alloc (Nat.le_refl _) (.cells #[.int .u64 (sq.c : Int), .int .u64 (sq.s : Int), .int .u64 (sq.mn : Int), .int .u64 (sq.mx : Int)] 102))
      have hb3 := below_alloc hb (Nat.le_refl _) (.cells #[.int .u64 (sq.c : Int), .int .u64 (sq.s : Int), .int .u64 (sq.mn : Int), .int .u64 (sq.mx : Int)] 102)
      have z4 := hB3.frozen 4
      have z5 := hB3.frozen 5
      have z6 := hB3.frozen 6
      have z7 := hB3.frozen 7
      have s0 : (wr.alloc (.cells #[.int .u64 (sq.c : Int), .int .u64 (sq.s : Int), .int .u64 (sq.mn : Int), .int .u64 (sq.mx : Int)] 102)).cell? ⟨wr.heap.size, 0, none⟩ = some (.int .u64 (sq.c : Int)) := hS3.cell 0
      have s1 : (wr.alloc (.cells #[.int .u64 (sq.c : Int), .int .u64 (sq.s : Int), .int .u64 (sq.mn : Int), .int .u64 (sq.mx : Int)] 102)).cell? ⟨wr.heap.size, 1, none⟩ = some (.int .u64 (sq.s : Int)) := hS3.cell 1
      have s2 : (wr.alloc (.cells #[.int .u64 (sq.c : Int), .int .u64 (sq.s : Int), .int .u64 (sq.mn : Int), .int .u64 (sq.mx : Int)] 102)).cell? ⟨wr.heap.size, 2, none⟩ = some (.int .u64 (sq.mn : Int)) := hS3.cell 2
      have s3 : (wr.alloc (.cells #[.int .u64 (sq.c : Int), .int .u64 (sq.s : Int), .int .u64 (sq.mn : Int), .int .u64 (sq.mx : Int)] 102)).cell? ⟨wr.heap.size, 3, none⟩ = some (.int .u64 (sq.mx : Int)) := hS3.cell 3
      have t4 := hB3.cell 4
      have t5 := hB3.cell 5
      have t6 := hB3.cell 6
      have t7 := hB3.cell 7
      simp [nodeCells] at t4 t5 t6 t7
      have HB3 := hide hB3
      have HO3 := hide hO3
      have HQB := hide hb3
      clear hB3 hS3 hO3 hb3
      rcases Nat.eq_zero_or_pos j with hj0 | hj0
      · have e0 : ((j : Int) == 0) = true := by simp; omega
        have HJ0 := hide hj0
        clear hj0
        go_upto_region 7 with fail
        generalize wr.alloc (.cells #[.int .u64 (sq.c : Int), .int .u64 (sq.s : Int), .int .u64 (sq.mn : Int), .int .u64 (sq.mx : Int)] 102) = w3 at *
        go_wp2
        go_roundw
        case rel =>
          refine ⟨j + 1, by go_num, by omega, ?_, own_far4 HO3.out (by omega), below_set4 HQB.out (Nat.le_refl _)⟩
          have : sumsOf (kidEs (ks.take (j + 1))) = sq := by
            rw [kidEs_take HQ.out, HJ0.out]
            simpa [kidEs] using hsq
          rw [this]
          exact HB3.out.sums sq
        case measure => simp [intOf]; omega
      · have e0 : ((j : Int) == 0) = false := by simp; omega
        go_upto_region 8 with fail
        generalize wr.alloc (.cells #[.int .u64 (sq.c : Int), .int .u64 (sq.s : Int), .int .u64 (sq.mn : Int), .int .u64 (sq.mx : Int)] 102) = w3 at *
        go_still_tail 36, (by kernel_rfl)
        change wpList _ _ _ _ _ w3.drew
        have t4' : w3.drew.frozen? ⟨w.heap.size, 4, none⟩ = false := z4
        have t5' : w3.drew.frozen? ⟨w.heap.size, 5, none⟩ = false := z5
        have t6' : w3.drew.frozen? ⟨w.heap.size, 6, none⟩ = false := z6
        have t7' : w3.drew.frozen? ⟨w.heap.size, 7, none⟩ = false := z7
        have HB4 := hide (show Blk w3.drew w.heap.size 120 (nodeCells lv A k c 0 (some ⟨gs, 0, none⟩) sp) from HB3.out.drewN 1)
        have v4 : w3.drew.cell? ⟨w.heap.size, 4, none⟩ = some (.int .u64 (sp.c : Int)) := t4
        have v5 : w3.drew.cell? ⟨w.heap.size, 5, none⟩ = some (.int .u64 (sp.s : Int)) := t5
        have v6 : w3.drew.cell? ⟨w.heap.size, 6, none⟩ = some (.int .u64 (sp.mn : Int)) := t6
        have v7 : w3.drew.cell? ⟨w.heap.size, 7, none⟩ = some (.int .u64 (sp.mx : Int)) := t7
        have HO4 := hide (own_below HO3.out (Below.refl _ w3).drew)
        have hb4 := HQB.out.drew
        generalize w3.drew = w4 at *
        go_wp2
        go_roundw
        case rel =>
          refine ⟨j + 1, by go_num, by omega, ?_, own_far4 HO4.out (by omega), below_set4 hb4 (Nat.le_refl _)⟩
          have hne := HI.out.2.1
          obtain ⟨q', hq'⟩ : ∃ q', ks[j - 1]? = some q' := ⟨_, List.getElem?_eq_getElem (by omega)⟩
          have hne' : kidEs (ks.take j) ≠ [] := by
            have := kidEs_ne hq' ((HK.out q' (List.mem_of_getElem? hq')).info.2.1)
            rwa [show j - 1 + 1 = j by omega] at this
          have hsum : sumsOf (kidEs (ks.take (j + 1))) = sp.join sq := by
            rw [kidEs_take HQ.out, sumsOf_append hne' hne, hsp, hsq]
          rw [hsum]
          have j0 : ((sp.join sq).c : Int) = IntKind.u64.wrap ((sp.c : Int) + (sq.c : Int)) := by
            rw [wrap_u64_nat]; unfold Sum4.join; simp
          have j1 : ((sp.join sq).s : Int) = IntKind.u64.wrap ((sp.s : Int) + (sq.s : Int)) := by
            rw [wrap_u64_nat]; unfold Sum4.join; simp
          have j2 : ((sp.join sq).mn : Int) = min (sp.mn : Int) (sq.mn : Int) := by
            show ((Nat.min sp.mn sq.mn : Nat) : Int) = _
            rw [show Nat.min sp.mn sq.mn = min sp.mn sq.mn from rfl]; omega
          have j3 : ((sp.join sq).mx : Int) = max (sp.mx : Int) (sq.mx : Int) := by
            show ((Nat.max sp.mx sq.mx : Nat) : Int) = _
            rw [show Nat.max sp.mx sq.mx = max sp.mx sq.mx from rfl]; omega
          rw [← j0, ← j1, ← j2, ← j3]
          exact HB4.out.sums (sp.join sq)
        case measure => simp [intOf]; omega
    · have hj' : j = ks.length := by omega
      rw [hj', List.take_of_length_le (Nat.le_refl _)] at hB
      have HB := hide hB
      have HO := hide hO
      clear hB hO hj'
      go_wp2
      go_ret
      exact ⟨rfl, HB.out, hb⟩
/-! ### Cutting -/
theorem bit_cutc (m c b : Nat) : bit (cutc m c) b = if b < m then 0 else bit c b := by
  unfold bit cutc
  split
  · rename_i h
    obtain ⟨d, rfl⟩ : ∃ d, m = b + (d + 1) := ⟨m - b - 1, by omega⟩
    have : c / 2 ^ (b + (d + 1)) * 2 ^ (b + (d + 1)) = (c / 2 ^ (b + (d + 1)) * 2 ^ d * 2) * 2 ^ b := by
      rw [Nat.pow_add, Nat.pow_succ]
      generalize c / (2 ^ b * (2 ^ d * 2)) = X
      generalize 2 ^ b = B
      generalize 2 ^ d = D
      simp only [Nat.mul_comm, Nat.mul_left_comm, Nat.mul_assoc]
    rw [this, Nat.mul_div_cancel _ (Nat.two_pow_pos b), Nat.mul_mod_left]
  · rename_i h
    obtain ⟨d, rfl⟩ : ∃ d, b = m + d := ⟨b - m, by omega⟩
    rw [Nat.pow_add, ← Nat.div_div_eq_div_mul, Nat.mul_div_cancel _ (Nat.two_pow_pos m), Nat.div_div_eq_div_mul]
theorem foldl_zero (b : Nat) : ∀ (p : List Nat), (∀ c ∈ p, bit c b = 0) → p.foldl (fun a c => 2 * a + bit c b) 0 = 0
  | [], _ => rfl
  | c :: p, h => by
    rw [List.foldl_cons, h c List.mem_cons_self]
    exact foldl_zero b p fun c hc => h c (List.mem_cons_of_mem _ hc)
theorem foldl_cut (m b : Nat) (h : m ≤ b) : ∀ (p : List Nat) (a : Nat), (cut m p).foldl (fun a c => 2 * a + bit c b) a = p.foldl (fun a c => 2 * a + bit c b) a
  | [], _ => rfl
  | c :: p, a => by
    show (cut m p).foldl _ (2 * a + bit (cutc m c) b) = p.foldl _ (2 * a + bit c b)
    rw [bit_cutc, if_neg (by omega), foldl_cut m b h p]
theorem addr_cut_lo {m b : Nat} (p : List Nat) (h : b < m) : addrOf (cut m p) b = 0 := by
  unfold addrOf
  apply foldl_zero
  intro c hc
  obtain ⟨d, _, rfl⟩ := List.mem_map.1 hc
  rw [bit_cutc, if_pos h]
theorem addr_cut_hi {m b : Nat} (p : List Nat) (h : m ≤ b) : addrOf (cut m p) b = addrOf p b := foldl_cut m b h p 0
theorem zp_cut {k m : Nat} {p : List Nat} (h : Zp k p) : Zp k (cut m p) := by
  refine ⟨by unfold cut; rw [List.length_map]; exact h.1, fun x hx => ?_⟩
  obtain ⟨d, hd, rfl⟩ := List.mem_map.1 hx
  exact cutc_lt m d (h.2 d hd)
/-! ### Kids in their places -/
def insK (ks : List Kid) (q : Kid) : List Kid := ks.filter (fun r => decide (r.at_ < q.at_)) ++ [q] ++ ks.filter (fun r => decide (q.at_ < r.at_))
def delK (ks : List Kid) (a : Nat) : List Kid := ks.filter fun r => decide (r.at_ ≠ a)
theorem kidTh_ins (ks : List Kid) (q : Kid) : kidTh (insK ks q) = insTh (kidTh ks) q.at_ (.pointer (some ⟨q.blk, 0, none⟩)) := by
  unfold kidTh insK insTh
  simp only [List.map_append, List.map_cons, List.map_nil, List.filter_map, Function.comp_def]
theorem kidTh_del (ks : List Kid) (a : Nat) : kidTh (delK ks a) = delTh (kidTh ks) a := by
  unfold kidTh delK delTh
  simp only [List.filter_map, Function.comp_def]
theorem mem_insK {ks : List Kid} {q r : Kid} (h : r ∈ insK ks q) : r = q ∨ r ∈ ks := by
  unfold insK at h
  simp only [List.mem_append, List.mem_filter, List.mem_singleton] at h
  rcases h with (h | h) | h
  · exact .inr h.1
  · exact .inl h
  · exact .inr h.1
theorem mem_insK_iff {ks : List Kid} {q r : Kid} : r ∈ insK ks q ↔ r = q ∨ (r ∈ ks ∧ r.at_ ≠ q.at_) := by
  unfold insK
  simp only [List.mem_append, List.mem_filter, List.mem_singleton, decide_eq_true_eq]
  constructor
  · rintro ((h | h) | h)
    · exact .inr ⟨h.1, by omega⟩
    · exact .inl h
    · exact .inr ⟨h.1, by omega⟩
  · rintro (h | ⟨h, h2⟩)
    · exact .inl (.inr h)
    · rcases Nat.lt_or_ge r.at_ q.at_ with h3 | h3
      · exact .inl (.inl ⟨h, h3⟩)
      · exact .inr ⟨h, by omega⟩
theorem insK_sorted {ks : List Kid} {q : Kid} (h : ks.Pairwise fun a b => a.at_ < b.at_) : (insK ks q).Pairwise fun a b => a.at_ < b.at_ := by
  unfold insK
  rw [List.pairwise_append, List.pairwise_append]
  refine ⟨⟨h.filter _, List.pairwise_singleton _ _, ?_⟩, h.filter _, ?_⟩
  · intro a ha b hb
    rw [List.mem_singleton] at hb
    subst hb
    simpa using (List.mem_filter.1 ha).2
  · intro a ha b hb
    have hb2 : q.at_ < b.at_ := by simpa using (List.mem_filter.1 hb).2
    rcases List.mem_append.1 ha with ha | ha
    · have : a.at_ < q.at_ := by simpa using (List.mem_filter.1 ha).2
      omega
    · rw [List.mem_singleton] at ha
      subst ha
      exact hb2
theorem delK_sorted {ks : List Kid} {a : Nat} (h : ks.Pairwise fun a b => a.at_ < b.at_) : (delK ks a).Pairwise fun a b => a.at_ < b.at_ := h.filter _
/-! ### A fork -/
/-- Block g is a node with just these kids. -/
def Fork (w : World) (k g lv : Nat) (pre : List Nat) (ks : List Kid) : Prop :=
  ∃ (A : Option Addr) (c gs : Nat), lv < 64 ∧ Pt w A k pre ∧ k ≤ c ∧ (∀ b, b ≤ lv → addrOf pre b = 0) ∧ (∀ q ∈ ks, NodeOf w k q.blk q.lv q.pre q.es) ∧ (∀ q ∈ ks, q.lv < lv) ∧
    (∀ q ∈ ks, addrOf q.pre lv = q.at_ ∧ ∀ b, lv < b → addrOf q.pre b = addrOf pre b) ∧ (ks.Pairwise fun q r => q.at_ < r.at_) ∧ 2 ≤ ks.length ∧ SlotsAt_n w gs k (kidTh ks) ∧
    Blk w g 120 (nodeCells lv A k c 0 (some ⟨gs, 0, none⟩) (sumsOf (kidEs ks)))
theorem Fork.node {w : World} {k g lv : Nat} {pre : List Nat} {ks : List Kid} (h : Fork w k g lv pre ks) : NodeOf w k g lv pre (kidEs ks) := by
  obtain ⟨A, c, gs, h1, h2, h3, h4, h5, h6, h7, h8, h9, h10, h11⟩ := h
  exact .fork ks h1 h2 h3 h4 h5 h6 h7 h8 h9 h10 h11
theorem Fork.stay {w w' : World} {k g lv : Nat} {pre : List Nat} {ks : List Kid} (h : Fork w k g lv pre ks) (hb : Below w.heap.size w w') : Fork w' k g lv pre ks := by
  obtain ⟨A, c, gs, h1, h2, h3, h4, h5, h6, h7, h8, h9, h10, h11⟩ := h
  exact ⟨A, c, gs, h1, h2.below hb, h3, h4, fun q hq => (h5 q hq).stay hb, h6, h7, h8, h9, h10.below hb, h11.below hb⟩
/-- A node is an entry or a fork. -/
theorem NodeOf.cases' {w : World} {k g : Nat} {lv : Int} {pre : List Nat} {es : List Ent} (h : NodeOf w k g lv pre es) :
    (∃ A c v, lv = -1 ∧ es = [(pre, v)] ∧ v < 2 ^ 64 ∧ Pt w A k pre ∧ k ≤ c ∧ Blk w g 120 (nodeCells (-1) A k c v none ⟨1, v, v, v⟩)) ∨
    (∃ (m : Nat) (ks : List Kid), lv = (m : Int) ∧ es = kidEs ks ∧ Fork w k g m pre ks) := by
  cases h with
  | leaf hv hp hc hB => exact .inl ⟨_, _, _, rfl, rfl, hv, hp, hc, hB⟩
  | fork ks hlv hp hc hz hk hl ha hs h2 hS hB => exact .inr ⟨_, ks, rfl, rfl, _, _, _, hlv, hp, hc, hz, hk, hl, ha, hs, h2, hS, hB⟩
theorem addr_lt_pow {k : Nat} {p : List Nat} (h : Zp k p) (b : Nat) : addrOf p b < 2 ^ k := by
  have := addrOf_lt p b
  rwa [h.1] at this
set_option maxHeartbeats 1000000 in
set_option maxRecDepth 100000 in
theorem nd_leaf_own (A : Option Addr) (n c : Nat) (p : List Nat) (v : Nat) (w : World) (hp : Pt w A n p) (h1 : 1 ≤ n) (h2 : n ≤ 16) :
    Calls Try.prog 45 #[.slice A n c, .int .u64 (v : Int)] w fun e w' => ∃ g A2 c2, e = .returned (.tuple #[.pointer (some ⟨g, 0, none⟩), .int .i64 0]) ∧ Blk w' g 120 (nodeCells (-1) A2 n c2 v none ⟨1, v, v, v⟩) ∧ n ≤ c2 ∧ w'.ownsRow w.heap.size 50 1 (.slice A2 n c2) n (u64s p) ∧ w.heap.size ≤ g ∧ Below w.heap.size w w' := by
  have HC := zb_right A n c w
  rw [show rightB n = true by unfold rightB; simp; omega] at HC
  have HC' := hide HC
  have HD := hide (clone_u64 A n c p w hp (by omega))
  have HP := hide hp
  clear HC hp
  go_enter Try.func45, Try.ntmps45
  go_wp2_with fail
  refine HC'.out.mono ?_
  rintro e w1 ⟨rfl, rfl⟩
  go_wp2_with fail
  refine HD.out.mono ?_
  rintro e w2 ⟨v2, rfl, ho, hb⟩
  obtain ⟨A2, c2, rfl, hc2, hR⟩ := Rw.of_own ho
  have HO := hide ho
  clear ho hR
  go_wp2
  go_ret2
  have b3 := (Below.refl w2.heap.size w2).alloc (Nat.le_refl _) (.cells (nodeCells (-1) A2 n c2 v none ⟨1, v, v, v⟩) 120)
  refine ⟨_, A2, c2, rfl, Blk.new w2 _ _, hc2, own_below HO.out b3, hb.size, below_then hb b3⟩
end Go.Proofs.Ytfkpanpageeklaa
