/- Nodes: Pair of two that part. -/
import Derived.Test.YtkknfnjojamgjaaNd7
set_option linter.unusedSimpArgs false
set_option linter.unusedVariables false
namespace Go.Proofs.Ytkknfnjojamgjaa
open Go.RowKit
/-- What two kids make. -/
def pairK (g g' : Nat) (lv lv' : Int) (pre pre' : List Nat) (es es' : List Ent) (m : Nat) : List Kid :=
  insK (insK [] ⟨addrOf pre m, g, lv, pre, es⟩) ⟨addrOf pre' m, g', lv', pre', es'⟩
theorem pairK_eq {g g' : Nat} {lv lv' : Int} {pre pre' : List Nat} {es es' : List Ent} {m : Nat} (h : addrOf pre m ≠ addrOf pre' m) :
    pairK g g' lv lv' pre pre' es es' m = if addrOf pre m < addrOf pre' m then [⟨addrOf pre m, g, lv, pre, es⟩, ⟨addrOf pre' m, g', lv', pre', es'⟩] else [⟨addrOf pre' m, g', lv', pre', es'⟩, ⟨addrOf pre m, g, lv, pre, es⟩] := by
  unfold pairK insK
  by_cases h1 : addrOf pre m < addrOf pre' m
  · have h2 : ¬ addrOf pre' m < addrOf pre m := by omega
    simp [h1, h2]
  · have h2 : addrOf pre' m < addrOf pre m := by omega
    simp [h1, h2]
set_option maxHeartbeats 2000000 in
set_option maxRecDepth 100000 in
theorem nd_pair {w : World} {k g g' m : Nat} {lv lv' : Int} {pre pre' : List Nat} {es es' : List Ent} (h : NodeOf w k g lv pre es) (h' : NodeOf w k g' lv' pre' es') (hk1 : 1 ≤ k) (hk : k ≤ 16)
    (hm : part pre pre' = (m : Int)) (h1 : lv < m) (h2 : lv' < m) :
    Calls Try.prog 35 #[.pointer (some ⟨g, 0, none⟩), .pointer (some ⟨g', 0, none⟩)] w fun e w' => ∃ gn, e = .returned (.tuple #[.pointer (some ⟨gn, 0, none⟩), .int .i64 0]) ∧ Fork w' k gn m (cut (m + 1) pre) (pairK g g' lv lv' pre pre' es es' m) ∧ w.heap.size ≤ gn ∧ Below w.heap.size w w' := by
  have H := hide h
  have H' := hide h'
  obtain ⟨A, c, v, kids, hB, hp, -⟩ := h.head
  obtain ⟨A', c', v', kids', hB', hp', -⟩ := h'.head
  have hps := part_spec pre pre' (by rw [hp.1, hp'.1]) hp.2.2 hp'.2.2
  rw [hm] at hps
  obtain ⟨-, hm64, hps3, hps4⟩ := hps
  have hne := hps4 (by omega)
  rw [Int.toNat_natCast] at hne
  have c0 := hB.cell 0
  have d0 := hB'.cell 0
  have c1 := hB.cell 1
  have d1 := hB'.cell 1
  simp [nodeCells] at c0 d0 c1 d1
  have hgl := hB.lt
  have hgl' := hB'.lt
  have e1 : decide ((m : Int) ≤ max lv lv') = false := by simp; omega
  have HPS := hide hps3
  have HNE := hide hne
  have HP := hide hp
  have HP' := hide hp'
  have HL := hide (And.intro h1 h2)
  have hm64' : m < 64 := by omega
  clear hB hB' h h' hps3 hps4 hne h1 h2
  go_enter Try.func35, Try.ntmps35
  go_wp2_with fail
  go_region_held3 (fun w' => w'.cell? ⟨g, 1, none⟩ = some (.slice A k c) ∧ w'.cell? ⟨g', 1, none⟩ = some (.slice A' k c'))
    (first
      | go_keep)
    (first
      | (go_at_call 92
         refine (zb_part A A' k c c' pre pre' w.drew (hp.below (Below.refl _ w).drew) (hp'.below (Below.refl _ w).drew) hk1 hk).mono ?_
         rintro e w2 ⟨rfl, rfl⟩))
  go_wp2
  go_quiet (fail)
  go_upto_region 8 with fail
  have hb0 : Below w.heap.size w (w.drew.drewN nq) := below_drewN (Below.refl _ w).drew nq
  generalize w.drew.drewN nq = w0 at *
  have c1' := c1
  have c1w := (hb0.cell (p := ⟨g, 1, none⟩) hgl).trans c1
  have HN := hide (new_n (k : Int) w0 (by omega) (by omega))
  go_wp2_with fail
  refine HN.out.mono ?_
  rintro e w1 ⟨rfl, hS1, hb1⟩
  rw [Int.toNat_natCast] at hS1
  have hc1 := below_then hb0 hb1
  have hN1 := Blk.new w1 54 #[.pointer (some ⟨g, 0, none⟩), .pointer (some ⟨g', 0, none⟩)]
  have hS2 := hide (hS1.below ((Below.refl w1.heap.size w1).alloc (Nat.le_refl _) (.cells #[.pointer (some ⟨g, 0, none⟩), .pointer (some ⟨g', 0, none⟩)] 54)))
  have hc2 := below_alloc hc1 (Nat.le_refl _) (.cells #[.pointer (some ⟨g, 0, none⟩), .pointer (some ⟨g', 0, none⟩)] 54)
  have HN1 := hide hN1
  clear hS1 hN1 HN
  go_wp2
  go_loopw [8, 59] (fun x8 x59 wr => ∃ (j gk : Nat), x59 = .int .i64 j ∧ j ≤ 2 ∧ x8 = .pointer (some ⟨gk, 0, none⟩) ∧ SlotsAt_n wr gk k (kidTh (if j = 0 then [] else if j = 1 then insK [] ⟨addrOf pre m, g, lv, pre, es⟩ else pairK g g' lv lv' pre pre' es es' m)) ∧ Blk wr w1.heap.size 54 #[.pointer (some ⟨g, 0, none⟩), .pointer (some ⟨g', 0, none⟩)] ∧ Below w.heap.size w wr) (fun _ x _ => 2 - (intOf x).toNat)
  case atStart => exact ⟨0, w0.heap.size, rfl, by omega, rfl, hS2.out, HN1.out, hc2⟩
  case round =>
    obtain ⟨j, gk, rfl, hj, rfl, hS, hN, hb⟩ := hrel
    have k0 := hN.cell 0
    have k1 := hN.cell 1
    simp at k0 k1
    have HN := hide hN
    clear hN
    have HB := hide hb
    match j, hj with
    | 0, _ =>
      rw [if_pos rfl] at hS
      have HS := hide hS
      clear hS
      go_wp2_with fail
      have HPU := hide (put_n gk k (kidTh ([])) (addrOf pre m) (some ⟨g, 0, none⟩) _ HS.out (addr_lt_pow (Pt.zp HP.out) m))
      rw [← kidTh_ins ([]) ⟨addrOf pre m, g, lv, pre, es⟩] at HPU
      refine (nd_at (H.out.stay HB.out) hk1 hk m (by omega)).mono ?_
      rintro e w3 ⟨rfl, rfl⟩
      go_wp2_with fail
      refine HPU.out.mono ?_
      rintro e w4 ⟨gk', rfl, hS4, hgk, hb4⟩
      have hb5 := below_then HB.out hb4
      have hN4 := HN.out.below hb4
      go_wp2
      go_roundw
      case rel => exact ⟨1, gk', by go_num, by omega, rfl, hS4, hN4, hb5⟩
      case measure => simp [intOf]
    | 1, _ =>
      rw [if_neg (by omega), if_pos rfl] at hS
      have HS := hide hS
      clear hS
      go_wp2_with fail
      have HPU := hide (put_n gk k (kidTh (insK [] ⟨addrOf pre m, g, lv, pre, es⟩)) (addrOf pre' m) (some ⟨g', 0, none⟩) _ HS.out (addr_lt_pow (Pt.zp HP'.out) m))
      rw [← kidTh_ins (insK [] ⟨addrOf pre m, g, lv, pre, es⟩) ⟨addrOf pre' m, g', lv', pre', es'⟩] at HPU
      refine (nd_at (H'.out.stay HB.out) hk1 hk m (by omega)).mono ?_
      rintro e w3 ⟨rfl, rfl⟩
      go_wp2_with fail
      refine HPU.out.mono ?_
      rintro e w4 ⟨gk', rfl, hS4, hgk, hb4⟩
      have hb5 := below_then HB.out hb4
      have hN4 := HN.out.below hb4
      go_wp2
      go_roundw
      case rel => exact ⟨2, gk', by go_num, by omega, rfl, hS4, hN4, hb5⟩
      case measure => simp [intOf]
    | 2, _ =>
      rw [if_neg (by omega), if_neg (by omega)] at hS
      have HS := hide hS
      clear hS
      have c1r := (HB.out.cell (p := ⟨g, 1, none⟩) hgl).trans c1'
      have CC := zb_cut A k c pre (m + 1) wr (HP.out.below HB.out) hk1 hk (by omega)
      rw [show (((m + 1 : Nat)) : Int) - 1 = (m : Int) by omega] at CC
      have HCC := hide CC
      clear CC
      go_wp2_with fail
      refine HCC.out.mono ?_
      rintro e w5 ⟨v5, rfl, ho5, hb5⟩
      obtain ⟨A5, d5, rfl, hd5, hR5⟩ := Rw.of_own ho5
      have hS5 := HS.out.below hb5
      have hc5 := below_then HB.out hb5
      clear ho5 HCC
      have HM := hide (nd_made (lv := (m : Int)) (A := A5) (c := d5) hS5 (fun q hq => by
        rcases mem_insK hq with rfl | hq
        · exact H'.out.stay hc5
        · rcases mem_insK hq with rfl | hq
          · exact H.out.stay hc5
          · cases hq))
      have HR5 := hide hR5
      have HS5 := hide hS5
      clear hS5 hR5
      go_wp2_with fail
      refine HM.out.mono ?_
      rintro e w6 ⟨rfl, hB6, hb6⟩
      have hc6 := below_then hc5 hb6
      have HB6 := hide hB6
      clear hB6 HM
      go_wp2
      go_ret2
      have hz := zp_cut (m := m + 1) HP.out.zp
      have hz' := HP'.out.zp
      refine ⟨_, rfl, ⟨A5, d5, gk, hm64', ⟨hz.1, HR5.out.below hb6, hz.2⟩, hd5, fun b hb => addr_cut_lo pre (by omega), fun q hq => ?_, fun q hq => ?_, fun q hq => ?_, ?_, ?_, HS5.out.below hb6, HB6.out⟩, hc5.size, hc6⟩
      · rcases mem_insK hq with rfl | hq
        · exact H'.out.stay hc6
        · rcases mem_insK hq with rfl | hq
          · exact H.out.stay hc6
          · cases hq
      · rcases mem_insK hq with rfl | hq
        · exact HL.out.2
        · rcases mem_insK hq with rfl | hq
          · exact HL.out.1
          · cases hq
      · rcases mem_insK hq with rfl | hq
        · exact ⟨rfl, fun b hb => by rw [addr_cut_hi pre (by omega)]; exact (HPS.out b (by omega)).symm⟩
        · rcases mem_insK hq with rfl | hq
          · exact ⟨rfl, fun b hb => by rw [addr_cut_hi pre (by omega)]⟩
          · cases hq
      · exact insK_sorted (insK_sorted List.Pairwise.nil)
      · rw [pairK_eq HNE.out]
        split <;> simp
end Go.Proofs.Ytkknfnjojamgjaa
