/- ShareFew: contracts and plain laws that the statement leans on (NdC ReA LaB Fr Ke Ex Mp TrA). No condition. -/
import Derived.Test.YtfoapkcgdkfggaaPShareFew2
import Derived.Laws.StructEq
import Derived.StillTailTactics
import Derived.Deep.Cut
import Derived.Deep.CutRange
import Derived.Maps.RangeRun
import Derived.Maps.RangeWalk
import Derived.Maps.OwnOps
set_option linter.unusedSimpArgs false
set_option linter.unusedVariables false
namespace Go.Proofs.Ytfoapkcgdkfggaa
section
open Go.RowKit
end
section
open Go.RowKit
/-- What two kids make. -/
def pairK (g g' : Nat) (lv lv' : Int) (pre pre' : List Nat) (es es' : List Ent) (m : Nat) : List Kid :=
  insK (insK [] ⟨addrOf pre m, g, lv, pre, es⟩) ⟨addrOf pre' m, g', lv', pre', es'⟩
theorem pairK_eq {g g' : Nat} {lv lv' : Int} {pre pre' : List Nat} {es es' : List Ent} {m : Nat} (h : addrOf pre m ≠ addrOf pre' m) :
    pairK g g' lv lv' pre pre' es es' m = if addrOf pre m < addrOf pre' m then [⟨addrOf pre m, g, lv, pre, es⟩, ⟨addrOf pre' m, g', lv', pre', es'⟩] else [⟨addrOf pre' m, g', lv', pre', es'⟩, ⟨addrOf pre m, g, lv, pre, es⟩] := by
  unfold pairK insK
  by_cases h1 : addrOf pre m < addrOf pre' m
  · have h2 : ¬ addrOf pre' m < addrOf pre m := by omega
    simp [h1, h2]
  · have h2 : addrOf pre' m < addrOf pre m := by omega
    simp [h1, h2]
set_option maxHeartbeats 2000000 in
set_option maxRecDepth 100000 in
theorem nd_pair {w : World} {k g g' m : Nat} {lv lv' : Int} {pre pre' : List Nat} {es es' : List Ent} (h : NodeOf w k g lv pre es) (h' : NodeOf w k g' lv' pre' es') (hk1 : 1 ≤ k) (hk : k ≤ 16)
    (hm : part pre pre' = (m : Int)) (h1 : lv < m) (h2 : lv' < m) :
    Calls Try.prog 40 #[.pointer (some ⟨g, 0, none⟩), .pointer (some ⟨g', 0, none⟩)] w fun e w' => ∃ gn, e = .returned (.tuple #[.pointer (some ⟨gn, 0, none⟩), .int .i64 0]) ∧ Fork w' k gn m (cut (m + 1) pre) (pairK g g' lv lv' pre pre' es es' m) ∧ w.heap.size ≤ gn ∧ Below w.heap.size w w' := by
  have H := hide h
  have H' := hide h'
  obtain ⟨A, c, v, kids, hB, hp, -⟩ := h.head
  obtain ⟨A', c', v', kids', hB', hp', -⟩ := h'.head
  have hps := part_spec pre pre' (by rw [hp.1, hp'.1]) hp.2.2 hp'.2.2
  rw [hm] at hps
  obtain ⟨-, hm64, hps3, hps4⟩ := hps
  have hne := hps4 (by omega)
  rw [Int.toNat_natCast] at hne
  have c0 := hB.cell 0
  have d0 := hB'.cell 0
  have c1 := hB.cell 1
  have d1 := hB'.cell 1
  simp [nodeCells] at c0 d0 c1 d1
  have hgl := hB.lt
  have hgl' := hB'.lt
  have e1 : decide ((m : Int) ≤ max lv lv') = false := by simp; omega
  have HPS := hide hps3
  have HNE := hide hne
  have HP := hide hp
  have HP' := hide hp'
  have HL := hide (And.intro h1 h2)
  have hm64' : m < 64 := by omega
  clear hB hB' h h' hps3 hps4 hne h1 h2
  go_enter Try.func40, Try.ntmps40
  go_wp2_with fail
  go_region_held3 (fun w' => w'.cell? ⟨g, 1, none⟩ = some (.slice A k c) ∧ w'.cell? ⟨g', 1, none⟩ = some (.slice A' k c'))
    (first
      | go_keep)
    (first
      | (go_at_call 61
         refine (zb_part A A' k c c' pre pre' w.drew (hp.below (Below.refl _ w).drew) (hp'.below (Below.refl _ w).drew) hk1 hk).mono ?_
         rintro e w2 ⟨rfl, rfl⟩))
  go_wp2
  go_quiet (fail)
  go_upto_region 8 with fail
  have hb0 : Below w.heap.size w (w.drew.drewN nq) := below_drewN (Below.refl _ w).drew nq
  generalize w.drew.drewN nq = w0 at *
  have c1' := c1
  have c1w := (hb0.cell (p := ⟨g, 1, none⟩) hgl).trans c1
  have HN := hide (new_n (k : Int) w0 (by omega) (by omega))
  go_wp2_with fail
  refine HN.out.mono ?_
  rintro e w1 ⟨rfl, hS1, hb1⟩
  rw [Int.toNat_natCast] at hS1
  have hc1 := below_then hb0 hb1
  have hN1 := Blk.new w1 51 #[.pointer (some ⟨g, 0, none⟩), .pointer (some ⟨g', 0, none⟩)]
  have hS2 := hide (hS1.below ((Below.refl w1.heap.size w1).alloc (Nat.le_refl _) (.cells #[.pointer (some ⟨g, 0, none⟩), .pointer (some ⟨g', 0, none⟩)] 51)))
  have hc2 := below_alloc hc1 (Nat.le_refl _) (.cells #[.pointer (some ⟨g, 0, none⟩), .pointer (some ⟨g', 0, none⟩)] 51)
  have HN1 := hide hN1
  clear hS1 hN1 HN
  go_wp2
  go_loopw [8, 59] (fun x8 x59 wr => ∃ (j gk : Nat), x59 = .int .i64 j ∧ j ≤ 2 ∧ x8 = .pointer (some ⟨gk, 0, none⟩) ∧ SlotsAt_n wr gk k (kidTh (if j = 0 then [] else if j = 1 then insK [] ⟨addrOf pre m, g, lv, pre, es⟩ else pairK g g' lv lv' pre pre' es es' m)) ∧ Blk wr w1.heap.size 51 #[.pointer (some ⟨g, 0, none⟩), .pointer (some ⟨g', 0, none⟩)] ∧ Below w.heap.size w wr) (fun _ x _ => 2 - (intOf x).toNat)
  case atStart => exact ⟨0, w0.heap.size, rfl, by omega, rfl, hS2.out, HN1.out, hc2⟩
  case round =>
    obtain ⟨j, gk, rfl, hj, rfl, hS, hN, hb⟩ := hrel
    have k0 := hN.cell 0
    have k1 := hN.cell 1
    simp at k0 k1
    have HN := hide hN
    clear hN
    have HB := hide hb
    match j, hj with
    | 0, _ =>
      rw [if_pos rfl] at hS
      have HS := hide hS
      clear hS
      go_wp2_with fail
      have HPU := hide (put_n gk k (kidTh ([])) (addrOf pre m) (some ⟨g, 0, none⟩) _ HS.out (addr_lt_pow (Pt.zp HP.out) m))
      rw [← kidTh_ins ([]) ⟨addrOf pre m, g, lv, pre, es⟩] at HPU
      refine (nd_at (H.out.stay HB.out) hk1 hk m (by omega)).mono ?_
      rintro e w3 ⟨rfl, rfl⟩
      go_wp2_with fail
      refine HPU.out.mono ?_
      rintro e w4 ⟨gk', rfl, hS4, hgk, hb4⟩
      have hb5 := below_then HB.out hb4
      have hN4 := HN.out.below hb4
      go_wp2
      go_roundw
      case rel => exact ⟨1, gk', by go_num, by omega, rfl, hS4, hN4, hb5⟩
      case measure => simp [intOf]
    | 1, _ =>
      rw [if_neg (by omega), if_pos rfl] at hS
      have HS := hide hS
      clear hS
      go_wp2_with fail
      have HPU := hide (put_n gk k (kidTh (insK [] ⟨addrOf pre m, g, lv, pre, es⟩)) (addrOf pre' m) (some ⟨g', 0, none⟩) _ HS.out (addr_lt_pow (Pt.zp HP'.out) m))
      rw [← kidTh_ins (insK [] ⟨addrOf pre m, g, lv, pre, es⟩) ⟨addrOf pre' m, g', lv', pre', es'⟩] at HPU
      refine (nd_at (H'.out.stay HB.out) hk1 hk m (by omega)).mono ?_
      rintro e w3 ⟨rfl, rfl⟩
      go_wp2_with fail
      refine HPU.out.mono ?_
      rintro e w4 ⟨gk', rfl, hS4, hgk, hb4⟩
      have hb5 := below_then HB.out hb4
      have hN4 := HN.out.below hb4
      go_wp2
      go_roundw
      case rel => exact ⟨2, gk', by go_num, by omega, rfl, hS4, hN4, hb5⟩
      case measure => simp [intOf]
    | 2, _ =>
      rw [if_neg (by omega), if_neg (by omega)] at hS
      have HS := hide hS
      clear hS
      have c1r := (HB.out.cell (p := ⟨g, 1, none⟩) hgl).trans c1'
      have CC := zb_cut A k c pre (m + 1) wr (HP.out.below HB.out) hk1 hk (by omega)
      rw [show (((m + 1 : Nat)) : Int) - 1 = (m : Int) by omega] at CC
      have HCC := hide CC
      clear CC
      go_wp2_with fail
      refine HCC.out.mono ?_
      rintro e w5 ⟨v5, rfl, ho5, hb5⟩
      obtain ⟨A5, d5, rfl, hd5, hR5⟩ := Rw.of_own ho5
      have hS5 := HS.out.below hb5
      have hc5 := below_then HB.out hb5
      clear ho5 HCC
      have HM := hide (nd_made (lv := (m : Int)) (A := A5) (c := d5) hS5 (fun q hq => by
        rcases mem_insK hq with rfl | hq
        · exact H'.out.stay hc5
        · rcases mem_insK hq with rfl | hq
          · exact H.out.stay hc5
          · cases hq))
      have HR5 := hide hR5
      have HS5 := hide hS5
      clear hS5 hR5
      go_wp2_with fail
      refine HM.out.mono ?_
      rintro e w6 ⟨rfl, hB6, hb6⟩
      have hc6 := below_then hc5 hb6
      have HB6 := hide hB6
      clear hB6 HM
      go_wp2
      go_ret2
      have hz := zp_cut (m := m + 1) HP.out.zp
      have hz' := HP'.out.zp
      refine ⟨_, rfl, ⟨A5, d5, gk, hm64', ⟨hz.1, HR5.out.below hb6, hz.2⟩, hd5, fun b hb => addr_cut_lo pre (by omega), fun q hq => ?_, fun q hq => ?_, fun q hq => ?_, ?_, ?_, HS5.out.below hb6, HB6.out⟩, hc5.size, hc6⟩
      · rcases mem_insK hq with rfl | hq
        · exact H'.out.stay hc6
        · rcases mem_insK hq with rfl | hq
          · exact H.out.stay hc6
          · cases hq
      · rcases mem_insK hq with rfl | hq
        · exact HL.out.2
        · rcases mem_insK hq with rfl | hq
          · exact HL.out.1
          · cases hq
      · rcases mem_insK hq with rfl | hq
        · exact ⟨rfl, fun b hb => by rw [addr_cut_hi pre (by omega)]; exact (HPS.out b (by omega)).symm⟩
        · rcases mem_insK hq with rfl | hq
          · exact ⟨rfl, fun b hb => by rw [addr_cut_hi pre (by omega)]⟩
          · cases hq
      · exact insK_sorted (insK_sorted List.Pairwise.nil)
      · rw [pairK_eq HNE.out]
        split <;> simp
end
section
open Go.RowKit
end
section
open Go.RowKit
theorem filt_len {ks : List Kid} (a : Nat) (h : ks.Pairwise fun q r => q.at_ < r.at_) :
    ks.length ≤ (ks.filter fun r => decide (r.at_ < a)).length + (ks.filter fun r => decide (a < r.at_)).length + 1 := by
  induction ks with
  | nil => simp
  | cons r t ih =>
    obtain ⟨h1, h2⟩ := List.pairwise_cons.1 h
    have ih := ih h2
    rcases Nat.lt_trichotomy r.at_ a with hlt | heq | hgt
    · rw [List.filter_cons_of_pos (by simpa using hlt), List.filter_cons_of_neg (by simp; omega)]
      simp only [List.length_cons]
      omega
    · have hall : (t.filter fun r => decide (a < r.at_)) = t := by
        rw [List.filter_eq_self]
        intro x hx
        have := h1 x hx
        simp; omega
      rw [List.filter_cons_of_neg (by simp; omega), List.filter_cons_of_neg (by simp; omega), hall]
      simp only [List.length_cons]
      omega
    · rw [List.filter_cons_of_neg (by simp; omega), List.filter_cons_of_pos (by simpa using hgt)]
      simp only [List.length_cons]
      omega
theorem insK_len {ks : List Kid} (q : Kid) (h : ks.Pairwise fun q r => q.at_ < r.at_) : ks.length ≤ (insK ks q).length := by
  have := filt_len q.at_ h
  unfold insK
  simp only [List.length_append, List.length_cons, List.length_nil]
  omega
set_option maxHeartbeats 4000000 in
set_option maxRecDepth 100000 in
theorem nd_with {w : World} {k g g' m : Nat} {lv' : Int} {pre pre' : List Nat} {ks : List Kid} {es' : List Ent} (h : Fork w k g m pre ks) (h' : NodeOf w k g' lv' pre' es') (hk1 : 1 ≤ k) (hk : k ≤ 16) (hq : part pre pre' ≤ (m : Int)) (hl : lv' < (m : Int)) :
    Calls Try.prog 67 #[.pointer (some ⟨g, 0, none⟩), .pointer (some ⟨g', 0, none⟩)] w fun e w' => ∃ gn, e = .returned (.tuple #[.pointer (some ⟨gn, 0, none⟩), .int .i64 0]) ∧ Fork w' k gn m pre (insK ks ⟨addrOf pre' m, g', lv', pre', es'⟩) ∧ w.heap.size ≤ gn ∧ Below w.heap.size w w' := by
  have HF := hide h
  have HN' := hide h'
  obtain ⟨A, c, gs, hm, hp, hkc, -, -, -, -, -, -, hS, hB⟩ := h
  obtain ⟨A', c', v', kids', hB', hp', -⟩ := h'.head
  have hps := part_spec pre pre' (by rw [hp.1, hp'.1]) hp.2.2 hp'.2.2
  have HPS := hide (fun (b : Nat) (hb : m < b) => hps.2.2.1 b (by omega))
  have c0 := hB.cell 0
  have c1 := hB.cell 1
  have c3 := hB.cell 3
  have d0 := hB'.cell 0
  have d1 := hB'.cell 1
  simp [nodeCells] at c0 c1 c3 d0 d1
  have hgl := hB.lt
  have HP := hide hp
  have HP' := hide hp'
  have HS := hide hS
  have HCC := hide (fun (W : World) (hW : Below w.heap.size w W) => And.intro ((hW.cell (p := ⟨g, 0, none⟩) hgl).trans c0) (And.intro ((hW.cell (p := ⟨g, 1, none⟩) hgl).trans c1) ((hW.cell (p := ⟨g, 3, none⟩) hgl).trans c3)))
  have e1 : decide ((m : Int) ≤ lv') = false := by simp; omega
  have HL := hide hl
  clear hB hB' h' hp hp' hS hl hps
  go_enter Try.func67, Try.ntmps67
  go_wp2_with fail
  go_quiet (fail)
  have hb0 : Below w.heap.size w (w.drewN nq) := below_drewN (Below.refl _ w) nq
  have c0' : (w.drewN nq).cell? ⟨g, 0, none⟩ = some (.int .i64 (m : Int)) := c0
  have d0' : (w.drewN nq).cell? ⟨g', 0, none⟩ = some (.int .i64 lv') := d0
  have d1' : (w.drewN nq).cell? ⟨g', 1, none⟩ = some (.slice A' k c') := d1
  go_upto_region 7 with fail
  generalize w.drewN nq = w0 at *
  clear c0 c1 c3 d0 d1
  go_region_held3 (fun w' => w'.cell? ⟨g, 0, none⟩ = some (.int .i64 (m : Int)) ∧ w'.cell? ⟨g', 0, none⟩ = some (.int .i64 lv') ∧ w'.cell? ⟨g', 1, none⟩ = some (.slice A' k c'))
    (first
      | go_keep)
    (first
      | (go_at_call 48
         have CC := nd_covers ((HF.out.stay hb0).stay (Below.refl _ w0).drew).node hk1 hk ((HP'.out.below hb0).below (Below.refl _ w0).drew) (d := c')
         rw [decide_eq_true hq] at CC
         refine CC.mono ?_
         rintro e w2 ⟨rfl, rfl⟩))
  have hb1 := hb0.drew
  clear c0' d0' d1'
  go_upto_region 9 with fail
  generalize w0.drew = w1 at *
  have q0 := (HCC.out w1 hb1).1
  have q3 := (HCC.out w1 hb1).2.2
  go_region_held3 (fun w' => w'.cell? ⟨g, 0, none⟩ = some (.int .i64 (m : Int)) ∧ w'.cell? ⟨g, 3, none⟩ = some (.pointer (some ⟨gs, 0, none⟩)))
    (first
      | go_keep
      | exact hk3)
    (first
      | (go_at_call 64
         refine (nd_at ((HN'.out.stay hb1).stay (Below.refl _ w1).drew) hk1 hk m hm).mono ?_
         rintro e w2 ⟨rfl, rfl⟩)
      | (go_at_call 63
         have CP := put_n gs k (kidTh ks) (addrOf pre' m) (some ⟨g', 0, none⟩) w1.drew ((HS.out.below hb1).below (Below.refl _ w1).drew) (addr_lt_pow (Pt.zp HP'.out) m)
         rw [← kidTh_ins ks ⟨addrOf pre' m, g', lv', pre', es'⟩] at CP
         refine CP.mono ?_
         rintro e w3 ⟨g3, rfl, hS3, hg3, hb3⟩
         have hc3 := below_then hb1.drew hb3
         have hk3 := And.intro (HCC.out w3 hc3).1 (HCC.out w3 hc3).2.2
         have HS3 := hide hS3
         clear hS3))
  clear q0 q3 hk3
  have q0 := (HCC.out w3 hc3).1
  have q1 := (HCC.out w3 hc3).2.1
  have hks : ∀ q ∈ insK ks ⟨addrOf pre' m, g', lv', pre', es'⟩, ∀ W, Below w.heap.size w W → NodeOf W k q.blk q.lv q.pre q.es := by
    intro q hq W hW
    rcases mem_insK hq with rfl | hq
    · exact HN'.out.stay hW
    · obtain ⟨_, _, _, _, _, _, _, h5, _⟩ := HF.out
      exact (h5 q hq).stay hW
  have HKS := hide hks
  clear hks
  go_upto_region 10 with fail
  go_region_held3 (fun w' => w'.cell? ⟨g, 0, none⟩ = some (.int .i64 (m : Int)) ∧ w'.cell? ⟨g, 1, none⟩ = some (.slice A k c))
    (first
      | go_keep
      | exact hk4)
    (first
      | (go_at_call 66
         refine (nd_made (lv := (m : Int)) (A := A) (c := c) (HS3.out.below (Below.refl _ w3).drew) (fun q hq => HKS.out q hq _ hc3.drew)).mono ?_
         rintro e w4 ⟨rfl, hB4, hb4⟩
         have hc4 := below_then hc3.drew hb4
         have hk4 := And.intro (HCC.out w4 hc4).1 (HCC.out w4 hc4).2.1
         have HB4 := hide hB4
         clear hB4))
  clear hk4 q0 q1
  go_wp2
  go_ret2
  refine ⟨_, rfl, ?_, hc3.size, hc4⟩
  obtain ⟨_, _, _, _, _, _, h4, h5, h6, h7, h8, h9, _, _⟩ := HF.out
  refine ⟨A, c, g3, hm, HP.out.below hc4, hkc, h4, fun q hq => HKS.out q hq _ hc4, fun q hq => ?_, fun q hq => ?_, insK_sorted h8, Nat.le_trans h9 (insK_len _ h8), HS3.out.below ((Below.refl _ w3).drew.trans hb4), HB4.out⟩
  · rcases mem_insK hq with rfl | hq
    · exact HL.out
    · exact h6 q hq
  · rcases mem_insK hq with rfl | hq
    · exact ⟨rfl, fun b hb => (HPS.out b hb).symm⟩
    · exact h7 q hq
end
section
open Go.RowKit
theorem delK_len {ks : List Kid} {a : Nat} (h : ks.Pairwise fun q r => q.at_ < r.at_) (hm : ∃ q ∈ ks, q.at_ = a) : (delK ks a).length + 1 = ks.length := by
  induction ks with
  | nil => obtain ⟨q, hq, _⟩ := hm; cases hq
  | cons r t ih =>
    obtain ⟨h1, h2⟩ := List.pairwise_cons.1 h
    unfold delK
    by_cases hr : r.at_ = a
    · have hall : (t.filter fun x => decide (x.at_ ≠ a)) = t := by
        rw [List.filter_eq_self]
        intro x hx
        have := h1 x hx
        simp; omega
      rw [List.filter_cons_of_neg (by simp [hr]), hall]
      simp
    · obtain ⟨q, hq, hqa⟩ := hm
      have hqt : q ∈ t := by
        rcases List.mem_cons.1 hq with rfl | hq
        · exact absurd hqa hr
        · exact hq
      have := ih h2 ⟨q, hqt, hqa⟩
      unfold delK at this
      rw [List.filter_cons_of_pos (by simp [hr])]
      simp only [List.length_cons]
      omega
theorem mem_delK {ks : List Kid} {a : Nat} {r : Kid} : r ∈ delK ks a ↔ r ∈ ks ∧ r.at_ ≠ a := by
  unfold delK
  rw [List.mem_filter]
  simp
set_option maxHeartbeats 2000000 in
set_option maxRecDepth 100000 in
/-- One kid is left: it is what there is. -/
theorem nd_without_two {w : World} {k g m : Nat} {pre : List Nat} {ks : List Kid} {a : Nat} {q r : Kid} (h : Fork w k g m pre ks) (ha : a < 2 ^ k) (hq : q ∈ ks) (hqa : q.at_ = a) (hr : delK ks a = [r]) :
    Calls Try.prog 46 #[.pointer (some ⟨g, 0, none⟩), .int .i64 (a : Int)] w fun e w' => e = .returned (.tuple #[.pointer (some ⟨r.blk, 0, none⟩), .int .i64 0]) ∧ Below w.heap.size w w' := by
  obtain ⟨A, c, gs, -, hp, -, -, -, -, -, -, -, hS, hB⟩ := h
  have c3 := hB.cell 3
  simp [nodeCells] at c3
  have hth : getTh (kidTh ks) (a : Int) = some (.pointer (some ⟨q.blk, 0, none⟩)) := by
    rw [← hqa]
    exact getTh_some hS.ok (t := (q.at_, .pointer (some ⟨q.blk, 0, none⟩))) (List.mem_map.2 ⟨q, hq, rfl⟩)
  have CD := del_n gs k (kidTh ks) a _ w hS ha hth
  rw [← kidTh_del, hr] at CD
  have HD := hide CD
  clear hB hp hS ha hth CD hqa hq hr
  go_enter Try.func46, Try.ntmps46
  go_wp2_with fail
  refine HD.out.mono ?_
  rintro e w1 ⟨g1, rfl, hS1, hg1, hb1⟩
  have HLN := hide (len_n g1 k (kidTh [r]) w1 hS1)
  have HAL := hide (kid_all hS1)
  clear HD hS1 hg1
  go_wp2_with fail
  refine HLN.out.mono ?_
  rintro e w2 ⟨rfl, rfl⟩
  have hl1 : (kidTh [r]).length = 1 := rfl
  rw [hl1]
  clear hl1
  go_wp2_with fail
  refine HAL.out.mono ?_
  rintro e w2 ⟨v2, rfl, ho2, hb2⟩
  obtain ⟨A2, c2, rfl, -, hR2⟩ := Rw.of_own ho2
  obtain ⟨b, o, rfl, -, u, hu, k0⟩ := hR2.one (i := 0) (by simp)
  simp at hu
  rw [← hu, Nat.add_zero] at k0
  clear ho2 hR2 hu HAL HLN
  go_wp2
  go_ret2
  exact ⟨rfl, below_then hb1 hb2⟩
set_option maxHeartbeats 2000000 in
set_option maxRecDepth 100000 in
theorem nd_without {w : World} {k g m : Nat} {pre : List Nat} {ks : List Kid} {a : Nat} {q : Kid} (h : Fork w k g m pre ks) (ha : a < 2 ^ k) (hq : q ∈ ks) (hqa : q.at_ = a) (h3 : 3 ≤ ks.length) :
    Calls Try.prog 46 #[.pointer (some ⟨g, 0, none⟩), .int .i64 (a : Int)] w fun e w' => ∃ gn, e = .returned (.tuple #[.pointer (some ⟨gn, 0, none⟩), .int .i64 0]) ∧ Fork w' k gn m pre (delK ks a) ∧ w.heap.size ≤ gn ∧ Below w.heap.size w w' := by
  have HF := hide h
  obtain ⟨A, c, gs, hm, hp, hkc, -, -, -, -, hs, -, hS, hB⟩ := h
  have c0 := hB.cell 0
  have c1 := hB.cell 1
  have c3 := hB.cell 3
  simp [nodeCells] at c0 c1 c3
  have hgl := hB.lt
  have HCC := hide (fun (W : World) (hW : Below w.heap.size w W) => And.intro ((hW.cell (p := ⟨g, 0, none⟩) hgl).trans c0) ((hW.cell (p := ⟨g, 1, none⟩) hgl).trans c1))
  have hth : getTh (kidTh ks) (a : Int) = some (.pointer (some ⟨q.blk, 0, none⟩)) := by
    rw [← hqa]
    exact getTh_some hS.ok (t := (q.at_, .pointer (some ⟨q.blk, 0, none⟩))) (List.mem_map.2 ⟨q, hq, rfl⟩)
  have hlen := delK_len hs ⟨q, hq, hqa⟩
  have CD := del_n gs k (kidTh ks) a _ w hS ha hth
  rw [← kidTh_del] at CD
  have HD := hide CD
  have HLE := hide hlen
  have hl2 : 2 ≤ (delK ks a).length := by omega
  have hl16 : (delK ks a).length ≤ 65536 := by
    have h1 := len_le_of_ok hS.ok
    have h2 := pow16 hS.2.1
    simp [kidTh] at h1
    omega
  have HP := hide hp
  have hne1 : (((delK ks a).length : Int) == 1) = false := by simp; omega
  clear hB hp hS ha hth CD hqa hq hlen c0 c1 hs
  go_enter Try.func46, Try.ntmps46
  go_wp2_with fail
  refine HD.out.mono ?_
  rintro e w1 ⟨g1, rfl, hS1, hg1, hb1⟩
  have CL := len_n g1 k (kidTh (delK ks a)) w1 hS1
  rw [show (kidTh (delK ks a)).length = (delK ks a).length by simp [kidTh]] at CL
  have HLN := hide CL
  have HS1 := hide hS1
  clear HD hS1 hg1 CL
  go_wp2_with fail
  refine HLN.out.mono ?_
  rintro e w2 ⟨rfl, rfl⟩
  have q0 := (HCC.out w1 hb1).1
  have q1 := (HCC.out w1 hb1).2
  have hks : ∀ q ∈ delK ks a, ∀ W, Below w.heap.size w W → NodeOf W k q.blk q.lv q.pre q.es := by
    intro q hq W hW
    obtain ⟨_, _, _, _, _, _, _, h5, _⟩ := HF.out
    exact (h5 q (mem_delK.1 hq).1).stay hW
  have HKS := hide hks
  clear hks HLN
  go_upto_region 10 with fail
  go_region_held3 (fun w' => w'.cell? ⟨g, 0, none⟩ = some (.int .i64 (m : Int)) ∧ w'.cell? ⟨g, 1, none⟩ = some (.slice A k c))
    (first
      | go_keep
      | exact hk4)
    (first
      | (go_at_call 66
         refine (nd_made (lv := (m : Int)) (A := A) (c := c) (HS1.out.below (Below.refl _ w1).drew) (fun q hq => HKS.out q hq _ hb1.drew)).mono ?_
         rintro e w4 ⟨rfl, hB4, hb4⟩
         have hc4 := below_then hb1.drew hb4
         have hk4 := And.intro (HCC.out w4 hc4).1 (HCC.out w4 hc4).2
         have HB4 := hide hB4
         clear hB4))
  clear hk4 q0 q1
  go_wp2
  go_ret2
  refine ⟨_, rfl, ?_, hb1.size, hc4⟩
  obtain ⟨_, _, _, _, _, _, h4, h5, h6, h7, h8, h9, _, _⟩ := HF.out
  exact ⟨A, c, g1, hm, HP.out.below hc4, hkc, h4, fun q hq => HKS.out q hq _ hc4, fun q hq => h6 q (mem_delK.1 hq).1, fun q hq => h7 q (mem_delK.1 hq).1, delK_sorted h8, hl2, HS1.out.below ((Below.refl _ w1).drew.trans hb4), HB4.out⟩
end
end Go.Proofs.Ytfoapkcgdkfggaa
set_option linter.unusedSimpArgs false
set_option linter.unusedVariables false
namespace Go.Proofs.Ytfoapkcgdkfggaa
section
open Go.RowKit
theorem wrap64_of {n : Int} (h : -9223372036854775808 ≤ n ∧ n ≤ 9223372036854775807) : wrap64 n = n := by unfold wrap64; omega
set_option maxHeartbeats 1000000 in
set_option maxRecDepth 100000 in
theorem ref_bit (z at_ : Nat) (w : World) (hz : z < 2 ^ 64) (ha : at_ < 64) :
    Calls Try.prog 78 #[.int .u64 (z : Int), .int .i64 (at_ : Int)] w fun e w' => e = .returned (.int .i64 (bit z at_ : Nat)) ∧ w = w' := by
  go_enter Try.func78, Try.ntmps78
  go_wp2
  go_ret
  refine ⟨retI ?_, rfl⟩
  have e1 : ((z : Int) / 2 ^ at_) = ((z / 2 ^ at_ : Nat) : Int) := by simp
  have hb := bit_lt z at_
  have e2 : ((z / 2 ^ at_ : Nat) : Int).tmod 2 = (bit z at_ : Nat) := by
    rw [Int.tmod_eq_emod_of_nonneg (Int.natCast_nonneg _)]; unfold bit; omega
  rw [e1, e2, wrap64_of (by omega)]
set_option maxHeartbeats 1000000 in
set_option maxRecDepth 100000 in
theorem ref_addr (A : Option Addr) (n c at_ : Nat) (p : List Nat) (w : World) (hp : Pt w A n p) (hn : n ≤ 40) (ha : at_ < 64) :
    Calls Try.prog 57 #[.slice A n c, .int .i64 (at_ : Int)] w fun e w' => e = .returned (.int .i64 (addrOf p at_ : Nat)) ∧ w = w' := by
  have HP := hide hp
  have hlt : ∀ j, addrOf (p.take j) at_ < 2 ^ 40 := fun j => by
    have h1 := addrOf_lt (p.take j) at_
    refine Nat.lt_of_lt_of_le h1 (pow_len_le ?_)
    have := hp.1
    simp; omega
  have HLT := hide hlt
  clear hp hlt
  go_enter Try.func57, Try.ntmps57
  go_wp2
  go_loop [5, 6] (fun x5 x6 => ∃ (j : Nat), x6 = .int .i64 j ∧ j ≤ n ∧ x5 = .int .i64 (addrOf (p.take j) at_ : Nat)) (fun _ x => n - (intOf x).toNat)
  case atStart => exact ⟨0, rfl, Nat.zero_le _, rfl⟩
  case round =>
    obtain ⟨j, rfl, hj, rfl⟩ := hrel
    by_cases hjn : j < n
    · obtain ⟨b, o, z, rfl, hbl, hz, hzl, k0⟩ := HP.out.at_ hjn
      have hb := HLT.out j
      have hbit := bit_lt z at_
      have hst : addrOf (p.take (j + 1)) at_ = 2 * addrOf (p.take j) at_ + bit z at_ := by
        have hl := (List.getElem?_eq_some_iff.1 hz).1
        rw [addrOf_take p at_ j hl, (List.getElem?_eq_some_iff.1 hz).2]
      have HST := hide hst
      have hz' := hide hz
      clear hz hst
      go_wp2_with fail
      refine (ref_bit z at_ _ hzl ha).mono ?_
      rintro e w1 ⟨rfl, rfl⟩
      generalize addrOf (p.take j) at_ = a at *
      generalize bit z at_ = bt at *
      go_wp2
      go_round
      case rel => exact ⟨j + 1, by go_num, by omega, by rw [HST.out]; go_num⟩
      case measure => simp [intOf]; omega
    · obtain rfl : j = n := by omega
      have hl := HP.out.1
      have hpe : p.take j = p := List.take_of_length_le (by omega)
      rw [hpe]
      clear hl hpe
      go_wp2
      go_ret
      exact ⟨rfl, rfl⟩
set_option maxHeartbeats 1000000 in
set_option maxRecDepth 100000 in
theorem ref_part (A B : Option Addr) (k c d : Nat) (p q : List Nat) (w : World) (hp : Pt w A k p) (hq : Pt w B k q) (hk : k ≤ 40) :
    Calls Try.prog 77 #[.slice A k c, .slice B k d] w fun e w' => e = .returned (.int .i64 (part p q)) ∧ w = w' := by
  have HP := hide hp
  have HQ := hide hq
  clear hp hq
  go_enter Try.func77, Try.ntmps77
  go_wp2
  go_loop [5] (fun x => ∃ (j : Nat), x = .int .i64 ((j : Int) - 1) ∧ j ≤ 64 ∧ (∀ b, j ≤ b → b < 64 → addrOf p b = addrOf q b)) (fun x => (intOf x + 1).toNat)
  case atStart => exact ⟨64, by go_num, Nat.le_refl _, fun b h1 h2 => by omega⟩
  case round =>
    obtain ⟨j, rfl, hj, he⟩ := hrel
    have HE := hide he
    clear he
    rcases Nat.eq_zero_or_pos j with rfl | hj0
    · have hpt : part p q = -1 := by
        obtain ⟨g1, g2, g3, g4⟩ := part_spec p q (by rw [HP.out.1, HQ.out.1]) HP.out.2.2 HQ.out.2.2
        rcases Int.lt_or_le (part p q) 0 with h | h
        · omega
        · exact absurd (HE.out (part p q).toNat (by omega) (by omega)) (g4 h)
      have HPT := hide hpt
      clear hpt
      go_wp2
      go_ret
      rw [HPT.out]
      exact ⟨rfl, rfl⟩
    · obtain ⟨i, rfl⟩ : ∃ i, j = i + 1 := ⟨j - 1, by omega⟩
      have e0 : ((i + 1 : Nat) : Int) - 1 = (i : Int) := by omega
      rw [e0]
      have HA := hide (ref_addr A k c i p w HP.out hk (by omega))
      have HB := hide (ref_addr B k d i q w HQ.out hk (by omega))
      clear e0
      by_cases he : addrOf p i = addrOf q i
      · have HEI := hide he
        clear he
        rw [HEI.out] at HA
        go_wp2_with fail
        refine HA.out.mono ?_
        rintro e w1 ⟨rfl, rfl⟩
        go_wp2_with fail
        refine HB.out.mono ?_
        rintro e w1 ⟨rfl, rfl⟩
        go_wp2
        go_round
        case rel =>
          refine ⟨i, by go_num, by omega, fun b h1 h2 => ?_⟩
          rcases Nat.lt_or_ge i b with h3 | h3
          · exact HE.out b (by omega) h2
          · rw [show b = i by omega]
            exact HEI.out
        case measure => simp [intOf]
      · have hpt : part p q = (i : Int) := by
          refine part_unique HP.out.zp HQ.out.zp (fun b hb => ?_) he
          by_cases h64 : b < 64
          · exact HE.out b (by omega) h64
          · obtain ⟨g1, g2, g3, g4⟩ := part_spec p q (by rw [HP.out.1, HQ.out.1]) HP.out.2.2 HQ.out.2.2
            exact g3 b (by omega)
        have HPT := hide hpt
        have e1 : ((addrOf p i : Int) != (addrOf q i : Int)) = true := by simp; omega
        clear hpt
        generalize addrOf p i = a at *
        generalize addrOf q i = b at *
        clear he
        go_wp2_with fail
        refine HA.out.mono ?_
        rintro e w1 ⟨rfl, rfl⟩
        go_wp2_with fail
        refine HB.out.mono ?_
        rintro e w1 ⟨rfl, rfl⟩
        go_wp2
        go_ret
        rw [HPT.out]
        exact ⟨rfl, rfl⟩
set_option maxHeartbeats 1000000 in
set_option maxRecDepth 100000 in
theorem ref_cmp (A B : Option Addr) (k c d : Nat) (p q : List Nat) (w : World) (hp : Pt w A k p) (hq : Pt w B k q) (hk : k ≤ 40) :
    Calls Try.prog 73 #[.slice A k c, .slice B k d] w fun e w' => e = .returned (.int .i64 (cmp p q)) ∧ w = w' := by
  have HC := ref_part A B k c d p q w hp hq hk
  obtain ⟨g1, g2, g3, g4⟩ := part_spec p q (by rw [hp.1, hq.1]) hp.2.2 hq.2.2
  rcases Int.lt_or_le (part p q) 0 with h | h
  · have hpt : part p q = -1 := by omega
    have hc : cmp p q = 0 := by unfold cmp; rw [if_pos h]
    rw [hpt] at HC
    have HCC := hide HC
    have HR := hide hc
    clear HC hpt hc h g1 g2 g3 g4
    go_enter Try.func73, Try.ntmps73
    go_wp2_with fail
    refine HCC.out.mono ?_
    rintro e w1 ⟨rfl, rfl⟩
    go_wp2
    go_ret
    rw [HR.out]
    exact ⟨rfl, rfl⟩
  · obtain ⟨m, hm⟩ : ∃ m : Nat, part p q = (m : Int) := ⟨(part p q).toNat, by omega⟩
    have HA := hide (ref_addr A k c m p w hp hk (by omega))
    have HB := hide (ref_addr B k d m q w hq hk (by omega))
    have hne := g4 h
    rw [hm] at HC hne
    rw [Int.toNat_natCast] at hne
    have HCC := hide HC
    rcases Nat.lt_or_ge (addrOf p m) (addrOf q m) with hlt | hge
    · have hc : cmp p q = -1 := by unfold cmp; rw [if_neg (by omega), hm, Int.toNat_natCast, if_pos hlt]
      have HR := hide hc
      clear HC hc h g1 g2 g3 g4 hne hm
      generalize addrOf p m = a at *
      generalize addrOf q m = b at *
      go_enter Try.func73, Try.ntmps73
      go_wp2_with fail
      refine HCC.out.mono ?_
      rintro e w1 ⟨rfl, rfl⟩
      go_wp2_with fail
      refine HA.out.mono ?_
      rintro e w1 ⟨rfl, rfl⟩
      go_wp2_with fail
      refine HB.out.mono ?_
      rintro e w1 ⟨rfl, rfl⟩
      go_wp2
      go_ret
      rw [HR.out]
      exact ⟨rfl, rfl⟩
    · have hc : cmp p q = 1 := by unfold cmp; rw [if_neg (by omega), hm, Int.toNat_natCast, if_neg (by omega)]
      have HR := hide hc
      have hnl : ¬ addrOf p m < addrOf q m := by omega
      clear HC hc h g1 g2 g3 g4 hne hm hge
      generalize addrOf p m = a at *
      generalize addrOf q m = b at *
      go_enter Try.func73, Try.ntmps73
      go_wp2_with fail
      refine HCC.out.mono ?_
      rintro e w1 ⟨rfl, rfl⟩
      go_wp2_with fail
      refine HA.out.mono ?_
      rintro e w1 ⟨rfl, rfl⟩
      go_wp2_with fail
      refine HB.out.mono ?_
      rintro e w1 ⟨rfl, rfl⟩
      go_wp2
      go_ret
      rw [HR.out]
      exact ⟨rfl, rfl⟩
end
section
open Go.RowKit
end
section
open Go.RowKit
def notAhead (p : List Nat) (r : ER) : Bool := decide (0 ≤ cmp r.p p)
/-- Where a point stands or would stand. -/
def plR (rows : List ER) (p : List Nat) : Nat := rows.findIdx (notAhead p)
def hasR (rows : List ER) (p : List Nat) : Bool := match rows[plR rows p]? with | some r => decide (cmp r.p p = 0) | none => false
theorem plR_found {rows : List ER} {p : List Nat} {j : Nat} {r : ER} (hr : rows[j]? = some r) (h : 0 ≤ cmp r.p p) (hlt : ∀ (i : Nat) (s : ER), i < j → rows[i]? = some s → cmp s.p p < 0) :
    plR rows p = j ∧ hasR rows p = decide (cmp r.p p = 0) := by
  have hj := (List.getElem?_eq_some_iff.1 hr).1
  have hv := (List.getElem?_eq_some_iff.1 hr).2
  have h1 : plR rows p = j := by
    unfold plR
    rw [List.findIdx_eq hj]
    refine ⟨by rw [hv]; unfold notAhead; simpa using h, fun i hi => ?_⟩
    have hil : i < rows.length := by omega
    have := hlt i rows[i] hi (List.getElem?_eq_getElem hil)
    unfold notAhead
    simp; omega
  refine ⟨h1, ?_⟩
  unfold hasR
  rw [h1, hr]
theorem plR_none {rows : List ER} {p : List Nat} (hlt : ∀ (i : Nat) (s : ER), rows[i]? = some s → cmp s.p p < 0) : plR rows p = rows.length ∧ hasR rows p = false := by
  have h1 : plR rows p = rows.length := by
    unfold plR
    rw [List.findIdx_eq_length]
    intro r hr
    obtain ⟨i, hi⟩ := List.getElem?_of_mem hr
    have := hlt i r hi
    unfold notAhead
    simp; omega
  refine ⟨h1, ?_⟩
  unfold hasR
  rw [h1, List.getElem?_eq_none (Nat.le_refl _)]
set_option maxHeartbeats 2000000 in
set_option maxRecDepth 100000 in
theorem ref_place (A B : Option Addr) (n c k d : Nat) (rows : List ER) (p : List Nat) (w : World) (h : EntsAt w A n rows) (hk : ∀ r ∈ rows, r.n = k) (hp : Pt w B k p) (hk40 : k ≤ 40) (hn : n ≤ 70368744177664) :
    Calls Try.prog 47 #[.slice A n c, .slice B k d] w fun e w' => e = .returned (.tuple #[.int .i64 (plR rows p : Nat), .bool (hasR rows p)]) ∧ w = w' := by
  have HE := hide h
  have HP := hide hp
  have HK := hide hk
  clear h hp hk
  go_enter Try.func47, Try.ntmps47
  go_wp2
  go_loop [6] (fun x => ∃ (j : Nat), x = .int .i64 j ∧ j ≤ n ∧ ∀ (i : Nat) (s : ER), i < j → rows[i]? = some s → cmp s.p p < 0) (fun x => n - (intOf x).toNat)
  case atStart => exact ⟨0, rfl, Nat.zero_le _, fun i s hi => by omega⟩
  case round =>
    obtain ⟨j, rfl, hj, hlt⟩ := hrel
    have HLT := hide hlt
    clear hlt
    by_cases hjn : j < n
    · obtain ⟨b, o, r, rfl, hbl, hr, hok, k0, k1⟩ := HE.out.at_ hjn
      have hrk := HK.out r (List.mem_of_getElem? hr)
      have hpr := hok.1
      rw [hrk] at hpr k0
      have HC := hide (ref_cmp r.A B k r.c d r.p p w hpr HP.out hk40)
      have HR := hide hr
      clear hr hok hrk hpr k1
      rcases cmp_cases r.p p with hc | hc | hc
      · rw [hc] at HC
        have HCV := hide hc
        clear hc
        go_wp2_with fail
        refine HC.out.mono ?_
        rintro e w1 ⟨rfl, rfl⟩
        go_wp2
        go_round
        case rel =>
          refine ⟨j + 1, by go_num, by omega, fun i s hi hs => ?_⟩
          rcases Nat.lt_or_ge i j with h1 | h1
          · exact HLT.out i s h1 hs
          · have h2 := HR.out
            rw [show j = i by omega] at h2
            rw [h2] at hs
            injection hs with hs
            rw [← hs, HCV.out]
            omega
        case measure => simp [intOf]; omega
      · obtain ⟨g1, g2⟩ := plR_found HR.out (by omega : 0 ≤ cmp r.p p) HLT.out
        rw [hc] at HC
        have hc2 : hasR rows p = true := by rw [g2, hc]; rfl
        have HG := hide (And.intro g1 hc2)
        clear hc g1 g2 hc2
        go_wp2_with fail
        refine HC.out.mono ?_
        rintro e w1 ⟨rfl, rfl⟩
        go_wp2
        go_ret2
        rw [HG.out.1, HG.out.2]
        exact ⟨rfl, rfl⟩
      · obtain ⟨g1, g2⟩ := plR_found HR.out (by omega : 0 ≤ cmp r.p p) HLT.out
        rw [hc] at HC
        have hc2 : hasR rows p = false := by rw [g2, hc]; rfl
        have HG := hide (And.intro g1 hc2)
        clear hc g1 g2 hc2
        go_wp2_with fail
        refine HC.out.mono ?_
        rintro e w1 ⟨rfl, rfl⟩
        go_wp2
        go_ret2
        rw [HG.out.1, HG.out.2]
        exact ⟨rfl, rfl⟩
    · obtain rfl : j = n := by omega
      have hl := HE.out.len
      obtain ⟨g1, g2⟩ := plR_none (rows := rows) (p := p) fun i s hs => HLT.out i s (by have := (List.getElem?_eq_some_iff.1 hs).1; omega) hs
      rw [hl] at g1
      have HG := hide (And.intro g1 g2)
      clear hl g1 g2
      go_wp2
      go_ret2
      rw [HG.out.1, HG.out.2]
      exact ⟨rfl, rfl⟩
set_option maxHeartbeats 2000000 in
set_option maxRecDepth 100000 in
theorem ref_get (A B : Option Addr) (n c k d : Nat) (rows : List ER) (p : List Nat) (w : World) (h : EntsAt w A n rows) (hk : ∀ r ∈ rows, r.n = k) (hp : Pt w B k p) (hk40 : k ≤ 40) (hn : n ≤ 70368744177664) :
    Calls Try.prog 29 #[.slice A n c, .slice B k d] w fun e w' => (∃ (v : Nat) (ok : Bool), e = .returned (.tuple #[.int .u64 (v : Int), .bool ok]) ∧ ok = hasR rows p ∧ (ok = false → v = 0) ∧ (ok = true → ∃ r, rows[plR rows p]? = some r ∧ r.v = v)) ∧ w = w' := by
  have HC := hide (ref_place A B n c k d rows p w h hk hp hk40 hn)
  have HE := hide h
  clear h hp hk
  cases hh : hasR rows p with
  | false =>
    rw [hh] at HC
    clear hh
    go_enter Try.func29, Try.ntmps29
    go_wp2_with fail
    refine HC.out.mono ?_
    rintro e w1 ⟨rfl, rfl⟩
    go_wp2
    go_ret2
    exact ⟨⟨0, false, rfl, rfl, fun _ => rfl, fun h => by cases h⟩, rfl⟩
  | true =>
    have hlt : plR rows p < n := by
      unfold hasR at hh
      split at hh
      · rename_i r hr
        have := (List.getElem?_eq_some_iff.1 hr).1
        rwa [HE.out.len] at this
      · cases hh
    obtain ⟨b, o, r, rfl, hbl, hr, hok, k0, k1⟩ := HE.out.at_ hlt
    rw [hh] at HC
    have HR := hide hr
    clear hh hr hok
    generalize plR rows p = at_ at *
    go_enter Try.func29, Try.ntmps29
    go_wp2_with fail
    refine HC.out.mono ?_
    rintro e w1 ⟨rfl, rfl⟩
    go_wp2
    go_ret2
    exact ⟨⟨r.v, true, rfl, rfl, (fun h => by cases h), fun _ => ⟨r, HR.out, rfl⟩⟩, rfl⟩
end
section
open Go.RowKit
def delR (rows : List ER) (p : List Nat) : List ER := if hasR rows p then rows.take (plR rows p) ++ rows.drop (plR rows p + 1) else rows
def putR (rows : List ER) (r : ER) : List ER := (delR rows r.p).take (plR (delR rows r.p) r.p) ++ [r] ++ (delR rows r.p).drop (plR (delR rows r.p) r.p)
theorem info_e : (Try.prog.info? 84).map (fun i => (i.zero, i.size, i.bytes)) = some (some (.agg #[.slice none 0 0, .int .u64 0]), 2, 32) := by kernel_rfl
theorem flat_take (rows : List ER) (i : Nat) : (rows.flatMap entv).take (i * 2) = (rows.take i).flatMap entv := by
  induction rows generalizing i with
  | nil => simp
  | cons r rows ih =>
    cases i with
    | zero => simp
    | succ i =>
      rw [List.flatMap_cons, List.take_succ_cons, List.flatMap_cons, Nat.add_mul, Nat.add_comm (i * 2), List.take_append, ← ih i, List.take_of_length_le (by simp [entv])]
      simp [entv]
theorem flat_drop (rows : List ER) (i : Nat) : (rows.flatMap entv).drop (i * 2) = (rows.drop i).flatMap entv := by
  induction rows generalizing i with
  | nil => simp
  | cons r rows ih =>
    cases i with
    | zero => simp
    | succ i =>
      rw [List.flatMap_cons, List.drop_succ_cons, Nat.add_mul, Nat.add_comm (i * 2), List.drop_append, ← ih i]
      simp [entv]
theorem one_ents (rows : List ER) : ∀ u ∈ rows.flatMap entv, u.oneCell' = true := by
  intro u hu
  obtain ⟨r, _, hu⟩ := List.mem_flatMap.1 hu
  unfold entv at hu
  simp at hu
  rcases hu with rfl | rfl <;> rfl
theorem hasR_lt {rows : List ER} {p : List Nat} (h : hasR rows p = true) : plR rows p < rows.length := by
  unfold hasR at h
  split at h
  · rename_i r hr
    exact (List.getElem?_eq_some_iff.1 hr).1
  · cases h
theorem plR_le (rows : List ER) (p : List Nat) : plR rows p ≤ rows.length := List.findIdx_le_length
theorem mem_delR {rows : List ER} {p : List Nat} {r : ER} (h : r ∈ delR rows p) : r ∈ rows := by
  unfold delR at h
  split at h
  · rcases List.mem_append.1 h with h | h
    · exact List.mem_of_mem_take h
    · exact List.mem_of_mem_drop h
  · exact h
theorem mem_putR {rows : List ER} {q r : ER} (h : r ∈ putR rows q) : r = q ∨ r ∈ rows := by
  unfold putR at h
  rcases List.mem_append.1 h with h | h
  · rcases List.mem_append.1 h with h | h
    · exact .inr (mem_delR (List.mem_of_mem_take h))
    · exact .inl (by simpa using h)
  · exact .inr (mem_delR (List.mem_of_mem_drop h))
set_option maxHeartbeats 2000000 in
set_option maxRecDepth 100000 in
theorem ref_del (A B : Option Addr) (n c k d : Nat) (rows : List ER) (p : List Nat) (w : World) (h : EntsAt w A n rows) (hnc : n ≤ c) (hk : ∀ r ∈ rows, r.n = k) (hp : Pt w B k p) (hk40 : k ≤ 40) (hn : n ≤ 65536) :
    Calls Try.prog 30 #[.slice A n c, .slice B k d] w fun e w' => ∃ A' n' c', e = .returned (.slice A' n' c') ∧ EntsAt w' A' n' (delR rows p) ∧ n' ≤ c' ∧ n' ≤ n ∧ Below w.heap.size w w' := by
  have HC := hide (ref_place A B n c k d rows p w h hk hp hk40 (by omega))
  have HE := hide h
  have hl := h.len
  cases hh : hasR rows p with
  | false =>
    have HD := hide (show delR rows p = rows by unfold delR; rw [hh]; rfl)
    rw [hh] at HC
    have HNC := hide hnc
    clear hh h hk hp hl
    go_enter Try.func30, Try.ntmps30
    go_wp2_with fail
    refine HC.out.mono ?_
    rintro e w1 ⟨rfl, rfl⟩
    go_wp2
    go_ret
    refine ⟨A, n, c, rfl, ?_, HNC.out, Nat.le_refl _, Below.refl _ _⟩
    rw [HD.out]
    exact HE.out
  | true =>
    have hlt := hasR_lt hh
    rw [hl] at hlt
    have HD := hide (show delR rows p = rows.take (plR rows p) ++ rows.drop (plR rows p + 1) by unfold delR; rw [hh]; rfl)
    rw [hh] at HC
    generalize plR rows p = i at *
    have HNC := hide hnc
    have r1 := fun W => run_slice_to (P := Try.prog) (w := W) Try.underlying40 (sz := 2) Try.sizeOf84 A n c i (by omega)
    have r2 := fun W => run_slice_lo (P := Try.prog) (w := W) Try.underlying40 (sz := 2) Try.sizeOf84 A n c (i + 1) (by omega)
    simp only [Int.natCast_add, Int.cast_ofNat_Int] at r2
    have e5 : IntKind.i64.wrap ((i : Int) + 1) = (i : Int) + 1 := by rw [IntKind.wrap_i64]; omega
    have hb := ((Below.refl w.heap.size w).alloc (Nat.le_refl _) (.cells #[] 84)).drew
    have hE1 := HE.out.below hb
    have hT := hE1.1.take_ (i := i) (by omega)
    have hC := HE.out.1.cut (i := i + 1) (c := c) (by omega) hnc
    rw [flat_take] at hT
    rw [flat_drop] at hC
    have HT := hide hT
    have HCU := hide hC
    have HL := hide (And.intro hlt (And.intro hl hn))
    clear hh h hk hp hl hE1 hT hC hnc
    go_enter Try.func30, Try.ntmps30
    go_wp2_with fail
    refine HC.out.mono ?_
    rintro e w1 ⟨rfl, rfl⟩
    go_wp2
    go_region_held3 (fun _ => True)
      (first
        | go_keep
        | exact trivial)
      (first
        | (refine step_app _ (by rfl) (.tmp 16) (.tmp 19) _ (by rfl) w.heap.size 84 _ 2 32 Try.underlying40 info_e rfl (by omega) _ 0 [] (by rfl) (own_empty _ _ _) A i c ((rows.take i).flatMap entv) (by rfl) w hb (Nat.le_refl _) HT.out ?h2 (by have := HL.out; unfold maxLen; omega) (by have := HL.out; omega) ?_
           case h2 => exact one_ents _
           intro v2 w2 ho2 hb2 _
           have HO2 := hide ho2
           have HCC := hide (HCU.out.below hb2)
           clear ho2)
        | (refine step_app _ (by rfl) (.tmp 20) (.tmp 24) _ (by rfl) w.heap.size 84 _ 2 32 Try.underlying40 info_e rfl (by omega) _ (0 + i) _ (by rfl) HO2.out (cutA A c 2 (i + 1)) (n - (i + 1)) (c - (i + 1)) ((rows.drop (i + 1)).flatMap entv) (by rfl) w hb2 (Nat.le_refl _) HCC.out ?h2 (by have := HL.out; unfold maxLen; omega) (by have := HL.out; omega) ?_
           case h2 => exact one_ents _
           intro v3 w3 ho3 hb3 _))
    obtain ⟨A3, c3, rfl, hn3, hR3⟩ := Rw.of_own ho3
    have HB3 := hide hb3
    have hR := hide hR3
    clear ho3 hb3 hR3
    go_wp2
    go_ret
    obtain ⟨hlt, hl, hn⟩ := HL.out
    refine ⟨A3, 0 + i + (n - (i + 1)), c3, rfl, ⟨?_, fun r hr => (HE.out.2 r (mem_delR hr)).below HB3.out⟩, hn3, by omega, HB3.out⟩
    rw [HD.out, List.flatMap_append]
    have := hR.out
    rwa [List.nil_append] at this
set_option maxHeartbeats 2000000 in
set_option maxRecDepth 100000 in
theorem ref_put (A B : Option Addr) (n c k d v : Nat) (rows : List ER) (p : List Nat) (w : World) (h : EntsAt w A n rows) (hnc : n ≤ c) (hk : ∀ r ∈ rows, r.n = k) (hp : Pt w B k p) (hkd : k ≤ d) (hdm : d ≤ maxLen) (hk40 : k ≤ 40) (hn : n ≤ 65536) (hv : v < 2 ^ 64) :
    Calls Try.prog 31 #[.slice A n c, .slice B k d, .int .u64 (v : Int)] w fun e w' => ∃ A' n' c', e = .returned (.slice A' n' c') ∧ EntsAt w' A' n' (putR rows ⟨B, k, d, p, v⟩) ∧ n' ≤ c' ∧ n' ≤ n + 1 ∧ Below w.heap.size w w' := by
  have HD := hide (ref_del A B n c k d rows p w h hnc hk hp hk40 hn)
  have HP := hide hp
  have HK := hide (fun r hr => hk r (mem_delR (p := p) hr))
  have HNN := hide hn
  have HV := hide (And.intro hkd (And.intro hdm hv))
  clear h hnc hk hp hn hkd hdm hv
  go_enter Try.func31, Try.ntmps31
  go_wp2_with fail
  refine HD.out.mono ?_
  rintro e w1 ⟨A1, n1, c1, rfl, hE1, hnc1, hnn1, hb1⟩
  have hn16 : n1 ≤ 65537 := by have := HNN.out; omega
  have HC := hide (ref_place A1 B n1 c1 k d (delR rows p) p w1 hE1 HK.out (HP.out.below hb1) hk40 (by omega))
  have hl := hE1.len
  have hpl := plR_le (delR rows p) p
  rw [hl] at hpl
  have hput : putR rows ⟨B, k, d, p, v⟩ = (delR rows p).take (plR (delR rows p) p) ++ [⟨B, k, d, p, v⟩] ++ (delR rows p).drop (plR (delR rows p) p) := rfl
  have HPUT := hide hput
  have HE1 := hide hE1
  generalize delR rows p = dr at *
  generalize plR dr p = i at *
  generalize hasR dr p = hb at *
  have r1 := fun W => run_slice_to (P := Try.prog) (w := W) Try.underlying40 (sz := 2) Try.sizeOf84 A1 n1 c1 i (by omega)
  have r2 := fun W => run_slice_lo (P := Try.prog) (w := W) Try.underlying40 (sz := 2) Try.sizeOf84 A1 n1 c1 i (by omega)
  have b2 := (Below.refl w1.heap.size w1).alloc (Nat.le_refl _) (.cells #[] 84)
  have hE2 := hE1.below b2
  have hT := hE2.1.take_ (i := i) (by omega)
  have hC := hE1.1.cut (i := i) (c := c1) (by omega) hnc1
  rw [flat_take] at hT
  rw [flat_drop] at hC
  have HT := hide hT
  have HCU := hide hC
  have HL := hide (And.intro hpl (And.intro hl hn16))
  have HNC := hide hnc1
  have HNI := hide hnn1
  clear hE1 hl hpl hput hE2 hT hC hnc1 hnn1
  go_wp2_with fail
  refine HC.out.mono ?_
  rintro e w2 ⟨rfl, rfl⟩
  go_wp2_with (first
    | (at_builtin
       refine app_b _ rfl (.tmp 19) (.tmp 22) _ rfl w1.heap.size 84 _ 2 32 Try.underlying40 info_e rfl (by omega) _ 0 [] rfl (own_empty _ _ _) A1 i c1 ((dr.take i).flatMap entv) rfl w1 b2 (Nat.le_refl _) HT.out ?h2 (by have := HL.out; unfold maxLen; omega) (by have := HL.out; omega) ?_
       case h2 => exact one_ents _
       intro v3 w3 ho3 hb3 _
       have HB3 := hide hb3
       clear hb3)
    | (at_builtin
       refine app_b _ rfl (.tmp 23) (.tmp 27) _ rfl w1.heap.size 84 _ 2 32 Try.underlying40 info_e rfl (by omega) _ (0 + i) _ rfl (ho3.alloc _) (some ⟨w3.heap.size, 0, none⟩) 1 1 [.slice B k d, .int .u64 (v : Int)] rfl w1 (below_alloc HB3.out (Nat.le_refl _) _) (Nat.le_refl _) (Rw.new1 w3 84 #[.slice B k d, .int .u64 (v : Int)] (sz := 2) rfl) ?h2 (by have := HL.out; unfold maxLen; omega) (by have := HL.out; omega) ?_
       case h2 => exact one_ents [⟨B, k, d, p, v⟩]
       intro v4 w4 ho4 hb4 _
       have HB4 := hide hb4
       have HC4 := hide (HCU.out.below hb4)
       clear hb4 ho3)
    | (at_builtin
       refine app_b _ rfl (.tmp 29) (.tmp 32) _ rfl w1.heap.size 84 _ 2 32 Try.underlying40 info_e rfl (by omega) _ (0 + i + 1) _ rfl ho4 (cutA A1 c1 2 i) (n1 - i) (c1 - i) ((dr.drop i).flatMap entv) rfl w1 HB4.out (Nat.le_refl _) HC4.out ?h2 (by have := HL.out; unfold maxLen; omega) (by have := HL.out; omega) ?_
       case h2 => exact one_ents _
       intro v5 w5 ho5 hb5 _
       obtain ⟨A5, c5, rfl, hn5, hR5⟩ := Rw.of_own ho5
       simp only [Nat.zero_add] at hn5 hR5
       have HB5 := hide hb5
       have hR := hide hR5
       clear ho5 hb5 hR5 ho4)
    | fail)
  go_ret
  obtain ⟨hlt, hl, hn⟩ := HL.out
  have hbt := below_then hb1 HB5.out
  refine ⟨A5, i + 1 + (n1 - i), c5, rfl, ⟨?_, fun r hr => ?_⟩, hn5, by have := HNI.out; omega, hbt⟩
  · rw [HPUT.out, List.flatMap_append, List.flatMap_append]
    have := hR.out
    rw [List.nil_append] at this
    simpa [entv] using this
  · rw [HPUT.out] at hr
    rcases List.mem_append.1 hr with hr | hr
    · rcases List.mem_append.1 hr with hr | hr
      · exact (HE1.out.2 r (List.mem_of_mem_take hr)).below HB5.out
      · rw [List.mem_singleton] at hr
        subst hr
        exact ⟨HP.out.below hbt, HV.out.1, HV.out.2.1, HV.out.2.2⟩
    · exact (HE1.out.2 r (List.mem_of_mem_drop hr)).below HB5.out
end
section
open Go.RowKit
/-- Sorted rows of k coordinates. -/
def SortR (k : Nat) (rows : List ER) : Prop := (∀ r ∈ rows, Zp k r.p) ∧ rows.Pairwise fun a b => Zlt a.p b.p
theorem SortR.nil (k : Nat) : SortR k [] := ⟨fun r h => by (cases h), List.Pairwise.nil⟩
theorem cmp_ge {k : Nat} {p q : List Nat} (hp : Zp k p) (hq : Zp k q) : 0 ≤ cmp p q ↔ p = q ∨ Zlt q p := by
  rcases cmp_cases p q with h | h | h
  · rw [h]
    constructor
    · intro h'; omega
    · rintro (h' | h')
      · rw [(cmp_eq hp hq).2 h'] at h; omega
      · rw [(cmp_gt hp hq).2 h'] at h; omega
  · exact ⟨fun _ => .inl ((cmp_eq hp hq).1 h), fun _ => by omega⟩
  · exact ⟨fun _ => .inr ((cmp_gt hp hq).1 h), fun _ => by omega⟩
theorem cmp_neg {k : Nat} {p q : List Nat} (hp : Zp k p) (hq : Zp k q) (h : ¬ 0 ≤ cmp p q) : Zlt p q := by
  rcases cmp_cases p q with h' | h' | h'
  · exact (cmp_lt hp hq).1 h'
  · omega
  · omega
theorem pl_take {k : Nat} {rows : List ER} {p : List Nat} (hS : SortR k rows) (hp : Zp k p) : ∀ r ∈ rows.take (plR rows p), Zlt r.p p := by
  intro r hr
  obtain ⟨i, hi⟩ := List.getElem?_of_mem hr
  have hil := (List.getElem?_eq_some_iff.1 hi).1
  have hiv := (List.getElem?_eq_some_iff.1 hi).2
  rw [List.length_take] at hil
  have hlt : i < plR rows p := by omega
  have := List.not_of_lt_findIdx (p := notAhead p) (xs := rows) hlt
  rw [List.getElem_take] at hiv
  rw [hiv] at this
  unfold notAhead at this
  exact cmp_neg (hS.1 r (List.mem_of_mem_take hr)) hp (by simpa using this)
theorem pl_at {k : Nat} {rows : List ER} {p : List Nat} (hS : SortR k rows) (hp : Zp k p) {r : ER} (h : rows[plR rows p]? = some r) : r.p = p ∨ Zlt p r.p := by
  have hl := (List.getElem?_eq_some_iff.1 h).1
  have hv := (List.getElem?_eq_some_iff.1 h).2
  have := List.findIdx_getElem (p := notAhead p) (xs := rows) (w := hl)
  have hv' : rows[List.findIdx (notAhead p) rows]'hl = r := hv
  rw [hv'] at this
  unfold notAhead at this
  exact (cmp_ge (hS.1 r (List.mem_of_getElem? h)) hp).1 (by simpa using this)
theorem pl_drop {k : Nat} {rows : List ER} {p : List Nat} (hS : SortR k rows) (hp : Zp k p) : ∀ r ∈ rows.drop (plR rows p + 1), Zlt p r.p := by
  intro r hr
  rcases Nat.lt_or_ge (plR rows p) rows.length with hl | hl
  · have h0 : rows[plR rows p]? = some rows[plR rows p] := List.getElem?_eq_getElem hl
    have hd : rows.drop (plR rows p) = rows[plR rows p] :: rows.drop (plR rows p + 1) := List.drop_eq_getElem_cons hl
    have hpw : (rows.drop (plR rows p)).Pairwise fun a b => Zlt a.p b.p := hS.2.sublist (List.drop_sublist _ _)
    rw [hd] at hpw
    have h1 := (List.pairwise_cons.1 hpw).1 r hr
    rcases pl_at hS hp h0 with h2 | h2
    · rw [← h2]; exact h1
    · exact zlt_trans h2 h1
  · rw [List.drop_of_length_le (by omega)] at hr
    cases hr
theorem has_spec {k : Nat} {rows : List ER} {p : List Nat} (hS : SortR k rows) (hp : Zp k p) : (hasR rows p = true ↔ ∃ r, rows[plR rows p]? = some r ∧ r.p = p) ∧ (hasR rows p = true ↔ ∃ r ∈ rows, r.p = p) := by
  have h1 : hasR rows p = true ↔ ∃ r, rows[plR rows p]? = some r ∧ r.p = p := by
    unfold hasR
    cases h : rows[plR rows p]? with
    | none => simp
    | some r =>
      simp only [decide_eq_true_eq, Option.some.injEq, exists_eq_left']
      exact cmp_eq (hS.1 r (List.mem_of_getElem? h)) hp
  refine ⟨h1, h1.trans ⟨fun ⟨r, hr, he⟩ => ⟨r, List.mem_of_getElem? hr, he⟩, fun ⟨r, hr, he⟩ => ?_⟩⟩
  rw [← List.take_append_drop (plR rows p) rows] at hr
  rcases List.mem_append.1 hr with hr | hr
  · have := pl_take hS hp r hr
    rw [he] at this
    exact absurd this (zlt_irrefl p)
  · rcases Nat.lt_or_ge (plR rows p) rows.length with hl | hl
    · rw [List.drop_eq_getElem_cons hl] at hr
      rcases List.mem_cons.1 hr with hr | hr
      · exact ⟨r, by rw [hr]; exact List.getElem?_eq_getElem hl, he⟩
      · have := pl_drop hS hp r hr
        rw [he] at this
        exact absurd this (zlt_irrefl p)
    · rw [List.drop_of_length_le hl] at hr
      cases hr
theorem del_spec {k : Nat} {rows : List ER} {p : List Nat} (hS : SortR k rows) (hp : Zp k p) : SortR k (delR rows p) ∧ ∀ r, r ∈ delR rows p ↔ r ∈ rows ∧ r.p ≠ p := by
  obtain ⟨h1, h2⟩ := has_spec hS hp
  unfold delR
  cases hh : hasR rows p with
  | false =>
    rw [if_neg (by simp)]
    refine ⟨hS, fun r => ⟨fun hr => ⟨hr, fun he => ?_⟩, fun hr => hr.1⟩⟩
    have := h2.2 ⟨r, hr, he⟩
    rw [hh] at this
    cases this
  | true =>
    rw [if_pos rfl]
    obtain ⟨r0, hr0, he0⟩ := h1.1 hh
    have hl := (List.getElem?_eq_some_iff.1 hr0).1
    have hv := (List.getElem?_eq_some_iff.1 hr0).2
    have hsplit : rows = rows.take (plR rows p) ++ (r0 :: rows.drop (plR rows p + 1)) := by
      conv => lhs; rw [← List.take_append_drop (plR rows p) rows, List.drop_eq_getElem_cons hl, hv]
    have hT := pl_take hS hp
    have hD := pl_drop hS hp
    have hmem : ∀ r, r ∈ rows ↔ r ∈ rows.take (plR rows p) ∨ r = r0 ∨ r ∈ rows.drop (plR rows p + 1) := fun r => by
      conv => lhs; rw [hsplit]
      rw [List.mem_append, List.mem_cons]
    refine ⟨⟨fun r hr => ?_, ?_⟩, fun r => ?_⟩
    · rcases List.mem_append.1 hr with hr | hr
      · exact hS.1 r (List.mem_of_mem_take hr)
      · exact hS.1 r (List.mem_of_mem_drop hr)
    · rw [List.pairwise_append]
      refine ⟨hS.2.sublist (List.take_sublist _ _), hS.2.sublist (List.drop_sublist _ _), fun a ha b hb => zlt_trans (hT a ha) (hD b hb)⟩
    · rw [hmem, List.mem_append]
      constructor
      · rintro (h | h)
        · exact ⟨.inl h, fun he => zlt_irrefl p (by have := hT r h; rwa [he] at this)⟩
        · exact ⟨.inr (.inr h), fun he => zlt_irrefl p (by have := hD r h; rwa [he] at this)⟩
      · rintro ⟨h | h | h, hne⟩
        · exact .inl h
        · rw [h] at hne; exact absurd he0 hne
        · exact .inr h
theorem put_spec {k : Nat} {rows : List ER} {q : ER} (hS : SortR k rows) (hq : Zp k q.p) : SortR k (putR rows q) ∧ ∀ r, r ∈ putR rows q ↔ r = q ∨ (r ∈ rows ∧ r.p ≠ q.p) := by
  obtain ⟨hS1, hm⟩ := del_spec hS hq
  have hT := pl_take hS1 hq
  have hD : ∀ r ∈ (delR rows q.p).drop (plR (delR rows q.p) q.p), Zlt q.p r.p := by
    intro r hr
    rcases Nat.lt_or_ge (plR (delR rows q.p) q.p) (delR rows q.p).length with hl | hl
    · rw [List.drop_eq_getElem_cons hl] at hr
      rcases List.mem_cons.1 hr with hr | hr
      · rcases pl_at hS1 hq (List.getElem?_eq_getElem hl) with h1 | h1
        · have := (hm _).1 (List.getElem_mem hl)
          exact absurd h1 this.2
        · rw [hr]; exact h1
      · exact pl_drop hS1 hq r hr
    · rw [List.drop_of_length_le hl] at hr
      cases hr
  unfold putR
  refine ⟨⟨fun r hr => ?_, ?_⟩, fun r => ?_⟩
  · rcases List.mem_append.1 hr with hr | hr
    · rcases List.mem_append.1 hr with hr | hr
      · exact hS1.1 r (List.mem_of_mem_take hr)
      · rw [List.mem_singleton] at hr
        rw [hr]; exact hq
    · exact hS1.1 r (List.mem_of_mem_drop hr)
  · rw [List.pairwise_append, List.pairwise_append]
    refine ⟨⟨hS1.2.sublist (List.take_sublist _ _), List.pairwise_singleton _ _, fun a ha b hb => ?_⟩, hS1.2.sublist (List.drop_sublist _ _), fun a ha b hb => ?_⟩
    · rw [List.mem_singleton] at hb
      rw [hb]; exact hT a ha
    · rcases List.mem_append.1 ha with ha | ha
      · exact zlt_trans (hT a ha) (hD b hb)
      · rw [List.mem_singleton] at ha
        rw [ha]; exact hD b hb
  · rw [List.mem_append, List.mem_append, List.mem_singleton, ← hm r]
    conv => rhs; rhs; rw [← List.take_append_drop (plR (delR rows q.p) q.p) (delR rows q.p)]
    rw [List.mem_append]
    constructor
    · rintro ((h | h) | h)
      · exact .inr (.inl h)
      · exact .inl h
      · exact .inr (.inr h)
    · rintro (h | h | h)
      · exact .inl (.inr h)
      · exact .inl (.inl h)
      · exact .inr h
theorem SortR.ents {k : Nat} {rows : List ER} (h : SortR k rows) : Zsorted (ents rows) := by
  unfold Zsorted Go.Proofs.Ytfoapkcgdkfggaa.ents
  rw [List.pairwise_map]
  exact h.2
end
section
open Go.RowKit
section
variable {α : Type}
end
end
end Go.Proofs.Ytfoapkcgdkfggaa
set_option linter.unusedSimpArgs false
set_option linter.unusedVariables false
namespace Go.Proofs.Ytfoapkcgdkfggaa
section
open Go.RowKit
theorem Fork.head {w : World} {k g lv : Nat} {pre : List Nat} {ks : List Kid} (h : Fork w k g lv pre ks) :
    ∃ A c gs, Pt w A k pre ∧ SlotsAt_n w gs k (kidTh ks) ∧ Blk w g 103 (nodeCells lv A k c 0 (some ⟨gs, 0, none⟩) (sumsOf (kidEs ks))) := by
  obtain ⟨A, c, gs, h1, h2, h3, h4, h5, h6, h7, h8, h9, h10, h11⟩ := h
  exact ⟨A, c, gs, h2, h10, h11⟩
end
section
open Go.RowKit
end
section
open Go.RowKit
theorem own_ne_blk {w : World} {base : Nat} {e t : TypeId} {sz n g : Nat} {v : Value} {xs : List Value} {cs : Array Value} (h : w.ownsRow base e sz v n xs) (hB : Blk w g t cs) (hne : e ≠ t) : v.ownBlock ≠ some g := by
  intro hv
  rcases h.2 with ⟨rfl, _⟩ | ⟨gr, cap, cur, rfl, hg, hh, r⟩
  · simp [Value.ownBlock] at hv
  · have : gr = g := by simpa [Value.ownBlock] using hv
    exact Blk.ne_ (t := e) hh hB hne this
/-- A block stays where a row of another type grows. -/
theorem Blk.grown {w w' : World} {base : Nat} {e t : TypeId} {sz n g : Nat} {v : Value} {xs : List Value} {cs : Array Value} (hB : Blk w g t cs) (h : w.ownsRow base e sz v n xs) (hne : e ≠ t) (hg : w.grownBy w' v.ownBlock) : Blk w' g t cs :=
  (hg.block g hB.lt (Ne.symm (own_ne_blk h hB hne))).trans hB
theorem own_grown {w w' : World} {base base' : Nat} {e e' : TypeId} {sz sz' n n' : Nat} {v v' : Value} {xs xs' : List Value} (h : w.ownsRow base e sz v n xs) (h' : w.ownsRow base' e' sz' v' n' xs') (hne : e' ≠ e) (hg : w.grownBy w' v'.ownBlock) : w'.ownsRow base e sz v n xs := by
  obtain ⟨h1, h2⟩ := h
  refine ⟨h1, ?_⟩
  rcases h2 with h2 | ⟨gr, cap, cur, hv, hgb, hh, r⟩
  · exact .inl h2
  · exact .inr ⟨gr, cap, cur, hv, hgb, Blk.grown (t := e) hh h' hne hg, r⟩
end
section
open Go.RowKit
end
section
open Go.RowKit
end
section
open Go.RowKit
/-- An entry's node, its point a row of its own. -/
def LeafAt (w : World) (k g : Nat) (p : List Nat) (v : Nat) : Prop := ∃ A c, Blk w g 103 (nodeCells (-1) A k c v none ⟨1, v, v, v⟩) ∧ w.ownsRow 0 36 1 (.slice A k c) k (u64s p) ∧ k ≤ c ∧ Zp k p ∧ v < 2 ^ 64
theorem LeafAt.node {w : World} {k g : Nat} {p : List Nat} {v : Nat} (h : LeafAt w k g p v) : NodeOf w k g (-1) p [(p, v)] := by
  obtain ⟨A, c, h1, h2, h3, h4, h5⟩ := h
  exact .leaf h5 ⟨h4.1, (own_rw h2).2, h4.2⟩ h3 h1
theorem LeafAt.stay {w w' : World} {k g : Nat} {p : List Nat} {v : Nat} (h : LeafAt w k g p v) (hb : Below w.heap.size w w') : LeafAt w' k g p v := by
  obtain ⟨A, c, h1, h2, h3, h4, h5⟩ := h
  exact ⟨A, c, h1.below hb, own_below h2 hb, h3, h4, h5⟩
theorem LeafAt.grown {w w' : World} {k g base sz n : Nat} {p : List Nat} {v : Nat} {u : Value} {xs : List Value} (h : LeafAt w k g p v) (ho : w.ownsRow base 51 sz u n xs) (hg : w.grownBy w' u.ownBlock) : LeafAt w' k g p v := by
  obtain ⟨A, c, h1, h2, h3, h4, h5⟩ := h
  exact ⟨A, c, h1.grown ho (by decide) hg, own_grown h2 ho (by decide) hg, h3, h4, h5⟩
theorem info_n : (Try.prog.info? 51).map (fun i => (i.zero, i.size, i.bytes)) = some (some (.pointer none), 1, 8) := by kernel_rfl
def ptrs (gs : List Nat) : List Value := gs.map fun g => Value.pointer (some ⟨g, 0, none⟩)
end
end Go.Proofs.Ytfoapkcgdkfggaa
set_option linter.unusedSimpArgs false
set_option linter.unusedVariables false
namespace Go.Proofs.Ytfoapkcgdkfggaa
open Go.RowKit
def kAt (ks : List Kid) (j : Nat) : Nat := match ks[j]? with | some q => q.at_ | none => 0
def kPt (ks : List Kid) (j : Nat) : Value := match ks[j]? with | some q => .pointer (some ⟨q.blk, 0, none⟩) | none => .pointer none
theorem kAt_some {ks : List Kid} {j : Nat} {q : Kid} (h : ks[j]? = some q) : kAt ks j = q.at_ := by unfold kAt; rw [h]
theorem kPt_some {ks : List Kid} {j : Nat} {q : Kid} (h : ks[j]? = some q) : kPt ks j = .pointer (some ⟨q.blk, 0, none⟩) := by unfold kPt; rw [h]
theorem kPt_none {ks : List Kid} {j : Nat} (h : ks.length ≤ j) : kPt ks j = .pointer none := by unfold kPt; rw [List.getElem?_eq_none h]
theorem kidTh_get (ks : List Kid) (j : Nat) : (kidTh ks)[j]? = (ks[j]?).map fun q => (q.at_, Value.pointer (some ⟨q.blk, 0, none⟩)) := by
  unfold kidTh
  rw [List.getElem?_map]
theorem kids_lt {ks : List Kid} (h : ks.Pairwise fun q r => q.at_ < r.at_) {i j : Nat} {q r : Kid} (hi : ks[i]? = some q) (hj : ks[j]? = some r) (hij : i < j) : q.at_ < r.at_ := by
  obtain ⟨h1, rfl⟩ := List.getElem?_eq_some_iff.1 hi
  obtain ⟨h2, rfl⟩ := List.getElem?_eq_some_iff.1 hj
  exact List.pairwise_iff_getElem.1 h i j h1 h2 hij
section
variable {w : World} {k g m : Nat} {pre : List Nat} {ks : List Kid}
theorem Fork.sorted (h : Fork w k g m pre ks) : ks.Pairwise fun q r => q.at_ < r.at_ := by
  obtain ⟨A, c, gs, h1, h2, h3, h4, h5, h6, h7, h8, h9, h10, h11⟩ := h
  exact h8
theorem Fork.two (h : Fork w k g m pre ks) : 2 ≤ ks.length := by
  obtain ⟨A, c, gs, h1, h2, h3, h4, h5, h6, h7, h8, h9, h10, h11⟩ := h
  exact h9
theorem Fork.kid (h : Fork w k g m pre ks) : ∀ q ∈ ks, NodeOf w k q.blk q.lv q.pre q.es ∧ q.lv < m ∧ addrOf q.pre m = q.at_ ∧ (∀ b, m < b → addrOf q.pre b = addrOf pre b) ∧ q.at_ < 2 ^ k := by
  obtain ⟨A, c, gs, h1, h2, h3, h4, h5, h6, h7, h8, h9, h10, h11⟩ := h
  intro q hq
  refine ⟨h5 q hq, h6 q hq, (h7 q hq).1, (h7 q hq).2, ?_⟩
  rw [← (h7 q hq).1]
  exact addr_lt_pow (h5 q hq).info.1 m
theorem Fork.lv (h : Fork w k g m pre ks) : m < 64 := by
  obtain ⟨A, c, gs, h1, _⟩ := h
  exact h1
theorem pow_le_16 {k a : Nat} (h : a < 2 ^ k) (hk : k ≤ 16) : a < 65536 := Nat.lt_of_lt_of_le h (pow_len_le (k := k) (n := 16) hk)
theorem nd_from_j (h : Fork w k g m pre ks) (j : Nat) (addr : Int) (hl : ∀ (i : Nat) (q : Kid), ks[i]? = some q → i < j → (q.at_ : Int) < addr) (hr : ∀ q, ks[j]? = some q → addr ≤ (q.at_ : Int)) :
    Calls Try.prog 43 #[.pointer (some ⟨g, 0, none⟩), .int .i64 addr] w fun e w' => e = .returned (.tuple #[.int .i64 ((kAt ks j : Nat) : Int), kPt ks j]) ∧ Below w.heap.size w w' := by
  obtain ⟨A, c, gs, hp, hS, hB⟩ := h.head
  refine (nd_from hB hS addr).mono ?_
  rintro e w' ⟨⟨a, x, rfl, hh⟩, hb⟩
  refine ⟨?_, hb⟩
  have h1 : fromTh (kidTh ks) addr = (kidTh ks)[j]? := by
    refine th_from_at hS.ok ?_ ?_
    · intro i t ht hij
      rw [kidTh_get] at ht
      cases hq : ks[i]? with
      | none => rw [hq] at ht; cases ht
      | some q => rw [hq] at ht; cases ht; exact hl i q hq hij
    · intro t ht
      rw [kidTh_get] at ht
      cases hq : ks[j]? with
      | none => rw [hq] at ht; cases ht
      | some q => rw [hq] at ht; cases ht; exact hr q hq
  rw [h1, kidTh_get] at hh
  unfold kAt kPt
  cases hq : ks[j]? with
  | none =>
    rw [hq] at hh
    rcases hh with hh | ⟨-, rfl, rfl⟩
    · cases hh
    · rfl
  | some q =>
    rw [hq] at hh
    rcases hh with hh | ⟨hh, -, -⟩
    · injection hh with hh
      injection hh with e1 e2
      rw [← e1, ← e2]
    · cases hh
theorem nd_from_0 (h : Fork w k g m pre ks) :
    Calls Try.prog 43 #[.pointer (some ⟨g, 0, none⟩), .int .i64 0] w fun e w' => e = .returned (.tuple #[.int .i64 ((kAt ks 0 : Nat) : Int), kPt ks 0]) ∧ Below w.heap.size w w' :=
  nd_from_j h 0 0 (fun i q _ hi => absurd hi (by omega)) (fun q _ => by omega)
theorem nd_from_next (h : Fork w k g m pre ks) {j : Nat} {q : Kid} (hq : ks[j]? = some q) :
    Calls Try.prog 43 #[.pointer (some ⟨g, 0, none⟩), .int .i64 ((q.at_ : Int) + 1)] w fun e w' => e = .returned (.tuple #[.int .i64 ((kAt ks (j + 1) : Nat) : Int), kPt ks (j + 1)]) ∧ Below w.heap.size w w' := by
  refine nd_from_j h (j + 1) _ (fun i r hr hi => ?_) (fun r hr => ?_)
  · rcases Nat.lt_or_ge i j with h1 | h1
    · have := kids_lt h.sorted hr hq h1
      omega
    · obtain rfl : i = j := by omega
      rw [hq] at hr
      injection hr with hr
      subst hr
      omega
  · have := kids_lt h.sorted hq hr (by omega)
    omega
end
end Go.Proofs.Ytfoapkcgdkfggaa
set_option linter.unusedSimpArgs false
set_option linter.unusedVariables false
namespace Go.Proofs.Ytfoapkcgdkfggaa
open Go.RowKit
def Keep (t : TypeId) (w w' : World) : Prop := ∀ (b : Nat) (cs : Array Value) (fr : Nat × Nat), w.heap[b]? = some (Obj.cells cs t fr) → w'.heap[b]? = some (Obj.cells cs t fr)
section
variable {t : TypeId} {w w' w'' : World}
theorem heap_lt {w : World} {b : Nat} {o : Obj} (h : w.heap[b]? = some o) : b < w.heap.size := (Array.getElem?_eq_some_iff.1 h).1
theorem Keep.refl (t : TypeId) (w : World) : Keep t w w := fun _ _ _ h => h
theorem Keep.trans (h : Keep t w w') (h' : Keep t w' w'') : Keep t w w'' := fun b cs fr hb => h' b cs fr (h b cs fr hb)
theorem Keep.below (hb : Below w.heap.size w w') : Keep t w w' := fun b cs fr h => (hb.block b (heap_lt h)).trans h
theorem Keep.set {g i : Nat} {t' : TypeId} {cs : Array Value} (hB : Blk w g t' cs) (hne : t ≠ t') (u : Value) : Keep t w (w.setCell ⟨g, i, none⟩ u) := by
  intro b cs' fr h
  refine (Below.heap_setCell w ⟨g, i, none⟩ u b ?_).trans h
  rintro rfl
  unfold Blk at hB
  rw [hB] at h
  injection h with h
  injection h with _ h
  exact hne h.symm
theorem Keep.grown {base n sz : Nat} {t' : TypeId} {v : Value} {xs : List Value} (ho : w.ownsRow base t' sz v n xs) (hne : t ≠ t') (hg : w.grownBy w' v.ownBlock) : Keep t w w' := by
  intro b cs fr h
  refine (hg.block b (heap_lt h) ?_).trans h
  intro hv
  rcases ho.2 with ⟨rfl, _⟩ | ⟨g, cap, cur, rfl, hg, hh, _⟩
  · simp [Value.ownBlock] at hv
  · have hgb : b = g := by simpa [Value.ownBlock] using hv
    subst hgb
    rw [hh] at h
    injection h with h
    injection h with _ h
    exact hne h.symm
theorem Blk.keep {g : Nat} {cs : Array Value} (h : Blk w g t cs) (hk : Keep t w w') : Blk w' g t cs := hk g cs (0, 0) h
theorem TyRow.keep {A : Option Addr} {n : Nat} (h : TyRow w t A n) (hk : Keep t w w') : TyRow w' t A n := by
  intro hn
  obtain ⟨b, o, cs, fr, h1, h2⟩ := h hn
  exact ⟨b, o, cs, fr, h1, hk b cs fr h2⟩
theorem Rw.keep {sz n : Nat} {A : Option Addr} {vs : List Value} (h : Rw w sz A n vs) (ht : TyRow w t A n) (hk : Keep t w w') : Rw w' sz A n vs := by
  refine ⟨h.1, fun hn => ?_⟩
  obtain ⟨b, o, h1, hl, hc⟩ := h.2 hn
  obtain ⟨b', o', cs, fr, h1', h2⟩ := ht hn
  rw [h1] at h1'
  injection h1' with h1'
  injection h1' with h3 h4
  subst h3 h4
  have h5 := hk b cs fr h2
  refine ⟨b, o, h1, heap_lt h5, fun j u hu => ?_⟩
  rw [World.cell?_of_block (w := w) (a := ⟨b, o + j, none⟩) (h5.trans h2.symm)]
  exact hc j u hu
end
/-- An entry whose point lies in a block of numbers. -/
def ER.okT (w : World) (r : ER) : Prop := r.ok w ∧ TyRow w 36 r.A r.n
section
variable {w w' : World} {r : ER}
theorem ER.okT.keep (h : r.okT w) (hk : Keep 36 w w') : r.okT w' := ⟨⟨⟨h.1.1.1, h.1.1.2.1.keep h.2 hk, h.1.1.2.2⟩, h.1.2⟩, h.2.keep hk⟩
theorem ER.okT.below (h : r.okT w) (hb : Below w.heap.size w w') : r.okT w' := h.keep (Keep.below hb)
theorem ER.okT.of_own {base n : Nat} {A : Option Addr} {c v : Nat} {p : List Nat} (h : w.ownsRow base 36 1 (.slice A n c) n (u64s p)) (hp : Zp n p) (hv : v < 2 ^ 64) : ER.okT w ⟨A, n, c, p, v⟩ := by
  obtain ⟨A', c', e, hc, hR⟩ := Rw.of_own h
  injection e with e1 e2 e3
  subst e1 e3
  refine ⟨⟨⟨hp.1, hR, hp.2⟩, hc, ?_, hv⟩, own_ty h⟩
  rcases h.2 with ⟨h1, -⟩ | ⟨g, cap, cur, h1, _, _, _, hm, _⟩
  · injection h1 with _ _ h3
    show c ≤ maxLen
    rw [h3]
    exact Nat.zero_le _
  · injection h1 with _ _ h3
    show c ≤ maxLen
    rw [h3]
    exact hm
theorem ER.okT.nil (w : World) : ER.okT w ⟨none, 0, 0, [], 0⟩ := ⟨⟨pt_nil w, Nat.le_refl _, Nat.zero_le _, by decide⟩, fun h => absurd h (by decide)⟩
end
/-- A list that grows behind a captured variable. -/
def Col {α : Type} (tv te : TypeId) (sz : Nat) (f : α → List Value) (B : Nat) (w : World) (bo : Nat) (rows : List α) : Prop :=
  B ≤ bo ∧ ∃ v, Blk w bo tv #[v] ∧ w.ownsRow B te sz v rows.length (rows.flatMap f)
theorem Col.below {α : Type} {tv te : TypeId} {sz : Nat} {f : α → List Value} {B : Nat} {w w' : World} {bo : Nat} {rows : List α} (h : Col tv te sz f B w bo rows) (hb : Below w.heap.size w w') : Col tv te sz f B w' bo rows := by
  obtain ⟨h1, v, h2, h3⟩ := h
  exact ⟨h1, v, h2.below hb, own_below h3 hb⟩
/-- What the captured variable holds. -/
theorem Col.cell {α : Type} {tv te : TypeId} {sz : Nat} {f : α → List Value} {B : Nat} {w : World} {bo : Nat} {rows : List α} (h : Col tv te sz f B w bo rows) :
    ∃ A c, w.cell? ⟨bo, 0, none⟩ = some (.slice A rows.length c) ∧ w.frozen? ⟨bo, 0, none⟩ = false ∧ bo < w.heap.size ∧ Blk w bo tv #[.slice A rows.length c] ∧ w.ownsRow B te sz (.slice A rows.length c) rows.length (rows.flatMap f) := by
  obtain ⟨h1, v, h2, h3⟩ := h
  obtain ⟨A, c, rfl, -, -⟩ := Rw.of_own h3
  exact ⟨A, c, h2.cell 0, h2.frozen 0, h2.lt, h2, h3⟩
end Go.Proofs.Ytfoapkcgdkfggaa
set_option linter.unusedSimpArgs false
set_option linter.unusedVariables false
namespace Go.Proofs.Ytfoapkcgdkfggaa
open Go.RowKit
/-- All is as it was but one block. -/
structure Ex (c : Nat) (w w' : World) : Prop where
  os : w'.os = w.os
  tape : w'.tape = w.tape
  output : w'.output = w.output
  size : w.heap.size ≤ w'.heap.size
  block : ∀ k, k < w.heap.size → k ≠ c → w'.heap[k]? = w.heap[k]?
section
variable {c : Nat} {w a a' : World}
theorem Ex.refl (c : Nat) (w : World) : Ex c w w := ⟨rfl, rfl, rfl, Nat.le_refl _, fun _ _ _ => rfl⟩
theorem Ex.below (h : Ex c w a) (hb : Below a.heap.size a a') : Ex c w a' :=
  ⟨hb.os.trans h.os, hb.tape.trans h.tape, hb.output.trans h.output, Nat.le_trans h.size hb.size, fun k hk hne => (hb.block k (Nat.lt_of_lt_of_le hk h.size)).trans (h.block k hk hne)⟩
theorem Ex.alloc (h : Ex c w a) (o : Obj) : Ex c w (a.alloc o) := h.below ((Below.refl _ _).alloc (Nat.le_refl _) o)
theorem Ex.drew (h : Ex c w a) : Ex c w a.drew := h.below (Below.refl _ _).drew
theorem Ex.set (h : Ex c w a) (i : Nat) (u : Value) : Ex c w (a.setCell ⟨c, i, none⟩ u) := by
  have hs := (Below.refl 0 a).setCell (p := ⟨c, i, none⟩) (Nat.zero_le _) u
  exact ⟨hs.os.trans h.os, hs.tape.trans h.tape, hs.output.trans h.output, Nat.le_trans h.size hs.size, fun k hk hne => (Below.heap_setCell a ⟨c, i, none⟩ u k hne).trans (h.block k hk hne)⟩
theorem Ex.trans (h : Ex c w a) (k : Ex c a a') : Ex c w a' :=
  ⟨k.os.trans h.os, k.tape.trans h.tape, k.output.trans h.output, Nat.le_trans h.size k.size, fun j hj hne => (k.block j (Nat.lt_of_lt_of_le hj h.size) hne).trans (h.block j hj hne)⟩
theorem Ex.to_below {B : Nat} (h : Ex c w a) (hc : B ≤ c) (hB : B ≤ w.heap.size) : Below B w a :=
  ⟨h.os, h.tape, h.output, h.size, fun k hk => h.block k (Nat.lt_of_lt_of_le hk hB) (by omega)⟩
theorem Ex.keep {t tc : TypeId} {cs : Array Value} (h : Ex c w a) (hB : Blk w c tc cs) (hne : t ≠ tc) : Keep t w a := by
  intro b cs' fr hb
  refine (h.block b (heap_lt hb) ?_).trans hb
  rintro rfl
  unfold Blk at hB
  rw [hB] at hb
  injection hb with hb
  injection hb with _ hb
  exact hne hb.symm
theorem Ex.blk {t : TypeId} {g : Nat} {cs : Array Value} (h : Ex c w a) (hB : Blk w g t cs) (hne : g ≠ c) : Blk a g t cs := (h.block g hB.lt hne).trans hB
end
end Go.Proofs.Ytfoapkcgdkfggaa
set_option linter.unusedSimpArgs false
set_option linter.unusedVariables false
namespace Go.Proofs.Ytfoapkcgdkfggaa
open Go.RowKit
open Go.ChangeMaps (setBlock)
abbrev ptrN (g : Nat) : Value := .pointer (some ⟨g, 0, none⟩)
theorem ptrN_inj {a b : Nat} (h : ptrN a = ptrN b) : a = b := by
  injection h with h
  injection h with h
  injection h
theorem ty_heap : Try.prog.underlying 61 = some (.map 51 4) := by kernel_rfl
theorem eq_node {w : World} {a b : Nat} {ca cb : Array Value} (ha : Blk w a 103 ca) (hb : Blk w b 103 cb) : (Op.equal 51 (ptrN a) (ptrN b)).run Try.prog w = .ok (decide (a = b)) w := by
  have key : ∀ c : Bool, (binOp .eql 51 (ptrN a) (ptrN b)).run Try.prog w = .ok (.bool c) w → (Op.equal 51 (ptrN a) (ptrN b)).run Try.prog w = .ok c w := by
    intro c h
    simp only [binOp, Sem.run_bind] at h
    rcases hr : (Op.equal 51 (ptrN a) (ptrN b)).run Try.prog w with ⟨v, w'⟩ | _ | _
    all_goals rw [hr] at h
    all_goals simp [Result.andThen] at h
    obtain ⟨h1, h2⟩ := h
    rw [h1, h2]
  by_cases hab : a = b
  · subst hab
    rw [decide_eq_true rfl]
    exact key _ (ptr_same _ _)
  · rw [decide_eq_false hab]
    exact key _ (ptr_other hab ha hb)
/-- The nodes that a map holds, each as true. -/
structure MapEs (w : World) (es : Array MapEntry) (clock : Nat) (S : List Nat) : Prop where
  keys : es.toList.map (·.key) = S.map ptrN
  vals : ∀ e ∈ es.toList, e.val = .bool true
  born : (es.toList.map (·.born)).Nodup
  old : ∀ e ∈ es.toList, e.born < clock
  nodup : S.Nodup
  node : ∀ g ∈ S, ∃ cs, Blk w g 103 cs
def MapAt (w : World) (b : Nat) (S : List Nat) : Prop := ∃ es clock, w.heap[b]? = some (.map es clock) ∧ MapEs w es clock S
/-- A block without cells: a map's, an iterator's. -/
def IsMap (w : World) (b : Nat) : Prop := ∀ cs t fr, w.heap[b]? ≠ some (.cells cs t fr)
theorem IsMap.of_map {w : World} {b : Nat} {es : Array MapEntry} {clock : Nat} (h : w.heap[b]? = some (.map es clock)) : IsMap w b := by
  intro cs t fr h'
  rw [h] at h'
  cases h'
theorem IsMap.of_iter {w : World} {b : Nat} {m : Option Nat} {s c : Nat} {seen : Array Nat} (h : w.heap[b]? = some (.mapIter m s seen c)) : IsMap w b := by
  intro cs t fr h'
  rw [h] at h'
  cases h'
section
variable {w w' : World} {b r : Nat} {S left : List Nat} {es : Array MapEntry} {clock : Nat}
theorem MapAt.isMap (h : MapAt w b S) : IsMap w b := by
  obtain ⟨es, clock, h, -⟩ := h
  exact IsMap.of_map h
theorem MapAt.lt (h : MapAt w b S) : b < w.heap.size := by
  obtain ⟨es, clock, h, -⟩ := h
  exact heap_lt h
theorem MapEs.world (h : MapEs w es clock S) (hw : ∀ g ∈ S, ∀ cs, Blk w g 103 cs → Blk w' g 103 cs) : MapEs w' es clock S :=
  ⟨h.keys, h.vals, h.born, h.old, h.nodup, fun g hg => (h.node g hg).imp fun cs hc => hw g hg cs hc⟩
theorem MapAt.below (h : MapAt w b S) (hb : Below w.heap.size w w') : MapAt w' b S := by
  obtain ⟨es, clock, h1, h2⟩ := h
  exact ⟨es, clock, (hb.block b (heap_lt h1)).trans h1, h2.world fun g _ cs hc => hc.below hb⟩
/-- Another map's block is changed. -/
theorem MapAt.exO {c : Nat} (h : MapAt w b S) (hx : Ex c w w') (hne : b ≠ c) (hc : IsMap w c) : MapAt w' b S := by
  obtain ⟨es, clock, h1, h2⟩ := h
  refine ⟨es, clock, (hx.block b (heap_lt h1) hne).trans h1, h2.world fun g _ cs hB => hx.blk hB ?_⟩
  rintro rfl
  exact hc _ _ _ hB
theorem blk_exM {c g : Nat} {t : TypeId} {cs : Array Value} (h : Blk w g t cs) (hx : Ex c w w') (hc : IsMap w c) : Blk w' g t cs := by
  refine hx.blk h ?_
  rintro rfl
  exact hc _ _ _ h
theorem find_node (hn : ∀ e ∈ es.toList, ∃ y cs, e.key = ptrN y ∧ Blk w y 103 cs) {x : Nat} {cx : Array Value} (hx : Blk w x 103 cx) : ∀ (l : List MapEntry) (i : Nat), (∀ e ∈ l, ∃ y cs, e.key = ptrN y ∧ Blk w y 103 cs) →
    ((Instr.findAsking 51 (ptrN x) l i).run Try.prog w = .ok none w ∧ ∀ e ∈ l, e.key ≠ ptrN x) ∨ ∃ j e, (Instr.findAsking 51 (ptrN x) l i).run Try.prog w = .ok (some (i + j, e.val)) w ∧ l[j]? = some e ∧ e.key = ptrN x
  | [], i, _ => .inl ⟨rfl, fun e h => by cases h⟩
  | e :: l, i, h => by
    obtain ⟨y, cs, he, hB⟩ := h e (List.mem_cons_self ..)
    have heq := eq_node hx hB
    unfold Instr.findAsking
    simp only [Sem.run_bind, he, heq, Result.andThen]
    by_cases hxy : x = y
    · right
      refine ⟨0, e, ?_, rfl, by rw [he, hxy]⟩
      simp [hxy]
    · rcases find_node hn hx l (i + 1) (fun e he => h e (List.mem_cons_of_mem _ he)) with ⟨h1, h2⟩ | ⟨j, e', h1, h2, h3⟩
      · left
        refine ⟨by simpa [hxy] using h1, fun e' he' => ?_⟩
        rcases List.mem_cons.1 he' with rfl | he'
        · rw [he]
          intro h0
          exact hxy (ptrN_inj h0).symm
        · exact h2 e' he'
      · right
        refine ⟨j + 1, e', ?_, by simpa using h2, h3⟩
        simpa [hxy, Nat.add_comm, Nat.add_left_comm] using h1
theorem MapEs.ent (h : MapEs w es clock S) {e : MapEntry} (he : e ∈ es.toList) : ∃ y ∈ S, e.key = ptrN y := by
  have : e.key ∈ S.map ptrN := by
    rw [← h.keys]
    exact List.mem_map.2 ⟨e, he, rfl⟩
  obtain ⟨y, h1, h2⟩ := List.mem_map.1 this
  exact ⟨y, h1, h2.symm⟩
theorem find_key (h : MapEs w es clock S) {x : Nat} {cx : Array Value} (hx : Blk w x 103 cx) :
    ((Instr.findKey 51 (ptrN x) es.toList).run Try.prog w = .ok none w ∧ x ∉ S) ∨ ∃ j e, (Instr.findKey 51 (ptrN x) es.toList).run Try.prog w = .ok (some (j, e.val)) w ∧ es.toList[j]? = some e ∧ e.key = ptrN x ∧ x ∈ S := by
  have hn : ∀ e ∈ es.toList, ∃ y cs, e.key = ptrN y ∧ Blk w y 103 cs := fun e he => by
    obtain ⟨y, h1, h2⟩ := h.ent he
    obtain ⟨cs, hc⟩ := h.node y h1
    exact ⟨y, cs, h2, hc⟩
  have hu : Try.prog.underlying 51 = some (.pointer 103) := Try.underlying51
  have hfk : (Instr.findKey 51 (ptrN x) es.toList).run Try.prog w = (Instr.findAsking 51 (ptrN x) es.toList 0).run Try.prog w := by
    unfold Instr.findKey
    simp only [Sem.run_bind, run_underlying hu, Result.andThen]
    rcases hl : es.toList with _ | ⟨e, l⟩
    · rfl
    · rfl
  rw [hfk]
  rcases find_node hn hx es.toList 0 hn with ⟨h1, h2⟩ | ⟨j, e, h1, h2, h3⟩
  · refine .inl ⟨h1, fun hxS => ?_⟩
    have : ptrN x ∈ es.toList.map (·.key) := by
      rw [h.keys]
      exact List.mem_map.2 ⟨x, hxS, rfl⟩
    obtain ⟨e, he, he2⟩ := List.mem_map.1 this
    exact h2 e he he2
  · refine .inr ⟨j, e, by simpa using h1, h2, h3, ?_⟩
    obtain ⟨y, h4, h5⟩ := h.ent (List.mem_of_getElem? h2)
    rw [h3] at h5
    rwa [ptrN_inj h5]
theorem check_node (w : World) (x : Nat) (e : Bool) : (Instr.checkKey e 10000 51 (ptrN x)).run Try.prog w = .ok () w := by
  have hu : Try.prog.underlying 51 = some (.pointer 103) := Try.underlying51
  unfold Instr.checkKey
  simp only [Sem.run_bind, run_underlying hu, Result.andThen]
  rfl
theorem Ex.setBlock {c : Nat} {w : World} (o : Obj) : Ex c w (Go.ChangeMaps.setBlock w c o) := by
  refine ⟨rfl, rfl, rfl, by simp [Go.ChangeMaps.setBlock], fun k hk hne => ?_⟩
  simp only [Go.ChangeMaps.setBlock]
  rw [Array.getElem?_setIfInBounds_ne (Ne.symm hne)]
theorem blk_setBlock {g c : Nat} {t : TypeId} {cs : Array Value} {o : Obj} (h : Blk w g t cs) (hc : IsMap w c) : Blk (Go.ChangeMaps.setBlock w c o) g t cs := blk_exM h (Ex.setBlock o) hc
theorem heap_setBlock {c : Nat} {o : Obj} (h : c < w.heap.size) : (Go.ChangeMaps.setBlock w c o).heap[c]? = some o := by
  simp only [Go.ChangeMaps.setBlock]
  rw [Array.getElem?_setIfInBounds_self_of_lt h]
/-- One more, or none. -/
def addN (S : List Nat) (x : Nat) : List Nat := if x ∈ S then S else S ++ [x]
theorem mem_addN {S : List Nat} {x y : Nat} : y ∈ addN S x ↔ y ∈ S ∨ y = x := by
  unfold addN
  split
  · rename_i h
    exact ⟨.inl, fun h' => h'.elim id (fun e => e ▸ h)⟩
  · simp
theorem map_update (h : MapAt w b S) {x : Nat} {cx : Array Value} (hx : Blk w x 103 cx) :
    ∃ w', (Instr.mapUpdate 61 (.map (some b)) (ptrN x) (.bool true)).run Try.prog w = .ok () w' ∧ MapAt w' b (addN S x) ∧ Ex b w w' := by
  have hm := h.isMap
  obtain ⟨es, clock, hb, hE⟩ := h
  rcases find_key hE hx with ⟨h1, h2⟩ | ⟨j, e, h1, h2, h3, h4⟩
  · refine ⟨setBlock w b (.map (es.push ⟨ptrN x, .bool true, clock⟩) (clock + 1)), ?_, ?_, Ex.setBlock _⟩
    · simp [Instr.mapUpdate, run_underlying ty_heap, MapKept.run_getObj_map hb, check_node, h1, MapKept.run_setObj_map _ hb, Result.andThen, setBlock]
    · refine ⟨_, _, heap_setBlock (heap_lt hb), ?_⟩
      unfold addN
      rw [if_neg h2]
      refine ⟨by simp [hE.keys], fun e he => ?_, ?_, fun e he => ?_, ?_, fun g hg => ?_⟩
      · simp only [Array.toList_push, List.mem_append, List.mem_singleton] at he
        rcases he with he | rfl
        · exact hE.vals e he
        · rfl
      · simp only [Array.toList_push, List.map_append, List.map_cons, List.map_nil]
        refine List.nodup_append.2 ⟨hE.born, by simp, fun a ha c hc => ?_⟩
        obtain ⟨e, he, rfl⟩ := List.mem_map.1 ha
        simp at hc
        subst hc
        exact Nat.ne_of_lt (hE.old e he)
      · simp only [Array.toList_push, List.mem_append, List.mem_singleton] at he
        rcases he with he | rfl
        · exact Nat.lt_succ_of_lt (hE.old e he)
        · exact Nat.lt_succ_self _
      · refine List.nodup_append.2 ⟨hE.nodup, by simp, fun a ha c hc => ?_⟩
        simp at hc
        subst hc
        rintro rfl
        exact h2 ha
      · rcases List.mem_append.1 hg with hg | hg
        · obtain ⟨cs, hc⟩ := hE.node g hg
          exact ⟨cs, blk_setBlock hc hm⟩
        · rw [List.mem_singleton] at hg
          subst hg
          exact ⟨cx, blk_setBlock hx hm⟩
  · have hv : e.val = .bool true := hE.vals e (List.mem_of_getElem? h2)
    have hj : es[j]? = some e := by simpa using h2
    have hsame : es.modify j (fun e => { e with key := ptrN x, val := .bool true }) = es := by
      apply Array.ext_getElem?
      intro i
      rw [Array.getElem?_modify]
      split
      · rename_i hij
        subst hij
        rw [hj]
        simp [← h3, ← hv]
      · rfl
    refine ⟨setBlock w b (.map es clock), ?_, ?_, Ex.setBlock _⟩
    · have hk : (Instr.keyThatStays (ptrN x) (ptrN x)).run Try.prog w = .ok (ptrN x) w := by
        unfold Instr.keyThatStays
        simp [Instr.sameBits]
      simp [Instr.mapUpdate, run_underlying ty_heap, MapKept.run_getObj_map hb, check_node, h1, hj, h3, hk, MapKept.run_setObj_map _ hb, Result.andThen, setBlock, hsame]
    · refine ⟨_, _, heap_setBlock (heap_lt hb), ?_⟩
      unfold addN
      rw [if_pos h4]
      exact hE.world fun g _ cs hc => blk_setBlock hc hm
theorem map_lookup (h : MapAt w b S) {x : Nat} {cx : Array Value} (hx : Blk w x 103 cx) : (Instr.lookup 61 (.map (some b)) (ptrN x) false).run Try.prog w = .ok (.bool (decide (x ∈ S))) w := by
  obtain ⟨es, clock, hb, hE⟩ := h
  have hz : (zeroValue 4).run Try.prog w = .ok (.bool false) w := by kernel_rfl
  rcases find_key hE hx with ⟨h1, h2⟩ | ⟨j, e, h1, h2, h3, h4⟩
  · rw [decide_eq_false h2]
    simp [Instr.lookup, run_underlying ty_heap, MapKept.run_getObj_map hb, check_node, h1, hz, Result.andThen]
  · rw [decide_eq_true h4]
    have hv : e.val = .bool true := hE.vals e (List.mem_of_getElem? h2)
    simp [Instr.lookup, run_underlying ty_heap, MapKept.run_getObj_map hb, check_node, h1, hv, Result.andThen]
theorem map_len (h : MapAt w b S) (ty : TypeId) : (Builtin.len_ #[61] ty #[.map (some b)]).run Try.prog w = .ok (.int .i64 (S.length : Int)) w := by
  obtain ⟨es, clock, hb, hE⟩ := h
  have hl : es.size = S.length := by
    have := congrArg List.length hE.keys
    simpa using this
  simp [Builtin.len_, run_underlying ty_heap, MapKept.run_getObj_map hb, goInt, Result.andThen, hl]
theorem map_new (w : World) : MapAt (w.alloc (.map #[] 0)) w.heap.size [] := ⟨#[], 0, heap_alloc_new w _, ⟨rfl, fun e h => by simp at h, by simp, fun e h => by simp at h, by simp, fun g h => by cases h⟩⟩
theorem map_box {ops : Array Oper} {rest : List Oper} {o : Oper} {a : Act} {Q : Exit → Act → World → Prop} (hg : o.guard = none) (m x v : Operand) (hop : o.op = Op.mapUpdate 61 m x v) (b : Nat) (S : List Nat)
    (hm : a.eval m = .map (some b)) (hown : MapAt w b S) (g : Nat) (cx : Array Value) (hx : a.eval x = ptrN g) (hv : a.eval v = .bool true) (hB : Blk w g 103 cx)
    (hK : ∀ w', MapAt w' b (addN S g) → Ex b w w' → wpList Try.prog ops Q rest (a.put o.dst undef) w') : wpList Try.prog ops Q (o :: rest) a w := by
  refine wpList_plain hg fun K' hK' => ?_
  obtain ⟨w', hrun, r1, r2⟩ := map_update hown hB
  unfold Oper.wp
  simp [execOp, hop, hm, hx, hv, hrun, Result.andThen]
  exact hK' _ _ (hK w' r1 r2)
def unptr : Value → Nat | .pointer (some a) => a.block | _ => 0
theorem perm_out {e : MapEntry} : ∀ {l : List MapEntry}, e ∈ l → (l.map (·.born)).Nodup → l.Perm (e :: l.filter (fun x => !(x.born == e.born)))
  | [], h, _ => by cases h
  | x :: l, h, hn => by
    simp only [List.map_cons, List.nodup_cons] at hn
    by_cases hx : x.born = e.born
    · have hl : ∀ y ∈ l, ¬ y.born = e.born := fun y hy h0 => hn.1 (List.mem_map.2 ⟨y, hy, h0.trans hx.symm⟩)
      have he : e = x := by
        rcases List.mem_cons.1 h with h | h
        · exact h
        · exact absurd rfl (hl e h)
      subst he
      rw [List.filter_cons_of_neg (by simp), List.filter_eq_self.2 (fun y hy => by simpa using hl y hy)]
    · have he : e ∈ l := by
        rcases List.mem_cons.1 h with h | h
        · exact absurd (by rw [h]) hx
        · exact h
      rw [List.filter_cons_of_pos (by simpa using hx)]
      exact ((perm_out he hn.2).cons x).trans (List.Perm.swap ..)
/-- Going through a map: what is left. -/
def IterAt (w : World) (r b : Nat) (S left : List Nat) : Prop := ∃ es clock seen c0, w.heap[b]? = some (.map es clock) ∧ MapEs w es clock S ∧ w.heap[r]? = some (.mapIter (some b) clock seen c0) ∧ clock ≤ c0 ∧ (leftOf es seen).toList.map (·.key) = left.map ptrN
theorem map_go (h : MapAt w b S) : ∃ ob : Obj, (Instr.range 61 (.map (some b))).run Try.prog w = .ok (.pointer (some ⟨w.heap.size, 0, none⟩)) (w.alloc ob) ∧ IterAt (w.alloc ob) w.heap.size b S S := by
  obtain ⟨es, clock, hb, hE⟩ := h
  have hb0 := (Below.refl w.heap.size w).alloc (Nat.le_refl _) (.mapIter (some b) clock #[] clock)
  refine ⟨_, run_range_map w _ _ _ b es clock ty_heap hb, es, clock, #[], clock, (hb0.block b (heap_lt hb)).trans hb, hE.world fun g _ cs hc => hc.below hb0, heap_alloc_new _ _, Nat.le_refl _, ?_⟩
  rw [← hE.keys]
  congr 1
  simp [leftOf]
theorem IterAt.map (h : IterAt w r b S left) : MapAt w b S := by
  obtain ⟨es, clock, seen, c0, h1, h2, -⟩ := h
  exact ⟨es, clock, h1, h2⟩
theorem IterAt.left_eq (h : IterAt w r b S left) : w.rangeLeft b r = left.length := by
  obtain ⟨es, clock, seen, c0, h1, h2, h3, h4, h5⟩ := h
  unfold World.rangeLeft
  rw [h1, h3]
  have := congrArg List.length h5
  simpa using this
theorem IterAt.iter (h : IterAt w r b S left) : IsMap w r := by
  obtain ⟨es, clock, seen, c0, h1, h2, h3, -⟩ := h
  exact IsMap.of_iter h3
theorem IterAt.ne {r : Nat} {left : List Nat} (h : IterAt w r b S left) : r ≠ b := by
  obtain ⟨es, clock, seen, c0, h1, h2, h3, -⟩ := h
  rintro rfl
  rw [h1] at h3
  cases h3
theorem left_push (es : Array MapEntry) (seen : Array Nat) (n : Nat) : (leftOf es (seen.push n)).toList = (leftOf es seen).toList.filter (fun x => !(x.born == n)) := by
  unfold leftOf
  simp only [Array.toList_filter, List.filter_filter]
  refine List.filter_congr fun x _ => ?_
  rw [contains_push]
  cases seen.contains x.born <;> cases (x.born == n) <;> rfl
theorem IterAt.next {r : Nat} {left : List Nat} (h : IterAt w r b S left) (ty : TypeId) :
    (left = [] ∧ (Instr.next (.pointer (some ⟨r, 0, none⟩)) false ty).run Try.prog w = .ok (.tuple #[.bool false]) w) ∨
    ∃ g left' w', (Instr.next (.pointer (some ⟨r, 0, none⟩)) false ty).run Try.prog w = .ok (.tuple #[.bool true, ptrN g, .bool true]) w' ∧ left.Perm (g :: left') ∧ g ∈ S ∧ IterAt w' r b S left' ∧ (Instr.entry (.pointer (some ⟨r, 0, none⟩))).run Try.prog w' = .ok (.tuple #[ptrN g, .bool true]) w' ∧ Ex r w w' := by
  have hne := h.ne
  obtain ⟨es, clock, seen, c0, h1, h2, h3, h4, h5⟩ := h
  rcases run_next_at (P := Try.prog) w ty r b clock c0 seen es clock h3 h1 h2.old h4 with ⟨h6, h7⟩ | ⟨e, he, w1, hw1, hrun⟩
  · refine .inl ⟨?_, h7⟩
    have : (leftOf es seen).toList = [] := by
      rw [Array.eq_empty_of_size_eq_zero h6]
    rw [this] at h5
    simpa using h5.symm
  · have hme := (mem_left he).1
    obtain ⟨g, hgS, hg⟩ := h2.ent hme
    have hv := h2.vals e hme
    rw [hg, hv] at hrun
    have hx1 : Ex r w w1 := by
      rcases hw1 with rfl | rfl
      · exact Ex.refl _ _
      · exact (Ex.refl _ _).drew
    have hx := hx1.trans (Ex.setBlock (c := r) (w := w1) (.mapIter (some b) clock (seen.push e.born) clock))
    have hr1 : r < w1.heap.size := Nat.lt_of_lt_of_le (heap_lt h3) hx1.size
    have hb' := (hx.block b (heap_lt h1) (Ne.symm hne)).trans h1
    have hr' : (setBlock w1 r (.mapIter (some b) clock (seen.push e.born) clock)).heap[r]? = _ := heap_setBlock hr1
    have hE' : MapEs (setBlock w1 r (.mapIter (some b) clock (seen.push e.born) clock)) es clock S := h2.world fun q hq cs hc => by
      refine hx.blk hc ?_
      rintro rfl
      unfold Blk at hc
      rw [h3] at hc
      cases hc
    have hsub : ∀ x ∈ (leftOf es (seen.push e.born)).toList, ptrN (unptr x.key) = x.key := fun x hx => by
      obtain ⟨y, -, hy⟩ := h2.ent (mem_left hx).1
      rw [hy]
      rfl
    refine .inr ⟨g, (leftOf es (seen.push e.born)).toList.map (fun x => unptr x.key), _, hrun, ?_, hgS, ⟨es, clock, _, _, hb', hE', hr', Nat.le_refl _, ?_⟩, ?_, hx⟩
    · have hp := perm_out he (by
        have : (leftOf es seen).toList.Sublist es.toList := by
          unfold leftOf
          rw [Array.toList_filter]
          exact List.filter_sublist
        exact (this.map _).nodup h2.born)
      rw [← left_push] at hp
      have hq := hp.map (fun x => unptr x.key)
      have hl : (leftOf es seen).toList.map (fun x => unptr x.key) = left := by
        have := congrArg (List.map unptr) h5
        rw [List.map_map, List.map_map] at this
        have h0 : (unptr ∘ ptrN) = id := by
          funext x
          rfl
        rw [h0, List.map_id] at this
        exact this
      rw [hl, List.map_cons, hg] at hq
      exact hq
    · rw [List.map_map]
      exact (List.map_congr_left fun x hx => (hsub x hx).symm)
    · have := run_entry_at (P := Try.prog) _ r b clock seen es clock e hr' hb' hme h2.born
      rw [hg, hv] at this
      exact this
theorem iter_next {ops : Array Oper} {rest : List Oper} {o : Oper} {a : Act} {Q : Exit → Act → World → Prop} {r : Nat} {left : List Nat} (hg : o.guard = none) (it : Operand) (hop : o.op = Op.next it false) (b : Nat) (S : List Nat)
    (hit : a.eval it = .pointer (some ⟨r, 0, none⟩)) (h : IterAt w r b S left)
    (hDone : left = [] → wpList Try.prog ops Q rest (a.put o.dst (.tuple #[.bool false])) w)
    (hMore : ∀ g left' w', left.Perm (g :: left') → g ∈ S → IterAt w' r b S left' → (Instr.entry (.pointer (some ⟨r, 0, none⟩))).run Try.prog w' = .ok (.tuple #[ptrN g, .bool true]) w' → Ex r w w' → wpList Try.prog ops Q rest (a.put o.dst (.tuple #[.bool true, ptrN g, .bool true])) w') :
    wpList Try.prog ops Q (o :: rest) a w := by
  refine wpList_plain hg fun K' hK' => ?_
  unfold Oper.wp
  rcases h.next o.type with ⟨h0, hrun⟩ | ⟨g, left', w', hrun, hp, hgS, hI, hen, hx⟩
  · simp [execOp, hop, hit, hrun, Result.andThen]
    exact hK' _ _ (hDone h0)
  · simp [execOp, hop, hit, hrun, Result.andThen]
    exact hK' _ _ (hMore g left' w' hp hgS hI hen hx)
end
end Go.Proofs.Ytfoapkcgdkfggaa
set_option linter.unusedSimpArgs false
set_option linter.unusedVariables false
namespace Go.Proofs.Ytfoapkcgdkfggaa
open Go.RowKit
/-- A tree of k coordinates with a root. -/
def TreeBlk (w : World) (t k : Nat) (root : Option Addr) : Prop := Blk w t 79 #[.int .i64 (k : Int), .pointer root]
/-- A tree with these entries. -/
def TreeOf (w : World) (k t : Nat) (es : List Ent) : Prop :=
  1 ≤ k ∧ k ≤ 16 ∧ ((TreeBlk w t k none ∧ es = []) ∨ ∃ g lv pre, TreeBlk w t k (some ⟨g, 0, none⟩) ∧ NodeOf w k g lv pre es)
theorem TreeOf.stay {w w' : World} {k t : Nat} {es : List Ent} (h : TreeOf w k t es) (hb : Below w.heap.size w w') : TreeOf w' k t es := by
  obtain ⟨h1, h2, h3⟩ := h
  refine ⟨h1, h2, ?_⟩
  rcases h3 with ⟨h3, h4⟩ | ⟨g, lv, pre, h3, h4⟩
  · exact .inl ⟨Blk.below h3 hb, h4⟩
  · exact .inr ⟨g, lv, pre, Blk.below h3 hb, h4.stay hb⟩
set_option maxHeartbeats 1000000 in
set_option maxRecDepth 100000 in
theorem tr_k {w : World} {t k : Nat} {root : Option Addr} (h : TreeBlk w t k root) : Calls Try.prog 27 #[.pointer (some ⟨t, 0, none⟩)] w fun e w' => e = .returned (.int .i64 (k : Int)) ∧ w = w' := by
  have c0 := Blk.cell h 0
  simp at c0
  clear h
  go_enter Try.func27, Try.ntmps27
  go_wp2
  go_ret
  exact ⟨rfl, rfl⟩
set_option maxHeartbeats 1000000 in
set_option maxRecDepth 100000 in
theorem tr_root {w : World} {t k : Nat} {root : Option Addr} (h : TreeBlk w t k root) : Calls Try.prog 19 #[.pointer (some ⟨t, 0, none⟩)] w fun e w' => e = .returned (.pointer root) ∧ w = w' := by
  have c1 := Blk.cell h 1
  simp at c1
  clear h
  go_enter Try.func19, Try.ntmps19
  go_wp2
  go_ret
  exact ⟨rfl, rfl⟩
set_option maxHeartbeats 1000000 in
set_option maxRecDepth 100000 in
theorem tr_of_nil (k : Nat) (w : World) (h1 : 1 ≤ k) (h2 : k ≤ 16) : Calls Try.prog 24 #[.int .i64 (k : Int), .pointer none] w fun e w' => e = .returned (.tuple #[.pointer (some ⟨w.heap.size, 0, none⟩), .int .i64 0]) ∧ TreeBlk w' w.heap.size k none ∧ Below w.heap.size w w' := by
  have e1 : decide ((k : Int) < 1) = false := by simp; omega
  have e2 : decide ((16 : Int) < (k : Int)) = false := by simp; omega
  go_enter Try.func24, Try.ntmps24
  go_wp2
  go_ret2
  exact ⟨rfl, Blk.new w _ _, (Below.refl _ _).alloc (Nat.le_refl _) _⟩
set_option maxHeartbeats 1000000 in
set_option maxRecDepth 100000 in
theorem tr_new (k : Nat) (w : World) (h1 : 1 ≤ k) (h2 : k ≤ 16) : Calls Try.prog 7 #[.int .i64 (k : Int)] w fun e w' => e = .returned (.tuple #[.pointer (some ⟨w.heap.size, 0, none⟩), .int .i64 0]) ∧ TreeBlk w' w.heap.size k none ∧ Below w.heap.size w w' := by
  have HO := hide (tr_of_nil k w h1 h2)
  go_enter Try.func7, Try.ntmps7
  go_wp2_with fail
  refine HO.out.mono ?_
  rintro e w1 ⟨rfl, hB, hb⟩
  have HB := hide hB
  clear hB
  go_wp2
  go_ret2
  exact ⟨rfl, HB.out, hb⟩
set_option maxHeartbeats 1000000 in
set_option maxRecDepth 100000 in
theorem tr_check_dim {w : World} {t k : Nat} {root : Option Addr} (h : TreeBlk w t k root) (A : Option Addr) (n c : Nat) (hn : n ≠ k) : Calls Try.prog 32 #[.pointer (some ⟨t, 0, none⟩), .slice A n c] w fun e w' => e = .returned (.int .i64 2) ∧ w = w' := by
  have c0 := Blk.cell h 0
  simp at c0
  have e1 : ((n : Int) != (k : Int)) = true := by simp; omega
  clear h hn
  go_enter Try.func32, Try.ntmps32
  go_wp2
  go_ret
  exact ⟨rfl, rfl⟩
set_option maxHeartbeats 1000000 in
set_option maxRecDepth 100000 in
theorem tr_check {w : World} {t k : Nat} {root : Option Addr} (h : TreeBlk w t k root) (A : Option Addr) (c : Nat) : Calls Try.prog 32 #[.pointer (some ⟨t, 0, none⟩), .slice A k c] w fun e w' => e = .returned (.int .i64 0) ∧ w = w' := by
  have c0 := Blk.cell h 0
  simp at c0
  clear h
  go_enter Try.func32, Try.ntmps32
  go_wp2
  go_ret
  exact ⟨rfl, rfl⟩
set_option maxHeartbeats 1000000 in
set_option maxRecDepth 100000 in
theorem tr_down {w : World} {k g m : Nat} {pre : List Nat} {ks : List Kid} (h : Fork w k g m pre ks) (hk1 : 1 ≤ k) (hk : k ≤ 16) {A : Option Addr} {c : Nat} {p : List Nat} (hp : Pt w A k p) :
    Calls Try.prog 49 #[.pointer (some ⟨g, 0, none⟩), .slice A k c] w fun e w' => e = .returned ((getTh (kidTh ks) (addrOf p m : Int)).getD (.pointer none)) ∧ Below w.heap.size w w' := by
  have hm : m < 64 := by obtain ⟨_, _, _, h1, _⟩ := h; exact h1
  obtain ⟨A', c', gs, hp', hS, hB⟩ := h.head
  have HL := hide (nd_level h.node)
  have HA := hide (zb_addr A k p c m w hp hk1 hk hm)
  have HK := hide (nd_kid hB hS (addrOf p m : Int))
  have hv : ∃ x, (getTh (kidTh ks) (addrOf p m : Int)).getD (.pointer none) = .pointer x := by
    cases hg : getTh (kidTh ks) (addrOf p m : Int) with
    | none => exact ⟨none, rfl⟩
    | some v =>
      obtain ⟨i, t, h1, h2⟩ := getTh_idx hg
      have ht := List.mem_of_getElem? h1
      have := getTh_some hS.ok ht
      rw [h2, hg] at this
      injection this with this
      obtain ⟨q, hq, rfl⟩ := List.mem_map.1 ht
      exact ⟨_, by rw [this]; rfl⟩
  obtain ⟨x, hx⟩ := hv
  rw [hx] at HK ⊢
  clear h hp hp' hS hB hx
  go_enter Try.func49, Try.ntmps49
  go_wp2_with fail
  refine HL.out.mono ?_
  rintro e w1 ⟨rfl, rfl⟩
  go_wp2_with fail
  refine HA.out.mono ?_
  rintro e w1 ⟨rfl, rfl⟩
  go_wp2_with fail
  refine HK.out.mono ?_
  rintro e w1 ⟨rfl, hb1⟩
  go_wp2
  go_ret
  exact ⟨rfl, hb1⟩
set_option maxHeartbeats 1000000 in
set_option maxRecDepth 100000 in
theorem tr_found_none (A : Option Addr) (c : Nat) (w : World) : Calls Try.prog 38 #[.slice A 0 c] w fun e w' => e = .returned (.tuple #[.agg #[.slice none 0 0, .int .u64 0], .bool false]) ∧ Below w.heap.size w w' := by
  have b1 := (Below.refl w.heap.size w).alloc (Nat.le_refl _) (.cells #[.slice none 0 0, .int .u64 0] 84)
  have hN := Blk.new w 84 #[.slice none 0 0, .int .u64 0]
  have z0 := hN.frozen 0
  have z1 := hN.frozen 1
  have e2 := (hN.set1 (i := 0) (.slice none 0 0)).set1 (i := 1) (.int .u64 0)
  have b2 := ((b1.setCell (p := ⟨w.heap.size, 0, none⟩) (Nat.le_refl _) (.slice none 0 0)).setCell (p := ⟨w.heap.size, 1, none⟩) (Nat.le_refl _) (.int .u64 0))
  have g0 := e2.cell 0
  have g1 := e2.cell 1
  simp at g0 g1
  have HB2 := hide b2
  have HB1 := hide b1
  clear hN e2 b2
  go_enter Try.func38, Try.ntmps38
  go_wp2
  first
    | refine bodyPost_ret (v := .tuple #[.agg #[.slice none 0 0, .int .u64 0], .bool false]) (by simp [results, Try.results38, go_sem, g0, g1]) rfl ⟨rfl, HB2.out⟩
    | refine bodyPost_ret (v := .tuple #[.agg #[.slice none 0 0, .int .u64 0], .bool false]) (by simp [results, Try.results38, go_sem]) rfl ⟨rfl, HB1.out⟩
/-- A fork on a path. -/
structure PF where
  g : Nat
  lv : Nat
  pre : List Nat
  ks : List Kid
/-- What a node tells: its level, prefix, entries. -/
structure NT where
  lv : Int
  pre : List Nat
  es : List Ent
/-- The node that hangs at the path's head, when another one hangs at its end. -/
def upN : List PF → NT → NT
  | [], n => n
  | f :: fs, n => ⟨f.lv, f.pre, kidEs (insK f.ks ⟨addrOf (upN fs n).pre f.lv, 0, (upN fs n).lv, (upN fs n).pre, (upN fs n).es⟩)⟩
def ChainOk : List PF → NT → Prop
  | [], _ => True
  | f :: fs, n => ChainOk fs n ∧ part f.pre (upN fs n).pre ≤ (f.lv : Int) ∧ (upN fs n).lv < (f.lv : Int)
theorem kidEs_blk (ks : List Kid) (a g g' : Nat) (l : Int) (p : List Nat) (es : List Ent) : kidEs (insK ks ⟨a, g, l, p, es⟩) = kidEs (insK ks ⟨a, g', l, p, es⟩) := by
  unfold kidEs insK
  simp
theorem chain_drop : ∀ (fs : List PF) (n : NT) (i : Nat), ChainOk fs n → ChainOk (fs.drop i) n
  | fs, n, 0, h => by simpa using h
  | [], n, i + 1, h => by simpa using h
  | f :: fs, n, i + 1, h => by simpa using chain_drop fs n i h.1
set_option maxHeartbeats 2000000 in
set_option maxRecDepth 100000 in
theorem tr_up {w : World} {t k g0 : Nat} {root : Option Addr} (fs : List PF) (n0 : NT) (A : Option Addr) (m c : Nat) (hT : TreeBlk w t k root) (hk1 : 1 ≤ k) (hk : k ≤ 16) (hA : Rw w 1 A m (ptrs (fs.map (·.g)))) (hm : fs.length = m) (hm100 : m ≤ 1000)
    (hF : ∀ f ∈ fs, Fork w k f.g f.lv f.pre f.ks) (hn : NodeOf w k g0 n0.lv n0.pre n0.es) (hc : ChainOk fs n0) :
    Calls Try.prog 41 #[.pointer (some ⟨t, 0, none⟩), .slice A m c, .pointer (some ⟨g0, 0, none⟩)] w fun e w' => ∃ t' g', e = .returned (.pointer (some ⟨t', 0, none⟩)) ∧ w.heap.size ≤ t' ∧ TreeBlk w' t' k (some ⟨g', 0, none⟩) ∧ NodeOf w' k g' (upN fs n0).lv (upN fs n0).pre (upN fs n0).es ∧ Below w.heap.size w w' := by
  have HT := hide hT
  have HA := hide hA
  have HF := hide hF
  have HN := hide hn
  have HC := hide hc
  have HM := hide hm
  have ew : IntKind.i64.wrap ((m : Int) - 1) = (m : Int) - 1 := by rw [IntKind.wrap_i64]; omega
  clear hT hA hF hn hc hm
  go_enter Try.func41, Try.ntmps41
  go_wp2
  go_loopw [2, 7] (fun x2 x7 wr => ∃ (i gc : Nat), x7 = .int .i64 ((i : Int) - 1) ∧ i ≤ m ∧ x2 = .pointer (some ⟨gc, 0, none⟩) ∧ NodeOf wr k gc (upN (fs.drop i) n0).lv (upN (fs.drop i) n0).pre (upN (fs.drop i) n0).es ∧ Below w.heap.size w wr) (fun _ x _ => (intOf x + 1).toNat)
  case atStart =>
    refine ⟨m, g0, rfl, Nat.le_refl _, rfl, ?_, Below.refl _ _⟩
    rw [List.drop_of_length_le (by have := HM.out; omega)]
    exact HN.out
  case round =>
    obtain ⟨i, gc, rfl, hi, rfl, hN, hb⟩ := hrel
    have HNN := hide hN
    clear hN
    rcases Nat.eq_zero_or_pos i with rfl | hi0
    · have t0 := Blk.cell (Blk.below HT.out hb) 0
      simp at t0
      go_wp2
      go_ret
      refine ⟨_, gc, rfl, hb.size, Blk.new _ _ _, HNN.out.stay ((Below.refl _ _).alloc (Nat.le_refl _) _), below_alloc hb (Nat.le_refl _) _⟩
    · obtain ⟨j, rfl⟩ : ∃ j, i = j + 1 := ⟨i - 1, by omega⟩
      have hjl : j < fs.length := by have := HM.out; omega
      obtain ⟨b, o, rfl, hbl, u, hu, k0⟩ := (HA.out.below hb).one (i := j) (by omega)
      have hfj : fs[j]? = some fs[j] := List.getElem?_eq_getElem hjl
      have hd : fs.drop j = fs[j] :: fs.drop (j + 1) := List.drop_eq_getElem_cons hjl
      generalize fs[j] = f at *
      unfold ptrs at hu
      rw [List.map_map, List.getElem?_map, hfj] at hu
      simp at hu
      rw [← hu] at k0
      have hch := chain_drop fs n0 j HC.out
      rw [hd] at hch
      have hW := nd_with ((HF.out f (List.mem_of_getElem? hfj)).stay hb) HNN.out hk1 hk hch.2.1 hch.2.2
      have HW := hide hW
      have HD := hide hd
      have e0 : ((j + 1 : Nat) : Int) - 1 = (j : Int) := by omega
      rw [e0]
      have ej : (0 : Int) ≤ (j : Int) := by omega
      have ejm : (j : Int) < (m : Int) := by omega
      have ejn : j < m := by omega
      clear hu hfj hd hch hW e0
      go_wp2_with fail
      refine HW.out.mono ?_
      rintro e w2 ⟨gn, rfl, hFn, hgn, hb2⟩
      have HFn := hide hFn
      clear hFn HW
      go_wp2
      go_roundw
      case rel =>
        refine ⟨j, gn, by go_num, by omega, rfl, ?_, below_then hb hb2⟩
        rw [HD.out]
        have := HFn.out.node
        rw [kidEs_blk _ _ _ 0] at this
        exact this
      case measure => simp [intOf]
set_option maxHeartbeats 2000000 in
set_option maxRecDepth 100000 in
/-- found, over what the last node's Entry tells. -/
theorem tr_found_some (A : Option Addr) (n c g : Nat) (gs : List Nat) (w : World) (hA : Rw w 1 A n (ptrs gs)) (hn1 : 1 ≤ n) (hn : n ≤ 1000) (hg : gs[n - 1]? = some g) (k v : Nat) (ok : Bool)
    (hE : ∀ W, Below w.heap.size w W → Calls Try.prog 59 #[.pointer (some ⟨g, 0, none⟩)] W fun e w' => (∃ B d, e = .returned (.tuple #[.agg #[.slice B k d, .int .u64 (v : Int)], .bool ok])) ∧ Below W.heap.size W w') :
    Calls Try.prog 38 #[.slice A n c] w fun e w' => (∃ B d, e = .returned (.tuple #[.agg #[.slice B k d, .int .u64 (v : Int)], .bool ok])) ∧ Below w.heap.size w w' := by
  have b1 := (Below.refl w.heap.size w).alloc (Nat.le_refl _) (.cells #[.slice none 0 0, .int .u64 0] 84)
  have hN := Blk.new w 84 #[.slice none 0 0, .int .u64 0]
  obtain ⟨i, hi⟩ : ∃ i, i = n - 1 := ⟨_, rfl⟩
  rw [← hi] at hg
  obtain ⟨b, o, rfl, hbl, u, hu, k0⟩ := (hA.below b1).one (i := i) (by omega)
  unfold ptrs at hu
  rw [List.getElem?_map, hg] at hu
  simp at hu
  rw [← hu] at k0
  have HE := hide (hE _ b1)
  have HN := hide hN
  have e2 : (n : Int) - 1 = (i : Int) := by omega
  have hin : i < n := by omega
  have hi0 : (0 : Int) ≤ (i : Int) := by omega
  have hi7 : (i : Int) ≤ 70368744177664 := by omega
  have e5 : IntKind.i64.wrap (i : Int) = (i : Int) := by rw [IntKind.wrap_i64]; omega
  have e6 : wrap64 (i : Int) = (i : Int) := by unfold wrap64; omega
  have hin' : (i : Int) < (n : Int) := by omega
  have ne0 : ((n : Int) == 0) = false := by simp; omega
  clear hA hg hu hE hN hi
  go_enter Try.func38, Try.ntmps38
  go_wp2_with fail
  refine HE.out.mono ?_
  rintro e w2 ⟨⟨B, d, rfl⟩, hb2⟩
  have hN2 := HN.out.below hb2
  have z0 := hN2.frozen 0
  have z1 := hN2.frozen 1
  have y0 := hN2.cell 0
  have y1 := hN2.cell 1
  simp at y0 y1
  have c2 := below_then b1 hb2
  have e3 := (hN2.set1 (i := 0) (.slice B k d)).set1 (i := 1) (.int .u64 (v : Int))
  have b3 := ((c2.setCell (p := ⟨w.heap.size, 0, none⟩) (Nat.le_refl _) (.slice B k d)).setCell (p := ⟨w.heap.size, 1, none⟩) (Nat.le_refl _) (.int .u64 (v : Int)))
  have g0 := e3.cell 0
  have g1 := e3.cell 1
  simp at g0 g1
  have HB3 := hide b3
  clear hN2 e3 b3
  go_wp2
  refine bodyPost_ret (v := .tuple #[.agg #[.slice B k d, .int .u64 (v : Int)], .bool ok]) (by simp [results, Try.results38, go_sem, g0, g1]) rfl ⟨⟨B, d, rfl⟩, HB3.out⟩
theorem part_le_iff {k : Nat} {p q : List Nat} (hp : Zp k p) (hq : Zp k q) (m : Int) (hm : -1 ≤ m) : part p q ≤ m ↔ ∀ b : Nat, m < (b : Int) → addrOf p b = addrOf q b := by
  obtain ⟨h1, h2, h3, h4⟩ := part_spec p q (by rw [hp.1, hq.1]) hp.2 hq.2
  constructor
  · intro h b hb
    exact h3 b (by omega)
  · intro h
    rcases Int.lt_or_le m (part p q) with h5 | h5
    · exact absurd (h (part p q).toNat (by omega)) (h4 (by omega))
    · exact h5
/-- What is told of a fork, with no world in sight. -/
structure FK (k : Nat) (f : PF) : Prop where
  lv : f.lv < 64
  pre : Zp k f.pre
  ksz : ∀ q ∈ f.ks, Zp k q.pre
  at_ : ∀ q ∈ f.ks, addrOf q.pre f.lv = q.at_ ∧ ∀ b, f.lv < b → addrOf q.pre b = addrOf f.pre b
  low : ∀ q ∈ f.ks, q.lv < f.lv
  up : ∀ q ∈ f.ks, -1 ≤ q.lv
  es : ∀ q ∈ f.ks, ∀ e ∈ q.es, Zp k e.1 ∧ addrOf e.1 f.lv = q.at_ ∧ ∀ b, f.lv < b → addrOf e.1 b = addrOf f.pre b
  sort : f.ks.Pairwise fun q r => q.at_ < r.at_
  two : 2 ≤ f.ks.length
theorem Fork.fk {w : World} {k : Nat} {f : PF} (h : Fork w k f.g f.lv f.pre f.ks) : FK k f := by
  obtain ⟨A, c, gs, h1, h2, h3, h4, h5, h6, h7, h8, h9, h10, h11⟩ := h
  refine ⟨h1, h2.zp, fun q hq => (h5 q hq).info.1, h7, h6, fun q hq => (h5 q hq).info.2.2.1, fun q hq e he => ?_, h8, h9⟩
  obtain ⟨i1, i2, i3, i4, i5, i6⟩ := (h5 q hq).info
  obtain ⟨j1, j2, j3⟩ := i5 e he
  have hl := h6 q hq
  refine ⟨j1, ?_, fun b hb => ?_⟩
  · rw [j3 f.lv hl, (h7 q hq).1]
  · rw [j3 b (by omega), (h7 q hq).2 b hb]
def PF.nt (f : PF) : NT := ⟨f.lv, f.pre, kidEs f.ks⟩
def kidAt (ks : List Kid) (a : Nat) : Option (Nat × NT) := (ks.find? fun q => decide (q.at_ = a)).map fun q => (q.blk, ⟨q.lv, q.pre, q.es⟩)
def esOf : Option (Nat × NT) → List Ent
  | none => []
  | some x => x.2.es
theorem kidAt_none {ks : List Kid} {a : Nat} (h : kidAt ks a = none) : ∀ q ∈ ks, q.at_ ≠ a := by
  unfold kidAt at h
  rw [Option.map_eq_none_iff, List.find?_eq_none] at h
  intro q hq hqa
  exact h q hq (by simpa using hqa)
theorem kidAt_some {ks : List Kid} {a : Nat} {x : Nat × NT} (h : kidAt ks a = some x) : ∃ q ∈ ks, q.at_ = a ∧ x = (q.blk, ⟨q.lv, q.pre, q.es⟩) := by
  unfold kidAt at h
  obtain ⟨q, hq, rfl⟩ := Option.map_eq_some_iff.1 h
  exact ⟨q, List.mem_of_find?_eq_some hq, by simpa using List.find?_some hq, rfl⟩
/-- The forks on a point's path, and what hangs where they end. -/
def Way (p : List Nat) : List PF → Option (Nat × NT) → Option (Nat × NT) → Prop
  | [], top, bot => top = bot
  | f :: fs, top, bot => top = some (f.g, f.nt) ∧ part f.pre p ≤ (f.lv : Int) ∧ Way p fs (kidAt f.ks (addrOf p f.lv)) bot
theorem Way.snoc {p : List Nat} : ∀ {fs : List PF} {top bot : Option (Nat × NT)} {f : PF}, Way p fs top bot → bot = some (f.g, f.nt) → part f.pre p ≤ (f.lv : Int) → Way p (fs ++ [f]) top (kidAt f.ks (addrOf p f.lv))
  | [], top, bot, f, h, hb, hc => ⟨by rw [show top = bot from h, hb], hc, rfl⟩
  | f' :: fs, top, bot, f, h, hb, hc => ⟨h.1, h.2.1, Way.snoc h.2.2 hb hc⟩
theorem Way.cut {p : List Nat} : ∀ {fs : List PF} {top bot : Option (Nat × NT)} {f : PF}, Way p (fs ++ [f]) top bot → Way p fs top (some (f.g, f.nt)) ∧ part f.pre p ≤ (f.lv : Int) ∧ bot = kidAt f.ks (addrOf p f.lv)
  | [], top, bot, f, h => ⟨h.1, h.2.1, h.2.2.symm⟩
  | f' :: fs, top, bot, f, h => by
    obtain ⟨h1, h2, h3⟩ := h
    obtain ⟨g1, g2, g3⟩ := Way.cut h3
    exact ⟨⟨h1, h2, g1⟩, g2, g3⟩
theorem Way.len {p : List Nat} {k : Nat} : ∀ {fs : List PF} {x : Nat × NT} {bot : Option (Nat × NT)}, (∀ f ∈ fs, FK k f) → -1 ≤ x.2.lv → Way p fs (some x) bot → (fs.length : Int) ≤ x.2.lv + 1
  | [], x, bot, hF, hx, h => by simp; omega
  | f :: fs, x, bot, hF, hx, h => by
    obtain ⟨h1, h2, h3⟩ := h
    injection h1 with h1
    subst h1
    have hf := hF f List.mem_cons_self
    cases hk : kidAt f.ks (addrOf p f.lv) with
    | none =>
      rw [hk] at h3
      cases fs with
      | nil => simp [PF.nt]; omega
      | cons f2 fs => exact absurd h3.1 (by simp)
    | some y =>
      rw [hk] at h3
      obtain ⟨q, hq, -, rfl⟩ := kidAt_some hk
      have := Way.len (fun f hf => hF f (List.mem_cons_of_mem _ hf)) (hf.up q hq) h3
      have := hf.low q hq
      simp [PF.nt] at *
      omega
/-- A point's entries are where its path ends. -/
theorem FK.mem {k : Nat} {f : PF} (h : FK k f) {e : Ent} {a : Nat} (he : addrOf e.1 f.lv = a) : e ∈ kidEs f.ks ↔ e ∈ esOf (kidAt f.ks a) := by
  unfold kidEs
  rw [List.mem_flatMap]
  cases hk : kidAt f.ks a with
  | none =>
    simp only [esOf]
    constructor
    · rintro ⟨q, hq, heq⟩
      exact absurd ((h.es q hq e heq).2.1.symm.trans he) (kidAt_none hk q hq)
    · intro h; cases h
  | some x =>
    obtain ⟨q, hq, hqa, rfl⟩ := kidAt_some hk
    simp only [esOf]
    constructor
    · rintro ⟨r, hr, her⟩
      have hra := (h.es r hr e her).2.1
      have : r = q := by
        have hs := h.sort
        obtain ⟨i, hi, rfl⟩ := List.getElem_of_mem hr
        obtain ⟨j, hj, rfl⟩ := List.getElem_of_mem hq
        rw [List.pairwise_iff_getElem] at hs
        rcases Nat.lt_trichotomy i j with hij | hij | hij
        · have := hs i j hi hj hij
          omega
        · simp [hij]
        · have := hs j i hj hi hij
          omega
      rw [← this]
      exact her
    · intro h2
      exact ⟨q, hq, h2⟩
theorem Way.mem {k : Nat} {p : List Nat} : ∀ {fs : List PF} {top bot : Option (Nat × NT)}, (∀ f ∈ fs, FK k f) → Way p fs top bot → ∀ v, (p, v) ∈ esOf top ↔ (p, v) ∈ esOf bot
  | [], top, bot, hF, h, v => by rw [show top = bot from h]
  | f :: fs, top, bot, hF, h, v => by
    obtain ⟨rfl, h2, h3⟩ := h
    rw [← Way.mem (fun f hf => hF f (List.mem_cons_of_mem _ hf)) h3 v]
    exact (hF f List.mem_cons_self).mem rfl
/-- What fits below the last fork of a path. -/
def FitsAt (p : List Nat) (f : PF) (n : NT) : Prop := part f.pre n.pre ≤ (f.lv : Int) ∧ n.lv < (f.lv : Int) ∧ addrOf n.pre f.lv = addrOf p f.lv
theorem way_up {k : Nat} {p : List Nat} {n : NT} {N : Ent → Prop} (hN : ∀ e, N e → e.1 = p) : ∀ {fs : List PF} {top bot : Option (Nat × NT)}, (∀ f ∈ fs, FK k f) → Way p fs top bot → (∀ f ∈ fs.getLast?, FitsAt p f n) → (∀ e, e ∈ n.es ↔ N e ∨ (e ∈ esOf bot ∧ e.1 ≠ p)) →
    ChainOk fs n ∧ ∀ e, e ∈ (upN fs n).es ↔ N e ∨ (e ∈ esOf top ∧ e.1 ≠ p)
  | [], top, bot, hF, hW, hL, he => ⟨trivial, by rw [show top = bot from hW]; exact he⟩
  | f :: fs, top, bot, hF, hW, hL, he => by
    obtain ⟨rfl, h2, h3⟩ := hW
    have hf := hF f List.mem_cons_self
    have hL2 : ∀ f' ∈ fs.getLast?, FitsAt p f' n := by
      intro f' hf'
      refine hL f' ?_
      cases fs with
      | nil => simp at hf'
      | cons f2 fs => rwa [List.getLast?_cons_cons]
    obtain ⟨i1, i2⟩ := way_up hN (fun f hf => hF f (List.mem_cons_of_mem _ hf)) h3 hL2 he
    have hfit : FitsAt p f (upN fs n) := by
      cases fs with
      | nil => exact hL f (by simp)
      | cons f2 fs =>
        obtain ⟨h4, h5, h6⟩ := h3
        obtain ⟨q, hq, hqa, hx⟩ := kidAt_some h4
        injection hx with hx1 hx2
        have hlow := hf.low q hq
        obtain ⟨a1, a2⟩ := hf.at_ q hq
        have hz := hf.ksz q hq
        simp only [PF.nt, NT.mk.injEq] at hx2
        obtain ⟨x1, x2, x3⟩ := hx2
        refine ⟨?_, ?_, ?_⟩
        · show part f.pre f2.pre ≤ _
          rw [x2]
          exact (part_le_iff hf.pre hz _ (by omega)).2 fun b hb => (a2 b (by omega)).symm
        · show (f2.lv : Int) < _
          rw [x1]; exact hlow
        · show addrOf f2.pre f.lv = _
          rw [x2, a1, hqa]
    refine ⟨⟨i1, hfit.1, hfit.2.1⟩, fun e => ?_⟩
    have ha := hfit.2.2
    have hi := i2 e
    have hun : (upN (f :: fs) n).es = kidEs (insK f.ks ⟨addrOf (upN fs n).pre f.lv, 0, (upN fs n).lv, (upN fs n).pre, (upN fs n).es⟩) := rfl
    rw [hun]
    generalize upN fs n = m at *
    rw [ha]
    have h4 : e ∈ kidEs (insK f.ks ⟨addrOf p f.lv, 0, m.lv, m.pre, m.es⟩) ↔ e ∈ m.es ∨ ∃ r ∈ f.ks, r.at_ ≠ addrOf p f.lv ∧ e ∈ r.es := by
      unfold kidEs
      simp only [List.mem_flatMap, mem_insK_iff]
      constructor
      · rintro ⟨r, rfl | ⟨hr, hra⟩, her⟩
        · exact .inl her
        · exact .inr ⟨r, hr, hra, her⟩
      · rintro (h | ⟨r, hr, hra, her⟩)
        · exact ⟨_, .inl rfl, h⟩
        · exact ⟨r, .inr ⟨hr, hra⟩, her⟩
    rw [h4, hi]
    show _ ↔ N e ∨ (e ∈ kidEs f.ks ∧ e.1 ≠ p)
    constructor
    · rintro ((h | ⟨h, hp⟩) | ⟨r, hr, hra, her⟩)
      · exact .inl h
      · refine .inr ⟨?_, hp⟩
        cases hk : kidAt f.ks (addrOf p f.lv) with
        | none => rw [hk] at h; cases h
        | some x =>
          rw [hk] at h
          obtain ⟨q, hq, hqa, rfl⟩ := kidAt_some hk
          exact List.mem_flatMap.2 ⟨q, hq, h⟩
      · refine .inr ⟨List.mem_flatMap.2 ⟨r, hr, her⟩, fun h => ?_⟩
        have := (hf.es r hr e her).2.1
        rw [h] at this
        exact hra this.symm
    · rintro (h | ⟨h, hp⟩)
      · exact .inl (.inl h)
      · obtain ⟨r, hr, her⟩ := List.mem_flatMap.1 h
        by_cases hra : r.at_ = addrOf p f.lv
        · refine .inl (.inr ⟨?_, hp⟩)
          have := (hf.es r hr e her).2.1
          exact (hf.mem (this.trans hra)).1 h
        · exact .inr ⟨r, hr, hra, her⟩
theorem Way.last {p : List Nat} {fs : List PF} {top bot : Option (Nat × NT)} {f : PF} (h : Way p fs top bot) (hf : f ∈ fs.getLast?) : part f.pre p ≤ (f.lv : Int) ∧ bot = kidAt f.ks (addrOf p f.lv) := by
  obtain ⟨fs0, rfl⟩ := List.getLast?_eq_some_iff.1 hf
  exact (Way.cut h).2
theorem last_mem {fs : List PF} {f : PF} (hf : f ∈ fs.getLast?) : f ∈ fs := by
  obtain ⟨fs0, rfl⟩ := List.getLast?_eq_some_iff.1 hf
  simp
/-- What hangs at the path's end parts from the point below the last fork. -/
theorem FK.below {k : Nat} {p : List Nat} {f : PF} {x : Nat × NT} (h : FK k f) (hp : Zp k p) (hc : part f.pre p ≤ (f.lv : Int)) (hx : kidAt f.ks (addrOf p f.lv) = some x) : part x.2.pre p < (f.lv : Int) ∧ Zp k x.2.pre ∧ FitsAt p f x.2 ∧ ∀ b, f.lv ≤ b → addrOf x.2.pre b = addrOf p b := by
  obtain ⟨q, hq, hqa, rfl⟩ := kidAt_some hx
  obtain ⟨a1, a2⟩ := h.at_ q hq
  have hz := h.ksz q hq
  have hcc := (part_le_iff h.pre hp _ (by omega)).1 hc
  have hall : ∀ b, f.lv ≤ b → addrOf q.pre b = addrOf p b := by
    intro b hb
    rcases Nat.eq_or_lt_of_le hb with rfl | hb
    · rw [a1, hqa]
    · rw [a2 b hb, hcc b (by omega)]
  refine ⟨?_, hz, ⟨?_, h.low q hq, ?_⟩, hall⟩
  · have := (part_le_iff hz hp ((f.lv : Int) - 1) (by omega)).2 fun b hb => hall b (by omega)
    show part q.pre p < _
    omega
  · exact (part_le_iff h.pre hz _ (by omega)).2 fun b hb => (a2 b (by omega)).symm
  · rw [a1, hqa]
theorem put_leaf {k v : Nat} {p : List Nat} (hp : Zp k p) {fs : List PF} {top bot : Option (Nat × NT)} (hF : ∀ f ∈ fs, FK k f) (hW : Way p fs top bot) (hb : ∀ e ∈ esOf bot, e.1 = p) :
    ChainOk fs ⟨-1, p, [(p, v)]⟩ ∧ ∀ e, e ∈ (upN fs ⟨-1, p, [(p, v)]⟩).es ↔ e = (p, v) ∨ (e ∈ esOf top ∧ e.1 ≠ p) := by
  refine way_up (N := fun e => e = (p, v)) (fun e h => by rw [h]) hF hW (fun f hf => ?_) fun e => ?_
  · exact ⟨(hW.last hf).1, by show (-1 : Int) < _; omega, rfl⟩
  · simp only [List.mem_singleton]
    constructor
    · exact .inl
    · rintro (h | ⟨h, h2⟩)
      · exact h
      · exact absurd (hb e h) h2
theorem put_pair {k v m : Nat} {p : List Nat} {g g' : Nat} {nt : NT} (hp : Zp k p) {fs : List PF} {top : Option (Nat × NT)} (hF : ∀ f ∈ fs, FK k f) (hW : Way p fs top (some (g, nt))) (hm : part nt.pre p = (m : Int)) (hl : nt.lv < m) (hz : Zp k nt.pre)
    (hes : ∀ e ∈ nt.es, Zp k e.1 ∧ ∀ b : Nat, nt.lv < b → addrOf e.1 b = addrOf nt.pre b) :
    ChainOk fs ⟨m, cut (m + 1) nt.pre, kidEs (pairK g g' nt.lv (-1) nt.pre p nt.es [(p, v)] m)⟩ ∧ ∀ e, e ∈ (upN fs ⟨m, cut (m + 1) nt.pre, kidEs (pairK g g' nt.lv (-1) nt.pre p nt.es [(p, v)] m)⟩).es ↔ e = (p, v) ∨ (e ∈ esOf top ∧ e.1 ≠ p) := by
  have hne : addrOf nt.pre m ≠ addrOf p m := by
    have := (part_spec nt.pre p (by rw [hz.1, hp.1]) hz.2 hp.2).2.2.2
    rw [hm] at this
    exact this (by omega)
  refine way_up (N := fun e => e = (p, v)) (fun e h => by rw [h]) hF hW (fun f hf => ?_) fun e => ?_
  · obtain ⟨h1, h2⟩ := hW.last hf
    have hf' := hF f (last_mem hf)
    obtain ⟨g1, g2, g3, g4⟩ := hf'.below hp h1 h2.symm
    simp only at g1 g2 g3 g4
    rw [hm] at g1
    have hm2 : m < f.lv := by omega
    refine ⟨?_, by show (m : Int) < _; omega, ?_⟩
    · refine (part_le_iff hf'.pre (zp_cut hz) _ (by omega)).2 fun b hb => ?_
      rw [addr_cut_hi _ (by omega)]
      exact (part_le_iff hf'.pre hz _ (by omega)).1 g3.1 b hb
    · show addrOf (cut (m + 1) nt.pre) f.lv = _
      rw [addr_cut_hi _ (by omega)]
      exact g4 _ (Nat.le_refl _)
  · have h4 : e ∈ kidEs (pairK g g' nt.lv (-1) nt.pre p nt.es [(p, v)] m) ↔ e ∈ nt.es ∨ e = (p, v) := by
      rw [pairK_eq hne]
      unfold kidEs
      split
      · simp [List.flatMap]
      · simp [List.flatMap]
        exact Or.comm
    show e ∈ kidEs (pairK g g' nt.lv (-1) nt.pre p nt.es [(p, v)] m) ↔ _
    rw [h4]
    simp only [esOf]
    constructor
    · rintro (h | h)
      · refine .inr ⟨h, fun he => ?_⟩
        have := (hes e h).2 m hl
        rw [he] at this
        exact hne this.symm
      · exact .inl h
    · rintro (h | h)
      · exact .inr h
      · exact .inl h.1
/-- A fork on the way without one of its kids. -/
theorem del_fork {k : Nat} {p : List Nat} (hp : Zp k p) {fs : List PF} {f : PF} {top bot : Option (Nat × NT)} (hF : ∀ f' ∈ fs, FK k f') (hf : FK k f) (hW : Way p fs top (some (f.g, f.nt))) (hb : ∀ e ∈ esOf (kidAt f.ks (addrOf p f.lv)), e.1 = p) {n : NT}
    (hes : ∀ e, e ∈ n.es ↔ ∃ r ∈ f.ks, r.at_ ≠ addrOf p f.lv ∧ e ∈ r.es) (hpre : Zp k n.pre) (hlv : n.lv ≤ f.lv) (hag : ∀ b, f.lv < b → addrOf n.pre b = addrOf f.pre b) :
    ChainOk fs n ∧ ∀ e, e ∈ (upN fs n).es ↔ (e ∈ esOf top ∧ e.1 ≠ p) := by
  have := way_up (n := n) (N := fun e => False) (fun e h => h.elim) hF hW (fun f' hf' => ?_) fun e => ?_
  · refine ⟨this.1, fun e => ?_⟩
    rw [this.2 e]
    simp
  · obtain ⟨h1, h2⟩ := hW.last hf'
    have hff := hF f' (last_mem hf')
    obtain ⟨g1, g2, g3, g4⟩ := hff.below hp h1 h2.symm
    simp only [PF.nt] at g1 g2 g3 g4
    have hlow : (f.lv : Int) < f'.lv := g3.2.1
    refine ⟨?_, by omega, ?_⟩
    · refine (part_le_iff hff.pre hpre _ (by omega)).2 fun b hb => ?_
      rw [hag b (by omega)]
      exact (part_le_iff hff.pre hf.pre _ (by omega)).1 g3.1 b hb
    · rw [hag _ (by omega)]
      exact g3.2.2
  · rw [hes e]
    simp only [false_or, esOf, PF.nt]
    constructor
    · rintro ⟨r, hr, hra, her⟩
      refine ⟨List.mem_flatMap.2 ⟨r, hr, her⟩, fun h => ?_⟩
      have := (hf.es r hr e her).2.1
      rw [h] at this
      exact hra this.symm
    · rintro ⟨h, hp⟩
      obtain ⟨r, hr, her⟩ := List.mem_flatMap.1 h
      refine ⟨r, hr, fun hra => ?_, her⟩
      have := (hf.es r hr e her).2.1
      exact hp (hb e ((hf.mem (this.trans hra)).1 h))
end Go.Proofs.Ytfoapkcgdkfggaa
