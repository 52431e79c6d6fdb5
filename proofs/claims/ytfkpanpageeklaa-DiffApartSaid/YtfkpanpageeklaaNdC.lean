/- Nodes: Pair, With, Without. -/
import Derived.Test.YtfkpanpageeklaaNdB
set_option linter.unusedSimpArgs false
set_option linter.unusedVariables false
namespace Go.Proofs.Ytfkpanpageeklaa
section
open Go.RowKit
set_option maxHeartbeats 1000000 in
set_option maxRecDepth 100000 in
theorem nd_pair_nil1 (v : Value) (hv : ∃ a, v = .pointer a) (w : World) : Calls Try.prog 46 #[.pointer none, v] w fun e w' => e = .returned (.tuple #[.pointer none, .int .i64 1]) ∧ w = w' := by
  obtain ⟨a, rfl⟩ := hv
  go_enter Try.func46, Try.ntmps46
  go_wp2
  go_ret2
  exact ⟨rfl, rfl⟩
set_option maxHeartbeats 1000000 in
set_option maxRecDepth 100000 in
theorem nd_pair_nil2 (a : Addr) (w : World) : Calls Try.prog 46 #[.pointer (some a), .pointer none] w fun e w' => e = .returned (.tuple #[.pointer none, .int .i64 1]) ∧ w = w' := by
  go_enter Try.func46, Try.ntmps46
  go_wp2
  go_ret2
  exact ⟨rfl, rfl⟩
set_option maxHeartbeats 1000000 in
set_option maxRecDepth 100000 in
theorem nd_pair_dim {w : World} {k k' g g' : Nat} {lv lv' : Int} {pre pre' : List Nat} {es es' : List Ent} (h : NodeOf w k g lv pre es) (h' : NodeOf w k' g' lv' pre' es') (hk : k ≠ k') :
    Calls Try.prog 46 #[.pointer (some ⟨g, 0, none⟩), .pointer (some ⟨g', 0, none⟩)] w fun e w' => e = .returned (.tuple #[.pointer none, .int .i64 2]) ∧ Below w.heap.size w w' := by
  obtain ⟨A, c, v, kids, hB, -⟩ := h.head
  obtain ⟨A', c', v', kids', hB', -⟩ := h'.head
  have c1 := hB.cell 1
  have d1 := hB'.cell 1
  simp [nodeCells] at c1 d1
  clear hB hB' h h'
  go_enter Try.func46, Try.ntmps46
  go_wp2_with fail
  go_region_held3 (fun w' => w'.cell? ⟨g, 1, none⟩ = some (.slice A k c) ∧ w'.cell? ⟨g', 1, none⟩ = some (.slice A' k' c'))
    (first
      | go_keep)
    (first
      | (go_at_call 76
         refine (zb_part_bad A A' k c k' c' w.drew (.inr hk)).mono ?_
         rintro e w2 ⟨rfl, rfl⟩))
  go_wp2
  go_ret2
  exact ⟨rfl, (Below.refl _ _).drew⟩
set_option maxHeartbeats 1000000 in
set_option maxRecDepth 100000 in
theorem nd_pair_arg {w : World} {k g g' : Nat} {lv lv' : Int} {pre pre' : List Nat} {es es' : List Ent} (h : NodeOf w k g lv pre es) (h' : NodeOf w k g' lv' pre' es') (hk1 : 1 ≤ k) (hk : k ≤ 16)
    (hlv : part pre pre' ≤ lv ∨ part pre pre' ≤ lv') :
    Calls Try.prog 46 #[.pointer (some ⟨g, 0, none⟩), .pointer (some ⟨g', 0, none⟩)] w fun e w' => e = .returned (.tuple #[.pointer none, .int .i64 3]) ∧ Below w.heap.size w w' := by
  obtain ⟨A, c, v, kids, hB, hp, -⟩ := h.head
  obtain ⟨A', c', v', kids', hB', hp', -⟩ := h'.head
  have c0 := hB.cell 0
  have d0 := hB'.cell 0
  have c1 := hB.cell 1
  have d1 := hB'.cell 1
  simp [nodeCells] at c0 d0 c1 d1
  clear hB hB' h h'
  have e1 : decide (part pre pre' ≤ max lv lv') = true := by simp; omega
  clear hlv
  go_enter Try.func46, Try.ntmps46
  go_wp2_with fail
  go_region_held3 (fun w' => w'.cell? ⟨g, 1, none⟩ = some (.slice A k c) ∧ w'.cell? ⟨g', 1, none⟩ = some (.slice A' k c'))
    (first
      | go_keep)
    (first
      | (go_at_call 76
         refine (zb_part A A' k c c' pre pre' w.drew (hp.below (Below.refl _ w).drew) (hp'.below (Below.refl _ w).drew) hk1 hk).mono ?_
         rintro e w2 ⟨rfl, rfl⟩))
  go_wp2
  go_quiet (fail)
  go_wp2
  go_ret2
  exact ⟨rfl, below_drewN (Below.refl _ _).drew _⟩
end
section
open Go.RowKit
/-- What two kids make. -/
def pairK (g g' : Nat) (lv lv' : Int) (pre pre' : List Nat) (es es' : List Ent) (m : Nat) : List Kid :=
  insK (insK [] ⟨addrOf pre m, g, lv, pre, es⟩) ⟨addrOf pre' m, g', lv', pre', es'⟩
theorem pairK_eq {g g' : Nat} {lv lv' : Int} {pre pre' : List Nat} {es es' : List Ent} {m : Nat} (h : addrOf pre m ≠ addrOf pre' m) :
    pairK g g' lv lv' pre pre' es es' m = if addrOf pre m < addrOf pre' m then [⟨addrOf pre m, g, lv, pre, es⟩, ⟨addrOf pre' m, g', lv', pre', es'⟩] else [⟨addrOf pre' m, g', lv', pre', es'⟩, ⟨addrOf pre m, g, lv, pre, es⟩] := by
  unfold pairK insK
  by_cases h1 : addrOf pre m < addrOf pre' m
  · have h2 : ¬ addrOf pre' m < addrOf pre m := by omega
    simp [h1, h2]
  · have h2 : addrOf pre' m < addrOf pre m := by omega
    simp [h1, h2]
set_option maxHeartbeats 2000000 in
set_option maxRecDepth 100000 in
theorem nd_pair {w : World} {k g g' m : Nat} {lv lv' : Int} {pre pre' : List Nat} {es es' : List Ent} (h : NodeOf w k g lv pre es) (h' : NodeOf w k g' lv' pre' es') (hk1 : 1 ≤ k) (hk : k ≤ 16)
    (hm : part pre pre' = (m : Int)) (h1 : lv < m) (h2 : lv' < m) :
    Calls Try.prog 46 #[.pointer (some ⟨g, 0, none⟩), .pointer (some ⟨g', 0, none⟩)] w fun e w' => ∃ gn, e = .returned (.tuple #[.pointer (some ⟨gn, 0, none⟩), .int .i64 0]) ∧ Fork w' k gn m (cut (m + 1) pre) (pairK g g' lv lv' pre pre' es es' m) ∧ w.heap.size ≤ gn ∧ Below w.heap.size w w' := by
  have H := hide h
  have H' := hide h'
  obtain ⟨A, c, v, kids, hB, hp, -⟩ := h.head
  obtain ⟨A', c', v', kids', hB', hp', -⟩ := h'.head
  have hps := part_spec pre pre' (by rw [hp.1, hp'.1]) hp.2.2 hp'.2.2
  rw [hm] at hps
  obtain ⟨-, hm64, hps3, hps4⟩ := hps
  have hne := hps4 (by omega)
  rw [Int.toNat_natCast] at hne
  have c0 := hB.cell 0
  have d0 := hB'.cell 0
  have c1 := hB.cell 1
  have d1 := hB'.cell 1
  simp [nodeCells] at c0 d0 c1 d1
  have hgl := hB.lt
  have hgl' := hB'.lt
  have e1 : decide ((m : Int) ≤ max lv lv') = false := by simp; omega
  have HPS := hide hps3
  have HNE := hide hne
  have HP := hide hp
  have HP' := hide hp'
  have HL := hide (And.intro h1 h2)
  have hm64' : m < 64 := by omega
  clear hB hB' h h' hps3 hps4 hne h1 h2
  go_enter Try.func46, Try.ntmps46
  go_wp2_with fail
  go_region_held3 (fun w' => w'.cell? ⟨g, 1, none⟩ = some (.slice A k c) ∧ w'.cell? ⟨g', 1, none⟩ = some (.slice A' k c'))
    (first
      | go_keep)
    (first
      | (go_at_call 76
         refine (zb_part A A' k c c' pre pre' w.drew (hp.below (Below.refl _ w).drew) (hp'.below (Below.refl _ w).drew) hk1 hk).mono ?_
         rintro e w2 ⟨rfl, rfl⟩))
  go_wp2
  go_quiet (fail)
  go_upto_region 8 with fail
  have hb0 : Below w.heap.size w (w.drew.drewN nq) := below_drewN (Below.refl _ w).drew nq
  generalize w.drew.drewN nq = w0 at *
  have c1' := c1
  have c1w := (hb0.cell (p := ⟨g, 1, none⟩) hgl).trans c1
  have HN := hide (new_n (k : Int) w0 (by omega) (by omega))
  go_wp2_with fail
  refine HN.out.mono ?_
  rintro e w1 ⟨rfl, hS1, hb1⟩
  rw [Int.toNat_natCast] at hS1
  have hc1 := below_then hb0 hb1
  have hN1 := Blk.new w1 60 #[.pointer (some ⟨g, 0, none⟩), .pointer (some ⟨g', 0, none⟩)]
  have hS2 := hide (hS1.below ((Below.refl w1.heap.size w1).alloc (Nat.le_refl _) (.cells #[.pointer (some ⟨g, 0, none⟩), .pointer (some ⟨g', 0, none⟩)] 60)))
  have hc2 := below_alloc hc1 (Nat.le_refl _) (.cells #[.pointer (some ⟨g, 0, none⟩), .pointer (some ⟨g', 0, none⟩)] 60)
  have HN1 := hide hN1
  clear hS1 hN1 HN
  go_wp2
  go_loopw [8, 59] (fun x8 x59 wr => ∃ (j gk : Nat), x59 = .int .i64 j ∧ j ≤ 2 ∧ x8 = .pointer (some ⟨gk, 0, none⟩) ∧ SlotsAt_n wr gk k (kidTh (if j = 0 then [] else if j = 1 then insK [] ⟨addrOf pre m, g, lv, pre, es⟩ else pairK g g' lv lv' pre pre' es es' m)) ∧ Blk wr w1.heap.size 60 #[.pointer (some ⟨g, 0, none⟩), .pointer (some ⟨g', 0, none⟩)] ∧ Below w.heap.size w wr) (fun _ x _ => 2 - (intOf x).toNat)
  case atStart => exact ⟨0, w0.heap.size, rfl, by omega, rfl, hS2.out, HN1.out, hc2⟩
  case round =>
    obtain ⟨j, gk, rfl, hj, rfl, hS, hN, hb⟩ := hrel
    have k0 := hN.cell 0
    have k1 := hN.cell 1
    simp at k0 k1
    have HN := hide hN
    clear hN
    have HB := hide hb
    match j, hj with
    | 0, _ =>
      rw [if_pos rfl] at hS
      have HS := hide hS
      clear hS
      go_wp2_with fail
      have HPU := hide (put_n gk k (kidTh ([])) (addrOf pre m) (some ⟨g, 0, none⟩) _ HS.out (addr_lt_pow (Pt.zp HP.out) m))
      rw [← kidTh_ins ([]) ⟨addrOf pre m, g, lv, pre, es⟩] at HPU
      refine (nd_at (H.out.stay HB.out) hk1 hk m (by omega)).mono ?_
      rintro e w3 ⟨rfl, rfl⟩
      go_wp2_with fail
      refine HPU.out.mono ?_
      rintro e w4 ⟨gk', rfl, hS4, hgk, hb4⟩
      have hb5 := below_then HB.out hb4
      have hN4 := HN.out.below hb4
      go_wp2
      go_roundw
      case rel => exact ⟨1, gk', by go_num, by omega, rfl, hS4, hN4, hb5⟩
      case measure => simp [intOf]
    | 1, _ =>
      rw [if_neg (by omega), if_pos rfl] at hS
      have HS := hide hS
      clear hS
      go_wp2_with fail
      have HPU := hide (put_n gk k (kidTh (insK [] ⟨addrOf pre m, g, lv, pre, es⟩)) (addrOf pre' m) (some ⟨g', 0, none⟩) _ HS.out (addr_lt_pow (Pt.zp HP'.out) m))
      rw [← kidTh_ins (insK [] ⟨addrOf pre m, g, lv, pre, es⟩) ⟨addrOf pre' m, g', lv', pre', es'⟩] at HPU
      refine (nd_at (H'.out.stay HB.out) hk1 hk m (by omega)).mono ?_
      rintro e w3 ⟨rfl, rfl⟩
      go_wp2_with fail
      refine HPU.out.mono ?_
      rintro e w4 ⟨gk', rfl, hS4, hgk, hb4⟩
      have hb5 := below_then HB.out hb4
      have hN4 := HN.out.below hb4
      go_wp2
      go_roundw
      case rel => exact ⟨2, gk', by go_num, by omega, rfl, hS4, hN4, hb5⟩
      case measure => simp [intOf]
    | 2, _ =>
      rw [if_neg (by omega), if_neg (by omega)] at hS
      have HS := hide hS
      clear hS
      have c1r := (HB.out.cell (p := ⟨g, 1, none⟩) hgl).trans c1'
      have CC := zb_cut A k c pre (m + 1) wr (HP.out.below HB.out) hk1 hk (by omega)
      rw [show (((m + 1 : Nat)) : Int) - 1 = (m : Int) by omega] at CC
      have HCC := hide CC
      clear CC
      go_wp2_with fail
      refine HCC.out.mono ?_
      rintro e w5 ⟨v5, rfl, ho5, hb5⟩
      obtain ⟨A5, d5, rfl, hd5, hR5⟩ := Rw.of_own ho5
      have hS5 := HS.out.below hb5
      have hc5 := below_then HB.out hb5
      clear ho5 HCC
      have HM := hide (nd_made (lv := (m : Int)) (A := A5) (c := d5) hS5 (fun q hq => by
        rcases mem_insK hq with rfl | hq
        · exact H'.out.stay hc5
        · rcases mem_insK hq with rfl | hq
          · exact H.out.stay hc5
          · cases hq))
      have HR5 := hide hR5
      have HS5 := hide hS5
      clear hS5 hR5
      go_wp2_with fail
      refine HM.out.mono ?_
      rintro e w6 ⟨rfl, hB6, hb6⟩
      have hc6 := below_then hc5 hb6
      have HB6 := hide hB6
      clear hB6 HM
      go_wp2
      go_ret2
      have hz := zp_cut (m := m + 1) HP.out.zp
      have hz' := HP'.out.zp
      refine ⟨_, rfl, ⟨A5, d5, gk, hm64', ⟨hz.1, HR5.out.below hb6, hz.2⟩, hd5, fun b hb => addr_cut_lo pre (by omega), fun q hq => ?_, fun q hq => ?_, fun q hq => ?_, ?_, ?_, HS5.out.below hb6, HB6.out⟩, hc5.size, hc6⟩
      · rcases mem_insK hq with rfl | hq
        · exact H'.out.stay hc6
        · rcases mem_insK hq with rfl | hq
          · exact H.out.stay hc6
          · cases hq
      · rcases mem_insK hq with rfl | hq
        · exact HL.out.2
        · rcases mem_insK hq with rfl | hq
          · exact HL.out.1
          · cases hq
      · rcases mem_insK hq with rfl | hq
        · exact ⟨rfl, fun b hb => by rw [addr_cut_hi pre (by omega)]; exact (HPS.out b (by omega)).symm⟩
        · rcases mem_insK hq with rfl | hq
          · exact ⟨rfl, fun b hb => by rw [addr_cut_hi pre (by omega)]⟩
          · cases hq
      · exact insK_sorted (insK_sorted List.Pairwise.nil)
      · rw [pairK_eq HNE.out]
        split <;> simp
end
section
open Go.RowKit
set_option maxHeartbeats 1000000 in
set_option maxRecDepth 100000 in
theorem nd_with_nil1 (a : Option Addr) (w : World) : Calls Try.prog 82 #[.pointer none, .pointer a] w fun e w' => e = .returned (.tuple #[.pointer none, .int .i64 1]) ∧ w = w' := by
  go_enter Try.func82, Try.ntmps82
  go_wp2
  go_ret2
  exact ⟨rfl, rfl⟩
set_option maxHeartbeats 1000000 in
set_option maxRecDepth 100000 in
theorem nd_with_nil2 (a : Addr) (w : World) : Calls Try.prog 82 #[.pointer (some a), .pointer none] w fun e w' => e = .returned (.tuple #[.pointer none, .int .i64 1]) ∧ w = w' := by
  go_enter Try.func82, Try.ntmps82
  go_wp2
  go_ret2
  exact ⟨rfl, rfl⟩
set_option maxHeartbeats 1000000 in
set_option maxRecDepth 100000 in
theorem nd_with_leaf {w : World} {g : Nat} {lv : Int} {A : Option Addr} {k c v : Nat} {s : Sum4} (hB : Blk w g 120 (nodeCells lv A k c v none s)) (a : Addr) :
    Calls Try.prog 82 #[.pointer (some ⟨g, 0, none⟩), .pointer (some a)] w fun e w' => e = .returned (.tuple #[.pointer none, .int .i64 3]) ∧ w = w' := by
  have c3 := hB.cell 3
  simp [nodeCells] at c3
  clear hB
  go_enter Try.func82, Try.ntmps82
  go_wp2
  go_ret2
  exact ⟨rfl, rfl⟩
set_option maxHeartbeats 1000000 in
set_option maxRecDepth 100000 in
theorem nd_without_nil (addr : Int) (w : World) : Calls Try.prog 84 #[.pointer none, .int .i64 addr] w fun e w' => e = .returned (.tuple #[.pointer none, .int .i64 1]) ∧ w = w' := by
  go_enter Try.func84, Try.ntmps84
  go_wp2
  go_ret2
  exact ⟨rfl, rfl⟩
set_option maxHeartbeats 1000000 in
set_option maxRecDepth 100000 in
theorem nd_without_leaf {w : World} {g : Nat} {lv : Int} {A : Option Addr} {k c v : Nat} {s : Sum4} (hB : Blk w g 120 (nodeCells lv A k c v none s)) (addr : Int) :
    Calls Try.prog 84 #[.pointer (some ⟨g, 0, none⟩), .int .i64 addr] w fun e w' => e = .returned (.tuple #[.pointer none, .int .i64 3]) ∧ w = w' := by
  have c3 := hB.cell 3
  simp [nodeCells] at c3
  clear hB
  go_enter Try.func84, Try.ntmps84
  go_wp2
  go_ret2
  exact ⟨rfl, rfl⟩
end
section
open Go.RowKit
theorem filt_len {ks : List Kid} (a : Nat) (h : ks.Pairwise fun q r => q.at_ < r.at_) :
    ks.length ≤ (ks.filter fun r => decide (r.at_ < a)).length + (ks.filter fun r => decide (a < r.at_)).length + 1 := by
  induction ks with
  | nil => simp
  | cons r t ih =>
    obtain ⟨h1, h2⟩ := List.pairwise_cons.1 h
    have ih := ih h2
    rcases Nat.lt_trichotomy r.at_ a with hlt | heq | hgt
    · rw [List.filter_cons_of_pos (by simpa using hlt), List.filter_cons_of_neg (by simp; omega)]
      simp only [List.length_cons]
      omega
    · have hall : (t.filter fun r => decide (a < r.at_)) = t := by
        rw [List.filter_eq_self]
        intro x hx
        have := h1 x hx
        simp; omega
      rw [List.filter_cons_of_neg (by simp; omega), List.filter_cons_of_neg (by simp; omega), hall]
      simp only [List.length_cons]
      omega
    · rw [List.filter_cons_of_neg (by simp; omega), List.filter_cons_of_pos (by simpa using hgt)]
      simp only [List.length_cons]
      omega
theorem insK_len {ks : List Kid} (q : Kid) (h : ks.Pairwise fun q r => q.at_ < r.at_) : ks.length ≤ (insK ks q).length := by
  have := filt_len q.at_ h
  unfold insK
  simp only [List.length_append, List.length_cons, List.length_nil]
  omega
set_option maxHeartbeats 1000000 in
set_option maxRecDepth 100000 in
theorem nd_with_dim {w : World} {k k' g g' m : Nat} {lv' : Int} {pre pre' : List Nat} {ks : List Kid} {es' : List Ent} (h : Fork w k g m pre ks) (h' : NodeOf w k' g' lv' pre' es') (hk : k ≠ k') :
    Calls Try.prog 82 #[.pointer (some ⟨g, 0, none⟩), .pointer (some ⟨g', 0, none⟩)] w fun e w' => e = .returned (.tuple #[.pointer none, .int .i64 2]) ∧ Below w.heap.size w w' := by
  obtain ⟨A, c, gs, -, hp, -, -, -, -, -, -, -, hS, hB⟩ := h
  obtain ⟨A', c', v', kids', hB', -⟩ := h'.head
  have c1 := hB.cell 1
  have c3 := hB.cell 3
  have d1 := hB'.cell 1
  simp [nodeCells] at c1 c3 d1
  have e1 : ((k : Int) != (k' : Int)) = true := by simp; omega
  clear hB hB' h' hp hS hk
  go_enter Try.func82, Try.ntmps82
  go_wp2_with fail
  go_quiet (fail)
  go_wp2
  go_ret2
  exact ⟨rfl, below_drewN (Below.refl _ _) _⟩
set_option maxHeartbeats 2000000 in
set_option maxRecDepth 100000 in
theorem nd_with_arg {w : World} {k g g' m : Nat} {lv' : Int} {pre pre' : List Nat} {ks : List Kid} {es' : List Ent} (h : Fork w k g m pre ks) (h' : NodeOf w k g' lv' pre' es') (hk1 : 1 ≤ k) (hk : k ≤ 16) (hn : (m : Int) < part pre pre' ∨ (m : Int) ≤ lv') :
    Calls Try.prog 82 #[.pointer (some ⟨g, 0, none⟩), .pointer (some ⟨g', 0, none⟩)] w fun e w' => e = .returned (.tuple #[.pointer none, .int .i64 3]) ∧ Below w.heap.size w w' := by
  have HF := hide h
  obtain ⟨A, c, gs, -, hp, -, -, -, -, -, -, -, hS, hB⟩ := h
  obtain ⟨A', c', v', kids', hB', hp', -⟩ := h'.head
  have c0 := hB.cell 0
  have c1 := hB.cell 1
  have c3 := hB.cell 3
  have d0 := hB'.cell 0
  have d1 := hB'.cell 1
  simp [nodeCells] at c0 c1 c3 d0 d1
  have HP' := hide hp'
  have HN := hide hn
  clear hB hB' h' hp hp' hS hn
  go_enter Try.func82, Try.ntmps82
  go_wp2_with fail
  go_quiet (fail)
  have hb0 : Below w.heap.size w (w.drewN nq) := below_drewN (Below.refl _ w) nq
  have c0' : (w.drewN nq).cell? ⟨g, 0, none⟩ = some (.int .i64 (m : Int)) := c0
  have d0' : (w.drewN nq).cell? ⟨g', 0, none⟩ = some (.int .i64 lv') := d0
  have d1' : (w.drewN nq).cell? ⟨g', 1, none⟩ = some (.slice A' k c') := d1
  go_upto_region 7 with fail
  generalize w.drewN nq = w0 at *
  clear c0 c1 c3 d0 d1
  by_cases hq : part pre pre' ≤ (m : Int)
  · have e1 : decide ((m : Int) ≤ lv') = true := by have := HN.out; simp; omega
    go_region_held3 (fun w' => w'.cell? ⟨g, 0, none⟩ = some (.int .i64 (m : Int)) ∧ w'.cell? ⟨g', 0, none⟩ = some (.int .i64 lv') ∧ w'.cell? ⟨g', 1, none⟩ = some (.slice A' k c'))
      (first
        | go_keep)
      (first
        | (go_at_call 61
           have CC := nd_covers ((HF.out.stay hb0).stay (Below.refl _ w0).drew).node hk1 hk ((HP'.out.below hb0).below (Below.refl _ w0).drew) (d := c')
           rw [decide_eq_true hq] at CC
           refine CC.mono ?_
           rintro e w2 ⟨rfl, rfl⟩))
    go_wp2
    go_ret2
    exact ⟨rfl, hb0.drew⟩
  · have HQ := hide hq
    clear hq
    go_quiet ((go_at_call 61
               have CC := fun N => nd_covers ((HF.out.stay hb0).stay (below_drewN (Below.refl _ w0) N)).node hk1 hk ((HP'.out.below hb0).below (below_drewN (Below.refl _ w0) N)) (d := c')
               rw [decide_eq_false HQ.out] at CC
               exact Calls.quiet_of_same (still_of (CC _))))
    go_wp2
    go_ret2
    exact ⟨rfl, below_drewN hb0 _⟩
set_option maxHeartbeats 4000000 in
set_option maxRecDepth 100000 in
theorem nd_with {w : World} {k g g' m : Nat} {lv' : Int} {pre pre' : List Nat} {ks : List Kid} {es' : List Ent} (h : Fork w k g m pre ks) (h' : NodeOf w k g' lv' pre' es') (hk1 : 1 ≤ k) (hk : k ≤ 16) (hq : part pre pre' ≤ (m : Int)) (hl : lv' < (m : Int)) :
    Calls Try.prog 82 #[.pointer (some ⟨g, 0, none⟩), .pointer (some ⟨g', 0, none⟩)] w fun e w' => ∃ gn, e = .returned (.tuple #[.pointer (some ⟨gn, 0, none⟩), .int .i64 0]) ∧ Fork w' k gn m pre (insK ks ⟨addrOf pre' m, g', lv', pre', es'⟩) ∧ w.heap.size ≤ gn ∧ Below w.heap.size w w' := by
  have HF := hide h
  have HN' := hide h'
  obtain ⟨A, c, gs, hm, hp, hkc, -, -, -, -, -, -, hS, hB⟩ := h
  obtain ⟨A', c', v', kids', hB', hp', -⟩ := h'.head
  have hps := part_spec pre pre' (by rw [hp.1, hp'.1]) hp.2.2 hp'.2.2
  have HPS := hide (fun (b : Nat) (hb : m < b) => hps.2.2.1 b (by omega))
  have c0 := hB.cell 0
  have c1 := hB.cell 1
  have c3 := hB.cell 3
  have d0 := hB'.cell 0
  have d1 := hB'.cell 1
  simp [nodeCells] at c0 c1 c3 d0 d1
  have hgl := hB.lt
  have HP := hide hp
  have HP' := hide hp'
  have HS := hide hS
  have HCC := hide (fun (W : World) (hW : Below w.heap.size w W) => And.intro ((hW.cell (p := ⟨g, 0, none⟩) hgl).trans c0) (And.intro ((hW.cell (p := ⟨g, 1, none⟩) hgl).trans c1) ((hW.cell (p := ⟨g, 3, none⟩) hgl).trans c3)))
  have e1 : decide ((m : Int) ≤ lv') = false := by simp; omega
  have HL := hide hl
  clear hB hB' h' hp hp' hS hl hps
  go_enter Try.func82, Try.ntmps82
  go_wp2_with fail
  go_quiet (fail)
  have hb0 : Below w.heap.size w (w.drewN nq) := below_drewN (Below.refl _ w) nq
  have c0' : (w.drewN nq).cell? ⟨g, 0, none⟩ = some (.int .i64 (m : Int)) := c0
  have d0' : (w.drewN nq).cell? ⟨g', 0, none⟩ = some (.int .i64 lv') := d0
  have d1' : (w.drewN nq).cell? ⟨g', 1, none⟩ = some (.slice A' k c') := d1
  go_upto_region 7 with fail
  generalize w.drewN nq = w0 at *
  clear c0 c1 c3 d0 d1
  go_region_held3 (fun w' => w'.cell? ⟨g, 0, none⟩ = some (.int .i64 (m : Int)) ∧ w'.cell? ⟨g', 0, none⟩ = some (.int .i64 lv') ∧ w'.cell? ⟨g', 1, none⟩ = some (.slice A' k c'))
    (first
      | go_keep)
    (first
      | (go_at_call 61
         have CC := nd_covers ((HF.out.stay hb0).stay (Below.refl _ w0).drew).node hk1 hk ((HP'.out.below hb0).below (Below.refl _ w0).drew) (d := c')
         rw [decide_eq_true hq] at CC
         refine CC.mono ?_
         rintro e w2 ⟨rfl, rfl⟩))
  have hb1 := hb0.drew
  clear c0' d0' d1'
  go_upto_region 9 with fail
  generalize w0.drew = w1 at *
  have q0 := (HCC.out w1 hb1).1
  have q3 := (HCC.out w1 hb1).2.2
  go_region_held3 (fun w' => w'.cell? ⟨g, 0, none⟩ = some (.int .i64 (m : Int)) ∧ w'.cell? ⟨g, 3, none⟩ = some (.pointer (some ⟨gs, 0, none⟩)))
    (first
      | go_keep
      | exact hk3)
    (first
      | (go_at_call 79
         refine (nd_at ((HN'.out.stay hb1).stay (Below.refl _ w1).drew) hk1 hk m hm).mono ?_
         rintro e w2 ⟨rfl, rfl⟩)
      | (go_at_call 78
         have CP := put_n gs k (kidTh ks) (addrOf pre' m) (some ⟨g', 0, none⟩) w1.drew ((HS.out.below hb1).below (Below.refl _ w1).drew) (addr_lt_pow (Pt.zp HP'.out) m)
         rw [← kidTh_ins ks ⟨addrOf pre' m, g', lv', pre', es'⟩] at CP
         refine CP.mono ?_
         rintro e w3 ⟨g3, rfl, hS3, hg3, hb3⟩
         have hc3 := below_then hb1.drew hb3
         have hk3 := And.intro (HCC.out w3 hc3).1 (HCC.out w3 hc3).2.2
         have HS3 := hide hS3
         clear hS3))
  clear q0 q3 hk3
  have q0 := (HCC.out w3 hc3).1
  have q1 := (HCC.out w3 hc3).2.1
  have hks : ∀ q ∈ insK ks ⟨addrOf pre' m, g', lv', pre', es'⟩, ∀ W, Below w.heap.size w W → NodeOf W k q.blk q.lv q.pre q.es := by
    intro q hq W hW
    rcases mem_insK hq with rfl | hq
    · exact HN'.out.stay hW
    · obtain ⟨_, _, _, _, _, _, _, h5, _⟩ := HF.out
      exact (h5 q hq).stay hW
  have HKS := hide hks
  clear hks
  go_upto_region 10 with fail
  go_region_held3 (fun w' => w'.cell? ⟨g, 0, none⟩ = some (.int .i64 (m : Int)) ∧ w'.cell? ⟨g, 1, none⟩ = some (.slice A k c))
    (first
      | go_keep
      | exact hk4)
    (first
      | (go_at_call 81
         refine (nd_made (lv := (m : Int)) (A := A) (c := c) (HS3.out.below (Below.refl _ w3).drew) (fun q hq => HKS.out q hq _ hc3.drew)).mono ?_
         rintro e w4 ⟨rfl, hB4, hb4⟩
         have hc4 := below_then hc3.drew hb4
         have hk4 := And.intro (HCC.out w4 hc4).1 (HCC.out w4 hc4).2.1
         have HB4 := hide hB4
         clear hB4))
  clear hk4 q0 q1
  go_wp2
  go_ret2
  refine ⟨_, rfl, ?_, hc3.size, hc4⟩
  obtain ⟨_, _, _, _, _, _, h4, h5, h6, h7, h8, h9, _, _⟩ := HF.out
  refine ⟨A, c, g3, hm, HP.out.below hc4, hkc, h4, fun q hq => HKS.out q hq _ hc4, fun q hq => ?_, fun q hq => ?_, insK_sorted h8, Nat.le_trans h9 (insK_len _ h8), HS3.out.below ((Below.refl _ w3).drew.trans hb4), HB4.out⟩
  · rcases mem_insK hq with rfl | hq
    · exact HL.out
    · exact h6 q hq
  · rcases mem_insK hq with rfl | hq
    · exact ⟨rfl, fun b hb => (HPS.out b hb).symm⟩
    · exact h7 q hq
end
section
open Go.RowKit
theorem delK_len {ks : List Kid} {a : Nat} (h : ks.Pairwise fun q r => q.at_ < r.at_) (hm : ∃ q ∈ ks, q.at_ = a) : (delK ks a).length + 1 = ks.length := by
  induction ks with
  | nil => obtain ⟨q, hq, _⟩ := hm; cases hq
  | cons r t ih =>
    obtain ⟨h1, h2⟩ := List.pairwise_cons.1 h
    unfold delK
    by_cases hr : r.at_ = a
    · have hall : (t.filter fun x => decide (x.at_ ≠ a)) = t := by
        rw [List.filter_eq_self]
        intro x hx
        have := h1 x hx
        simp; omega
      rw [List.filter_cons_of_neg (by simp [hr]), hall]
      simp
    · obtain ⟨q, hq, hqa⟩ := hm
      have hqt : q ∈ t := by
        rcases List.mem_cons.1 hq with rfl | hq
        · exact absurd hqa hr
        · exact hq
      have := ih h2 ⟨q, hqt, hqa⟩
      unfold delK at this
      rw [List.filter_cons_of_pos (by simp [hr])]
      simp only [List.length_cons]
      omega
theorem mem_delK {ks : List Kid} {a : Nat} {r : Kid} : r ∈ delK ks a ↔ r ∈ ks ∧ r.at_ ≠ a := by
  unfold delK
  rw [List.mem_filter]
  simp
set_option maxHeartbeats 1000000 in
set_option maxRecDepth 100000 in
theorem nd_without_bad {w : World} {k g m : Nat} {pre : List Nat} {ks : List Kid} (h : Fork w k g m pre ks) (addr : Int) (ha : chk k addr = 3) :
    Calls Try.prog 84 #[.pointer (some ⟨g, 0, none⟩), .int .i64 addr] w fun e w' => e = .returned (.tuple #[.pointer none, .int .i64 3]) ∧ Below w.heap.size w w' := by
  obtain ⟨A, c, gs, -, hp, -, -, -, -, -, -, -, hS, hB⟩ := h
  have c3 := hB.cell 3
  simp [nodeCells] at c3
  have HD := hide (del_bad_n gs k (kidTh ks) addr w hS ha)
  clear hB hp hS ha
  go_enter Try.func84, Try.ntmps84
  go_wp2_with fail
  refine HD.out.mono ?_
  rintro e w1 ⟨rfl, hb1⟩
  go_wp2
  go_ret2
  exact ⟨rfl, hb1⟩
set_option maxHeartbeats 1000000 in
set_option maxRecDepth 100000 in
theorem nd_without_none {w : World} {k g m : Nat} {pre : List Nat} {ks : List Kid} (h : Fork w k g m pre ks) (addr : Int) (ha : chk k addr = 0) (hg : getTh (kidTh ks) addr = none) :
    Calls Try.prog 84 #[.pointer (some ⟨g, 0, none⟩), .int .i64 addr] w fun e w' => e = .returned (.tuple #[.pointer none, .int .i64 6]) ∧ Below w.heap.size w w' := by
  obtain ⟨A, c, gs, -, hp, -, -, -, -, -, -, -, hS, hB⟩ := h
  have c3 := hB.cell 3
  simp [nodeCells] at c3
  have HD := hide (del_none_n gs k (kidTh ks) addr w hS ha hg)
  clear hB hp hS ha hg
  go_enter Try.func84, Try.ntmps84
  go_wp2_with fail
  refine HD.out.mono ?_
  rintro e w1 ⟨rfl, hb1⟩
  go_wp2
  go_ret2
  exact ⟨rfl, hb1⟩
set_option maxHeartbeats 2000000 in
set_option maxRecDepth 100000 in
/-- One kid is left: it is what there is. -/
theorem nd_without_two {w : World} {k g m : Nat} {pre : List Nat} {ks : List Kid} {a : Nat} {q r : Kid} (h : Fork w k g m pre ks) (ha : a < 2 ^ k) (hq : q ∈ ks) (hqa : q.at_ = a) (hr : delK ks a = [r]) :
    Calls Try.prog 84 #[.pointer (some ⟨g, 0, none⟩), .int .i64 (a : Int)] w fun e w' => e = .returned (.tuple #[.pointer (some ⟨r.blk, 0, none⟩), .int .i64 0]) ∧ Below w.heap.size w w' := by
  obtain ⟨A, c, gs, -, hp, -, -, -, -, -, -, -, hS, hB⟩ := h
  have c3 := hB.cell 3
  simp [nodeCells] at c3
  have hth : getTh (kidTh ks) (a : Int) = some (.pointer (some ⟨q.blk, 0, none⟩)) := by
    rw [← hqa]
    exact getTh_some hS.ok (t := (q.at_, .pointer (some ⟨q.blk, 0, none⟩))) (List.mem_map.2 ⟨q, hq, rfl⟩)
  have CD := del_n gs k (kidTh ks) a _ w hS ha hth
  rw [← kidTh_del, hr] at CD
  have HD := hide CD
  clear hB hp hS ha hth CD hqa hq hr
  go_enter Try.func84, Try.ntmps84
  go_wp2_with fail
  refine HD.out.mono ?_
  rintro e w1 ⟨g1, rfl, hS1, hg1, hb1⟩
  have HLN := hide (len_n g1 k (kidTh [r]) w1 hS1)
  have HAL := hide (kid_all hS1)
  clear HD hS1 hg1
  go_wp2_with fail
  refine HLN.out.mono ?_
  rintro e w2 ⟨rfl, rfl⟩
  have hl1 : (kidTh [r]).length = 1 := rfl
  rw [hl1]
  clear hl1
  go_wp2_with fail
  refine HAL.out.mono ?_
  rintro e w2 ⟨v2, rfl, ho2, hb2⟩
  obtain ⟨A2, c2, rfl, -, hR2⟩ := Rw.of_own ho2
  obtain ⟨b, o, rfl, -, u, hu, k0⟩ := hR2.one (i := 0) (by simp)
  simp at hu
  rw [← hu, Nat.add_zero] at k0
  clear ho2 hR2 hu HAL HLN
  go_wp2
  go_ret2
  exact ⟨rfl, below_then hb1 hb2⟩
set_option maxHeartbeats 2000000 in
set_option maxRecDepth 100000 in
theorem nd_without {w : World} {k g m : Nat} {pre : List Nat} {ks : List Kid} {a : Nat} {q : Kid} (h : Fork w k g m pre ks) (ha : a < 2 ^ k) (hq : q ∈ ks) (hqa : q.at_ = a) (h3 : 3 ≤ ks.length) :
    Calls Try.prog 84 #[.pointer (some ⟨g, 0, none⟩), .int .i64 (a : Int)] w fun e w' => ∃ gn, e = .returned (.tuple #[.pointer (some ⟨gn, 0, none⟩), .int .i64 0]) ∧ Fork w' k gn m pre (delK ks a) ∧ w.heap.size ≤ gn ∧ Below w.heap.size w w' := by
  have HF := hide h
  obtain ⟨A, c, gs, hm, hp, hkc, -, -, -, -, hs, -, hS, hB⟩ := h
  have c0 := hB.cell 0
  have c1 := hB.cell 1
  have c3 := hB.cell 3
  simp [nodeCells] at c0 c1 c3
  have hgl := hB.lt
  have HCC := hide (fun (W : World) (hW : Below w.heap.size w W) => And.intro ((hW.cell (p := ⟨g, 0, none⟩) hgl).trans c0) ((hW.cell (p := ⟨g, 1, none⟩) hgl).trans c1))
  have hth : getTh (kidTh ks) (a : Int) = some (.pointer (some ⟨q.blk, 0, none⟩)) := by
    rw [← hqa]
    exact getTh_some hS.ok (t := (q.at_, .pointer (some ⟨q.blk, 0, none⟩))) (List.mem_map.2 ⟨q, hq, rfl⟩)
  have hlen := delK_len hs ⟨q, hq, hqa⟩
  have CD := del_n gs k (kidTh ks) a _ w hS ha hth
  rw [← kidTh_del] at CD
  have HD := hide CD
  have HLE := hide hlen
  have hl2 : 2 ≤ (delK ks a).length := by omega
  have hl16 : (delK ks a).length ≤ 65536 := by
    have h1 := len_le_of_ok hS.ok
    have h2 := pow16 hS.2.1
    simp [kidTh] at h1
    omega
  have HP := hide hp
  have hne1 : (((delK ks a).length : Int) == 1) = false := by simp; omega
  clear hB hp hS ha hth CD hqa hq hlen c0 c1 hs
  go_enter Try.func84, Try.ntmps84
  go_wp2_with fail
  refine HD.out.mono ?_
  rintro e w1 ⟨g1, rfl, hS1, hg1, hb1⟩
  have CL := len_n g1 k (kidTh (delK ks a)) w1 hS1
  rw [show (kidTh (delK ks a)).length = (delK ks a).length by simp [kidTh]] at CL
  have HLN := hide CL
  have HS1 := hide hS1
  clear HD hS1 hg1 CL
  go_wp2_with fail
  refine HLN.out.mono ?_
  rintro e w2 ⟨rfl, rfl⟩
  have q0 := (HCC.out w1 hb1).1
  have q1 := (HCC.out w1 hb1).2
  have hks : ∀ q ∈ delK ks a, ∀ W, Below w.heap.size w W → NodeOf W k q.blk q.lv q.pre q.es := by
    intro q hq W hW
    obtain ⟨_, _, _, _, _, _, _, h5, _⟩ := HF.out
    exact (h5 q (mem_delK.1 hq).1).stay hW
  have HKS := hide hks
  clear hks HLN
  go_upto_region 10 with fail
  go_region_held3 (fun w' => w'.cell? ⟨g, 0, none⟩ = some (.int .i64 (m : Int)) ∧ w'.cell? ⟨g, 1, none⟩ = some (.slice A k c))
    (first
      | go_keep
      | exact hk4)
    (first
      | (go_at_call 81
         refine (nd_made (lv := (m : Int)) (A := A) (c := c) (HS1.out.below (Below.refl _ w1).drew) (fun q hq => HKS.out q hq _ hb1.drew)).mono ?_
         rintro e w4 ⟨rfl, hB4, hb4⟩
         have hc4 := below_then hb1.drew hb4
         have hk4 := And.intro (HCC.out w4 hc4).1 (HCC.out w4 hc4).2
         have HB4 := hide hB4
         clear hB4))
  clear hk4 q0 q1
  go_wp2
  go_ret2
  refine ⟨_, rfl, ?_, hb1.size, hc4⟩
  obtain ⟨_, _, _, _, _, _, h4, h5, h6, h7, h8, h9, _, _⟩ := HF.out
  exact ⟨A, c, g1, hm, HP.out.below hc4, hkc, h4, fun q hq => HKS.out q hq _ hc4, fun q hq => h6 q (mem_delK.1 hq).1, fun q hq => h7 q (mem_delK.1 hq).1, delK_sorted h8, hl2, HS1.out.below ((Below.refl _ w1).drew.trans hb4), HB4.out⟩
end
end Go.Proofs.Ytfkpanpageeklaa
