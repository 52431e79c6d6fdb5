/- Nodes: With, Without; pantilelaw06.Flat; the plain law of NodeWith. No condition. -/
import Derived.Test.YtkknfnjojamgjaaNd8
import Derived.Test.YtkknfnjojamgjaaNd9
import Derived.Test.YtkknfnjojamgjaaCells
import Derived.Test.YtkknfnjojamgjaaLaw6g
set_option linter.unusedSimpArgs false
set_option linter.unusedVariables false
namespace Go.Proofs.Ytkknfnjojamgjaa
open Go.RowKit
theorem filt_len {ks : List Kid} (a : Nat) (h : ks.Pairwise fun q r => q.at_ < r.at_) :
    ks.length ≤ (ks.filter fun r => decide (r.at_ < a)).length + (ks.filter fun r => decide (a < r.at_)).length + 1 := by
  induction ks with
  | nil => simp
  | cons r t ih =>
    obtain ⟨h1, h2⟩ := List.pairwise_cons.1 h
    have ih := ih h2
    rcases Nat.lt_trichotomy r.at_ a with hlt | heq | hgt
    · rw [List.filter_cons_of_pos (by simpa using hlt), List.filter_cons_of_neg (by simp; omega)]
      simp only [List.length_cons]
      omega
    · have hall : (t.filter fun r => decide (a < r.at_)) = t := by
        rw [List.filter_eq_self]
        intro x hx
        have := h1 x hx
        simp; omega
      rw [List.filter_cons_of_neg (by simp; omega), List.filter_cons_of_neg (by simp; omega), hall]
      simp only [List.length_cons]
      omega
    · rw [List.filter_cons_of_neg (by simp; omega), List.filter_cons_of_pos (by simpa using hgt)]
      simp only [List.length_cons]
      omega
theorem insK_len {ks : List Kid} (q : Kid) (h : ks.Pairwise fun q r => q.at_ < r.at_) : ks.length ≤ (insK ks q).length := by
  have := filt_len q.at_ h
  unfold insK
  simp only [List.length_append, List.length_cons, List.length_nil]
  omega
set_option maxHeartbeats 1000000 in
set_option maxRecDepth 100000 in
theorem nd_with_dim {w : World} {k k' g g' m : Nat} {lv' : Int} {pre pre' : List Nat} {ks : List Kid} {es' : List Ent} (h : Fork w k g m pre ks) (h' : NodeOf w k' g' lv' pre' es') (hk : k ≠ k') :
    Calls Try.prog 49 #[.pointer (some ⟨g, 0, none⟩), .pointer (some ⟨g', 0, none⟩)] w fun e w' => e = .returned (.tuple #[.pointer none, .int .i64 2]) ∧ Below w.heap.size w w' := by
  obtain ⟨A, c, gs, -, hp, -, -, -, -, -, -, -, hS, hB⟩ := h
  obtain ⟨A', c', v', kids', hB', -⟩ := h'.head
  have c1 := hB.cell 1
  have c3 := hB.cell 3
  have d1 := hB'.cell 1
  simp [nodeCells] at c1 c3 d1
  have e1 : ((k : Int) != (k' : Int)) = true := by simp; omega
  clear hB hB' h' hp hS hk
  go_enter Try.func49, Try.ntmps49
  go_wp2_with fail
  go_quiet (fail)
  go_wp2
  go_ret2
  exact ⟨rfl, below_drewN (Below.refl _ _) _⟩
set_option maxHeartbeats 2000000 in
set_option maxRecDepth 100000 in
theorem nd_with_arg {w : World} {k g g' m : Nat} {lv' : Int} {pre pre' : List Nat} {ks : List Kid} {es' : List Ent} (h : Fork w k g m pre ks) (h' : NodeOf w k g' lv' pre' es') (hk1 : 1 ≤ k) (hk : k ≤ 16) (hn : (m : Int) < part pre pre' ∨ (m : Int) ≤ lv') :
    Calls Try.prog 49 #[.pointer (some ⟨g, 0, none⟩), .pointer (some ⟨g', 0, none⟩)] w fun e w' => e = .returned (.tuple #[.pointer none, .int .i64 3]) ∧ Below w.heap.size w w' := by
  have HF := hide h
  obtain ⟨A, c, gs, -, hp, -, -, -, -, -, -, -, hS, hB⟩ := h
  obtain ⟨A', c', v', kids', hB', hp', -⟩ := h'.head
  have c0 := hB.cell 0
  have c1 := hB.cell 1
  have c3 := hB.cell 3
  have d0 := hB'.cell 0
  have d1 := hB'.cell 1
  simp [nodeCells] at c0 c1 c3 d0 d1
  have HP' := hide hp'
  have HN := hide hn
  clear hB hB' h' hp hp' hS hn
  go_enter Try.func49, Try.ntmps49
  go_wp2_with fail
  go_quiet (fail)
  have hb0 : Below w.heap.size w (w.drewN nq) := below_drewN (Below.refl _ w) nq
  have c0' : (w.drewN nq).cell? ⟨g, 0, none⟩ = some (.int .i64 (m : Int)) := c0
  have d0' : (w.drewN nq).cell? ⟨g', 0, none⟩ = some (.int .i64 lv') := d0
  have d1' : (w.drewN nq).cell? ⟨g', 1, none⟩ = some (.slice A' k c') := d1
  go_upto_region 7 with fail
  generalize w.drewN nq = w0 at *
  clear c0 c1 c3 d0 d1
  by_cases hq : part pre pre' ≤ (m : Int)
  · have e1 : decide ((m : Int) ≤ lv') = true := by have := HN.out; simp; omega
    go_region_held3 (fun w' => w'.cell? ⟨g, 0, none⟩ = some (.int .i64 (m : Int)) ∧ w'.cell? ⟨g', 0, none⟩ = some (.int .i64 lv') ∧ w'.cell? ⟨g', 1, none⟩ = some (.slice A' k c'))
      (first
        | go_keep)
      (first
        | (go_at_call 40
           have CC := nd_covers ((HF.out.stay hb0).stay (Below.refl _ w0).drew).node hk1 hk ((HP'.out.below hb0).below (Below.refl _ w0).drew) (d := c')
           rw [decide_eq_true hq] at CC
           refine CC.mono ?_
           rintro e w2 ⟨rfl, rfl⟩))
    go_wp2
    go_ret2
    exact ⟨rfl, hb0.drew⟩
  · have HQ := hide hq
    clear hq
    go_quiet ((go_at_call 40
               have CC := fun N => nd_covers ((HF.out.stay hb0).stay (below_drewN (Below.refl _ w0) N)).node hk1 hk ((HP'.out.below hb0).below (below_drewN (Below.refl _ w0) N)) (d := c')
               rw [decide_eq_false HQ.out] at CC
               exact Calls.quiet_of_same (still_of (CC _))))
    go_wp2
    go_ret2
    exact ⟨rfl, below_drewN hb0 _⟩
set_option maxHeartbeats 4000000 in
set_option maxRecDepth 100000 in
theorem nd_with {w : World} {k g g' m : Nat} {lv' : Int} {pre pre' : List Nat} {ks : List Kid} {es' : List Ent} (h : Fork w k g m pre ks) (h' : NodeOf w k g' lv' pre' es') (hk1 : 1 ≤ k) (hk : k ≤ 16) (hq : part pre pre' ≤ (m : Int)) (hl : lv' < (m : Int)) :
    Calls Try.prog 49 #[.pointer (some ⟨g, 0, none⟩), .pointer (some ⟨g', 0, none⟩)] w fun e w' => ∃ gn, e = .returned (.tuple #[.pointer (some ⟨gn, 0, none⟩), .int .i64 0]) ∧ Fork w' k gn m pre (insK ks ⟨addrOf pre' m, g', lv', pre', es'⟩) ∧ w.heap.size ≤ gn ∧ Below w.heap.size w w' := by
  have HF := hide h
  have HN' := hide h'
  obtain ⟨A, c, gs, hm, hp, hkc, -, -, -, -, -, -, hS, hB⟩ := h
  obtain ⟨A', c', v', kids', hB', hp', -⟩ := h'.head
  have hps := part_spec pre pre' (by rw [hp.1, hp'.1]) hp.2.2 hp'.2.2
  have HPS := hide (fun (b : Nat) (hb : m < b) => hps.2.2.1 b (by omega))
  have c0 := hB.cell 0
  have c1 := hB.cell 1
  have c3 := hB.cell 3
  have d0 := hB'.cell 0
  have d1 := hB'.cell 1
  simp [nodeCells] at c0 c1 c3 d0 d1
  have hgl := hB.lt
  have HP := hide hp
  have HP' := hide hp'
  have HS := hide hS
  have HCC := hide (fun (W : World) (hW : Below w.heap.size w W) => And.intro ((hW.cell (p := ⟨g, 0, none⟩) hgl).trans c0) (And.intro ((hW.cell (p := ⟨g, 1, none⟩) hgl).trans c1) ((hW.cell (p := ⟨g, 3, none⟩) hgl).trans c3)))
  have e1 : decide ((m : Int) ≤ lv') = false := by simp; omega
  have HL := hide hl
  clear hB hB' h' hp hp' hS hl hps
  go_enter Try.func49, Try.ntmps49
  go_wp2_with fail
  go_quiet (fail)
  have hb0 : Below w.heap.size w (w.drewN nq) := below_drewN (Below.refl _ w) nq
  have c0' : (w.drewN nq).cell? ⟨g, 0, none⟩ = some (.int .i64 (m : Int)) := c0
  have d0' : (w.drewN nq).cell? ⟨g', 0, none⟩ = some (.int .i64 lv') := d0
  have d1' : (w.drewN nq).cell? ⟨g', 1, none⟩ = some (.slice A' k c') := d1
  go_upto_region 7 with fail
  generalize w.drewN nq = w0 at *
  clear c0 c1 c3 d0 d1
  go_region_held3 (fun w' => w'.cell? ⟨g, 0, none⟩ = some (.int .i64 (m : Int)) ∧ w'.cell? ⟨g', 0, none⟩ = some (.int .i64 lv') ∧ w'.cell? ⟨g', 1, none⟩ = some (.slice A' k c'))
    (first
      | go_keep)
    (first
      | (go_at_call 40
         have CC := nd_covers ((HF.out.stay hb0).stay (Below.refl _ w0).drew).node hk1 hk ((HP'.out.below hb0).below (Below.refl _ w0).drew) (d := c')
         rw [decide_eq_true hq] at CC
         refine CC.mono ?_
         rintro e w2 ⟨rfl, rfl⟩))
  have hb1 := hb0.drew
  clear c0' d0' d1'
  go_upto_region 9 with fail
  generalize w0.drew = w1 at *
  have q0 := (HCC.out w1 hb1).1
  have q3 := (HCC.out w1 hb1).2.2
  go_region_held3 (fun w' => w'.cell? ⟨g, 0, none⟩ = some (.int .i64 (m : Int)) ∧ w'.cell? ⟨g, 3, none⟩ = some (.pointer (some ⟨gs, 0, none⟩)))
    (first
      | go_keep
      | exact hk3)
    (first
      | (go_at_call 95
         refine (nd_at ((HN'.out.stay hb1).stay (Below.refl _ w1).drew) hk1 hk m hm).mono ?_
         rintro e w2 ⟨rfl, rfl⟩)
      | (go_at_call 94
         have CP := put_n gs k (kidTh ks) (addrOf pre' m) (some ⟨g', 0, none⟩) w1.drew ((HS.out.below hb1).below (Below.refl _ w1).drew) (addr_lt_pow (Pt.zp HP'.out) m)
         rw [← kidTh_ins ks ⟨addrOf pre' m, g', lv', pre', es'⟩] at CP
         refine CP.mono ?_
         rintro e w3 ⟨g3, rfl, hS3, hg3, hb3⟩
         have hc3 := below_then hb1.drew hb3
         have hk3 := And.intro (HCC.out w3 hc3).1 (HCC.out w3 hc3).2.2
         have HS3 := hide hS3
         clear hS3))
  clear q0 q3 hk3
  have q0 := (HCC.out w3 hc3).1
  have q1 := (HCC.out w3 hc3).2.1
  have hks : ∀ q ∈ insK ks ⟨addrOf pre' m, g', lv', pre', es'⟩, ∀ W, Below w.heap.size w W → NodeOf W k q.blk q.lv q.pre q.es := by
    intro q hq W hW
    rcases mem_insK hq with rfl | hq
    · exact HN'.out.stay hW
    · obtain ⟨_, _, _, _, _, _, _, h5, _⟩ := HF.out
      exact (h5 q hq).stay hW
  have HKS := hide hks
  clear hks
  go_upto_region 10 with fail
  go_region_held3 (fun w' => w'.cell? ⟨g, 0, none⟩ = some (.int .i64 (m : Int)) ∧ w'.cell? ⟨g, 1, none⟩ = some (.slice A k c))
    (first
      | go_keep
      | exact hk4)
    (first
      | (go_at_call 97
         refine (nd_made (lv := (m : Int)) (A := A) (c := c) (HS3.out.below (Below.refl _ w3).drew) (fun q hq => HKS.out q hq _ hc3.drew)).mono ?_
         rintro e w4 ⟨rfl, hB4, hb4⟩
         have hc4 := below_then hc3.drew hb4
         have hk4 := And.intro (HCC.out w4 hc4).1 (HCC.out w4 hc4).2.1
         have HB4 := hide hB4
         clear hB4))
  clear hk4 q0 q1
  go_wp2
  go_ret2
  refine ⟨_, rfl, ?_, hc3.size, hc4⟩
  obtain ⟨_, _, _, _, _, _, h4, h5, h6, h7, h8, h9, _, _⟩ := HF.out
  refine ⟨A, c, g3, hm, HP.out.below hc4, hkc, h4, fun q hq => HKS.out q hq _ hc4, fun q hq => ?_, fun q hq => ?_, insK_sorted h8, Nat.le_trans h9 (insK_len _ h8), HS3.out.below ((Below.refl _ w3).drew.trans hb4), HB4.out⟩
  · rcases mem_insK hq with rfl | hq
    · exact HL.out
    · exact h6 q hq
  · rcases mem_insK hq with rfl | hq
    · exact ⟨rfl, fun b hb => (HPS.out b hb).symm⟩
    · exact h7 q hq
theorem delK_len {ks : List Kid} {a : Nat} (h : ks.Pairwise fun q r => q.at_ < r.at_) (hm : ∃ q ∈ ks, q.at_ = a) : (delK ks a).length + 1 = ks.length := by
  induction ks with
  | nil => obtain ⟨q, hq, _⟩ := hm; cases hq
  | cons r t ih =>
    obtain ⟨h1, h2⟩ := List.pairwise_cons.1 h
    unfold delK
    by_cases hr : r.at_ = a
    · have hall : (t.filter fun x => decide (x.at_ ≠ a)) = t := by
        rw [List.filter_eq_self]
        intro x hx
        have := h1 x hx
        simp; omega
      rw [List.filter_cons_of_neg (by simp [hr]), hall]
      simp
    · obtain ⟨q, hq, hqa⟩ := hm
      have hqt : q ∈ t := by
        rcases List.mem_cons.1 hq with rfl | hq
        · exact absurd hqa hr
        · exact hq
      have := ih h2 ⟨q, hqt, hqa⟩
      unfold delK at this
      rw [List.filter_cons_of_pos (by simp [hr])]
      simp only [List.length_cons]
      omega
theorem mem_delK {ks : List Kid} {a : Nat} {r : Kid} : r ∈ delK ks a ↔ r ∈ ks ∧ r.at_ ≠ a := by
  unfold delK
  rw [List.mem_filter]
  simp
set_option maxHeartbeats 1000000 in
set_option maxRecDepth 100000 in
theorem nd_without_bad {w : World} {k g m : Nat} {pre : List Nat} {ks : List Kid} (h : Fork w k g m pre ks) (addr : Int) (ha : chk k addr = 3) :
    Calls Try.prog 50 #[.pointer (some ⟨g, 0, none⟩), .int .i64 addr] w fun e w' => e = .returned (.tuple #[.pointer none, .int .i64 3]) ∧ Below w.heap.size w w' := by
  obtain ⟨A, c, gs, -, hp, -, -, -, -, -, -, -, hS, hB⟩ := h
  have c3 := hB.cell 3
  simp [nodeCells] at c3
  have HD := hide (del_bad_n gs k (kidTh ks) addr w hS ha)
  clear hB hp hS ha
  go_enter Try.func50, Try.ntmps50
  go_wp2_with fail
  refine HD.out.mono ?_
  rintro e w1 ⟨rfl, hb1⟩
  go_wp2
  go_ret2
  exact ⟨rfl, hb1⟩
set_option maxHeartbeats 1000000 in
set_option maxRecDepth 100000 in
theorem nd_without_none {w : World} {k g m : Nat} {pre : List Nat} {ks : List Kid} (h : Fork w k g m pre ks) (addr : Int) (ha : chk k addr = 0) (hg : getTh (kidTh ks) addr = none) :
    Calls Try.prog 50 #[.pointer (some ⟨g, 0, none⟩), .int .i64 addr] w fun e w' => e = .returned (.tuple #[.pointer none, .int .i64 6]) ∧ Below w.heap.size w w' := by
  obtain ⟨A, c, gs, -, hp, -, -, -, -, -, -, -, hS, hB⟩ := h
  have c3 := hB.cell 3
  simp [nodeCells] at c3
  have HD := hide (del_none_n gs k (kidTh ks) addr w hS ha hg)
  clear hB hp hS ha hg
  go_enter Try.func50, Try.ntmps50
  go_wp2_with fail
  refine HD.out.mono ?_
  rintro e w1 ⟨rfl, hb1⟩
  go_wp2
  go_ret2
  exact ⟨rfl, hb1⟩
set_option maxHeartbeats 2000000 in
set_option maxRecDepth 100000 in
/-- One kid is left: it is what there is. -/
theorem nd_without_two {w : World} {k g m : Nat} {pre : List Nat} {ks : List Kid} {a : Nat} {q r : Kid} (h : Fork w k g m pre ks) (ha : a < 2 ^ k) (hq : q ∈ ks) (hqa : q.at_ = a) (hr : delK ks a = [r]) :
    Calls Try.prog 50 #[.pointer (some ⟨g, 0, none⟩), .int .i64 (a : Int)] w fun e w' => e = .returned (.tuple #[.pointer (some ⟨r.blk, 0, none⟩), .int .i64 0]) ∧ Below w.heap.size w w' := by
  obtain ⟨A, c, gs, -, hp, -, -, -, -, -, -, -, hS, hB⟩ := h
  have c3 := hB.cell 3
  simp [nodeCells] at c3
  have hth : getTh (kidTh ks) (a : Int) = some (.pointer (some ⟨q.blk, 0, none⟩)) := by
    rw [← hqa]
    exact getTh_some hS.ok (t := (q.at_, .pointer (some ⟨q.blk, 0, none⟩))) (List.mem_map.2 ⟨q, hq, rfl⟩)
  have CD := del_n gs k (kidTh ks) a _ w hS ha hth
  rw [← kidTh_del, hr] at CD
  have HD := hide CD
  clear hB hp hS ha hth CD hqa hq hr
  go_enter Try.func50, Try.ntmps50
  go_wp2_with fail
  refine HD.out.mono ?_
  rintro e w1 ⟨g1, rfl, hS1, hg1, hb1⟩
  have HLN := hide (len_n g1 k (kidTh [r]) w1 hS1)
  have HAL := hide (kid_all hS1)
  clear HD hS1 hg1
  go_wp2_with fail
  refine HLN.out.mono ?_
  rintro e w2 ⟨rfl, rfl⟩
  have hl1 : (kidTh [r]).length = 1 := rfl
  rw [hl1]
  clear hl1
  go_wp2_with fail
  refine HAL.out.mono ?_
  rintro e w2 ⟨v2, rfl, ho2, hb2⟩
  obtain ⟨A2, c2, rfl, -, hR2⟩ := Rw.of_own ho2
  obtain ⟨b, o, rfl, -, u, hu, k0⟩ := hR2.one (i := 0) (by simp)
  simp at hu
  rw [← hu, Nat.add_zero] at k0
  clear ho2 hR2 hu HAL HLN
  go_wp2
  go_ret2
  exact ⟨rfl, below_then hb1 hb2⟩
set_option maxHeartbeats 2000000 in
set_option maxRecDepth 100000 in
theorem nd_without {w : World} {k g m : Nat} {pre : List Nat} {ks : List Kid} {a : Nat} {q : Kid} (h : Fork w k g m pre ks) (ha : a < 2 ^ k) (hq : q ∈ ks) (hqa : q.at_ = a) (h3 : 3 ≤ ks.length) :
    Calls Try.prog 50 #[.pointer (some ⟨g, 0, none⟩), .int .i64 (a : Int)] w fun e w' => ∃ gn, e = .returned (.tuple #[.pointer (some ⟨gn, 0, none⟩), .int .i64 0]) ∧ Fork w' k gn m pre (delK ks a) ∧ w.heap.size ≤ gn ∧ Below w.heap.size w w' := by
  have HF := hide h
  obtain ⟨A, c, gs, hm, hp, hkc, -, -, -, -, hs, -, hS, hB⟩ := h
  have c0 := hB.cell 0
  have c1 := hB.cell 1
  have c3 := hB.cell 3
  simp [nodeCells] at c0 c1 c3
  have hgl := hB.lt
  have HCC := hide (fun (W : World) (hW : Below w.heap.size w W) => And.intro ((hW.cell (p := ⟨g, 0, none⟩) hgl).trans c0) ((hW.cell (p := ⟨g, 1, none⟩) hgl).trans c1))
  have hth : getTh (kidTh ks) (a : Int) = some (.pointer (some ⟨q.blk, 0, none⟩)) := by
    rw [← hqa]
    exact getTh_some hS.ok (t := (q.at_, .pointer (some ⟨q.blk, 0, none⟩))) (List.mem_map.2 ⟨q, hq, rfl⟩)
  have hlen := delK_len hs ⟨q, hq, hqa⟩
  have CD := del_n gs k (kidTh ks) a _ w hS ha hth
  rw [← kidTh_del] at CD
  have HD := hide CD
  have HLE := hide hlen
  have hl2 : 2 ≤ (delK ks a).length := by omega
  have hl16 : (delK ks a).length ≤ 65536 := by
    have h1 := len_le_of_ok hS.ok
    have h2 := pow16 hS.2.1
    simp [kidTh] at h1
    omega
  have HP := hide hp
  have hne1 : (((delK ks a).length : Int) == 1) = false := by simp; omega
  clear hB hp hS ha hth CD hqa hq hlen c0 c1 hs
  go_enter Try.func50, Try.ntmps50
  go_wp2_with fail
  refine HD.out.mono ?_
  rintro e w1 ⟨g1, rfl, hS1, hg1, hb1⟩
  have CL := len_n g1 k (kidTh (delK ks a)) w1 hS1
  rw [show (kidTh (delK ks a)).length = (delK ks a).length by simp [kidTh]] at CL
  have HLN := hide CL
  have HS1 := hide hS1
  clear HD hS1 hg1 CL
  go_wp2_with fail
  refine HLN.out.mono ?_
  rintro e w2 ⟨rfl, rfl⟩
  have q0 := (HCC.out w1 hb1).1
  have q1 := (HCC.out w1 hb1).2
  have hks : ∀ q ∈ delK ks a, ∀ W, Below w.heap.size w W → NodeOf W k q.blk q.lv q.pre q.es := by
    intro q hq W hW
    obtain ⟨_, _, _, _, _, _, _, h5, _⟩ := HF.out
    exact (h5 q (mem_delK.1 hq).1).stay hW
  have HKS := hide hks
  clear hks HLN
  go_upto_region 10 with fail
  go_region_held3 (fun w' => w'.cell? ⟨g, 0, none⟩ = some (.int .i64 (m : Int)) ∧ w'.cell? ⟨g, 1, none⟩ = some (.slice A k c))
    (first
      | go_keep
      | exact hk4)
    (first
      | (go_at_call 97
         refine (nd_made (lv := (m : Int)) (A := A) (c := c) (HS1.out.below (Below.refl _ w1).drew) (fun q hq => HKS.out q hq _ hb1.drew)).mono ?_
         rintro e w4 ⟨rfl, hB4, hb4⟩
         have hc4 := below_then hb1.drew hb4
         have hk4 := And.intro (HCC.out w4 hc4).1 (HCC.out w4 hc4).2
         have HB4 := hide hB4
         clear hB4))
  clear hk4 q0 q1
  go_wp2
  go_ret2
  refine ⟨_, rfl, ?_, hb1.size, hc4⟩
  obtain ⟨_, _, _, _, _, _, h4, h5, h6, h7, h8, h9, _, _⟩ := HF.out
  exact ⟨A, c, g1, hm, HP.out.below hc4, hkc, h4, fun q hq => HKS.out q hq _ hc4, fun q hq => h6 q (mem_delK.1 hq).1, fun q hq => h7 q (mem_delK.1 hq).1, delK_sorted h8, hl2, HS1.out.below ((Below.refl _ w1).drew.trans hb4), HB4.out⟩
theorem th_split {α : Type} {L : List α} {i : Nat} {t : α} (h : L[i]? = some t) : L = L.take i ++ t :: L.drop (i + 1) := by
  obtain ⟨h1, rfl⟩ := List.getElem?_eq_some_iff.1 h
  rw [← List.drop_eq_getElem_cons h1, List.take_append_drop]
theorem th_from_at {k : Nat} {L : Th} {addr : Int} {i : Nat} (hO : OkTh k L) (hl : ∀ (j : Nat) t, L[j]? = some t → j < i → (t.1 : Int) < addr) (hr : ∀ t, L[i]? = some t → addr ≤ (t.1 : Int)) : fromTh L addr = L[i]? := by
  unfold fromTh
  conv => lhs; rw [← List.take_append_drop i L]
  have g1 : (L.take i).filter (fun t => decide (addr ≤ (t.1 : Int))) = [] := by
    rw [List.filter_eq_nil_iff]
    intro t ht
    obtain ⟨j, hj, ht⟩ := mem_take_idx ht
    have := hl j t ht hj
    simp only [decide_eq_true_eq]
    omega
  rw [List.filter_append, g1, List.nil_append]
  cases h : L[i]? with
  | none => rw [List.drop_eq_nil_of_le (by simpa using h)]; rfl
  | some t =>
    obtain ⟨h1, h2⟩ := List.getElem?_eq_some_iff.1 h
    rw [List.drop_eq_getElem_cons h1, h2, List.filter_cons_of_pos (by simpa using hr t h)]
    rfl
theorem th_up_at {k : Nat} {L : Th} {addr : Int} {i : Nat} (hO : OkTh k L) (hl : ∀ t, L[i]? = some t → (t.1 : Int) ≤ addr) (hr : ∀ (j : Nat) t, L[j]? = some t → i < j → addr < (t.1 : Int)) (hi : i < L.length) : upTh L addr = L[i]? := by
  unfold upTh
  have ht : L[i]? = some L[i] := List.getElem?_eq_getElem hi
  conv => lhs; rw [th_split ht]
  have g1 : (L.drop (i + 1)).filter (fun t => decide ((t.1 : Int) ≤ addr)) = [] := by
    rw [List.filter_eq_nil_iff]
    intro t ht
    obtain ⟨j, hj, ht⟩ := mem_drop_idx ht
    have := hr j t ht (by omega)
    simp only [decide_eq_true_eq]
    omega
  rw [List.filter_append, List.filter_cons_of_pos (by simpa using hl _ ht), g1, ht]
  simp
theorem th_up_no {L : Th} {addr : Int} (hr : ∀ (j : Nat) t, L[j]? = some t → addr < (t.1 : Int)) : upTh L addr = none := by
  unfold upTh
  have : L.filter (fun t => decide ((t.1 : Int) ≤ addr)) = [] := by
    rw [List.filter_eq_nil_iff]
    intro t ht
    obtain ⟨j, hj⟩ := List.getElem?_of_mem ht
    have := hr j t hj
    simp only [decide_eq_true_eq]
    omega
  rw [this]
  rfl
/-- The kids are just these entries. -/
structure FlatK (lv : Nat) (ks : List Kid) (rows : List ER) : Prop where
  len : ks.length = rows.length
  kid : ∀ r ∈ rows, ∃ q ∈ ks, q.at_ = addrOf r.p lv ∧ q.es = [(r.p, r.v)]
  sums : sumsOf (kidEs ks) = sumsOf (ents rows)
theorem flat_cut {w : World} {k g lv : Nat} {pre : List Nat} {ks : List Kid} {rows : List ER} (hF : Fork w k g lv pre ks) (hK : FlatK lv ks rows) {r : ER} (hr : r ∈ rows) : cut (lv + 1) r.p = pre := by
  obtain ⟨A, c, gs, hlv, hp, hkc, hz, hk, hl, ha, hs, h2, hS, hB⟩ := hF
  obtain ⟨q, hq, hqa, hqe⟩ := hK.kid r hr
  have hi := (hk q hq).info.2.2.2.2.1 (r.p, r.v) (by rw [hqe]; exact List.mem_singleton.2 rfl)
  refine eq_of_addr (zp_cut hi.1) hp.zp fun b => ?_
  rcases Nat.lt_or_ge lv b with hb | hb
  · rw [addr_cut_hi _ (by omega)]
    have h1 := hi.2.2 b (by have := hl q hq; omega)
    rw [show addrOf r.p b = addrOf q.pre b from h1]
    exact (ha q hq).2 b hb
  · rw [addr_cut_lo _ (by omega)]; exact (hz b hb).symm
/-- From the last one on: the next one. -/
theorem kid_from {ks : List Kid} {k i : Nat} {q : Kid} {a : Int} (hO : OkTh k (kidTh ks)) (hq : ks[i]? = some q) (h1 : ∀ (j : Nat) (r : Kid), ks[j]? = some r → j < i → (r.at_ : Int) < a) (h2 : a ≤ (q.at_ : Int)) : fromTh (kidTh ks) a = some (q.at_, .pointer (some ⟨q.blk, 0, none⟩)) := by
  have hg : (kidTh ks)[i]? = some (q.at_, .pointer (some ⟨q.blk, 0, none⟩)) := by
    unfold kidTh; rw [List.getElem?_map, hq]; rfl
  rw [th_from_at hO (i := i) (fun j t hj hji => ?_) (fun t ht => ?_), hg]
  · unfold kidTh at hj
    rw [List.getElem?_map] at hj
    obtain ⟨r, hr, rfl⟩ := Option.map_eq_some_iff.1 hj
    exact h1 j r hr hji
  · rw [hg] at ht
    injection ht with ht
    rw [← ht]; exact h2
theorem kid_up {ks : List Kid} {k i : Nat} {q : Kid} (hO : OkTh k (kidTh ks)) (hs : ks.Pairwise fun a b => a.at_ < b.at_) (hq : ks[i]? = some q) : upTh (kidTh ks) (q.at_ : Int) = some (q.at_, .pointer (some ⟨q.blk, 0, none⟩)) := by
  have hg : (kidTh ks)[i]? = some (q.at_, .pointer (some ⟨q.blk, 0, none⟩)) := by
    unfold kidTh; rw [List.getElem?_map, hq]; rfl
  have hi := (List.getElem?_eq_some_iff.1 hg).1
  rw [th_up_at hO (i := i) (fun t ht => ?_) (fun j t hj hij => ?_) hi, hg]
  · rw [hg] at ht
    injection ht with ht
    rw [← ht]; exact Int.le_refl _
  · unfold kidTh at hj
    rw [List.getElem?_map] at hj
    obtain ⟨r, hr, rfl⟩ := Option.map_eq_some_iff.1 hj
    have h1 := (List.getElem?_eq_some_iff.1 hq).1
    have h2 := (List.getElem?_eq_some_iff.1 hr).1
    have h3 := (List.pairwise_iff_getElem.1 hs) i j h1 h2 hij
    rw [(List.getElem?_eq_some_iff.1 hq).2, (List.getElem?_eq_some_iff.1 hr).2] at h3
    show (q.at_ : Int) < (r.at_ : Int)
    omega
theorem sameB_refl (l : List Int) : sameB l l = true := by simp [sameB]
/-- The last place that was seen. -/
def lastA (ks : List Kid) (j : Nat) : Int := if j = 0 then -1 else (((ks[j - 1]?.map (·.at_)).getD 0 : Nat) : Int)
theorem lastA_succ {ks : List Kid} {j : Nat} {q : Kid} (h : ks[j]? = some q) : lastA ks (j + 1) = (q.at_ : Int) := by
  unfold lastA
  rw [if_neg (by omega), Nat.add_sub_cancel, h]
  rfl
theorem lastA_lt {ks : List Kid} (hs : ks.Pairwise fun a b => a.at_ < b.at_) {i j : Nat} {r : Kid} (hr : ks[i]? = some r) (hij : i < j) (hj : j ≤ ks.length) : (r.at_ : Int) ≤ lastA ks j := by
  unfold lastA
  rw [if_neg (by omega)]
  have h1 := (List.getElem?_eq_some_iff.1 hr).1
  have h2 : ks[j - 1]? = some (ks[j - 1]'(by omega)) := List.getElem?_eq_getElem _
  rw [h2]
  simp only [Option.map_some, Option.getD_some]
  rcases Nat.lt_or_ge i (j - 1) with h3 | h3
  · have := (List.pairwise_iff_getElem.1 hs) i (j - 1) h1 (by omega) h3
    rw [(List.getElem?_eq_some_iff.1 hr).2] at this
    omega
  · have h4 : i = j - 1 := by omega
    subst h4
    rw [(List.getElem?_eq_some_iff.1 hr).2]
    omega
theorem lastA_next {ks : List Kid} (hs : ks.Pairwise fun a b => a.at_ < b.at_) {j : Nat} {q : Kid} (hq : ks[j]? = some q) : lastA ks j < (q.at_ : Int) := by
  unfold lastA
  split
  · omega
  · have h1 := (List.getElem?_eq_some_iff.1 hq).1
    have h2 : ks[j - 1]? = some (ks[j - 1]'(by omega)) := List.getElem?_eq_getElem _
    rw [h2]
    simp only [Option.map_some, Option.getD_some]
    have := (List.pairwise_iff_getElem.1 hs) (j - 1) j (by omega) h1 (by omega)
    rw [(List.getElem?_eq_some_iff.1 hq).2] at this
    omega
set_option maxHeartbeats 8000000 in
set_option maxRecDepth 100000 in
theorem flat_yes {w : World} {k g lv n m : Nat} {pre : List Nat} {ks : List Kid} {rows : List ER} {B : Option Addr} (hF : Fork w k g lv pre ks) (hk1 : 1 ≤ k) (hk : k ≤ 16) (hK : FlatK lv ks rows) (hE : EntsAt w B n rows) (hnm : n ≤ m) (hn : n ≤ 100) (hn1 : 1 ≤ n) (hkk : ∀ r ∈ rows, r.n = k) :
    Calls Try.prog 54 #[.pointer (some ⟨g, 0, none⟩), .slice B n m, .int .i64 (lv : Int)] w fun e w' => e = .returned (.bool true) ∧ Below w.heap.size w w' := by
  have hlv : lv < 64 := by obtain ⟨_, _, _, h1, _⟩ := hF; exact h1
  have hsrt : ks.Pairwise fun a b => a.at_ < b.at_ := by obtain ⟨_, _, _, _, _, _, _, _, _, _, h8, _⟩ := hF; exact h8
  obtain ⟨A, c, gs, hp, hS, hB⟩ := hF.head
  have hkn : ks.length = n := by rw [hK.len]; exact hE.len
  have CSH := nd_shape_fork hB hp hk hS
  rw [hkn] at CSH
  have HSH := hide CSH
  obtain ⟨b, o, r0, rfl, hbl, hr0, hok0, k0, -⟩ := hE.at_ (i := 0) (by omega)
  have hr0n := hkk r0 (List.mem_of_getElem? hr0)
  rw [hr0n] at k0
  have hcut := flat_cut hF hK (List.mem_of_getElem? hr0)
  have hp0 := hok0.1
  rw [hr0n] at hp0
  simp only [Nat.zero_mul, Nat.add_zero] at k0
  have HF := hide hF
  have HB := hide hB
  have HS := hide hS
  have HE := hide hE
  have HK := hide hK
  have HKK := hide hkk
  have HKN := hide hkn
  have HNM := hide hnm
  have HCUT := hide hcut
  have HP0 := hide hp0
  have HSRT := hide hsrt
  have HP := hide hp
  have hsm : sumsOf (ents rows) = sumsOf (kidEs ks) := hK.sums.symm
  have HSM := hide hsm
  have hok16 := hS.ok
  have HOK := hide hok16
  have hn0 : (0 : Int) < (n : Int) := by omega
  have hn0n : 0 < n := by omega
  clear hF hB hS hE hK hkk hkn hnm hcut hp0 hsrt hsm hr0 hok0 hr0n CSH hp hok16
  go_enter Try.func54, Try.ntmps54
  go_wp2_with fail
  refine HSH.out.mono ?_
  rintro e w1 ⟨B3, d3, C3, f3, rfl, hR3, hC3, hb1⟩
  have c2 := below_alloc hb1 (Nat.le_refl _) (.cells #[.int .i64 (lv : Int), .slice B3 k d3, .slice C3 n f3, .bool (denseB k n), .int .u64 0] 83)
  have ha2 := (Below.refl w1.heap.size w1).alloc (Nat.le_refl _) (.cells #[.int .i64 (lv : Int), .slice B3 k d3, .slice C3 n f3, .bool (denseB k n), .int .u64 0] 83)
  have HT := hide (Blk.new w1 83 #[.int .i64 (lv : Int), .slice B3 k d3, .slice C3 n f3, .bool (denseB k n), .int .u64 0])
  have HR3 := hide (hR3.below ha2)
  have HC3 := hide (hC3.below ha2)
  clear hR3 hC3 hb1 ha2 HSH
  go_upto_region 2 with fail
  generalize w1.alloc (.cells #[.int .i64 (lv : Int), .slice B3 k d3, .slice C3 n f3, .bool (denseB k n), .int .u64 0] 83) = w2 at *
  have hT1 := HT.out.lt
  have t0 := HT.out.cell 0
  have t1 := HT.out.cell 1
  have t2 := HT.out.cell 2
  have t3 := HT.out.cell 3
  simp at t0 t1 t2 t3
  have HCE := hide (fun (W : World) (hW : Below w2.heap.size w2 W) => And.intro ((hW.cell (p := ⟨w1.heap.size, 0, none⟩) hT1).trans t0) (And.intro ((hW.cell (p := ⟨w1.heap.size, 1, none⟩) hT1).trans t1) (And.intro ((hW.cell (p := ⟨w1.heap.size, 2, none⟩) hT1).trans t2) (And.intro ((hW.cell (p := ⟨w1.heap.size, 3, none⟩) hT1).trans t3) (((below_then c2 hW).cell (p := ⟨b, o, none⟩) hbl).trans k0)))))
  have k02 := (HCE.out w2 (Below.refl _ _)).2.2.2.2
  generalize hsme : sumsOf (kidEs ks) = sm at *
  clear k0
  go_region_held3 (fun w' => w'.cell? ⟨w1.heap.size, 0, none⟩ = some (.int .i64 (lv : Int)) ∧ w'.cell? ⟨w1.heap.size, 1, none⟩ = some (.slice B3 k d3) ∧ w'.cell? ⟨w1.heap.size, 2, none⟩ = some (.slice C3 n f3) ∧ w'.cell? ⟨w1.heap.size, 3, none⟩ = some (.bool (denseB k n)) ∧ w'.cell? ⟨b, o, none⟩ = some (.slice r0.A k r0.c))
    (first
      | go_keep
      | exact hk3
      | exact hk4
      | exact hk5
      | exact hk6)
    (first
      | (go_at_call 42
         refine (nd_level (HF.out.node.stay c2.drew)).mono ?_
         rintro e w3 ⟨rfl, rfl⟩)
      | (go_at_call 57
         have CS := nd_sums (HB.out.below c2.drew)
         unfold Sum4.val at CS
         refine CS.mono ?_
         clear CS
         rintro e w3 ⟨rfl, hb3⟩
         have hd3 : Below w2.heap.size w2 w3 := (Below.refl _ w2).drew.trans hb3
         have hk3 := HCE.out w3 hd3)
      | (go_at_call 100
         have CR := ref_sums (some ⟨b, o, none⟩) n m rows w3 (HE.out.below (below_then c2 hd3)) (by omega)
         rw [HSM.out] at CR
         unfold Sum4.val at CR
         refine CR.mono ?_
         clear CR
         rintro e w4 ⟨rfl, hb4⟩
         have hd4 := below_then hd3 hb4
         have hk4 := HCE.out w4 hd4)
      | (go_at_call 56
         refine (nd_k (HF.out.node.stay (below_then c2 hd4))).mono ?_
         rintro e w5 ⟨rfl, rfl⟩)
      | (go_at_call 112
         refine (ref_dense k n w4 hk (by omega)).mono ?_
         rintro e w5 ⟨rfl, rfl⟩)
      | (go_at_call 41
         have CC := ref_cut r0.A k r0.c (lv + 1) r0.p w4 (HP0.out.below (below_then c2 hd4)) (by omega) (by omega)
         rw [show ((lv + 1 : Nat) : Int) - 1 = (lv : Int) by omega, HCUT.out] at CC
         refine CC.mono ?_
         clear CC
         rintro e w5 ⟨v5, rfl, ho5, hb5⟩
         obtain ⟨A5, c5, rfl, -, hR5⟩ := Rw.of_own ho5
         have hd5 := below_then hd4 hb5
         have hk5 := HCE.out w5 hd5
         have HR5 := hide hR5
         clear ho5 hR5)
      | (go_at_call 37
         have hR3 := HR3.out.below hd5
         have hR5 := HR5.out
         rw [u64s_int] at hR3 hR5
         have CQ := same_u64 B3 A5 k d3 k c5 _ _ w5 hR3 hR5 (by omega) (by omega)
         rw [sameB_refl] at CQ
         refine CQ.mono ?_
         clear CQ hR3 hR5
         rintro e w6 ⟨rfl, hb6⟩
         have hd6 := below_then hd5 hb6
         have hk6 := HCE.out w6 hd6))
  have hc6 := below_then c2 hd6
  have HC6 := hide (HC3.out.below hd6)
  clear hk3 hk4 hk5 hk6 t0 t1 t2 t3 k02
  have tt := (HCE.out w6 hd6).2.2.1
  go_wp2
  clear tt
  go_loopw [8, 9] (fun x8 x9 wr => ∃ (j : Nat), x9 = .int .i64 (j : Int) ∧ j ≤ n ∧ x8 = .int .i64 (lastA ks j) ∧ Below w6.heap.size w6 wr) (fun _ x _ => n - (intOf x).toNat)
  case atStart => exact ⟨0, rfl, Nat.zero_le _, rfl, Below.refl _ _⟩
  case round =>
    obtain ⟨j, rfl, hj, rfl, hb⟩ := hrel
    have hdz := below_then hd6 hb
    have cz := below_then c2 hdz
    have tt := (HCE.out _ hdz).2.2.1
    by_cases hjn : j < n
    · obtain ⟨q, hq⟩ : ∃ q, ks[j]? = some q := ⟨ks[j]'(by rw [HKN.out]; exact hjn), List.getElem?_eq_getElem _⟩
      have hqm := List.mem_of_getElem? hq
      have h65 : q.at_ < 65536 := by
        have h1 := HOK.out.2 (q.at_, .pointer (some ⟨q.blk, 0, none⟩)) (List.mem_map.2 ⟨q, hqm, rfl⟩)
        have h2 := pow_len_le hk
        exact Nat.lt_of_lt_of_le h1 h2
      have hfr := kid_from (a := lastA ks j + 1) HOK.out hq (fun i r hr hij => by have := lastA_lt HSRT.out hr hij (by rw [HKN.out]; exact hj); omega) (by have := lastA_next HSRT.out hq; omega)
      have hup := kid_up HOK.out HSRT.out hq
      have hge : getTh (kidTh ks) (q.at_ : Int) = some (.pointer (some ⟨q.blk, 0, none⟩)) := getTh_some HOK.out (t := (q.at_, .pointer (some ⟨q.blk, 0, none⟩))) (List.mem_map.2 ⟨q, hqm, rfl⟩)
      have hla0 : -1 ≤ lastA ks j := by unfold lastA; split <;> omega
      have hla1 : lastA ks j < (q.at_ : Int) := lastA_next HSRT.out hq
      have hnx := lastA_succ hq
      obtain ⟨b5, o5, rfl, hbl5, u, hu, k5⟩ := HC6.out.one hjn
      rw [List.getElem?_map, hq] at hu
      simp at hu
      rw [← hu] at k5
      have K5 := hide (fun (W : World) (hW : Below w6.heap.size w6 W) => (hW.cell (p := ⟨b5, o5 + j, none⟩) hbl5).trans k5)
      have HFR := hide hfr
      have HUP := hide hup
      have HGE := hide hge
      have HNX := hide hnx
      have z1 := ptr_same_neq ⟨q.blk, 0, none⟩
      clear hfr hup hge hnx hu k5 hq hqm
      generalize lastA ks j = la at *
      have ew1 : IntKind.i64.wrap (la + 1) = la + 1 := by rw [IntKind.wrap_i64]; omega
      have ew2 : wrap64 (la + 1) = la + 1 := wrap64_of (by omega)
      have dle : decide ((q.at_ : Int) ≤ la) = false := by simp; omega
      rename World => wz
      have HFC := hide (nd_from (HB.out.below cz) (HS.out.below cz) (la + 1))
      have p5 := K5.out wz hb
      go_wp2_with fail
      refine HFC.out.mono ?_
      rintro e w7 ⟨⟨a, x, rfl, hor⟩, hb7⟩
      have hax : a = q.at_ ∧ x = .pointer (some ⟨q.blk, 0, none⟩) := by
        rcases hor with hor | ⟨hor, _⟩
        · rw [HFR.out] at hor
          injection hor with hor
          injection hor with h1 h2
          exact ⟨h1.symm, h2.symm⟩
        · rw [HFR.out] at hor; cases hor
      obtain ⟨rfl, rfl⟩ := hax
      have hbz7 := below_then hb hb7
      have hd7 := below_then hdz hb7
      have c7 := below_then c2 hd7
      have tt7 := (HCE.out _ hd7).2.2.1
      have p57 := K5.out w7 hbz7
      have HUC := hide (nd_upto (HB.out.below c7) (HS.out.below c7) (q.at_ : Int))
      clear hor tt p5 HFC
      go_wp2_with fail
      refine HUC.out.mono ?_
      rintro e w8 ⟨⟨a2, x2, rfl, hor⟩, hb8⟩
      have hax : a2 = q.at_ ∧ x2 = .pointer (some ⟨q.blk, 0, none⟩) := by
        rcases hor with hor | ⟨hor, _⟩
        · rw [HUP.out] at hor
          injection hor with hor
          injection hor with h1 h2
          exact ⟨h1.symm, h2.symm⟩
        · rw [HUP.out] at hor; cases hor
      obtain ⟨rfl, rfl⟩ := hax
      have hbz8 := below_then hbz7 hb8
      have hd8 := below_then hd7 hb8
      have c8 := below_then c2 hd8
      have tt8 := (HCE.out _ hd8).2.2.1
      have p58 := K5.out w8 hbz8
      have CK := nd_kid (HB.out.below c8) (HS.out.below c8) (q.at_ : Int)
      rw [HGE.out] at CK
      have HKC := hide CK
      clear hor tt7 p57 HUC CK
      go_wp2_with fail
      refine HKC.out.mono ?_
      rintro e w9 ⟨rfl, hb9⟩
      have hbz9 := below_then hbz8 hb9
      clear HKC
      go_wp2
      go_roundw
      case rel => exact ⟨j + 1, by go_num, by omega, by rw [HNX.out], hbz9⟩
      case measure => simp [intOf]; omega
    · have e9 : decide ((j : Int) < (n : Int)) = false := by simp; omega
      have hjn' : ¬ j < n := hjn
      rename World => wv
      go_wp2
      clear tt
      go_loopw [14] (fun x14 wr => ∃ (i : Nat), x14 = .int .i64 (i : Int) ∧ i ≤ n ∧ Below wv.heap.size wv wr) (fun x _ => n - (intOf x).toNat)
      case atStart => exact ⟨0, rfl, Nat.zero_le _, Below.refl _ _⟩
      case round =>
        obtain ⟨i, rfl, hi, hb2⟩ := hrel
        rename World => wz
        have cw := below_then cz hb2
        by_cases hin : i < n
        · obtain ⟨b6, o6, r, hA6, hbl6, hr, hok, k6, -⟩ := (HE.out.below cw).at_ hin
          injection hA6 with hA6
          injection hA6 with h1 h2
          subst h1 h2
          have hrm := List.mem_of_getElem? hr
          have hrn := HKK.out r hrm
          rw [hrn] at k6
          have hpr := hok.1
          rw [hrn] at hpr
          obtain ⟨q, hqm, hqa, hqe⟩ := HK.out.kid r hrm
          have hge : getTh (kidTh ks) (addrOf r.p lv : Int) = some (.pointer (some ⟨q.blk, 0, none⟩)) := by
            rw [← hqa]
            exact getTh_some HOK.out (t := (q.at_, .pointer (some ⟨q.blk, 0, none⟩))) (List.mem_map.2 ⟨q, hqm, rfl⟩)
          have hqn : NodeOf w k q.blk q.lv q.pre q.es := by
            obtain ⟨_, _, _, _, _, _, _, h5, _⟩ := HF.out
            exact h5 q hqm
          have hE1 : EntsAt wz (cutA (some ⟨b, o, none⟩) m 2 i) 1 [r] := by
            have h1 := (HE.out.below cw).1.cut (i := i) (c := m) (by omega) HNM.out
            have h2 := h1.take_ (i := 1) (by omega)
            have hl := (List.getElem?_eq_some_iff.1 hr).1
            rw [flat_drop, flat_take, List.drop_eq_getElem_cons hl, (List.getElem?_eq_some_iff.1 hr).2, List.take_succ_cons, List.take_zero] at h2
            exact ⟨h2, fun s hs => by rw [List.mem_singleton] at hs; rw [hs]; exact hok⟩
          have HP1 := hide hpr
          have HGE := hide hge
          have HQN := hide (is_node hqn hk1 hk)
          have HE1 := hide hE1
          have HQE := hide (And.intro hqe hrn)
          have hNMi : i + 1 ≤ m := by have := HNM.out; omega
          have r1 := fun W => run_slice_mid (P := Try.prog) (w := W) Try.underlying49 (sz := 2) Try.sizeOf59 (some ⟨b, o, none⟩) n m i (i + 1) (by omega) hNMi
          rw [show i + 1 - i = 1 by omega] at r1
          simp only [Int.natCast_add, Int.cast_ofNat_Int] at r1
          have ew1 : IntKind.i64.wrap ((i : Int) + 1) = (i : Int) + 1 := by rw [IntKind.wrap_i64]; omega
          have hbl6' : b < wz.heap.size := hbl6
          clear hr hok hrm hrn hpr hqm hqa hqe hge hqn hE1 hNMi
          go_wp2_with fail
          go_region_held3 (fun w' => w'.cell? ⟨b, o + i * 2, none⟩ = some (.slice r.A k r.c))
            (first
              | go_keep
              | exact hk7
              | exact hk8)
            (first
              | (go_at_call 45
                 refine (ref_addr r.A k r.c lv r.p wz.drew (HP1.out.below (Below.refl _ wz).drew) (by omega) hlv).mono ?_
                 rintro e w7 ⟨rfl, rfl⟩)
              | (go_at_call 44
                 have CK := nd_kid ((HB.out.below cw).below (Below.refl _ wz).drew) ((HS.out.below cw).below (Below.refl _ wz).drew) (addrOf r.p lv : Int)
                 rw [HGE.out] at CK
                 refine CK.mono ?_
                 clear CK
                 rintro e w7 ⟨rfl, hb7⟩
                 have hq7 : Below wz.heap.size wz w7 := (Below.refl _ wz).drew.trans hb7
                 have hk7 := (hq7.cell (p := ⟨b, o + i * 2, none⟩) hbl6').trans k6)
              | (go_at_call 39
                 have CI := HQN.out w7 (cutA (some ⟨b, o, none⟩) m 2 i) (m - i) [r] (below_then cw hq7) (HE1.out.below hq7) (by show 1 ≤ m - i; have := HNM.out; omega) (by show 1 ≤ 65536; omega) (fun s hs => by rw [List.mem_singleton] at hs; rw [hs]; exact HQE.out.2) (by rw [HQE.out.1]; rfl)
                 refine CI.mono ?_
                 clear CI
                 rintro e w8 ⟨rfl, hb8⟩
                 have hq8 := below_then hq7 hb8
                 have hk8 := (hq8.cell (p := ⟨b, o + i * 2, none⟩) hbl6').trans k6))
          go_wp2
          go_roundw
          case rel => exact ⟨i + 1, by go_num, by omega, below_then hb2 hq8⟩
          case measure => simp [intOf]; omega
        · have e10 : decide ((i : Int) < (n : Int)) = false := by simp; omega
          have hin' : ¬ i < n := hin
          go_wp2
          go_ret
          exact ⟨rfl, cw⟩
theorem minL_mem {l : List Nat} (h : l ≠ []) : minL l ∈ l ∧ ∀ x ∈ l, minL l ≤ x := by
  obtain ⟨v, vs, rfl⟩ := List.exists_cons_of_ne_nil h
  show vs.foldl Nat.min v ∈ v :: vs ∧ ∀ x ∈ v :: vs, vs.foldl Nat.min v ≤ x
  obtain ⟨h1, h2, h3⟩ := foldl_min_le vs v
  refine ⟨?_, fun x hx => ?_⟩
  · rcases h3 with h3 | h3
    · rw [h3]; exact List.mem_cons_self
    · exact List.mem_cons_of_mem _ h3
  · rcases List.mem_cons.1 hx with rfl | hx
    · exact h1
    · exact h2 x hx
theorem minL_perm {l m : List Nat} (h : l.Perm m) : minL l = minL m := by
  by_cases h0 : l = []
  · subst h0
    rw [List.nil_perm.1 h]
  · have h1 : m ≠ [] := fun hm => h0 (by rw [hm] at h; exact List.perm_nil.1 h)
    obtain ⟨a1, a2⟩ := minL_mem h0
    obtain ⟨b1, b2⟩ := minL_mem h1
    have := a2 _ (h.mem_iff.2 b1)
    have := b2 _ (h.mem_iff.1 a1)
    omega
theorem maxL_perm {l m : List Nat} (h : l.Perm m) : maxL l = maxL m := by
  unfold maxL
  obtain ⟨a1, a2, a3⟩ := foldl_max_ge l 0
  obtain ⟨b1, b2, b3⟩ := foldl_max_ge m 0
  have h1 : l.foldl Nat.max 0 ≤ m.foldl Nat.max 0 := by
    rcases a3 with a3 | a3
    · omega
    · exact b2 _ (h.mem_iff.1 a3)
  have h2 : m.foldl Nat.max 0 ≤ l.foldl Nat.max 0 := by
    rcases b3 with b3 | b3
    · omega
    · exact a2 _ (h.mem_iff.2 b3)
  omega
theorem sum_perm {l m : List Nat} (h : l.Perm m) : l.sum = m.sum := by
  induction h with
  | nil => rfl
  | cons x _ ih => simp [ih]
  | swap x y l => simp; omega
  | trans _ _ i1 i2 => exact i1.trans i2
theorem sums_perm {l m : List Ent} (h : l.Perm m) : sumsOf l = sumsOf m := by
  have hm := h.map (·.2)
  unfold sumsOf
  rw [h.length_eq, sum_perm hm, minL_perm hm, maxL_perm hm]
theorem part_le_cut {k lv : Nat} {p q : List Nat} (hp : Zp k p) (hq : Zp k q) : part p q ≤ (lv : Int) ↔ cut (lv + 1) p = cut (lv + 1) q := by
  obtain ⟨g1, g2, g3, g4⟩ := part_spec p q (by rw [hp.1, hq.1]) hp.2 hq.2
  constructor
  · intro h
    refine eq_of_addr (zp_cut hp) (zp_cut hq) fun b => ?_
    rcases Nat.lt_or_ge lv b with hb | hb
    · rw [addr_cut_hi _ (by omega), addr_cut_hi _ (by omega)]; exact g3 b (by omega)
    · rw [addr_cut_lo _ (by omega), addr_cut_lo _ (by omega)]
  · intro h
    rcases Int.lt_or_le (lv : Int) (part p q) with h1 | h1
    · exfalso
      refine g4 (by omega) ?_
      have a := addr_cut_hi (m := lv + 1) (b := (part p q).toNat) p (by omega)
      have b := addr_cut_hi (m := lv + 1) (b := (part p q).toNat) q (by omega)
      rw [h, b] at a
      exact a.symm
    · exact h1
def kf (q : Kid) : Nat × List Ent := (q.at_, q.es)
def rf (lv : Nat) (r : ER) : Nat × List Ent := (addrOf r.p lv, [(r.p, r.v)])
theorem ents_rf (lv : Nat) (ins : List ER) : ents ins = (ins.map (rf lv)).flatMap (·.2) := by
  induction ins with
  | nil => rfl
  | cons r t ih =>
    rw [List.map_cons, List.flatMap_cons, ← ih]
    rfl
/-- The kids are just these entries, in any order. -/
def FlatP (lv : Nat) (ks : List Kid) (ins : List ER) : Prop := (ks.map kf).Perm (ins.map (rf lv))
theorem FlatP.flat {lv : Nat} {ks : List Kid} {ins : List ER} (h : FlatP lv ks ins) : FlatK lv ks ins := by
  refine ⟨by simpa using h.length_eq, fun r hr => ?_, ?_⟩
  · have := h.mem_iff.2 (List.mem_map.2 ⟨r, hr, rfl⟩)
    obtain ⟨q, hq, he⟩ := List.mem_map.1 this
    unfold kf rf at he
    injection he with h1 h2
    exact ⟨q, hq, h1, h2⟩
  · have h1 : kidEs ks = (ks.map kf).flatMap (·.2) := by
      unfold kidEs
      rw [List.flatMap_map]
      rfl
    have h2 := ents_rf lv ins
    rw [h1, h2]
    exact sums_perm (h.flatMap_right _)
theorem FlatP.filt {lv : Nat} {ks : List Kid} {ins : List ER} (h : FlatP lv ks ins) (a : Nat) : FlatP lv (delK ks a) (ins.filter fun s => decide (addrOf s.p lv ≠ a)) := by
  have h1 := List.Perm.filter (fun x : Nat × List Ent => decide (x.1 ≠ a)) h
  rw [List.filter_map, List.filter_map] at h1
  unfold FlatP delK
  exact h1
theorem ins_perm (ks : List Kid) (q : Kid) : (insK ks q).Perm (delK ks q.at_ ++ [q]) := by
  unfold insK delK
  have h1 : (ks.filter fun r => decide (r.at_ < q.at_)) = (ks.filter fun r => decide (r.at_ ≠ q.at_)).filter fun r => decide (r.at_ < q.at_) := by
    rw [List.filter_filter]
    apply List.filter_congr
    intro x _
    by_cases hx : x.at_ < q.at_ <;> simp [hx]; omega
  have h2 : (ks.filter fun r => decide (q.at_ < r.at_)) = (ks.filter fun r => decide (r.at_ ≠ q.at_)).filter fun r => !decide (r.at_ < q.at_) := by
    rw [List.filter_filter]
    apply List.filter_congr
    intro x _
    by_cases hx : q.at_ < x.at_
    · have : ¬ x.at_ < q.at_ := by omega
      simp [hx, this]; omega
    · by_cases hy : x.at_ < q.at_
      · simp [hx, hy]
      · have : x.at_ = q.at_ := by omega
        simp [this]
  rw [h1, h2]
  generalize (ks.filter fun r => decide (r.at_ ≠ q.at_)) = l
  refine (List.Perm.append_right _ List.perm_append_comm).trans ?_
  rw [List.append_assoc]
  refine (List.Perm.append_left _ (List.filter_append_perm _ l)).trans ?_
  exact List.perm_append_comm
theorem FlatP.ins {lv : Nat} {ks : List Kid} {ins : List ER} (h : FlatP lv ks ins) {q : Kid} {r : ER} (hq : kf q = rf lv r) : FlatP lv (insK ks q) ((ins.filter fun s => decide (addrOf s.p lv ≠ addrOf r.p lv)) ++ [r]) := by
  unfold FlatP
  have ha : q.at_ = addrOf r.p lv := by
    unfold kf rf at hq
    injection hq
  refine ((ins_perm ks q).map kf).trans ?_
  rw [List.map_append, List.map_append, ha]
  have := h.filt (addrOf r.p lv)
  unfold FlatP at this
  refine this.append ?_
  simp [hq]
theorem FlatP.pair {lv g0 g1 : Nat} {r0 r1 : ER} (h : addrOf r0.p lv ≠ addrOf r1.p lv) : FlatP lv (pairK g0 g1 (-1) (-1) r0.p r1.p [(r0.p, r0.v)] [(r1.p, r1.v)] lv) [r0, r1] := by
  unfold FlatP
  rw [pairK_eq h]
  split
  · exact List.Perm.refl _
  · exact List.Perm.swap _ _ _
end Go.Proofs.Ytkknfnjojamgjaa
