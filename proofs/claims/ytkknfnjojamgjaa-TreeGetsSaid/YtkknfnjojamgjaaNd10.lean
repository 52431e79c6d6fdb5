/- Nodes: With a kid. -/
import Derived.Test.YtkknfnjojamgjaaNd8
import Derived.Test.YtkknfnjojamgjaaNd9
set_option linter.unusedSimpArgs false
set_option linter.unusedVariables false
namespace Go.Proofs.Ytkknfnjojamgjaa
open Go.RowKit
theorem filt_len {ks : List Kid} (a : Nat) (h : ks.Pairwise fun q r => q.at_ < r.at_) :
    ks.length ≤ (ks.filter fun r => decide (r.at_ < a)).length + (ks.filter fun r => decide (a < r.at_)).length + 1 := by
  induction ks with
  | nil => simp
  | cons r t ih =>
    obtain ⟨h1, h2⟩ := List.pairwise_cons.1 h
    have ih := ih h2
    rcases Nat.lt_trichotomy r.at_ a with hlt | heq | hgt
    · rw [List.filter_cons_of_pos (by simpa using hlt), List.filter_cons_of_neg (by simp; omega)]
      simp only [List.length_cons]
      omega
    · have hall : (t.filter fun r => decide (a < r.at_)) = t := by
        rw [List.filter_eq_self]
        intro x hx
        have := h1 x hx
        simp; omega
      rw [List.filter_cons_of_neg (by simp; omega), List.filter_cons_of_neg (by simp; omega), hall]
      simp only [List.length_cons]
      omega
    · rw [List.filter_cons_of_neg (by simp; omega), List.filter_cons_of_pos (by simpa using hgt)]
      simp only [List.length_cons]
      omega
theorem insK_len {ks : List Kid} (q : Kid) (h : ks.Pairwise fun q r => q.at_ < r.at_) : ks.length ≤ (insK ks q).length := by
  have := filt_len q.at_ h
  unfold insK
  simp only [List.length_append, List.length_cons, List.length_nil]
  omega
set_option maxHeartbeats 1000000 in
set_option maxRecDepth 100000 in
theorem nd_with_dim {w : World} {k k' g g' m : Nat} {lv' : Int} {pre pre' : List Nat} {ks : List Kid} {es' : List Ent} (h : Fork w k g m pre ks) (h' : NodeOf w k' g' lv' pre' es') (hk : k ≠ k') :
    Calls Try.prog 49 #[.pointer (some ⟨g, 0, none⟩), .pointer (some ⟨g', 0, none⟩)] w fun e w' => e = .returned (.tuple #[.pointer none, .int .i64 2]) ∧ Below w.heap.size w w' := by
  obtain ⟨A, c, gs, -, hp, -, -, -, -, -, -, -, hS, hB⟩ := h
  obtain ⟨A', c', v', kids', hB', -⟩ := h'.head
  have c1 := hB.cell 1
  have c3 := hB.cell 3
  have d1 := hB'.cell 1
  simp [nodeCells] at c1 c3 d1
  have e1 : ((k : Int) != (k' : Int)) = true := by simp; omega
  clear hB hB' h' hp hS hk
  go_enter Try.func49, Try.ntmps49
  go_wp2_with fail
  go_quiet (fail)
  go_wp2
  go_ret2
  exact ⟨rfl, below_drewN (Below.refl _ _) _⟩
set_option maxHeartbeats 2000000 in
set_option maxRecDepth 100000 in
theorem nd_with_arg {w : World} {k g g' m : Nat} {lv' : Int} {pre pre' : List Nat} {ks : List Kid} {es' : List Ent} (h : Fork w k g m pre ks) (h' : NodeOf w k g' lv' pre' es') (hk1 : 1 ≤ k) (hk : k ≤ 16) (hn : (m : Int) < part pre pre' ∨ (m : Int) ≤ lv') :
    Calls Try.prog 49 #[.pointer (some ⟨g, 0, none⟩), .pointer (some ⟨g', 0, none⟩)] w fun e w' => e = .returned (.tuple #[.pointer none, .int .i64 3]) ∧ Below w.heap.size w w' := by
  have HF := hide h
  obtain ⟨A, c, gs, -, hp, -, -, -, -, -, -, -, hS, hB⟩ := h
  obtain ⟨A', c', v', kids', hB', hp', -⟩ := h'.head
  have c0 := hB.cell 0
  have c1 := hB.cell 1
  have c3 := hB.cell 3
  have d0 := hB'.cell 0
  have d1 := hB'.cell 1
  simp [nodeCells] at c0 c1 c3 d0 d1
  have HP' := hide hp'
  have HN := hide hn
  clear hB hB' h' hp hp' hS hn
  go_enter Try.func49, Try.ntmps49
  go_wp2_with fail
  go_quiet (fail)
  have hb0 : Below w.heap.size w (w.drewN nq) := below_drewN (Below.refl _ w) nq
  have c0' : (w.drewN nq).cell? ⟨g, 0, none⟩ = some (.int .i64 (m : Int)) := c0
  have d0' : (w.drewN nq).cell? ⟨g', 0, none⟩ = some (.int .i64 lv') := d0
  have d1' : (w.drewN nq).cell? ⟨g', 1, none⟩ = some (.slice A' k c') := d1
  go_upto_region 7 with fail
  generalize w.drewN nq = w0 at *
  clear c0 c1 c3 d0 d1
  by_cases hq : part pre pre' ≤ (m : Int)
  · have e1 : decide ((m : Int) ≤ lv') = true := by have := HN.out; simp; omega
    go_region_held3 (fun w' => w'.cell? ⟨g, 0, none⟩ = some (.int .i64 (m : Int)) ∧ w'.cell? ⟨g', 0, none⟩ = some (.int .i64 lv') ∧ w'.cell? ⟨g', 1, none⟩ = some (.slice A' k c'))
      (first
        | go_keep)
      (first
        | (go_at_call 40
           have CC := nd_covers ((HF.out.stay hb0).stay (Below.refl _ w0).drew).node hk1 hk ((HP'.out.below hb0).below (Below.refl _ w0).drew) (d := c')
           rw [decide_eq_true hq] at CC
           refine CC.mono ?_
           rintro e w2 ⟨rfl, rfl⟩))
    go_wp2
    go_ret2
    exact ⟨rfl, hb0.drew⟩
  · have HQ := hide hq
    clear hq
    go_quiet ((go_at_call 40
               have CC := fun N => nd_covers ((HF.out.stay hb0).stay (below_drewN (Below.refl _ w0) N)).node hk1 hk ((HP'.out.below hb0).below (below_drewN (Below.refl _ w0) N)) (d := c')
               rw [decide_eq_false HQ.out] at CC
               exact Calls.quiet_of_same (still_of (CC _))))
    go_wp2
    go_ret2
    exact ⟨rfl, below_drewN hb0 _⟩
set_option maxHeartbeats 4000000 in
set_option maxRecDepth 100000 in
theorem nd_with {w : World} {k g g' m : Nat} {lv' : Int} {pre pre' : List Nat} {ks : List Kid} {es' : List Ent} (h : Fork w k g m pre ks) (h' : NodeOf w k g' lv' pre' es') (hk1 : 1 ≤ k) (hk : k ≤ 16) (hq : part pre pre' ≤ (m : Int)) (hl : lv' < (m : Int)) :
    Calls Try.prog 49 #[.pointer (some ⟨g, 0, none⟩), .pointer (some ⟨g', 0, none⟩)] w fun e w' => ∃ gn, e = .returned (.tuple #[.pointer (some ⟨gn, 0, none⟩), .int .i64 0]) ∧ Fork w' k gn m pre (insK ks ⟨addrOf pre' m, g', lv', pre', es'⟩) ∧ w.heap.size ≤ gn ∧ Below w.heap.size w w' := by
  have HF := hide h
  have HN' := hide h'
  obtain ⟨A, c, gs, hm, hp, hkc, -, -, -, -, -, -, hS, hB⟩ := h
  obtain ⟨A', c', v', kids', hB', hp', -⟩ := h'.head
  have hps := part_spec pre pre' (by rw [hp.1, hp'.1]) hp.2.2 hp'.2.2
  have HPS := hide (fun (b : Nat) (hb : m < b) => hps.2.2.1 b (by omega))
  have c0 := hB.cell 0
  have c1 := hB.cell 1
  have c3 := hB.cell 3
  have d0 := hB'.cell 0
  have d1 := hB'.cell 1
  simp [nodeCells] at c0 c1 c3 d0 d1
  have hgl := hB.lt
  have HP := hide hp
  have HP' := hide hp'
  have HS := hide hS
  have HCC := hide (fun (W : World) (hW : Below w.heap.size w W) => And.intro ((hW.cell (p := ⟨g, 0, none⟩) hgl).trans c0) (And.intro ((hW.cell (p := ⟨g, 1, none⟩) hgl).trans c1) ((hW.cell (p := ⟨g, 3, none⟩) hgl).trans c3)))
  have e1 : decide ((m : Int) ≤ lv') = false := by simp; omega
  have HL := hide hl
  clear hB hB' h' hp hp' hS hl hps
  go_enter Try.func49, Try.ntmps49
  go_wp2_with fail
  go_quiet (fail)
  have hb0 : Below w.heap.size w (w.drewN nq) := below_drewN (Below.refl _ w) nq
  have c0' : (w.drewN nq).cell? ⟨g, 0, none⟩ = some (.int .i64 (m : Int)) := c0
  have d0' : (w.drewN nq).cell? ⟨g', 0, none⟩ = some (.int .i64 lv') := d0
  have d1' : (w.drewN nq).cell? ⟨g', 1, none⟩ = some (.slice A' k c') := d1
  go_upto_region 7 with fail
  generalize w.drewN nq = w0 at *
  clear c0 c1 c3 d0 d1
  go_region_held3 (fun w' => w'.cell? ⟨g, 0, none⟩ = some (.int .i64 (m : Int)) ∧ w'.cell? ⟨g', 0, none⟩ = some (.int .i64 lv') ∧ w'.cell? ⟨g', 1, none⟩ = some (.slice A' k c'))
    (first
      | go_keep)
    (first
      | (go_at_call 40
         have CC := nd_covers ((HF.out.stay hb0).stay (Below.refl _ w0).drew).node hk1 hk ((HP'.out.below hb0).below (Below.refl _ w0).drew) (d := c')
         rw [decide_eq_true hq] at CC
         refine CC.mono ?_
         rintro e w2 ⟨rfl, rfl⟩))
  have hb1 := hb0.drew
  clear c0' d0' d1'
  go_upto_region 9 with fail
  generalize w0.drew = w1 at *
  have q0 := (HCC.out w1 hb1).1
  have q3 := (HCC.out w1 hb1).2.2
  go_region_held3 (fun w' => w'.cell? ⟨g, 0, none⟩ = some (.int .i64 (m : Int)) ∧ w'.cell? ⟨g, 3, none⟩ = some (.pointer (some ⟨gs, 0, none⟩)))
    (first
      | go_keep
      | exact hk3)
    (first
      | (go_at_call 95
         refine (nd_at ((HN'.out.stay hb1).stay (Below.refl _ w1).drew) hk1 hk m hm).mono ?_
         rintro e w2 ⟨rfl, rfl⟩)
      | (go_at_call 94
         have CP := put_n gs k (kidTh ks) (addrOf pre' m) (some ⟨g', 0, none⟩) w1.drew ((HS.out.below hb1).below (Below.refl _ w1).drew) (addr_lt_pow (Pt.zp HP'.out) m)
         rw [← kidTh_ins ks ⟨addrOf pre' m, g', lv', pre', es'⟩] at CP
         refine CP.mono ?_
         rintro e w3 ⟨g3, rfl, hS3, hg3, hb3⟩
         have hc3 := below_then hb1.drew hb3
         have hk3 := And.intro (HCC.out w3 hc3).1 (HCC.out w3 hc3).2.2
         have HS3 := hide hS3
         clear hS3))
  clear q0 q3 hk3
  have q0 := (HCC.out w3 hc3).1
  have q1 := (HCC.out w3 hc3).2.1
  have hks : ∀ q ∈ insK ks ⟨addrOf pre' m, g', lv', pre', es'⟩, ∀ W, Below w.heap.size w W → NodeOf W k q.blk q.lv q.pre q.es := by
    intro q hq W hW
    rcases mem_insK hq with rfl | hq
    · exact HN'.out.stay hW
    · obtain ⟨_, _, _, _, _, _, _, h5, _⟩ := HF.out
      exact (h5 q hq).stay hW
  have HKS := hide hks
  clear hks
  go_upto_region 10 with fail
  go_region_held3 (fun w' => w'.cell? ⟨g, 0, none⟩ = some (.int .i64 (m : Int)) ∧ w'.cell? ⟨g, 1, none⟩ = some (.slice A k c))
    (first
      | go_keep
      | exact hk4)
    (first
      | (go_at_call 97
         refine (nd_made (lv := (m : Int)) (A := A) (c := c) (HS3.out.below (Below.refl _ w3).drew) (fun q hq => HKS.out q hq _ hc3.drew)).mono ?_
         rintro e w4 ⟨rfl, hB4, hb4⟩
         have hc4 := below_then hc3.drew hb4
         have hk4 := And.intro (HCC.out w4 hc4).1 (HCC.out w4 hc4).2.1
         have HB4 := hide hB4
         clear hB4))
  clear hk4 q0 q1
  go_wp2
  go_ret2
  refine ⟨_, rfl, ?_, hc3.size, hc4⟩
  obtain ⟨_, _, _, _, _, _, h4, h5, h6, h7, h8, h9, _, _⟩ := HF.out
  refine ⟨A, c, g3, hm, HP.out.below hc4, hkc, h4, fun q hq => HKS.out q hq _ hc4, fun q hq => ?_, fun q hq => ?_, insK_sorted h8, Nat.le_trans h9 (insK_len _ h8), HS3.out.below ((Below.refl _ w3).drew.trans hb4), HB4.out⟩
  · rcases mem_insK hq with rfl | hq
    · exact HL.out
    · exact h6 q hq
  · rcases mem_insK hq with rfl | hq
    · exact ⟨rfl, fun b hb => (HPS.out b hb).symm⟩
    · exact h7 q hq
end Go.Proofs.Ytkknfnjojamgjaa
