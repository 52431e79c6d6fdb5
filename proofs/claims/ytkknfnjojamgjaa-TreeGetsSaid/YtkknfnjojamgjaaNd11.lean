/- Nodes: Without a kid. -/
import Derived.Test.YtkknfnjojamgjaaNd10
set_option linter.unusedSimpArgs false
set_option linter.unusedVariables false
namespace Go.Proofs.Ytkknfnjojamgjaa
open Go.RowKit
theorem delK_len {ks : List Kid} {a : Nat} (h : ks.Pairwise fun q r => q.at_ < r.at_) (hm : ∃ q ∈ ks, q.at_ = a) : (delK ks a).length + 1 = ks.length := by
  induction ks with
  | nil => obtain ⟨q, hq, _⟩ := hm; cases hq
  | cons r t ih =>
    obtain ⟨h1, h2⟩ := List.pairwise_cons.1 h
    unfold delK
    by_cases hr : r.at_ = a
    · have hall : (t.filter fun x => decide (x.at_ ≠ a)) = t := by
        rw [List.filter_eq_self]
        intro x hx
        have := h1 x hx
        simp; omega
      rw [List.filter_cons_of_neg (by simp [hr]), hall]
      simp
    · obtain ⟨q, hq, hqa⟩ := hm
      have hqt : q ∈ t := by
        rcases List.mem_cons.1 hq with rfl | hq
        · exact absurd hqa hr
        · exact hq
      have := ih h2 ⟨q, hqt, hqa⟩
      unfold delK at this
      rw [List.filter_cons_of_pos (by simp [hr])]
      simp only [List.length_cons]
      omega
theorem mem_delK {ks : List Kid} {a : Nat} {r : Kid} : r ∈ delK ks a ↔ r ∈ ks ∧ r.at_ ≠ a := by
  unfold delK
  rw [List.mem_filter]
  simp
set_option maxHeartbeats 1000000 in
set_option maxRecDepth 100000 in
theorem nd_without_bad {w : World} {k g m : Nat} {pre : List Nat} {ks : List Kid} (h : Fork w k g m pre ks) (addr : Int) (ha : chk k addr = 3) :
    Calls Try.prog 50 #[.pointer (some ⟨g, 0, none⟩), .int .i64 addr] w fun e w' => e = .returned (.tuple #[.pointer none, .int .i64 3]) ∧ Below w.heap.size w w' := by
  obtain ⟨A, c, gs, -, hp, -, -, -, -, -, -, -, hS, hB⟩ := h
  have c3 := hB.cell 3
  simp [nodeCells] at c3
  have HD := hide (del_bad_n gs k (kidTh ks) addr w hS ha)
  clear hB hp hS ha
  go_enter Try.func50, Try.ntmps50
  go_wp2_with fail
  refine HD.out.mono ?_
  rintro e w1 ⟨rfl, hb1⟩
  go_wp2
  go_ret2
  exact ⟨rfl, hb1⟩
set_option maxHeartbeats 1000000 in
set_option maxRecDepth 100000 in
theorem nd_without_none {w : World} {k g m : Nat} {pre : List Nat} {ks : List Kid} (h : Fork w k g m pre ks) (addr : Int) (ha : chk k addr = 0) (hg : getTh (kidTh ks) addr = none) :
    Calls Try.prog 50 #[.pointer (some ⟨g, 0, none⟩), .int .i64 addr] w fun e w' => e = .returned (.tuple #[.pointer none, .int .i64 6]) ∧ Below w.heap.size w w' := by
  obtain ⟨A, c, gs, -, hp, -, -, -, -, -, -, -, hS, hB⟩ := h
  have c3 := hB.cell 3
  simp [nodeCells] at c3
  have HD := hide (del_none_n gs k (kidTh ks) addr w hS ha hg)
  clear hB hp hS ha hg
  go_enter Try.func50, Try.ntmps50
  go_wp2_with fail
  refine HD.out.mono ?_
  rintro e w1 ⟨rfl, hb1⟩
  go_wp2
  go_ret2
  exact ⟨rfl, hb1⟩
set_option maxHeartbeats 2000000 in
set_option maxRecDepth 100000 in
/-- One kid is left: it is what there is. -/
theorem nd_without_two {w : World} {k g m : Nat} {pre : List Nat} {ks : List Kid} {a : Nat} {q r : Kid} (h : Fork w k g m pre ks) (ha : a < 2 ^ k) (hq : q ∈ ks) (hqa : q.at_ = a) (hr : delK ks a = [r]) :
    Calls Try.prog 50 #[.pointer (some ⟨g, 0, none⟩), .int .i64 (a : Int)] w fun e w' => e = .returned (.tuple #[.pointer (some ⟨r.blk, 0, none⟩), .int .i64 0]) ∧ Below w.heap.size w w' := by
  obtain ⟨A, c, gs, -, hp, -, -, -, -, -, -, -, hS, hB⟩ := h
  have c3 := hB.cell 3
  simp [nodeCells] at c3
  have hth : getTh (kidTh ks) (a : Int) = some (.pointer (some ⟨q.blk, 0, none⟩)) := by
    rw [← hqa]
    exact getTh_some hS.ok (t := (q.at_, .pointer (some ⟨q.blk, 0, none⟩))) (List.mem_map.2 ⟨q, hq, rfl⟩)
  have CD := del_n gs k (kidTh ks) a _ w hS ha hth
  rw [← kidTh_del, hr] at CD
  have HD := hide CD
  clear hB hp hS ha hth CD hqa hq hr
  go_enter Try.func50, Try.ntmps50
  go_wp2_with fail
  refine HD.out.mono ?_
  rintro e w1 ⟨g1, rfl, hS1, hg1, hb1⟩
  have HLN := hide (len_n g1 k (kidTh [r]) w1 hS1)
  have HAL := hide (kid_all hS1)
  clear HD hS1 hg1
  go_wp2_with fail
  refine HLN.out.mono ?_
  rintro e w2 ⟨rfl, rfl⟩
  have hl1 : (kidTh [r]).length = 1 := rfl
  rw [hl1]
  clear hl1
  go_wp2_with fail
  refine HAL.out.mono ?_
  rintro e w2 ⟨v2, rfl, ho2, hb2⟩
  obtain ⟨A2, c2, rfl, -, hR2⟩ := Rw.of_own ho2
  obtain ⟨b, o, rfl, -, u, hu, k0⟩ := hR2.one (i := 0) (by simp)
  simp at hu
  rw [← hu, Nat.add_zero] at k0
  clear ho2 hR2 hu HAL HLN
  go_wp2
  go_ret2
  exact ⟨rfl, below_then hb1 hb2⟩
set_option maxHeartbeats 2000000 in
set_option maxRecDepth 100000 in
theorem nd_without {w : World} {k g m : Nat} {pre : List Nat} {ks : List Kid} {a : Nat} {q : Kid} (h : Fork w k g m pre ks) (ha : a < 2 ^ k) (hq : q ∈ ks) (hqa : q.at_ = a) (h3 : 3 ≤ ks.length) :
    Calls Try.prog 50 #[.pointer (some ⟨g, 0, none⟩), .int .i64 (a : Int)] w fun e w' => ∃ gn, e = .returned (.tuple #[.pointer (some ⟨gn, 0, none⟩), .int .i64 0]) ∧ Fork w' k gn m pre (delK ks a) ∧ w.heap.size ≤ gn ∧ Below w.heap.size w w' := by
  have HF := hide h
  obtain ⟨A, c, gs, hm, hp, hkc, -, -, -, -, hs, -, hS, hB⟩ := h
  have c0 := hB.cell 0
  have c1 := hB.cell 1
  have c3 := hB.cell 3
  simp [nodeCells] at c0 c1 c3
  have hgl := hB.lt
  have HCC := hide (fun (W : World) (hW : Below w.heap.size w W) => And.intro ((hW.cell (p := ⟨g, 0, none⟩) hgl).trans c0) ((hW.cell (p := ⟨g, 1, none⟩) hgl).trans c1))
  have hth : getTh (kidTh ks) (a : Int) = some (.pointer (some ⟨q.blk, 0, none⟩)) := by
    rw [← hqa]
    exact getTh_some hS.ok (t := (q.at_, .pointer (some ⟨q.blk, 0, none⟩))) (List.mem_map.2 ⟨q, hq, rfl⟩)
  have hlen := delK_len hs ⟨q, hq, hqa⟩
  have CD := del_n gs k (kidTh ks) a _ w hS ha hth
  rw [← kidTh_del] at CD
  have HD := hide CD
  have HLE := hide hlen
  have hl2 : 2 ≤ (delK ks a).length := by omega
  have hl16 : (delK ks a).length ≤ 65536 := by
    have h1 := len_le_of_ok hS.ok
    have h2 := pow16 hS.2.1
    simp [kidTh] at h1
    omega
  have HP := hide hp
  have hne1 : (((delK ks a).length : Int) == 1) = false := by simp; omega
  clear hB hp hS ha hth CD hqa hq hlen c0 c1 hs
  go_enter Try.func50, Try.ntmps50
  go_wp2_with fail
  refine HD.out.mono ?_
  rintro e w1 ⟨g1, rfl, hS1, hg1, hb1⟩
  have CL := len_n g1 k (kidTh (delK ks a)) w1 hS1
  rw [show (kidTh (delK ks a)).length = (delK ks a).length by simp [kidTh]] at CL
  have HLN := hide CL
  have HS1 := hide hS1
  clear HD hS1 hg1 CL
  go_wp2_with fail
  refine HLN.out.mono ?_
  rintro e w2 ⟨rfl, rfl⟩
  have q0 := (HCC.out w1 hb1).1
  have q1 := (HCC.out w1 hb1).2
  have hks : ∀ q ∈ delK ks a, ∀ W, Below w.heap.size w W → NodeOf W k q.blk q.lv q.pre q.es := by
    intro q hq W hW
    obtain ⟨_, _, _, _, _, _, _, h5, _⟩ := HF.out
    exact (h5 q (mem_delK.1 hq).1).stay hW
  have HKS := hide hks
  clear hks HLN
  go_upto_region 10 with fail
  go_region_held3 (fun w' => w'.cell? ⟨g, 0, none⟩ = some (.int .i64 (m : Int)) ∧ w'.cell? ⟨g, 1, none⟩ = some (.slice A k c))
    (first
      | go_keep
      | exact hk4)
    (first
      | (go_at_call 97
         refine (nd_made (lv := (m : Int)) (A := A) (c := c) (HS1.out.below (Below.refl _ w1).drew) (fun q hq => HKS.out q hq _ hb1.drew)).mono ?_
         rintro e w4 ⟨rfl, hB4, hb4⟩
         have hc4 := below_then hb1.drew hb4
         have hk4 := And.intro (HCC.out w4 hc4).1 (HCC.out w4 hc4).2
         have HB4 := hide hB4
         clear hB4))
  clear hk4 q0 q1
  go_wp2
  go_ret2
  refine ⟨_, rfl, ?_, hb1.size, hc4⟩
  obtain ⟨_, _, _, _, _, _, h4, h5, h6, h7, h8, h9, _, _⟩ := HF.out
  exact ⟨A, c, g1, hm, HP.out.below hc4, hkc, h4, fun q hq => HKS.out q hq _ hc4, fun q hq => h6 q (mem_delK.1 hq).1, fun q hq => h7 q (mem_delK.1 hq).1, delK_sorted h8, hl2, HS1.out.below ((Below.refl _ w1).drew.trans hb4), HB4.out⟩
end Go.Proofs.Ytkknfnjojamgjaa
