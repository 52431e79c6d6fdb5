/- pantilelaw22: a past that isn't there. -/
import Derived.Test.YtnopacldaoekiaaLwP
set_option linter.unusedSimpArgs false
set_option linter.unusedVariables false
namespace Go.Proofs.Ytnopacldaoekiaa
open Go.RowKit
set_option maxHeartbeats 4000000 in
set_option maxRecDepth 100000 in
theorem past_nil (w : World) (k : Int) (_ : (Lit.int .i64 k).wf = true) (n : Int) (_ : (Lit.int .i64 n).wf = true) : Calls Try.prog 17 #[.int .i64 k, .int .i64 n] w fun e w' => e = .returned (.bool true) ∧ Below w.heap.size w w' := by
  have HA := hide (awake22 w)
  by_cases hk : 2 ≤ k ∧ k ≤ 16
  case neg =>
    have e1 : decide (k < 2) = true ∨ (decide (k < 2) = false ∧ decide (16 < k) = true) := by
      by_cases h : k < 2
      · exact .inl (by simpa using h)
      · exact .inr ⟨by simpa using h, by simp; omega⟩
    clear hk
    rcases e1 with e1 | ⟨e1, e2⟩
    all_goals
      go_enter Try.func17, Try.ntmps17
      go_wp2_with fail
      refine HA.out.mono ?_
      rintro e w1 ⟨rfl, hb⟩
      have HB := hide hb
      clear hb
      go_wp2
      go_ret
      exact ⟨rfl, HB.out⟩
  obtain ⟨kk, rfl⟩ : ∃ kk : Nat, k = (kk : Int) := ⟨k.toNat, by omega⟩
  have hk2 : 2 ≤ kk := by omega
  have hk16 : kk ≤ 16 := by omega
  have e1 : decide ((kk : Int) < 2) = false := by simp; omega
  have e2 : decide ((16 : Int) < (kk : Int)) = false := by simp; omega
  clear hk
  go_enter Try.func17, Try.ntmps17
  go_wp2_with fail
  refine HA.out.mono ?_
  rintro e w1 ⟨rfl, hb⟩
  have HB1 := hide hb
  have HN1 := hide (tr_new 1 w1 (by omega) (by omega))
  clear hb HA
  go_wp2_with fail
  refine HN1.out.mono ?_
  rintro e w2 ⟨rfl, hT1, hb⟩
  have HB2 := hide (below_then HB1.out hb)
  have HT1 := hide (show TreeBlk w2 w1.heap.size 1 none from hT1)
  have HN2 := hide (tr_new kk w2 (by omega) hk16)
  clear hb hT1 HN1
  go_wp2_with fail
  refine HN2.out.mono ?_
  rintro e w3 ⟨rfl, hT2, hb⟩
  have HB3 := hide (below_then HB2.out hb)
  have HT1 := hide (Blk.below HT1.out hb)
  have HT2 := hide (show TreeBlk w3 w2.heap.size kk none from hT2)
  clear hb hT2 HN2
  have HPN := hide (ps_new_nil w3)
  have HSN := hide (ps_since_nil w3 n)
  have HLN := hide (ps_len_nil w3)
  have HNN := hide (ps_now_nil w3)
  have HDN := hide (ps_do_nilp w3 (.pointer (some ⟨w2.heap.size, 0, none⟩)) (.inr ⟨_, rfl⟩))
  have HAN := hide (ps_amend_nilp w3 (.pointer (some ⟨w2.heap.size, 0, none⟩)) (.inr ⟨_, rfl⟩))
  have HUN := hide (ps_undo_nil w3)
  have HRN := hide (ps_redo_nil w3)
  have HJN := hide (ps_jump_nil w3 n)
  go_wp2_with fail
  refine HPN.out.mono ?_
  rintro e w4 ⟨rfl, rfl⟩
  go_wp2_with fail
  refine HSN.out.mono ?_
  rintro e w4 ⟨rfl, rfl⟩
  go_wp2_with fail
  refine HLN.out.mono ?_
  rintro e w4 ⟨rfl, rfl⟩
  go_wp2_with fail
  refine HNN.out.mono ?_
  rintro e w4 ⟨rfl, rfl⟩
  go_wp2_with fail
  refine HDN.out.mono ?_
  rintro e w4 ⟨rfl, rfl⟩
  go_wp2_with fail
  refine HAN.out.mono ?_
  rintro e w4 ⟨rfl, rfl⟩
  go_wp2_with fail
  refine HUN.out.mono ?_
  rintro e w4 ⟨rfl, rfl⟩
  go_wp2_with fail
  refine HRN.out.mono ?_
  rintro e w4 ⟨rfl, rfl⟩
  go_wp2_with fail
  refine HJN.out.mono ?_
  rintro e w4 ⟨rfl, rfl⟩
  go_wp2_with fail
  refine (ps_new w3 w2.heap.size).mono ?_
  rintro e w4 ⟨⟨p, rfl, hpl, hp⟩, hb⟩
  have HB4 := hide (below_then HB3.out hb)
  have HT1 := hide (Blk.below HT1.out hb)
  have HT2 := hide (Blk.below HT2.out hb)
  have HP := hide hp
  have HD1 := hide (ps_do_nilt w4 p)
  clear hp hb hpl HPN HSN HLN HNN HDN HAN HUN HRN HJN
  go_wp2_with fail
  refine HD1.out.mono ?_
  rintro e w5 ⟨rfl, rfl⟩
  go_wp2_with fail
  refine (ps_do_dim HP.out (show [w2.heap.size][0]? = some w2.heap.size from rfl) HT1.out HT2.out (by omega) hk16 (by omega)).mono ?_
  rintro e w5 ⟨rfl, hb⟩
  have HB5 := hide (below_then HB4.out hb)
  have HT1 := hide (Blk.below HT1.out hb)
  have HT2 := hide (Blk.below HT2.out hb)
  have HP := hide (HP.out.below hb)
  have HD2 := hide (ps_amend_nilt w5 p)
  clear hb HD1
  go_wp2_with fail
  refine HD2.out.mono ?_
  rintro e w6 ⟨rfl, rfl⟩
  go_wp2_with fail
  refine (ps_amend_dim HP.out (show [w2.heap.size][0]? = some w2.heap.size from rfl) HT1.out HT2.out (by omega) hk16 (by omega)).mono ?_
  rintro e w6 ⟨rfl, hb⟩
  have HB6 := hide (below_then HB5.out hb)
  have HT2 := hide (Blk.below HT2.out hb)
  have HP := hide (HP.out.below hb)
  clear hb HD2
  go_wp2_with fail
  refine (ps_now HP.out (show [w2.heap.size][0]? = some w2.heap.size from rfl)).mono ?_
  rintro e w7 ⟨rfl, hb⟩
  have hT7 := Blk.below HT2.out hb
  have e3 := ptr_eq_t w2.heap.size w2.heap.size w7 hT7 hT7
  rw [decide_eq_true rfl] at e3
  have HB7 := hide (below_then HB6.out hb)
  have HP := hide (HP.out.below hb)
  clear hb hT7
  go_wp2_with fail
  refine (ps_undo_no HP.out rfl).mono ?_
  rintro e w8 ⟨rfl, hb⟩
  have HB8 := hide (below_then HB7.out hb)
  clear hb
  go_wp2
  go_ret
  exact ⟨rfl, HB8.out⟩
end Go.Proofs.Ytnopacldaoekiaa
