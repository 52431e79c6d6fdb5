/- pantilelaw08.WalkNil: where nothing is there are no entries: the walk. -/
import Derived.Test.YtnopacldaoekiaaLwB
import Derived.Test.YtnopacldaoekiaaWkD
import Derived.Test.YtnopacldaoekiaaWkE
set_option linter.unusedSimpArgs false
set_option linter.unusedVariables false
namespace Go.Proofs.Ytnopacldaoekiaa
open Go.RowKit
set_option maxHeartbeats 8000000 in
set_option maxRecDepth 100000 in
theorem walk_nil (w : World) (A : Option Addr) (n c : Nat) (p : List Nat) (h : Pt w A n p ∧ n ≤ c ∧ c ≤ maxLen) : Calls Try.prog 3 #[.slice A n c] w fun e w' => e = .returned (.bool true) ∧ Below w.heap.size w w' := by
  clear h p
  go_enter Try.func3, Try.ntmps3
  go_wp2_with fail
  refine (awake8 w).mono ?_
  rintro e w1 ⟨rfl, hb1⟩
  have HB := hide hb1
  clear hb1
  by_cases hn : (40 : Int) < (n : Int)
  · have e1 : decide ((40 : Int) < (n : Int)) = true := by simpa using hn
    clear hn
    go_wp2
    go_ret
    exact ⟨rfl, HB.out⟩
  have e1 : decide ((40 : Int) < (n : Int)) = false := by simpa using hn
  clear hn
  have HC : Hid (Calls Try.prog 19 #[.pointer none] (w1) fun e w' => e = .returned (.tuple #[.agg #[.slice none 0 0, .int .u64 0], .bool false]) ∧ Below (w1).heap.size (w1) w') := hide (cur_next_nil _)
  go_wp2_with fail
  refine HC.out.mono ?_
  rintro e w2 ⟨rfl, hb⟩
  have hal := (Below.refl w2.heap.size w2).alloc (Nat.le_refl _) (.cells #[.slice none 0 0, .int .u64 0] 27)
  have hb2 := below_then hb hal
  replace HB := hide (below_then HB.out hb2)
  have HL0 := hide (Blk.new w2 27 #[.slice none 0 0, .int .u64 0])
  clear hb hal hb2 HC
  have HC : Hid (Calls Try.prog 20 #[.pointer none] (w2.alloc (.cells #[.slice none 0 0, .int .u64 0] 27)) fun e w' => e = .returned (.tuple #[.agg #[.slice none 0 0, .int .u64 0], .bool false]) ∧ Below (w2.alloc (.cells #[.slice none 0 0, .int .u64 0] 27)).heap.size (w2.alloc (.cells #[.slice none 0 0, .int .u64 0] 27)) w') := hide (cur_back_nil _)
  go_wp2_with fail
  refine HC.out.mono ?_
  rintro e w3 ⟨rfl, hb⟩
  have hal := (Below.refl w3.heap.size w3).alloc (Nat.le_refl _) (.cells #[.slice none 0 0, .int .u64 0] 27)
  have hb2 := below_then hb hal
  replace HB := hide (below_then HB.out hb2)
  replace HL0 := hide (HL0.out.below hb2)
  have HL1 := hide (Blk.new w3 27 #[.slice none 0 0, .int .u64 0])
  clear hb hal hb2 HC
  have HC : Hid (Calls Try.prog 21 #[.pointer none] (w3.alloc (.cells #[.slice none 0 0, .int .u64 0] 27)) fun e w' => e = .returned (.tuple #[.agg #[.slice none 0 0, .int .u64 0], .bool false]) ∧ Below (w3.alloc (.cells #[.slice none 0 0, .int .u64 0] 27)).heap.size (w3.alloc (.cells #[.slice none 0 0, .int .u64 0] 27)) w') := hide ((walk_first_nil _ 0).mono fun _ _ h => ent_none h)
  go_wp2_with fail
  refine HC.out.mono ?_
  rintro e w4 ⟨rfl, hb⟩
  have hal := (Below.refl w4.heap.size w4).alloc (Nat.le_refl _) (.cells #[.slice none 0 0, .int .u64 0] 27)
  have hb2 := below_then hb hal
  replace HB := hide (below_then HB.out hb2)
  replace HL0 := hide (HL0.out.below hb2)
  replace HL1 := hide (HL1.out.below hb2)
  have HL2 := hide (Blk.new w4 27 #[.slice none 0 0, .int .u64 0])
  clear hb hal hb2 HC
  have HC : Hid (Calls Try.prog 22 #[.pointer none] (w4.alloc (.cells #[.slice none 0 0, .int .u64 0] 27)) fun e w' => e = .returned (.tuple #[.agg #[.slice none 0 0, .int .u64 0], .bool false]) ∧ Below (w4.alloc (.cells #[.slice none 0 0, .int .u64 0] 27)).heap.size (w4.alloc (.cells #[.slice none 0 0, .int .u64 0] 27)) w') := hide ((walk_last_nil _ 0).mono fun _ _ h => ent_none h)
  go_wp2_with fail
  refine HC.out.mono ?_
  rintro e w5 ⟨rfl, hb⟩
  have hal := (Below.refl w5.heap.size w5).alloc (Nat.le_refl _) (.cells #[.slice none 0 0, .int .u64 0] 27)
  have hb2 := below_then hb hal
  replace HB := hide (below_then HB.out hb2)
  replace HL0 := hide (HL0.out.below hb2)
  replace HL1 := hide (HL1.out.below hb2)
  replace HL2 := hide (HL2.out.below hb2)
  have HL3 := hide (Blk.new w5 27 #[.slice none 0 0, .int .u64 0])
  clear hb hal hb2 HC
  have HC : Hid (Calls Try.prog 23 #[.pointer none, .slice A n c] (w5.alloc (.cells #[.slice none 0 0, .int .u64 0] 27)) fun e w' => e = .returned (.tuple #[.agg #[.slice none 0 0, .int .u64 0], .bool false]) ∧ Below (w5.alloc (.cells #[.slice none 0 0, .int .u64 0] 27)).heap.size (w5.alloc (.cells #[.slice none 0 0, .int .u64 0] 27)) w') := hide ((walk_from_nil A n c _ 0).mono fun _ _ h => ent_none h)
  go_wp2_with fail
  refine HC.out.mono ?_
  rintro e w6 ⟨rfl, hb⟩
  have hal := (Below.refl w6.heap.size w6).alloc (Nat.le_refl _) (.cells #[.slice none 0 0, .int .u64 0] 27)
  have hb2 := below_then hb hal
  replace HB := hide (below_then HB.out hb2)
  replace HL0 := hide (HL0.out.below hb2)
  replace HL1 := hide (HL1.out.below hb2)
  replace HL2 := hide (HL2.out.below hb2)
  replace HL3 := hide (HL3.out.below hb2)
  have HL4 := hide (Blk.new w6 27 #[.slice none 0 0, .int .u64 0])
  clear hb hal hb2 HC
  have HC : Hid (Calls Try.prog 24 #[.pointer none, .slice A n c] (w6.alloc (.cells #[.slice none 0 0, .int .u64 0] 27)) fun e w' => e = .returned (.tuple #[.agg #[.slice none 0 0, .int .u64 0], .bool false]) ∧ Below (w6.alloc (.cells #[.slice none 0 0, .int .u64 0] 27)).heap.size (w6.alloc (.cells #[.slice none 0 0, .int .u64 0] 27)) w') := hide ((walk_upto_nil A n c _ 0).mono fun _ _ h => ent_none h)
  go_wp2_with fail
  refine HC.out.mono ?_
  rintro e w7 ⟨rfl, hb⟩
  have hal := (Below.refl w7.heap.size w7).alloc (Nat.le_refl _) (.cells #[.slice none 0 0, .int .u64 0] 27)
  have hb2 := below_then hb hal
  replace HB := hide (below_then HB.out hb2)
  replace HL0 := hide (HL0.out.below hb2)
  replace HL1 := hide (HL1.out.below hb2)
  replace HL2 := hide (HL2.out.below hb2)
  replace HL3 := hide (HL3.out.below hb2)
  replace HL4 := hide (HL4.out.below hb2)
  have HL5 := hide (Blk.new w7 27 #[.slice none 0 0, .int .u64 0])
  clear hb hal hb2 HC
  have y00 := HL0.out.cell 0
  have y01 := HL0.out.cell 1
  simp at y00 y01
  have y10 := HL1.out.cell 0
  have y11 := HL1.out.cell 1
  simp at y10 y11
  have y20 := HL2.out.cell 0
  have y21 := HL2.out.cell 1
  simp at y20 y21
  have y30 := HL3.out.cell 0
  have y31 := HL3.out.cell 1
  simp at y30 y31
  have y40 := HL4.out.cell 0
  have y41 := HL4.out.cell 1
  simp at y40 y41
  have y50 := HL5.out.cell 0
  have y51 := HL5.out.cell 1
  simp at y50 y51
  have HA := hide (walk_all_nil (w7.alloc (.cells #[.slice none 0 0, .int .u64 0] 27)) 0)
  go_wp2_with fail
  refine (cur_new_nil _).mono ?_
  rintro e w8 ⟨rfl, rfl⟩
  go_wp2_with fail
  refine (cur_seek_nil A n c _).mono ?_
  rintro e w8 ⟨rfl, rfl⟩
  go_wp2_with fail
  refine HA.out.mono ?_
  rintro e w9 h9
  obtain ⟨A9, c9, rows, rfl, hes, -, -, -, hb9⟩ := h9.at_
  obtain rfl : rows = [] := by unfold ents at hes; simpa using hes
  simp only [List.length_nil]
  have HB9 := hide (below_then HB.out hb9)
  clear hes hb9 HA
  go_wp2
  go_ret
  exact ⟨rfl, HB9.out⟩
end Go.Proofs.Ytnopacldaoekiaa
