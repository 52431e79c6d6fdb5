/- past: New, Now, check, Len, Jump, Undo, Redo, Do, Amend. -/
import Derived.Test.YtnopacldaoekiaaPsA
set_option linter.unusedSimpArgs false
set_option linter.unusedVariables false
namespace Go.Proofs.Ytnopacldaoekiaa
open Go.RowKit
theorem info_t : (Try.prog.info? 40).map (fun i => (i.zero, i.size, i.bytes)) = some (some (.pointer none), 1, 8) := by kernel_rfl
theorem ptr_eq_t (a b : Nat) (w : World) {ca cb : Array Value} {ta tb : TypeId} (ha : Blk w a ta ca) (hb : Blk w b tb cb) : (binOp .eql 40 (.pointer (some ⟨a, 0, none⟩)) (.pointer (some ⟨b, 0, none⟩))).run Try.prog w = .ok (.bool (decide (a = b))) w := by
  have h : (Try.prog.info? 114).map (fun j => j.size) = some 2 := by kernel_rfl
  obtain ⟨j, hj, h8⟩ := Option.map_eq_some_iff.1 h
  by_cases hab : a = b
  · subst hab
    rw [decide_eq_true rfl]
    exact run_eql_ptr_same w ⟨a, 0, none⟩ Try.underlying40 hj
  · rw [decide_eq_false hab]
    exact run_eql_ptr_other w Try.underlying40 hj (by omega) (fun h => hab (by injection h)) ha hb
set_option maxHeartbeats 4000000 in
set_option maxRecDepth 100000 in
theorem ps_new_nil (w : World) : Calls Try.prog 64 #[.pointer none] w fun e w' => e = .returned (.tuple #[.pointer none, .int .i64 1]) ∧ w = w' := by
  go_enter Try.func64, Try.ntmps64
  go_wp2
  go_ret2
  exact ⟨rfl, rfl⟩
set_option maxHeartbeats 4000000 in
set_option maxRecDepth 100000 in
theorem ps_new (w : World) (t : Nat) : Calls Try.prog 64 #[.pointer (some ⟨t, 0, none⟩)] w fun e w' => (∃ p, e = .returned (.tuple #[.pointer (some ⟨p, 0, none⟩), .int .i64 0]) ∧ w.heap.size ≤ p ∧ PastAt w' p [t] 0) ∧ Below w.heap.size w w' := by
  have b1 := (Below.refl w.heap.size w).alloc (Nat.le_refl _) (.cells #[.pointer (some ⟨t, 0, none⟩)] 40)
  have hN1 := Blk.new w 40 #[.pointer (some ⟨t, 0, none⟩)]
  have hR1 := Rw.new1 w 40 #[.pointer (some ⟨t, 0, none⟩)] (sz := 1) rfl
  generalize hw1 : w.alloc (.cells #[.pointer (some ⟨t, 0, none⟩)] 40) = w1 at *
  have s1 : w1.heap.size = w.heap.size + 1 := by rw [← hw1]; simp
  have b2 := below_alloc b1 (Nat.le_refl _) (.cells #[.slice (some ⟨w.heap.size, 0, none⟩) 1 1, .int .i64 0] 152)
  have q2 := (Below.refl w1.heap.size w1).alloc (Nat.le_refl _) (.cells #[.slice (some ⟨w.heap.size, 0, none⟩) 1 1, .int .i64 0] 152)
  have hN2 := Blk.new w1 152 #[.slice (some ⟨w.heap.size, 0, none⟩) 1 1, .int .i64 0]
  have hF := (show PastAt (w1.alloc (.cells #[.slice (some ⟨w.heap.size, 0, none⟩) 1 1, .int .i64 0] 152)) w1.heap.size [t] 0 from ⟨by simp, by simp, some ⟨w.heap.size, 0, none⟩, 1, hN2, by simp, by simp [maxLen], fun _ => ⟨w.heap.size, 0, _, _, rfl, hN1.below q2⟩, hR1.below q2⟩)
  rw [s1] at hF
  have HF := hide hF
  have HB := hide b2
  have HS := hide (show w.heap.size ≤ w.heap.size + 1 by omega)
  clear b1 hN1 hR1 b2 q2 hN2 hF s1
  subst hw1
  go_enter Try.func64, Try.ntmps64
  go_wp2
  go_ret2
  exact ⟨⟨_, rfl, HS.out, HF.out⟩, HB.out⟩
set_option maxHeartbeats 4000000 in
set_option maxRecDepth 100000 in
theorem ps_now_nil (w : World) : Calls Try.prog 68 #[.pointer none] w fun e w' => e = .returned (.pointer none) ∧ w = w' := by
  go_enter Try.func68, Try.ntmps68
  go_wp2
  go_ret
  exact ⟨rfl, rfl⟩
set_option maxHeartbeats 4000000 in
set_option maxRecDepth 100000 in
theorem ps_now {w : World} {p a t : Nat} {ts : List Nat} (h : PastAt w p ts a) (ht : ts[a]? = some t) : Calls Try.prog 68 #[.pointer (some ⟨p, 0, none⟩)] w fun e w' => e = .returned (.pointer (some ⟨t, 0, none⟩)) ∧ Below w.heap.size w w' := by
  obtain ⟨h1, h2, A, c, hB, h4, h5, h6, h7⟩ := h
  have y0 := hB.cell 0
  have y1 := hB.cell 1
  simp at y0 y1
  obtain ⟨b, o, rfl, hbl, u, hu, hc⟩ := h7.one h1
  obtain rfl : u = .pointer (some ⟨t, 0, none⟩) := by
    unfold ptrs at hu
    rw [List.getElem?_map, ht] at hu
    simpa using hu.symm
  have hi0 : (0 : Int) ≤ (a : Int) := by omega
  have hi1 : (a : Int) < (ts.length : Int) := by omega
  have hd := (Below.refl w.heap.size w).drew
  clear hB h6 h7 hu ht
  go_enter Try.func68, Try.ntmps68
  go_wp2_with fail
  go_region_held3 (fun w' => w'.cell? ⟨p, 0, none⟩ = some (.slice (some ⟨b, o, none⟩) ts.length c) ∧ w'.cell? ⟨p, 1, none⟩ = some (.int .i64 (a : Int)) ∧ w'.cell? ⟨b, o + a, none⟩ = some (.pointer (some ⟨t, 0, none⟩)))
    (go_keep)
    (fail)
  go_wp2
  go_ret
  exact ⟨rfl, hd⟩
set_option maxHeartbeats 4000000 in
set_option maxRecDepth 100000 in
theorem ps_len_nil (w : World) : Calls Try.prog 72 #[.pointer none] w fun e w' => e = .returned (.tuple #[.int .i64 0, .int .i64 0]) ∧ w = w' := by
  go_enter Try.func72, Try.ntmps72
  go_wp2
  go_ret2
  exact ⟨rfl, rfl⟩
set_option maxHeartbeats 4000000 in
set_option maxRecDepth 100000 in
theorem ps_len {w : World} {p a : Nat} {ts : List Nat} (h : PastAt w p ts a) : Calls Try.prog 72 #[.pointer (some ⟨p, 0, none⟩)] w fun e w' => e = .returned (.tuple #[.int .i64 (a : Int), .int .i64 ((ts.length : Int) - 1 - (a : Int))]) ∧ Below w.heap.size w w' := by
  obtain ⟨h1, h2, A, c, hB, h4, h5, h6, h7⟩ := h
  have y0 := hB.cell 0
  have y1 := hB.cell 1
  simp at y0 y1
  have hi0 : (0 : Int) ≤ (a : Int) := by omega
  have hi1 : (a : Int) < (ts.length : Int) := by omega
  have hi2 : (ts.length : Int) ≤ 51 := by omega
  have e1 : IntKind.i64.wrap ((ts.length : Int) - 1) = (ts.length : Int) - 1 := wrap_i64_sm (by omega) (by omega)
  have e2 : IntKind.i64.wrap ((ts.length : Int) - 1 - (a : Int)) = (ts.length : Int) - 1 - (a : Int) := wrap_i64_sm (by omega) (by omega)
  have hd := (Below.refl w.heap.size w).drew
  clear hB h6 h7
  go_enter Try.func72, Try.ntmps72
  go_wp2_with fail
  go_region_held3 (fun w' => w'.cell? ⟨p, 0, none⟩ = some (.slice A ts.length c) ∧ w'.cell? ⟨p, 1, none⟩ = some (.int .i64 (a : Int)))
    (go_keep)
    (fail)
  go_wp2
  go_ret2
  exact ⟨rfl, hd⟩
set_option maxHeartbeats 4000000 in
set_option maxRecDepth 100000 in
theorem ps_check_nilp (w : World) (v : Value) (hv : v = .pointer none ∨ ∃ t, v = .pointer (some ⟨t, 0, none⟩)) : Calls Try.prog 124 #[.pointer none, v] w fun e w' => e = .returned (.int .i64 1) ∧ w = w' := by
  rcases hv with rfl | ⟨t, rfl⟩
  all_goals
    go_enter Try.func124, Try.ntmps124
    go_wp2
    go_ret
    exact ⟨rfl, rfl⟩
set_option maxHeartbeats 4000000 in
set_option maxRecDepth 100000 in
theorem ps_check_nilt (w : World) (p : Nat) : Calls Try.prog 124 #[.pointer (some ⟨p, 0, none⟩), .pointer none] w fun e w' => e = .returned (.int .i64 1) ∧ w = w' := by
  go_enter Try.func124, Try.ntmps124
  go_wp2
  go_ret
  exact ⟨rfl, rfl⟩
set_option maxHeartbeats 4000000 in
set_option maxRecDepth 100000 in
theorem ps_check {w : World} {p a t t0 k k0 : Nat} {ts : List Nat} {root root0 : Option Addr} (h : PastAt w p ts a) (ht : ts[a]? = some t0) (hT : TreeBlk w t k root) (hT0 : TreeBlk w t0 k0 root0) (hk : k ≤ 16) (hk0 : k0 ≤ 16) : Calls Try.prog 124 #[.pointer (some ⟨p, 0, none⟩), .pointer (some ⟨t, 0, none⟩)] w fun e w' => e = .returned (.int .i64 (if k = k0 then 0 else 2)) ∧ Below w.heap.size w w' := by
  have HN := hide (ps_now h ht)
  have HK := hide (tr_k hT)
  have HT0 := hide hT0
  clear h ht hT hT0
  go_enter Try.func124, Try.ntmps124
  go_wp2_with fail
  refine HK.out.mono ?_
  rintro e w1 ⟨rfl, rfl⟩
  go_wp2_with fail
  refine HN.out.mono ?_
  rintro e w1 ⟨rfl, hb1⟩
  have HK0 := hide (tr_k (Blk.below HT0.out hb1))
  have HB := hide hb1
  clear hb1
  go_wp2_with fail
  refine HK0.out.mono ?_
  rintro e w2 ⟨rfl, rfl⟩
  by_cases hkk : k = k0
  · subst hkk
    have e1 : ((k : Int) != (k : Int)) = false := by simp
    go_wp2
    go_ret
    exact ⟨by simp, HB.out⟩
  · have e1 : ((k : Int) != (k0 : Int)) = true := by simp; omega
    go_wp2
    go_ret
    exact ⟨by simp [hkk], HB.out⟩
set_option maxHeartbeats 4000000 in
set_option maxRecDepth 100000 in
theorem ps_jump_nil (w : World) (n : Int) : Calls Try.prog 74 #[.pointer none, .int .i64 n] w fun e w' => e = .returned (.int .i64 1) ∧ w = w' := by
  have HL := hide (ps_len_nil w)
  go_enter Try.func74, Try.ntmps74
  go_wp2_with fail
  refine HL.out.mono ?_
  rintro e w1 ⟨rfl, rfl⟩
  go_wp2
  go_ret
  exact ⟨rfl, rfl⟩
set_option maxHeartbeats 4000000 in
set_option maxRecDepth 100000 in
theorem ps_jump_arg {w : World} {p a : Nat} {ts : List Nat} {n : Int} (h : PastAt w p ts a) (hn : n < -(a : Int) ∨ (ts.length : Int) - 1 - (a : Int) < n) : Calls Try.prog 74 #[.pointer (some ⟨p, 0, none⟩), .int .i64 n] w fun e w' => e = .returned (.int .i64 3) ∧ Below w.heap.size w w' := by
  have HL := hide (ps_len h)
  have h1 := h.1
  have h2 := h.2.1
  clear h
  go_enter Try.func74, Try.ntmps74
  go_wp2_with fail
  refine HL.out.mono ?_
  rintro e w1 ⟨rfl, hb⟩
  have HB := hide hb
  clear hb
  by_cases hl : n < -(a : Int)
  · have e1 : decide (n < -(a : Int)) = true := by simpa using hl
    clear hn
    go_wp2
    go_ret
    exact ⟨rfl, HB.out⟩
  · have e1 : decide (n < -(a : Int)) = false := by simpa using hl
    have e2 : decide ((ts.length : Int) - 1 - (a : Int) < n) = true := by simp; omega
    clear hn
    go_wp2
    go_ret
    exact ⟨rfl, HB.out⟩
set_option maxHeartbeats 4000000 in
set_option maxRecDepth 100000 in
theorem ps_jump {w : World} {p a : Nat} {ts : List Nat} {n : Int} (h : PastAt w p ts a) (h0 : -(a : Int) ≤ n) (h9 : n ≤ (ts.length : Int) - 1 - (a : Int)) : Calls Try.prog 74 #[.pointer (some ⟨p, 0, none⟩), .int .i64 n] w fun e w' => e = .returned (.int .i64 0) ∧ PastAt w' p ts ((a : Int) + n).toNat ∧ Ex p w w' := by
  have HL := hide (ps_len h)
  have h1 := h.1
  have h2 := h.2.1
  have HP := hide h
  clear h
  go_enter Try.func74, Try.ntmps74
  go_wp2_with fail
  refine HL.out.mono ?_
  rintro e w1 ⟨rfl, hb⟩
  obtain ⟨h1, h2, A, c, hB, h4, h5, h6, h7⟩ := HP.out.below hb
  have y1 := hB.cell 1
  have z1 := hB.frozen 1
  simp at y1
  have hx : Ex p w (w1.setCell ⟨p, 1, none⟩ (.int .i64 ((a : Int) + n))) := ((Ex.refl p w).below hb).set 1 _
  have hB' := hB.set1 (i := 1) (.int .i64 ((a : Int) + n))
  have hq : Ex p w1 (w1.setCell ⟨p, 1, none⟩ (.int .i64 ((a : Int) + n))) := (Ex.refl p w1).set 1 _
  have HF := hide (show PastAt (w1.setCell ⟨p, 1, none⟩ (.int .i64 ((a : Int) + n))) p ts ((a : Int) + n).toNat ∧ Ex p w (w1.setCell ⟨p, 1, none⟩ (.int .i64 ((a : Int) + n))) from
    ⟨⟨by omega, h2, A, c, by rw [show ((((a : Int) + n).toNat : Nat) : Int) = (a : Int) + n by omega]; simpa using hB', h4, h5, h6.keep (hq.keep hB (by decide)), h7.keep h6 (hq.keep hB (by decide))⟩, hx⟩)
  have e1 : decide (n < -(a : Int)) = false := by simp; omega
  have e2 : decide ((ts.length : Int) - 1 - (a : Int) < n) = false := by simp; omega
  clear hb hB h6 h7 hx hB' hq
  go_wp2
  go_ret
  exact ⟨rfl, HF.out⟩
set_option maxHeartbeats 4000000 in
set_option maxRecDepth 100000 in
theorem ps_undo_nil (w : World) : Calls Try.prog 67 #[.pointer none] w fun e w' => e = .returned (.bool false) ∧ w = w' := by
  have HJ := hide (ps_jump_nil w (-1))
  go_enter Try.func67, Try.ntmps67
  go_wp2_with fail
  refine HJ.out.mono ?_
  rintro e w1 ⟨rfl, rfl⟩
  go_wp2
  go_ret
  exact ⟨rfl, rfl⟩
set_option maxHeartbeats 4000000 in
set_option maxRecDepth 100000 in
theorem ps_undo_no {w : World} {p a : Nat} {ts : List Nat} (h : PastAt w p ts a) (hn : a = 0) : Calls Try.prog 67 #[.pointer (some ⟨p, 0, none⟩)] w fun e w' => e = .returned (.bool false) ∧ Below w.heap.size w w' := by
  have HJ := hide (ps_jump_arg (n := -1) h (by have := h.1; omega))
  clear h hn
  go_enter Try.func67, Try.ntmps67
  go_wp2_with fail
  refine HJ.out.mono ?_
  rintro e w1 ⟨rfl, hb⟩
  have HB := hide hb
  clear hb
  go_wp2
  go_ret
  exact ⟨rfl, HB.out⟩
set_option maxHeartbeats 4000000 in
set_option maxRecDepth 100000 in
theorem ps_undo {w : World} {p a : Nat} {ts : List Nat} (h : PastAt w p ts a) (hn : 0 < a) : Calls Try.prog 67 #[.pointer (some ⟨p, 0, none⟩)] w fun e w' => e = .returned (.bool true) ∧ PastAt w' p ts (a - 1) ∧ Ex p w w' := by
  have HJ := hide (ps_jump (n := -1) h (by have := h.1; omega) (by have := h.1; omega))
  have h1 := h.1
  clear h
  go_enter Try.func67, Try.ntmps67
  go_wp2_with fail
  refine HJ.out.mono ?_
  rintro e w1 ⟨rfl, hp, hx⟩
  rw [show ((a : Int) + (-1)).toNat = (a - 1) by omega] at hp
  have HP := hide hp
  have HX := hide hx
  clear hp hx
  go_wp2
  go_ret
  exact ⟨rfl, HP.out, HX.out⟩
set_option maxHeartbeats 4000000 in
set_option maxRecDepth 100000 in
theorem ps_redo_nil (w : World) : Calls Try.prog 70 #[.pointer none] w fun e w' => e = .returned (.bool false) ∧ w = w' := by
  have HJ := hide (ps_jump_nil w (1))
  go_enter Try.func70, Try.ntmps70
  go_wp2_with fail
  refine HJ.out.mono ?_
  rintro e w1 ⟨rfl, rfl⟩
  go_wp2
  go_ret
  exact ⟨rfl, rfl⟩
set_option maxHeartbeats 4000000 in
set_option maxRecDepth 100000 in
theorem ps_redo_no {w : World} {p a : Nat} {ts : List Nat} (h : PastAt w p ts a) (hn : ts.length ≤ a + 1) : Calls Try.prog 70 #[.pointer (some ⟨p, 0, none⟩)] w fun e w' => e = .returned (.bool false) ∧ Below w.heap.size w w' := by
  have HJ := hide (ps_jump_arg (n := 1) h (by have := h.1; omega))
  clear h hn
  go_enter Try.func70, Try.ntmps70
  go_wp2_with fail
  refine HJ.out.mono ?_
  rintro e w1 ⟨rfl, hb⟩
  have HB := hide hb
  clear hb
  go_wp2
  go_ret
  exact ⟨rfl, HB.out⟩
set_option maxHeartbeats 4000000 in
set_option maxRecDepth 100000 in
theorem ps_redo {w : World} {p a : Nat} {ts : List Nat} (h : PastAt w p ts a) (hn : a + 1 < ts.length) : Calls Try.prog 70 #[.pointer (some ⟨p, 0, none⟩)] w fun e w' => e = .returned (.bool true) ∧ PastAt w' p ts (a + 1) ∧ Ex p w w' := by
  have HJ := hide (ps_jump (n := 1) h (by have := h.1; omega) (by have := h.1; omega))
  have h1 := h.1
  clear h
  go_enter Try.func70, Try.ntmps70
  go_wp2_with fail
  refine HJ.out.mono ?_
  rintro e w1 ⟨rfl, hp, hx⟩
  rw [show ((a : Int) + 1).toNat = (a + 1) by omega] at hp
  have HP := hide hp
  have HX := hide hx
  clear hp hx
  go_wp2
  go_ret
  exact ⟨rfl, HP.out, HX.out⟩
end Go.Proofs.Ytnopacldaoekiaa
