/- slices.Clone at []uint64; zbits.Part, Cmp, Cut. -/
import Derived.Test.YtkknfnjojamgjaaZb
import Derived.Test.YtkknfnjojamgjaaApp
set_option linter.unusedSimpArgs false
set_option linter.unusedVariables false
namespace Go.Proofs.Ytkknfnjojamgjaa
open Go.RowKit
theorem info_u64 : (Try.prog.info? 28).map (fun i => (i.zero, i.size, i.bytes)) = some (some (.int .u64 0), 1, 8) := by kernel_rfl
theorem u64s_one (p : List Nat) : ∀ u ∈ u64s p, u.oneCell' = true := by
  intro u hu
  simp only [u64s, List.mem_map] at hu
  obtain ⟨x, _, rfl⟩ := hu
  rfl
theorem u64s_len (p : List Nat) : (u64s p).length = p.length := by simp [u64s]
theorem Pt.of_own {w : World} {base n : Nat} {v : Value} {p : List Nat} (h : w.ownsRow base 28 1 v n (u64s p)) (hl : p.length = n) (hb : ∀ x ∈ p, x < 2 ^ 64) : ∃ A c, v = .slice A n c ∧ Pt w A n p := by
  obtain ⟨A, c, rfl, _, h⟩ := Rw.of_own h
  exact ⟨A, c, rfl, hl, h, hb⟩
theorem own_empty (w : World) (e : TypeId) (sz : Nat) : (w.alloc (.cells #[] e)).ownsRow w.heap.size e sz (.slice (some ⟨w.heap.size, 0, none⟩) 0 0) 0 [] :=
  ⟨by simp, .inr ⟨w.heap.size, 0, #[], rfl, Nat.le_refl _, heap_alloc_new w _, Nat.le_refl _, by simp, by simp, by simp⟩⟩
set_option maxHeartbeats 400000 in
set_option maxRecDepth 100000 in
theorem clone_u64 (A : Option Addr) (n c : Nat) (p : List Nat) (w : World) (hp : Pt w A n p) (hn : n ≤ 1000000) :
    Calls Try.prog 103 #[.slice A n c] w fun e w' => ∃ v, e = .returned v ∧ w'.ownsRow w.heap.size 28 1 v n (u64s p) ∧ Below w.heap.size w w' := by
  rcases A with _ | ad
  · have hn0 : n = 0 := by
      rcases Nat.eq_zero_or_pos n with h | h
      · exact h
      · obtain ⟨b, o, h', _⟩ := hp.2.1.2 h
        cases h'
    subst hn0
    have hp0 : p = [] := List.eq_nil_of_length_eq_zero hp.1
    subst hp0
    have h0 := Lib.run_eql_slice_nil (P := Try.prog) w 30 28 none 0 c 0 0 Try.underlying30
    simp only [Option.isNone] at h0
    go_enter Try.func103, Try.ntmps103
    go_wp2
    go_ret
    exact ⟨_, rfl, own_nil _ _ _ _, Below.refl _ _⟩
  · have h0 := Lib.run_eql_slice_nil (P := Try.prog) w 30 28 (some ad) n c 0 0 Try.underlying30
    simp only [Option.isNone] at h0
    have hw : Below w.heap.size w (w.alloc (.cells #[] 28)) := (Below.refl _ _).alloc (Nat.le_refl _) _
    have hr := hp.2.1.below hw
    go_enter Try.func103, Try.ntmps103
    go_wp2_with (at_builtin
                 refine app_any _ rfl (.tmp 5) (.tmp 6) _ rfl w.heap.size 28 _ 1 8 Try.underlying30 info_u64 rfl (by omega) (.slice (some ⟨w.heap.size, 0, none⟩) 0 0) 0 [] rfl (own_empty w _ 1) (some ad) n c (u64s p) rfl hr (u64s_one p) ?c1 ?c2 ?c3 ?_
                 case c1 => simp only [maxLen]; omega
                 case c2 => omega
                 case c3 => exact hw.size
                 intro v' w' ho hg _)
    go_ret
    exact ⟨_, rfl, by simpa using ho, hw.grown hg hw.size (own_base (own_empty w 28 1))⟩
theorem bits_Len64 (x : Int) (w : World) (h0 : 0 ≤ x) (h1 : x ≤ 18446744073709551615) :
    Calls Try.prog 127 #[.int .u64 x] w fun e w' => e = .returned (.int .i64 (Lib.bitLen x.toNat)) ∧ w = w' :=
  (Any.bits_Len64 (P := Try.prog) (ρ := ⟨fun | 129 => 127 | n => n, fun | 53 => 28 | 3 => 3 | 4 => 4 | 46 => 172 | 5 => 5 | 9 => 9 | n => n, fun | n => n⟩) {
    mixed := by kernel_rfl
    f129 := Try.func127.trans (congrArg some (by kernel_rfl))
    t3 := Try.underlying3
    a3 := Try.isAgg3
    z3 := Try.sizeOf3
    v3 := Try.zeroValue3
    t4 := Try.underlying4
    a4 := Try.isAgg4
    z4 := Try.sizeOf4
    v4 := Try.zeroValue4
    t5 := Try.underlying5
    a5 := Try.isAgg5
    z5 := Try.sizeOf5
    v5 := Try.zeroValue5
    t9 := Try.underlying9
    a9 := Try.isAgg9
    z9 := Try.sizeOf9
    v9 := Try.zeroValue9
    t46 := Try.underlying172
    a46 := Try.isAgg172
    z46 := Try.sizeOf172
    v46 := Try.zeroValue172
    t53 := Try.underlying28
    a53 := Try.isAgg28
    z53 := Try.sizeOf28
    v53 := Try.zeroValue28 } x w h0 h1).mono fun _ _ ⟨h, k⟩ => ⟨h, k.symm⟩
set_option maxHeartbeats 400000 in
set_option maxRecDepth 100000 in
theorem zb_part_bad (A B : Option Addr) (n c m d : Nat) (w : World) (h : rightB n = false ∨ n ≠ m) :
    Calls Try.prog 92 #[.slice A n c, .slice B m d] w fun e w' => e = .returned (.tuple #[.int .i64 0, .int .i64 2]) ∧ w = w' := by
  by_cases h1 : rightB n = true
  · have h2 : ((n : Int) != (m : Int)) = true := by
      rcases h with h | h
      · rw [h1] at h; cases h
      · simp; omega
    go_enter Try.func92, Try.ntmps92
    go_wp2_with (go_at_call 106; refine (zb_right _ _ _ _).mono ?_; rintro e w' ⟨rfl, rfl⟩)
    go_ret2
    exact ⟨rfl, rfl⟩
  · have h1 : rightB n = false := by simpa using h1
    clear h
    go_enter Try.func92, Try.ntmps92
    go_wp2_with (go_at_call 106; refine (zb_right _ _ _ _).mono ?_; rintro e w' ⟨rfl, rfl⟩)
    go_ret2
    exact ⟨rfl, rfl⟩
set_option maxHeartbeats 400000 in
set_option maxRecDepth 100000 in
theorem zb_part (A B : Option Addr) (n c d : Nat) (p q : List Nat) (w : World) (hp : Pt w A n p) (hq : Pt w B n q) (h1 : 1 ≤ n) (h2 : n ≤ 16) :
    Calls Try.prog 92 #[.slice A n c, .slice B n d] w fun e w' => e = .returned (.tuple #[.int .i64 (part p q), .int .i64 0]) ∧ w = w' := by
  have e1 : rightB n = true := by simp [rightB, h1, h2]
  go_enter Try.func92, Try.ntmps92
  go_wp2_with (go_at_call 106; refine (zb_right _ _ _ _).mono ?_; rintro e w' ⟨rfl, rfl⟩)
  go_loop [6, 21] (fun x i => ∃ (k : Nat), k ≤ n ∧ i = .int .i64 k ∧ x = .int .u64 (orx (p.take k) (q.take k) : Nat)) (fun _ i => n - (intOf i).toNat)
  case atStart => exact ⟨0, by omega, rfl, rfl⟩
  case round =>
    obtain ⟨k, hk, rfl, rfl⟩ := hrel
    have hy1 := orx_lt (p.take k) (q.take k) (fun x hx => hp.2.2 x (List.mem_of_mem_take hx)) (fun x hx => hq.2.2 x (List.mem_of_mem_take hx))
    by_cases hlt : k < n
    · obtain ⟨b, o, z, rfl, hb, hz, hzl, hc⟩ := hp.at_ hlt
      obtain ⟨b', o', z', rfl, hb', hz', hzl', hc'⟩ := hq.at_ hlt
      have hS := hide (orx_take? p q k z z' hz hz')
      clear hz hz'
      generalize orx (p.take k) (q.take k) = y at *
      go_wp2
      go_round
      case rel =>
        refine ⟨k + 1, by omega, by go_num, ?_⟩
        rw [hS.out, u64_xor_nat _ _ hzl hzl', u64_or_nat _ _ hy1 (Nat.xor_lt_two_pow (n := 64) hzl hzl')]
      case measure => simp [intOf]; omega
    · have hy2 : orx (p.take k) (q.take k) = orx p q := by
        rw [List.take_of_length_le (by have := hp.len; omega), List.take_of_length_le (by have := hq.len; omega)]
      rw [hy2] at hy1 ⊢
      clear hy2
      generalize hy : orx p q = y at *
      have HY := hide hy
      clear hy
      have h3 := (bitLen_spec y hy1).2.2
      go_wp2_with (go_at_call 127; refine (bits_Len64 _ _ (by omega) (by omega)).mono ?_; rintro e w' ⟨rfl, rfl⟩)
      go_ret2
      refine ⟨?_, rfl⟩
      unfold part
      rw [HY.out]
      rfl
end Go.Proofs.Ytkknfnjojamgjaa
