/- slices.Insert of one cell, at *pantile/node.Node. -/
import Derived.Test.YtkknfnjojamgjaaSlBinN
import Derived.Test.YtkknfnjojamgjaaIns
import Derived.StillTailTactics
set_option linter.unusedSimpArgs false
set_option linter.unusedVariables false
namespace Go.Proofs.Ytkknfnjojamgjaa
open Go.RowKit
theorem size_cell_n : (Try.prog.info? 182).map (·.size) = some 3 := by kernel_rfl
theorem zc_n (m : Nat) : (Builtin.zeroCells (Value.agg #[.int .i64 0, (.pointer none), .bool false]).cells m).toList = clv (List.replicate m ⟨0, (.pointer none), false⟩) := by
  have h := made_clv (.pointer none) m
  rw [laidTo_zero] at h
  rw [← h]
  rfl
theorem clv_one_n {cs : List Cl} (h : IsX_n cs) : ∀ u ∈ clv cs, u.oneCell' = true := by
  intro u hu
  obtain ⟨c, hc, hu⟩ := List.mem_flatMap.1 hu
  exact vals_one c (isx_one_n h c hc) u hu
theorem isx_rep_n (m : Nat) : IsX_n (List.replicate m ⟨0, (.pointer none), false⟩) := by
  intro c hc
  rw [(List.mem_replicate.1 hc).2]
  exact ⟨_, rfl⟩
set_option maxHeartbeats 2000000 in
set_option maxRecDepth 100000 in
theorem insert_end_n (base : Nat) (A : Option Addr) (n cap : Nat) (cs : List Cl) (a : Nat) (y) (h : Bool) (b : Nat) (w : World) (hO : w.ownsRow base 182 3 (.slice A n cap) n (clv cs)) (hn : n ≤ 65536) (hb : Blk w b 182 #[.int .i64 (a : Int), .pointer y, .bool h]) (hbase : base ≤ w.heap.size) :
    Calls Try.prog 132 #[.slice A n cap, .int .i64 (n : Int), .slice (some ⟨b, 0, none⟩) 1 1] w fun e w' => ∃ v, e = .returned v ∧ w'.ownsRow base 182 3 v (n + 1) (clv (cs ++ [⟨a, .pointer y, h⟩])) ∧ Below base w w' := by
  have hs := fun W => run_slice_lo (P := Try.prog) Try.underlying176 Try.sizeOf182 A n cap n (Nat.le_refl _) W
  have hr : Rw w 3 (some ⟨b, 0, none⟩) 1 [.int .i64 (a : Int), .pointer y, .bool h] := Rw.of_blk hb rfl (fun j u h => by simpa using h)
  have h1 : ∀ u ∈ [Value.int .i64 (a : Int), .pointer y, .bool h], u.oneCell' = true := by
    intro u hu
    simp only [List.mem_cons, List.not_mem_nil, or_false] at hu
    rcases hu with rfl | rfl | rfl <;> rfl
  go_enter Try.func132, Try.ntmps132
  go_wp2_with (at_builtin
               refine app_any _ rfl (.tmp 23) (.tmp 24) _ rfl base 182 _ 3 24 Try.underlying176 info_cell_n rfl (by omega) _ _ _ rfl hO (some ⟨b, 0, none⟩) 1 1 [.int .i64 (a : Int), .pointer y, .bool h] rfl hr h1 ?c1 ?c2 hbase ?_
               case c1 => simp only [maxLen]; omega
               case c2 => omega
               intro v' w' ho' hg' _)
  go_ret
  exact ⟨_, rfl, by simpa [clv_append, clv_cons, clv_nil, Cl.vals] using ho', (Below.refl _ _).grown hg' hbase (own_base hO)⟩
set_option maxHeartbeats 2000000 in
set_option maxRecDepth 100000 in
theorem insert_grow_n (base g : Nat) (n cap i : Nat) (cs : List Cl) (a : Nat) (y) (h : Bool) (b : Nat) (w : World) (hO : w.ownsRow base 182 3 (.slice (some ⟨g, 0, none⟩) n cap) n (clv cs)) (hX : IsX_n cs) (hn : n ≤ 65536) (hi : i < n) (hcap : cap < n + 1) (hb : Blk w b 182 #[.int .i64 (a : Int), .pointer y, .bool h]) (hbase : base ≤ w.heap.size) :
    Calls Try.prog 132 #[.slice (some ⟨g, 0, none⟩) n cap, .int .i64 (i : Int), .slice (some ⟨b, 0, none⟩) 1 1] w fun e w' => ∃ v, e = .returned v ∧ w'.ownsRow base 182 3 v (n + 1) (clv (cs.take i ++ [⟨a, .pointer y, h⟩] ++ cs.drop i)) ∧ Below base w w' := by
  have hlen : cs.length = n := by have := hO.1; rw [clv_length] at this; omega
  have HL := hide hlen
  clear hlen
  obtain ⟨A', c', hv, hnc, hR⟩ := Rw.of_own hO
  injection hv with hA _ hc
  subst hA hc
  obtain ⟨m, hm⟩ : ∃ m, n + 1 = i + m := ⟨n + 1 - i, by omega⟩
  have hm1 : 2 ≤ m := by omega
  have e2 : ((n : Int) + 1 - i) = (m : Int) := by omega
  have HM := hide hm
  clear hm
  have e0 : ((i : Int) == n) = false := by simp; omega
  have e1 : decide ((n : Int) + 1 > cap) = true := by simp; omega
  have hs := fun W => run_slice_lo (P := Try.prog) Try.underlying176 Try.sizeOf182 (some ⟨g, 0, none⟩) n cap i (by omega) W
  have hs2 := fun W => run_slice_hi (P := Try.prog) Try.underlying176 Try.sizeOf182 g n cap i (by omega) W
  rw [cutA_some (by omega)] at hs
  have hr : Rw w 3 (some ⟨b, 0, none⟩) 1 (clv [⟨a, .pointer y, h⟩]) := Rw.of_blk hb rfl (fun j u h => by simpa [clv, Cl.vals] using h)
  have h1 : ∀ u ∈ clv [⟨a, .pointer y, h⟩], u.oneCell' = true := clv_one_n (fun c hc => by rw [List.mem_singleton] at hc; rw [hc]; exact ⟨_, rfl⟩)
  have hRt := hR.take_ (i := i) (by omega)
  rw [clv_take] at hRt
  go_enter Try.func132, Try.ntmps132
  go_wp2_with (first
    | (at_builtin
       refine zeros_grow w rfl (.tmp 34) (.tmp 39) _ 3 182 _ 3 24 rfl Try.underlying176 Try.underlying3 info_cell_n rfl (by omega) (by omega) (some ⟨g, 0, none⟩) i cap (clv (cs.take i)) rfl hRt _ m rfl ?z1 ?z2 ?z3 ?_
       case z1 => rw [zc_n]; exact clv_one_n (isx_rep_n m)
       case z2 => omega
       case z3 => have := HM.out; omega
       intro v' w' ho' hb'
       rw [zc_n, ← clv_append] at ho'
       obtain ⟨g2, cap2, hv2, hg2, hlt2⟩ := ho'.form (by omega)
       subst hv2
       obtain ⟨_, _, hv3, hcap2, -⟩ := Rw.of_own ho'
       injection hv3 with hA3 _ hc3
       subst hA3 hc3
       have hs3 := fun W => run_slice_lo (P := Try.prog) Try.underlying176 Try.sizeOf182 (some ⟨g2, 0, none⟩) (i + m) cap2 i (by omega) W
       rw [cutA_some (by omega)] at hs3
       rw [show i + m - i = m by omega] at hs3
       obtain ⟨w2, hrun2, ho2, hgr2⟩ := run_copy_own (P := Try.prog) w' 176 176 3 182 3 w.heap.size (i + m) cap2 g2 i (cap2 - i) (some ⟨b, 0, none⟩) 1 1 m _ _ Try.underlying176 size_cell_n ho' 1 (Nat.min_eq_left (by omega)) (hr.below hb') (by omega) (by omega) h1
       rw [splice_clv] at ho2
       have hs4 := fun W => run_slice_lo (P := Try.prog) Try.underlying176 Try.sizeOf182 (some ⟨g2, 0, none⟩) (i + m) cap2 (i + 1) (by omega) W
       rw [cutA_some (by omega), show (((i + 1 : Nat)) : Int) = (i : Int) + 1 by omega] at hs4
       have hbw2 : Below w.heap.size w w2 := hb'.grown hgr2 hb'.size (fun k hk => by injection hk with hk; omega)
       have HO2 := hide ho2
       clear ho' ho2 hgr2)
    | fail)
  have e5 : IntKind.i64.wrap ((i : Int) + 1) = (i : Int) + 1 := by rw [IntKind.wrap_i64]; omega
  go_still_tail 8, (by kernel_rfl)
  change wpList _ _ _ _ _ w2.drew
  have hRd := (hR.drop_ (i := i) (by omega)).below hbw2.drew
  rw [clv_drop] at hRd
  refine copy_own w2.drew rfl (.tmp 50) (.tmp 53) _ _ 182 rfl 3 w.heap.size (i + m) cap2 g2 (i + 1) (cap2 - (i + 1)) (some ⟨g, i * 3, none⟩) (n - i) (cap - i) (i + m - (i + 1)) _ (clv (cs.drop i)) Try.underlying176 size_cell_n HO2.out.drew ?d1 rfl (n - i) ?d3 hRd (by omega) (by omega) ?d5 ?_
  case d1 => rfl
  case d3 => have := HM.out; exact Nat.min_eq_left (by omega)
  case d5 => exact clv_one_n (fun c hc => hX c (List.mem_of_mem_drop hc))
  intro w3 ho3 hg3
  rw [splice_clv] at ho3
  have HO3 := hide ho3
  have hb3 := hbw2.drew.grown hg3 hbw2.drew.size (fun k hk => by injection hk with hk; omega)
  clear ho3 hg3
  go_wp2
  go_ret
  refine ⟨_, rfl, ?_, hb3.mono hbase⟩
  have ho3 := own_lower HO3.out hbase
  rw [show 1 = ([⟨a, .pointer y, h⟩] : List Cl).length from rfl, List.length_singleton, ins_lists cs _ _ n i m HL.out hi HM.out] at ho3
  rw [HM.out]
  exact ho3
set_option maxHeartbeats 2000000 in
set_option maxRecDepth 100000 in
theorem insert_room_n (base g : Nat) (n cap i : Nat) (cs : List Cl) (a : Nat) (y) (h : Bool) (b : Nat) (w : World) (hO : w.ownsRow base 182 3 (.slice (some ⟨g, 0, none⟩) n cap) n (clv cs)) (hX : IsX_n cs) (hn : n ≤ 65536) (hi : i < n) (hcap : n + 1 ≤ cap) (hb : Blk w b 182 #[.int .i64 (a : Int), .pointer y, .bool h]) (hne : b ≠ g) (hbase : base ≤ w.heap.size) :
    Calls Try.prog 132 #[.slice (some ⟨g, 0, none⟩) n cap, .int .i64 (i : Int), .slice (some ⟨b, 0, none⟩) 1 1] w fun e w' => ∃ v, e = .returned v ∧ w'.ownsRow base 182 3 v (n + 1) (clv (cs.take i ++ [⟨a, .pointer y, h⟩] ++ cs.drop i)) ∧ Below base w w' := by
  have hlen : cs.length = n := by have := hO.1; rw [clv_length] at this; omega
  have HL := hide hlen
  clear hlen
  obtain ⟨ys, hys, hO1⟩ := own_extend hO (Nat.le_succ n) hcap
  have hgb : base ≤ g := own_base hO g rfl
  have hsg : w.shape? g = some (182, cap * 3) ∧ w.frozen? ⟨g, 0, none⟩ = false := by
    rcases hO.2 with ⟨h', h0⟩ | ⟨g', cap', cur, h', hbg, hg, hnc, hcm, hcs, htake⟩
    · cases h'
    · simp only [Value.slice.injEq, Option.some.injEq, Addr.mk.injEq, and_true, true_and] at h'
      obtain ⟨rfl, rfl⟩ := h'
      exact ⟨by simp [World.shape?, hg, hcs], by simp [World.frozen?, hg]⟩
  have hsb : w.shape? b = some (182, 3) := by unfold Blk at hb; simp [World.shape?, hb]
  have hov : ∀ lb cb, (callFunc 143 #[.slice (some ⟨b, 0, none⟩) 1 1, .slice (some ⟨g, (i + 1) * 3, none⟩) lb cb]).run Try.prog w = .ok (.value (.bool false)) w := fun lb cb => by
    rw [run_callFunc_extern Try.func143 (by kernel_rfl) (by kernel_rfl) (by kernel_rfl) (e := Extern.SlicesOverlaps.overlaps #[176, 176] #[4]) (by kernel_rfl),
      Lib.run_overlaps_apart w 176 4 182 Try.underlying176 3 Try.sizeOf182 ⟨b, 0, none⟩ ⟨g, (i + 1) * 3, none⟩ 1 1 lb cb hne _ _ 3 (cap * 3) hsb hsg.1 (by omega) (hb.frozen 0) (hb.frozen 3)]
    rfl
  have hr : Rw w 3 (some ⟨b, 0, none⟩) 1 (clv [⟨a, .pointer y, h⟩]) := Rw.of_blk hb rfl (fun j u h => by simpa [clv, Cl.vals] using h)
  have h1 : ∀ u ∈ clv [⟨a, .pointer y, h⟩], u.oneCell' = true := clv_one_n (fun c hc => by rw [List.mem_singleton] at hc; rw [hc]; exact ⟨_, rfl⟩)
  obtain ⟨_, _, hv, -, hR⟩ := Rw.of_own hO
  injection hv with hA _ hc
  subst hA hc
  have hRd := (hR.drop_ (i := i) (by omega)).below ((Below.refl w.heap.size w).drew)
  rw [clv_drop] at hRd
  have e0 : ((i : Int) == n) = false := by simp; omega
  have e1 : decide ((n : Int) + 1 > cap) = false := by simp; omega
  have hs := fun W => run_slice_lo (P := Try.prog) Try.underlying176 Try.sizeOf182 (some ⟨g, 0, none⟩) n cap i (by omega) W
  have hs2 := fun W => run_slice_hi (P := Try.prog) Try.underlying176 Try.sizeOf182 g n cap (n + 1) (by omega) W
  have hs3 := fun W => run_slice_lo (P := Try.prog) Try.underlying176 Try.sizeOf182 (some ⟨g, 0, none⟩) (n + 1) cap (i + 1) (by omega) W
  have hs4 := fun W => run_slice_lo (P := Try.prog) Try.underlying176 Try.sizeOf182 (some ⟨g, 0, none⟩) (n + 1) cap i (by omega) W
  rw [cutA_some (by omega)] at hs hs3 hs4
  rw [show ((n + 1 : Nat) : Int) = (n : Int) + 1 by omega] at hs2
  rw [show ((i + 1 : Nat) : Int) = (i : Int) + 1 by omega] at hs3
  have e5 : IntKind.i64.wrap ((i : Int) + 1) = (i : Int) + 1 := by rw [IntKind.wrap_i64]; omega
  have HO1 := hide hO1
  have HSG := hide hsg
  have HYS := hide hys
  clear hO hO1 hsg hsb hys
  go_enter Try.func132, Try.ntmps132
  go_wp2_with fail
  go_still_tail 8, (by kernel_rfl)
  change wpList _ _ _ _ _ w.drew
  refine copy_own w.drew rfl (.tmp 73) (.tmp 76) _ _ 182 rfl 3 base (n + 1) cap g (i + 1) (cap - (i + 1)) (some ⟨g, i * 3, none⟩) (n + 1 - i) (cap - i) (n - i) _ (clv (cs.drop i)) Try.underlying176 size_cell_n HO1.out.drew ?d1 ?d2 (n - i) ?d3 hRd (by omega) (by omega) ?d5 ?_
  case d1 => rfl
  case d2 => rfl
  case d3 => exact Nat.min_eq_right (by omega)
  case d5 => exact clv_one_n (fun c hc => hX c (List.mem_of_mem_drop hc))
  intro w2 ho2 hg2
  have hb2 : Below base w w2 := ((Below.refl base w).drew).grown hg2 hbase (fun k hk => by injection hk with hk; omega)
  have hsame : ∀ j, w2.cell? ⟨b, j, none⟩ = w.cell? ⟨b, j, none⟩ := fun j => World.cell?_of_block (hg2.block b hb.lt (fun e => by injection e with e; exact hne e))
  have hr2 : Rw w2 3 (some ⟨b, 0, none⟩) 1 (clv [⟨a, .pointer y, h⟩]) := ⟨hr.1, fun h0 => by
    obtain ⟨b', o', hA, hlt, hc⟩ := hr.2 h0
    injection hA with hA
    injection hA with h3 h4
    subst h3 h4
    exact ⟨b, 0, rfl, Nat.lt_of_lt_of_le hlt hg2.size, fun j u hu => (hsame _).trans (hc j u hu)⟩⟩
  obtain ⟨w3, hrun3, ho3, hg3⟩ := run_copy_own (P := Try.prog) w2 176 176 3 182 3 base (n + 1) cap g i (cap - i) (some ⟨b, 0, none⟩) 1 1 (n + 1 - i) _ _ Try.underlying176 size_cell_n ho2 1 (Nat.min_eq_left (by omega)) hr2 (by omega) (by omega) h1
  have hb3 : Below base w w3 := hb2.grown hg3 (Nat.le_trans hbase hb2.size) (fun k hk => by injection hk with hk; omega)
  have HO3 := hide ho3
  clear ho2 ho3 hg2 hg3 hsame
  go_wp2
  go_ret
  refine ⟨_, rfl, ?_, hb3⟩
  have ho3 := HO3.out
  have hli : (clv (cs.take i)).length = i * 3 := by rw [clv_length, List.length_take]; have := HL.out; omega
  have hcs : clv cs = clv (cs.take i) ++ clv (cs.drop i) := by rw [← clv_append, List.take_append_drop]
  rw [hcs, show (i + 1) * 3 = (clv (cs.take i)).length + 3 by rw [hli]; omega] at ho3
  rw [← hli, splice_ins _ _ _ _ 3 (by rw [HYS.out]; omega) (by simp [clv, Cl.vals])] at ho3
  rw [clv_append, clv_append]
  exact ho3
/-- One cell more, wherever there is room, or isn't. -/
theorem insert_n (base : Nat) (A : Option Addr) (n cap i : Nat) (cs : List Cl) (a : Nat) (y) (h : Bool) (b : Nat) (w : World) (hO : w.ownsRow base 182 3 (.slice A n cap) n (clv cs)) (hX : IsX_n cs) (hn : n ≤ 65536) (hi : i ≤ n) (hb : Blk w b 182 #[.int .i64 (a : Int), .pointer y, .bool h]) (hne : (Value.slice A n cap).ownBlock ≠ some b) (hbase : base ≤ w.heap.size) :
    Calls Try.prog 132 #[.slice A n cap, .int .i64 (i : Int), .slice (some ⟨b, 0, none⟩) 1 1] w fun e w' => ∃ v, e = .returned v ∧ w'.ownsRow base 182 3 v (n + 1) (clv (cs.take i ++ [⟨a, .pointer y, h⟩] ++ cs.drop i)) ∧ Below base w w' := by
  have hlen : cs.length = n := by have := hO.1; rw [clv_length] at this; omega
  rcases Nat.lt_or_ge i n with hlt | hge
  · obtain ⟨g, cap', hv, hg1, hg2⟩ := hO.form (by omega)
    injection hv with hA _ hc
    subst hA hc
    rcases Nat.lt_or_ge cap (n + 1) with hc | hc
    · exact insert_grow_n base g n cap i cs a y h b w hO hX hn hlt hc hb hbase
    · exact insert_room_n base g n cap i cs a y h b w hO hX hn hlt hc hb (fun e => hne (by simp [Value.ownBlock, e])) hbase
  · have : i = n := by omega
    subst this
    refine (insert_end_n base A i cap cs a y h b w hO hn hb hbase).mono ?_
    rintro e w' ⟨v, rfl, ho, hb⟩
    rw [List.take_of_length_le (by omega), List.drop_of_length_le (by omega), List.append_nil]
    exact ⟨v, rfl, ho, hb⟩
end Go.Proofs.Ytkknfnjojamgjaa
