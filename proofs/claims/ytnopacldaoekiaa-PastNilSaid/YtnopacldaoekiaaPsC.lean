/- past: Do. -/
import Derived.Test.YtnopacldaoekiaaPsB
set_option linter.unusedSimpArgs false
set_option linter.unusedVariables false
namespace Go.Proofs.Ytnopacldaoekiaa
open Go.RowKit
section
variable {P : Program}
/-- append where there is no room, as one step of a region that draws. -/
theorem step_grow (w : World) {ops : Array Oper} {o : Oper} {a : Act} {K : Act → World → Prop} {Q : Exit → Act → World → Prop} {E : Prop} (hgd : o.guard = none) (s x : Operand) (t : TypeId)
    (ho : o.op = .call { callee := .builtin .append, args := #[s, x], argTypes := #[t, t] })
    (e : TypeId) (z : Value) (size bytes : Nat) (ht : P.underlying t = some (.slice e)) (hinfo : (P.info? e).map (fun i => (i.zero, i.size, i.bytes)) = some (some z, size, bytes)) (hzs : z.cells.size = size) (hsz : 0 < size)
    (b : Addr) (n cap : Nat) (olds : List Value) (hs : a.eval s = .slice (some b) n cap) (hlo : olds.length = n * size) (holds : ∀ (j : Nat) u, olds[j]? = some u → w.cell? (b.add j) = some u)
    (ad : Addr) (m c : Nat) (news : List Value) (hx : a.eval x = .slice (some ad) m c) (hl : news.length = m * size) (hnews : ∀ (j : Nat) u, news[j]? = some u → w.cell? (ad.add j) = some u)
    (hg : cap < n + m) (h63 : n + m ≤ maxLen) (hbytes : (n + m) * bytes ≤ 140737488355328)
    (h : ∀ v' w', w'.ownsRow w.heap.size e size v' (n + m) (olds ++ news) → w.grownBy w' none → K (a.put o.dst v') w') :
    if Region.wanted o (yielded ops a.tmps) = true then Oper.wp P o a w K Q else E := by
  have hw : Region.wanted o (yielded ops a.tmps) = true := by simp [Region.wanted, hgd]
  rw [if_pos hw]
  obtain ⟨i, hi, hz, hsize, hby⟩ := info_parts hinfo
  obtain ⟨v', w', hrun, r1, r2⟩ := run_append_arg_grows (P := P) w t o.type e i z size bytes ht hi hz hsize hby hzs hsz b n cap olds hlo holds ad m c news hl hnews hg h63 hbytes
  unfold Oper.wp
  simp [execOp, ho, resolve, invoke, builtin, hs, hx, hrun, Result.andThen]
  exact h _ _ r1 r2
end
theorem ptrs_one (gs : List Nat) : ∀ u ∈ ptrs gs, u.oneCell' = true := by
  intro u hu
  simp only [ptrs, List.mem_map] at hu
  obtain ⟨x, _, rfl⟩ := hu
  rfl
set_option maxHeartbeats 400000 in
set_option maxRecDepth 100000 in
theorem clone_t (ad : Addr) (n c : Nat) (gs : List Nat) (w : World) (hp : Rw w 1 (some ad) n (ptrs gs)) (hn : n ≤ 1000000) :
    Calls Try.prog 125 #[.slice (some ad) n c] w fun e w' => ∃ v, e = .returned v ∧ w'.ownsRow w.heap.size 40 1 v n (ptrs gs) ∧ Below w.heap.size w w' := by
  have h0 := Lib.run_eql_slice_nil (P := Try.prog) w 150 40 (some ad) n c 0 0 Try.underlying150
  simp only [Option.isNone] at h0
  have hw : Below w.heap.size w (w.alloc (.cells #[] 40)) := (Below.refl _ _).alloc (Nat.le_refl _) _
  have hr := hp.below hw
  go_enter Try.func125, Try.ntmps125
  go_wp2_with (at_builtin
               refine app_b _ rfl (.tmp 5) (.tmp 6) _ rfl w.heap.size 40 _ 1 8 Try.underlying150 info_t rfl (by omega) _ 0 [] rfl (own_empty w _ 1) (some ad) n c (ptrs gs) rfl w hw (Nat.le_refl _) hr (ptrs_one gs) ?c1 ?c2 ?_
               case c1 => simp only [maxLen]; omega
               case c2 => omega
               intro v' w' ho hb hg)
  go_ret
  exact ⟨_, rfl, by simpa using ho, hb⟩
/-- No more than fifty behind the present. -/
def clip {α : Type} (l : List α) : List α := l.drop (l.length - 51)
theorem clip_len {α : Type} (l : List α) : (clip l).length = min l.length 51 := by
  unfold clip
  rw [List.length_drop]
  omega
theorem clip_map {α β : Type} (f : α → β) (l : List α) : clip (l.map f) = (clip l).map f := by
  unfold clip
  rw [List.length_map, List.map_drop]
set_option maxHeartbeats 4000000 in
set_option maxRecDepth 100000 in
theorem ps_do_nilp (w : World) (v : Value) (hv : v = .pointer none ∨ ∃ t, v = .pointer (some ⟨t, 0, none⟩)) : Calls Try.prog 66 #[.pointer none, v] w fun e w' => e = .returned (.int .i64 1) ∧ w = w' := by
  have HC := hide (ps_check_nilp w v hv)
  clear hv
  go_enter Try.func66, Try.ntmps66
  go_wp2_with fail
  refine HC.out.mono ?_
  rintro e w1 ⟨rfl, rfl⟩
  go_wp2
  go_ret
  exact ⟨rfl, rfl⟩
set_option maxHeartbeats 4000000 in
set_option maxRecDepth 100000 in
theorem ps_amend_nilp (w : World) (v : Value) (hv : v = .pointer none ∨ ∃ t, v = .pointer (some ⟨t, 0, none⟩)) : Calls Try.prog 73 #[.pointer none, v] w fun e w' => e = .returned (.int .i64 1) ∧ w = w' := by
  have HC := hide (ps_check_nilp w v hv)
  clear hv
  go_enter Try.func73, Try.ntmps73
  go_wp2_with fail
  refine HC.out.mono ?_
  rintro e w1 ⟨rfl, rfl⟩
  go_wp2
  go_ret
  exact ⟨rfl, rfl⟩
set_option maxHeartbeats 4000000 in
set_option maxRecDepth 100000 in
theorem ps_do_nilt (w : World) (p : Nat) : Calls Try.prog 66 #[.pointer (some ⟨p, 0, none⟩), .pointer none] w fun e w' => e = .returned (.int .i64 1) ∧ w = w' := by
  have HC := hide (ps_check_nilt w p)
  go_enter Try.func66, Try.ntmps66
  go_wp2_with fail
  refine HC.out.mono ?_
  rintro e w1 ⟨rfl, rfl⟩
  go_wp2
  go_ret
  exact ⟨rfl, rfl⟩
set_option maxHeartbeats 4000000 in
set_option maxRecDepth 100000 in
theorem ps_amend_nilt (w : World) (p : Nat) : Calls Try.prog 73 #[.pointer (some ⟨p, 0, none⟩), .pointer none] w fun e w' => e = .returned (.int .i64 1) ∧ w = w' := by
  have HC := hide (ps_check_nilt w p)
  go_enter Try.func73, Try.ntmps73
  go_wp2_with fail
  refine HC.out.mono ?_
  rintro e w1 ⟨rfl, rfl⟩
  go_wp2
  go_ret
  exact ⟨rfl, rfl⟩
set_option maxHeartbeats 4000000 in
set_option maxRecDepth 100000 in
theorem ps_do_dim {w : World} {p a t t0 k k0 : Nat} {ts : List Nat} {root root0 : Option Addr} (h : PastAt w p ts a) (ht : ts[a]? = some t0) (hT : TreeBlk w t k root) (hT0 : TreeBlk w t0 k0 root0) (hk : k ≤ 16) (hk0 : k0 ≤ 16) (hne : k ≠ k0) : Calls Try.prog 66 #[.pointer (some ⟨p, 0, none⟩), .pointer (some ⟨t, 0, none⟩)] w fun e w' => e = .returned (.int .i64 2) ∧ Below w.heap.size w w' := by
  have hc := ps_check h ht hT hT0 hk hk0
  rw [if_neg hne] at hc
  have HC := hide hc
  clear h ht hT hT0 hc
  go_enter Try.func66, Try.ntmps66
  go_wp2_with fail
  refine HC.out.mono ?_
  rintro e w1 ⟨rfl, hb⟩
  have HB := hide hb
  clear hb
  go_wp2
  go_ret
  exact ⟨rfl, HB.out⟩
set_option maxHeartbeats 4000000 in
set_option maxRecDepth 100000 in
theorem ps_amend_dim {w : World} {p a t t0 k k0 : Nat} {ts : List Nat} {root root0 : Option Addr} (h : PastAt w p ts a) (ht : ts[a]? = some t0) (hT : TreeBlk w t k root) (hT0 : TreeBlk w t0 k0 root0) (hk : k ≤ 16) (hk0 : k0 ≤ 16) (hne : k ≠ k0) : Calls Try.prog 73 #[.pointer (some ⟨p, 0, none⟩), .pointer (some ⟨t, 0, none⟩)] w fun e w' => e = .returned (.int .i64 2) ∧ Below w.heap.size w w' := by
  have hc := ps_check h ht hT hT0 hk hk0
  rw [if_neg hne] at hc
  have HC := hide hc
  clear h ht hT hT0 hc
  go_enter Try.func73, Try.ntmps73
  go_wp2_with fail
  refine HC.out.mono ?_
  rintro e w1 ⟨rfl, hb⟩
  have HB := hide hb
  clear hb
  go_wp2
  go_ret
  exact ⟨rfl, HB.out⟩
set_option maxHeartbeats 4000000 in
set_option maxRecDepth 100000 in
theorem ps_do_same {w : World} {p a t k : Nat} {ts : List Nat} {root : Option Addr} (h : PastAt w p ts a) (ht : ts[a]? = some t) (hT : TreeBlk w t k root) (hk : k ≤ 16) : Calls Try.prog 66 #[.pointer (some ⟨p, 0, none⟩), .pointer (some ⟨t, 0, none⟩)] w fun e w' => e = .returned (.int .i64 0) ∧ Below w.heap.size w w' := by
  have hc := ps_check h ht hT hT hk hk
  rw [if_pos rfl] at hc
  have HC := hide hc
  have HP := hide h
  have HT := hide hT
  have HTT := hide ht
  clear h ht hT hc
  go_enter Try.func66, Try.ntmps66
  go_wp2_with fail
  refine HC.out.mono ?_
  rintro e w1 ⟨rfl, hb⟩
  have HN := hide (ps_now (HP.out.below hb) HTT.out)
  have HB := hide hb
  clear hb
  go_wp2_with fail
  refine HN.out.mono ?_
  rintro e w2 ⟨rfl, hb2⟩
  have hT2 := Blk.below HT.out (below_then HB.out hb2)
  have e1 := ptr_eq_t t t w2 hT2 hT2
  rw [decide_eq_true rfl] at e1
  have HB2 := hide (below_then HB.out hb2)
  clear hb2 hT2
  go_wp2
  go_ret
  exact ⟨rfl, HB2.out⟩
set_option maxHeartbeats 16000000 in
set_option maxRecDepth 100000 in
theorem ps_do {w : World} {p a t t0 k : Nat} {ts : List Nat} {root root0 : Option Addr} (h : PastAt w p ts a) (ht : ts[a]? = some t0) (hT : TreeBlk w t k root) (hT0 : TreeBlk w t0 k root0) (hk : k ≤ 16) (hne : t ≠ t0) : Calls Try.prog 66 #[.pointer (some ⟨p, 0, none⟩), .pointer (some ⟨t, 0, none⟩)] w fun e w' => e = .returned (.int .i64 0) ∧ PastAt w' p (clip (ts.take (a + 1) ++ [t])) ((clip (ts.take (a + 1) ++ [t])).length - 1) ∧ Ex p w w' := by
  have hc := ps_check h ht hT hT0 hk hk
  rw [if_pos rfl] at hc
  have HC := hide hc
  have HP := hide h
  have HT := hide hT
  have HT0 := hide hT0
  have HTT := hide ht
  clear h ht hT hT0 hc
  go_enter Try.func66, Try.ntmps66
  go_wp2_with fail
  refine HC.out.mono ?_
  rintro e w1 ⟨rfl, hb⟩
  have HN := hide (ps_now (HP.out.below hb) HTT.out)
  have HB := hide hb
  clear hb
  go_wp2_with fail
  refine HN.out.mono ?_
  rintro e w2 ⟨rfl, hb2⟩
  have hT2 := Blk.below HT.out (below_then HB.out hb2)
  have hT02 := Blk.below HT0.out (below_then HB.out hb2)
  have e1 := ptr_eq_t t t0 w2 hT2 hT02
  rw [decide_eq_false hne] at e1
  have HB2 := hide (below_then HB.out hb2)
  clear hb2 hT2 hT02
  obtain ⟨h1, h2, A, c, hB, h4, h5, h6, h7⟩ := HP.out.below HB2.out
  obtain ⟨b, o, rfl, hbl, hcs⟩ := h7.2 (by omega)
  have y0 := hB.cell 0
  have y1 := hB.cell 1
  have z0 := hB.frozen 0
  have z1 := hB.frozen 1
  simp at y0 y1
  have hpl := hB.lt
  have hi0 : (0 : Int) ≤ (a : Int) := by omega
  have hi1 : (0 : Int) ≤ (a : Int) + 1 := by omega
  have hi2 : (a : Int) + 1 ≤ (c : Int) := by omega
  have hi3 : (a : Int) ≤ 60 := by omega
  have i1 : IntKind.i64.wrap ((a : Int) + 1) = (a : Int) + 1 := wrap_i64_sm (by omega) (by omega)
  have HB3 := hide hB
  have HCS := hide hcs
  clear hB h6 h7 hcs
  have htk : (ptrs (ts.take (a + 1))).length = (a + 1) * 1 := by
    unfold ptrs
    rw [List.length_map, List.length_take]
    omega
  have HTK := hide htk
  have hb8 : Below w2.heap.size w2 (w2.alloc (.cells #[.pointer (some ⟨t, 0, none⟩)] 40)).drew := ((Below.refl _ _).alloc (Nat.le_refl _) _).drew
  have HB8 := hide hb8
  have HC8 := hide (show ∀ (j : Nat) u, (ptrs (ts.take (a + 1)))[j]? = some u → (w2.alloc (.cells #[.pointer (some ⟨t, 0, none⟩)] 40)).drew.cell? ((⟨b, o, none⟩ : Addr).add j) = some u from fun j u hu => by
    rw [Addr.add_lit]
    refine (hb8.cell (p := ⟨b, o + j, none⟩) hbl).trans (HCS.out j u ?_)
    have hj : j < a + 1 := by
      have := (List.getElem?_eq_some_iff.1 hu).1
      omega
    unfold ptrs at hu ⊢
    rw [List.map_take, List.getElem?_take_of_lt hj] at hu
    exact hu)
  have HN8 := hide (show ∀ (j : Nat) u, [Value.pointer (some ⟨t, 0, none⟩)][j]? = some u → (w2.alloc (.cells #[.pointer (some ⟨t, 0, none⟩)] 40)).drew.cell? ((⟨w2.heap.size, 0, none⟩ : Addr).add j) = some u from fun j u hu => by
    rw [Addr.add_lit]
    have := (Blk.new w2 40 #[.pointer (some ⟨t, 0, none⟩)]).cell (0 + j)
    rcases j with _ | j
    · exact this.trans (by simpa using hu)
    · simp at hu)
  clear htk hb8
  go_wp2_with fail
  go_cut [5] from 18 to 38 (fun s5 W => s5 = .int .i64 0 ∧ ∃ g cap, Blk W p 152 #[.slice (some ⟨g, 0, none⟩) (a + 1 + 1) cap, .int .i64 (a : Int)] ∧ W.ownsRow w2.heap.size 40 1 (.slice (some ⟨g, 0, none⟩) (a + 1 + 1) cap) (a + 1 + 1) (ptrs (ts.take (a + 1)) ++ [.pointer (some ⟨t, 0, none⟩)]) ∧ Ex p w2 W)
  case first =>
    go_region_law (first
      | (refine step_grow _ (by rfl) (.tmp 33) (.tmp 35) _ (by rfl) 40 _ 1 8 Try.underlying150 info_t rfl (by omega) ⟨b, o, none⟩ (a + 1) (a + 1) (ptrs (ts.take (a + 1))) (by rfl) HTK.out HC8.out ⟨w2.heap.size, 0, none⟩ 1 1 [.pointer (some ⟨t, 0, none⟩)] (by rfl) (by rfl) HN8.out (by omega) (by unfold maxLen; omega) (by omega) ?_
         intro v3 w3 ho3 hg3
         have hb3 := HB8.out.grown hg3 HB8.out.size (by simp)
         obtain ⟨g3, cap3, hv3, hgs3, hgc3⟩ := ho3.form (by omega)
         subst hv3
         have hB4 := HB3.out.below hb3
         have y0 := hB4.cell 0
         have z0 := hB4.frozen 0
         simp at y0))
    all_goals
      go_wp2_with fail
      go_meet
    all_goals
      refine ⟨rfl, g3, cap3, by simpa using hB4.set1 (i := 0) (.slice (some ⟨g3, 0, none⟩) (a + 1 + 1) cap3), own_set_ty (own_lower ho3 (by simp)) hB4 (by decide), ?_⟩
      exact ((Ex.refl p w2).below hb3).set 0 _
  case rest =>
    obtain ⟨rfl, g, cap, hB, ho, hx⟩ := hcut
    rename World => wz
    have hl := ho.1
    obtain ⟨hnc, hcm⟩ : a + 1 + 1 ≤ cap ∧ cap ≤ maxLen := by
      rcases ho.2 with ⟨h0, _⟩ | ⟨g', cap', cur, h0, _, _, hq1, hq2, _⟩
      · injection h0 with h0
        cases h0
      · injection h0 with h0 _ h0c
        omega
    have hrw := (own_rw ho).2
    have y0 := hB.cell 0
    have y1 := hB.cell 1
    have z0 := hB.frozen 0
    have z1 := hB.frozen 1
    simp at y0 y1
    have HBZ := hide hB
    have HXZ := hide hx
    have HRW := hide hrw
    clear hB ho hx hrw
    have hL : ptrs (ts.take (a + 1)) ++ [.pointer (some ⟨t, 0, none⟩)] = ptrs (ts.take (a + 1) ++ [t]) := by simp [ptrs]
    have hLl : (ts.take (a + 1) ++ [t]).length = a + 1 + 1 := by simp; omega
    have hcl := clip_len (ts.take (a + 1) ++ [t])
    rw [hLl] at hcl
    have hrw2 := HRW.out
    rw [hL] at hrw2
    have hclip : clip (ts.take (a + 1) ++ [t]) = (ts.take (a + 1) ++ [t]).drop (a + 1 + 1 - 51) := by
      unfold clip
      rw [hLl]
    obtain ⟨L, hLdef⟩ : ∃ L, L = ts.take (a + 1) ++ [t] := ⟨_, rfl⟩
    rw [← hLdef] at hcl hrw2 hclip hLl
    have HLDEF := hide hLdef
    clear hLdef
    have hptr : ptrs (clip L) = (ptrs L).drop ((a + 1 + 1 - 51) * 1) := by
      rw [hclip, Nat.mul_one]
      unfold ptrs
      rw [List.map_drop]
    have hrw3 := hrw2.drop_ (i := a + 1 + 1 - 51) (by omega)
    rw [← hptr, Nat.mul_one] at hrw3
    have HCLEN := hide hcl
    have HRW3 := hide hrw3
    clear hrw2 hrw3 hptr hclip hcl hL hLl HRW
    go_wp2_with fail
    go_cut [5] from 39 to 55 (fun s5 W => s5 = .int .i64 0 ∧ ∃ g cap, Blk W p 152 #[.slice (some ⟨g, 0, none⟩) (min (a + 1 + 1) 51) cap, .int .i64 (a : Int)] ∧ W.ownsRow w2.heap.size 40 1 (.slice (some ⟨g, 0, none⟩) (min (a + 1 + 1) 51) cap) (min (a + 1 + 1) 51) (ptrs (clip L)) ∧ Ex p w2 W)
    case first =>
      rcases Nat.lt_or_ge 49 a with ha | ha
      · obtain rfl : a = 50 := by omega
        simp only [show 50 + 1 + 1 = 52 from rfl, show 52 - 51 = 1 from rfl, show min 52 51 = 51 from rfl] at *
        have i5 : max (IntKind.i64.wrap (IntKind.i64.wrap 51 - 50)) 0 = 1 := by decide
        have i6 : ¬ cap = 1 := by omega
        have HCL := hide (clone_t ⟨g, 1, none⟩ 51 (cap - 1) (clip L) wz.drew (HRW3.out.below (Below.refl _ _).drew) (by omega))
        go_region_with (first
          | (go_at_call 125
             refine HCL.out.mono ?_
             rintro e w5 ⟨v5, rfl, ho5, hb5⟩
             have hb5' : Below wz.heap.size wz w5 := (Below.refl _ wz).drew.trans hb5
             have hB5 := HBZ.out.below hb5'
             have y0 := hB5.cell 0
             have z0 := hB5.frozen 0
             simp at y0
             obtain ⟨g5, cap5, hv5, hgs5, hgc5⟩ := ho5.form (by omega)
             subst hv5))
        all_goals
          go_wp2_with fail
          go_meet
        all_goals
          refine ⟨rfl, g5, cap5, by simpa using hB5.set1 (i := 0) (.slice (some ⟨g5, 0, none⟩) 51 cap5), own_set_ty (own_lower ho5 (by have := HXZ.out.size; simpa using this)) hB5 (by decide), ?_⟩
          exact (HXZ.out.below hb5').set 0 _
      · have hmin : min (a + 1 + 1) 51 = a + 1 + 1 := by omega
        have hlo : a + 1 + 1 - 51 = 0 := by omega
        have i4 : IntKind.i64.wrap ((a : Int) + 1 + 1 - 1) = (a : Int) + 1 := by
          rw [IntKind.wrap_i64]
          omega
        have i5 : IntKind.i64.wrap ((a : Int) + 1 - 50) = (a : Int) + 1 - 50 := by
          rw [IntKind.wrap_i64]
          omega
        have i6 : max ((a : Int) + 1 - 50) 0 = 0 := by omega
        have i7 : (0 : Int) ≤ (a : Int) + 1 + 1 := by omega
        rw [hlo] at HRW3
        have HCL := hide (clone_t ⟨g, 0, none⟩ (a + 1 + 1) cap (clip L) wz.drew (HRW3.out.below (Below.refl _ _).drew) (by omega))
        go_region_with (first
          | (go_at_call 125
             refine HCL.out.mono ?_
             rintro e w5 ⟨v5, rfl, ho5, hb5⟩
             have hb5' : Below wz.heap.size wz w5 := (Below.refl _ wz).drew.trans hb5
             have hB5 := HBZ.out.below hb5'
             have y0 := hB5.cell 0
             have z0 := hB5.frozen 0
             simp at y0
             obtain ⟨g5, cap5, hv5, hgs5, hgc5⟩ := ho5.form (by omega)
             subst hv5))
        all_goals
          go_wp2_with fail
          go_meet
        all_goals
          rw [hmin]
          refine ⟨rfl, g5, cap5, by simpa using hB5.set1 (i := 0) (.slice (some ⟨g5, 0, none⟩) (a + 1 + 1) cap5), own_set_ty (own_lower ho5 (by have := HXZ.out.size; simpa using this)) hB5 (by decide), ?_⟩
          exact (HXZ.out.below hb5').set 0 _
    case rest =>
      obtain ⟨rfl, g6, cap6, hB6, ho6, hx6⟩ := hcut
      rename World => wy
      obtain rfl := HLDEF.out
      have hcap6 : min (a + 1 + 1) 51 ≤ cap6 ∧ cap6 ≤ maxLen := by
        rcases ho6.2 with ⟨h0, _⟩ | ⟨g', cap', cur, h0, _, _, hq1, hq2, _⟩
        · injection h0 with h0
          cases h0
        · injection h0 with h0 _ h0c
          omega
      have y0 := hB6.cell 0
      have y1 := hB6.cell 1
      have z1 := hB6.frozen 1
      simp at y0 y1
      have hNp : ∃ N : Nat, min (a + 1 + 1) 51 = N ∧ 1 ≤ N ∧ N ≤ 51 := ⟨_, rfl, by omega, by omega⟩
      obtain ⟨N, hN, hN1, hN51⟩ := hNp
      rw [hN] at hB6 ho6 hcap6 y0 HCLEN
      have i5 : IntKind.i64.wrap ((N : Int) - 1) = (N : Int) - 1 := wrap_i64_sm (by omega) (by omega)
      have hB7 := hB6.set1 (i := 1) (.int .i64 ((N : Int) - 1))
      have ho7 := own_set_ty (i := 1) (u := .int .i64 ((N : Int) - 1)) ho6 hB6 (by decide)
      have HF := hide (show PastAt (wy.setCell ⟨p, 1, none⟩ (.int .i64 ((N : Int) - 1))) p (clip (ts.take (a + 1) ++ [t])) ((clip (ts.take (a + 1) ++ [t])).length - 1) ∧ Ex p w (wy.setCell ⟨p, 1, none⟩ (.int .i64 ((N : Int) - 1))) from
        ⟨⟨by have := HCLEN.out; omega, by have := HCLEN.out; omega, some ⟨g6, 0, none⟩, cap6, by rw [HCLEN.out, show ((N - 1 : Nat) : Int) = (N : Int) - 1 by omega]; simpa using hB7, by rw [HCLEN.out]; exact hcap6.1, hcap6.2, by rw [HCLEN.out]; exact own_ty ho7, by rw [HCLEN.out]; exact (own_rw ho7).2⟩, (((Ex.refl p w).below HB2.out).trans hx6).set 1 _⟩)
      clear hB6 ho6 hx6 hB7 ho7 hN
      go_wp2
      go_ret
      exact ⟨rfl, HF.out⟩
end Go.Proofs.Ytnopacldaoekiaa
