/- poly.Box. -/
import Derived.Test.YtlgdllohmmmegaaPyT
import Derived.Test.YtlgdllohmmmegaaOrL
set_option linter.unusedSimpArgs false
set_option linter.unusedVariables false
namespace Go.Proofs.Ytlgdllohmmmegaa
open Go.RowKit
section
variable {P : Program}
/-- append onto an empty slice without room: a new block, and nothing else. -/
theorem step_app_zero {w : World} {ops : Array Oper} {o : Oper} {a : Act} {K : Act → World → Prop} {Q : Exit → Act → World → Prop} {E : Prop} (hgd : o.guard = none) (s x : Operand) (t : TypeId)
    (ho : o.op = .call { callee := .builtin .append, args := #[s, x], argTypes := #[t, t] })
    (e : TypeId) (z : Value) (bytes : Nat) (ht : P.underlying t = some (.slice e)) (hinfo : (P.info? e).map (fun i => (i.zero, i.size, i.bytes)) = some (some z, 1, bytes)) (hzs : z.cells.size = 1)
    (b : Addr) (hs : a.eval s = .slice (some b) 0 0) (A : Addr) (m c : Nat) (news : List Value) (hx : a.eval x = .slice (some A) m c) (hl : news.length = m) (hn : ∀ j u, news[j]? = some u → w.cell? (A.add j) = some u)
    (hm : 0 < m) (h63 : m ≤ maxLen) (hbytes : m * bytes ≤ 140737488355328)
    (h : ∀ (cap : Nat) (cur : Array Value), m ≤ cap → cap ≤ maxLen → cur.size = cap → cur.toList.take m = news → K (a.put o.dst (.slice (some ⟨w.heap.size, 0, none⟩) m cap)) (w.drew.alloc (.cells cur e))) :
    if Region.wanted o (yielded ops a.tmps) = true then Oper.wp P o a w K Q else E := by
  have hw : Region.wanted o (yielded ops a.tmps) = true := by simp [Region.wanted, hgd]
  rw [if_pos hw]
  obtain ⟨i, hi, hz, hsize, hby⟩ := info_parts hinfo
  subst hby
  have hge := grownCap_ge w m 0 e
  have hcm : grownCap w m 0 e ≤ maxLen := grownCap_le_maxLen w m 0 e h63
  have hr := run_append_grow (P := P) w t o.type e i z ht hi hz b 0 0 [] (by simp) (by simp) A m c news (by rw [hsize, Nat.mul_one]; exact hl) hn (by omega) (by simp only [maxLen] at h63; omega) (growslice_fits (by omega) (by rw [Nat.zero_add]; exact hbytes))
  rw [Nat.zero_add] at hr
  unfold Oper.wp execOp
  simp only [ho, resolve, invoke, builtin, Sem.run_bind, Sem.run_pure, Result.andThen_ok, List.map_toArray, List.map_cons, List.map_nil, hs, hx, hr]
  refine h _ _ hge hcm ?_ ?_
  · simp only [Array.size_append, List.size_toArray, size_zeroCells, hzs, hl, List.length_nil]
    omega
  · simp only [Array.toList_append, List.nil_append]
    rw [List.take_append_of_le_length (by omega), ← hl, List.take_length]
end
set_option maxHeartbeats 8000000 in
set_option maxRecDepth 100000 in
theorem py_Box_bad {w : World} {A : Option Addr} {n c : Nat} {rows : List LP} (h : LpsAt w A n rows) (hn : n ≤ 1000000) (hr : rightL (rows.map LP.p) = false) :
    Calls Try.prog 13 #[.slice A n c] w fun e w' => e = .returned (.tuple #[.agg #[.slice none 0 0, .slice none 0 0], .int .i64 9]) ∧ Below w.heap.size w w' := by
  have HO := hide (fun W (hW : Below w.heap.size w W) => py_open (c := c) (h.below hW) hn)
  have HR := hide hr
  clear h hr
  generalize rows.map LP.p = ps at *
  go_enter Try.func13, Try.ntmps13
  have hBX := Blk.new w 38 #[.slice none 0 0, .slice none 0 0]
  go_wp2_with fail
  refine (HO.out _ ((Below.refl _ _).alloc (Nat.le_refl _) _)).mono ?_
  rintro e w1 ⟨⟨_, rfl⟩ | ⟨hf, _⟩, hb⟩
  · have hB1 := hBX.below hb
    have y0 := hB1.cell 0
    have y1 := hB1.cell 1
    have z0 := hB1.frozen 0
    have z1 := hB1.frozen 1
    have HB := hide hb
    have HB1 := hide hB1
    clear hb hBX hB1
    go_wp2
    refine ⟨rfl, .tuple #[.agg #[.slice none 0 0, .slice none 0 0], .int .i64 9], ?_, rfl, ?_⟩
    · simp [results, show Try.f13.results = #[.cell 2 38, .tmp 3] from rfl, go_sem, *]
    · exact ((below_then ((Below.refl w.heap.size w).alloc (Nat.le_refl _) _) HB.out).setCell (p := ⟨w.heap.size, 0, none⟩) (Nat.le_refl _) _).setCell (p := ⟨w.heap.size, 1, none⟩) (Nat.le_refl _) _
  · rw [HR.out] at hf
    cases hf
theorem blk_new' {W : World} {g : Nat} {t : TypeId} {cs : Array Value} (h : g = W.heap.size) : Blk (W.alloc (.cells cs t)) g t cs := by
  subst h
  exact Blk.new W t cs
theorem blk_drew {w : World} {g : Nat} {t : TypeId} {cs : Array Value} (h : Blk w g t cs) : Blk w.drew g t cs := h
theorem Blk.set2 {w : World} {g : Nat} {t : TypeId} {a b x y : Value} (h : Blk w g t #[a, b]) : Blk ((w.setCell ⟨g, 0, none⟩ x).setCell ⟨g, 1, none⟩ y) g t #[x, y] := (h.set1 (i := 0) x).set1 (i := 1) y
def boxF (b o n c h0 B : Nat) (f : Nat → Value) : Act := ⟨#[.slice (some ⟨b, o, none⟩) n c, f 1, .pointer (some ⟨h0, 0, none⟩), f 3, f 4, f 5, .pointer (some ⟨B, 0, none⟩), f 7, f 8, f 9, f 10, f 11, f 12, f 13, f 14, f 15, f 16, f 17, f 18, f 19, f 20, f 21, f 22, f 23, f 24, f 25, f 26, f 27, f 28, f 29, f 30, f 31, f 32, f 33, f 34, f 35, f 36, f 37, f 38, f 39, f 40, f 41, f 42, f 43, f 44, f 45, f 46, f 47, f 48, f 49, f 50, f 51, f 52, f 53, f 54, f 55, f 56, f 57, f 58, f 59, f 60, f 61, f 62, f 63, f 64, f 65, f 66, f 67, f 68], []⟩
/-- Behind the box has been begun. -/
def boxQ (b o n c h0 : Nat) (x y : Nat) (w1 : World) (a : Act) (W : World) : Prop := ∃ f g1 g2 B c1 c2 cur1 cur2, a = boxF b o n c h0 B f ∧
  (w1.heap.size ≤ g1 ∧ w1.heap.size ≤ g2 ∧ w1.heap.size ≤ B ∧ g1 ≠ g2 ∧ 2 ≤ c1 ∧ 2 ≤ c2 ∧ cur1.size = c1 ∧ cur2.size = c2 ∧ cur1.toList.take 2 = [.int .u64 (x : Int), .int .u64 (y : Int)] ∧ cur2.toList.take 2 = [.int .u64 (x : Int), .int .u64 (y : Int)]) ∧
  Blk W g1 43 cur1 ∧ Blk W g2 43 cur2 ∧ Blk W B 38 #[.slice (some ⟨g1, 0, none⟩) 2 c1, .slice (some ⟨g2, 0, none⟩) 2 c2] ∧ Below w1.heap.size w1 W
theorem boxQ_intro {b o n c h0 : Nat} {x y : Nat} {w1 : World} {a : Act} {W : World} {g1 g2 B c1 c2 : Nat} {cur1 cur2 : Array Value} (h : a = boxF b o n c h0 B fun n => a.tmps.getD n undef) (hg1 : a.tmps.getD 24 undef = .slice (some ⟨g1, 0, none⟩) 2 c1) (hg2 : a.tmps.getD 29 undef = .slice (some ⟨g2, 0, none⟩) 2 c2)
    (hf : w1.heap.size ≤ g1 ∧ w1.heap.size ≤ g2 ∧ w1.heap.size ≤ B ∧ g1 ≠ g2 ∧ 2 ≤ c1 ∧ 2 ≤ c2 ∧ cur1.size = c1 ∧ cur2.size = c2 ∧ cur1.toList.take 2 = [.int .u64 (x : Int), .int .u64 (y : Int)] ∧ cur2.toList.take 2 = [.int .u64 (x : Int), .int .u64 (y : Int)])
    (h1 : Blk W g1 43 cur1) (h2 : Blk W g2 43 cur2) (h3 : Blk W B 38 #[.slice (some ⟨g1, 0, none⟩) 2 c1, .slice (some ⟨g2, 0, none⟩) 2 c2]) (h4 : Below w1.heap.size w1 W) : boxQ b o n c h0 x y w1 a W :=
  ⟨_, g1, g2, B, c1, c2, cur1, cur2, h, hf, h1, h2, h3, h4⟩
def loT (ps : List (List Nat)) (k : Nat) : Nat → Nat
  | 0 => (ps.getD 0 []).getD k 0
  | j + 1 => min (loT ps k j) ((ps.getD j []).getD k 0)
def hiT (ps : List (List Nat)) (k : Nat) : Nat → Nat
  | 0 => (ps.getD 0 []).getD k 0
  | j + 1 => max (hiT ps k j) ((ps.getD j []).getD k 0)
def BoxAt (g1 g2 B c1 c2 : Nat) (lo hi : Nat → Nat) (W : World) : Prop := ∃ cur1 cur2 : Array Value, (cur1.size = c1 ∧ cur2.size = c2) ∧ (∀ k, k < 2 → cur1[k]? = some (.int .u64 (lo k : Int)) ∧ cur2[k]? = some (.int .u64 (hi k : Int))) ∧
  Blk W g1 43 cur1 ∧ Blk W g2 43 cur2 ∧ Blk W B 38 #[.slice (some ⟨g1, 0, none⟩) 2 c1, .slice (some ⟨g2, 0, none⟩) 2 c2]
theorem BoxAt.drew {g1 g2 B c1 c2 : Nat} {lo hi : Nat → Nat} {W : World} (h : BoxAt g1 g2 B c1 c2 lo hi W) : BoxAt g1 g2 B c1 c2 lo hi W.drew := h
theorem BoxAt.of {g1 g2 B c1 c2 : Nat} {lo hi lo' hi' : Nat → Nat} {W : World} (h : BoxAt g1 g2 B c1 c2 lo hi W) (h' : ∀ k, k < 2 → lo k = lo' k ∧ hi k = hi' k) : BoxAt g1 g2 B c1 c2 lo' hi' W := by
  obtain ⟨u, v, q1, q2, q3⟩ := h
  exact ⟨u, v, q1, fun k hk => by rw [← (h' k hk).1, ← (h' k hk).2]; exact q2 k hk, q3⟩
theorem BoxAt.cells {g1 g2 B c1 c2 : Nat} {lo hi : Nat → Nat} {W : World} (h : BoxAt g1 g2 B c1 c2 lo hi W) {i : Nat} (hi2 : i < 2) :
    W.cell? ⟨B, 0, none⟩ = some (.slice (some ⟨g1, 0, none⟩) 2 c1) ∧ W.cell? ⟨B, 1, none⟩ = some (.slice (some ⟨g2, 0, none⟩) 2 c2) ∧ W.cell? ⟨g1, i, none⟩ = some (.int .u64 (lo i : Int)) ∧ W.cell? ⟨g2, i, none⟩ = some (.int .u64 (hi i : Int)) ∧ W.frozen? ⟨g1, i, none⟩ = false ∧ W.frozen? ⟨g2, i, none⟩ = false := by
  obtain ⟨u, v, q1, q2, q3, q4, q5⟩ := h
  exact ⟨q5.cell 0, q5.cell 1, (q3.cell i).trans (q2 i hi2).1, (q4.cell i).trans (q2 i hi2).2, q3.frozen i, q4.frozen i⟩
theorem BoxAt.set_lo {g1 g2 B c1 c2 : Nat} {lo hi : Nat → Nat} {W : World} (h : BoxAt g1 g2 B c1 c2 lo hi W) (hne : g1 ≠ g2) (i x : Nat) (hx : i < 2) (h2 : 2 ≤ c1) : BoxAt g1 g2 B c1 c2 (fun k => if k = i then x else lo k) hi (W.setCell ⟨g1, i, none⟩ (.int .u64 (x : Int))) := by
  obtain ⟨u, v, q1, q2, q3, q4, q5⟩ := h
  refine ⟨u.setIfInBounds i (.int .u64 (x : Int)), v, ⟨by rw [Array.size_setIfInBounds]; exact q1.1, q1.2⟩, fun k hk => ⟨?_, (q2 k hk).2⟩, q3.set1 _, q4.set_ _ _ _ (Ne.symm hne), q5.set_ _ _ _ (q5.ne_ q3 (by decide))⟩
  by_cases e : k = i
  · subst e
    rw [Array.getElem?_setIfInBounds_self_of_lt (by omega)]
    simp
  · simp only [if_neg e]
    rw [Array.getElem?_setIfInBounds_ne (Ne.symm e)]
    exact (q2 k hk).1
theorem BoxAt.set_hi {g1 g2 B c1 c2 : Nat} {lo hi : Nat → Nat} {W : World} (h : BoxAt g1 g2 B c1 c2 lo hi W) (hne : g1 ≠ g2) (i x : Nat) (hx : i < 2) (h2 : 2 ≤ c2) : BoxAt g1 g2 B c1 c2 lo (fun k => if k = i then x else hi k) (W.setCell ⟨g2, i, none⟩ (.int .u64 (x : Int))) := by
  obtain ⟨u, v, q1, q2, q3, q4, q5⟩ := h
  refine ⟨u, v.setIfInBounds i (.int .u64 (x : Int)), ⟨q1.1, by rw [Array.size_setIfInBounds]; exact q1.2⟩, fun k hk => ⟨(q2 k hk).1, ?_⟩, q3.set_ _ _ _ hne, q4.set1 _, q5.set_ _ _ _ (q5.ne_ q4 (by decide))⟩
  by_cases e : k = i
  · subst e
    rw [Array.getElem?_setIfInBounds_self_of_lt (by omega)]
    simp
  · simp only [if_neg e]
    rw [Array.getElem?_setIfInBounds_ne (Ne.symm e)]
    exact (q2 k hk).2
set_option maxHeartbeats 16000000 in
set_option maxRecDepth 100000 in
theorem py_Box {w : World} {A : Option Addr} {n c : Nat} {rows : List LP} (h : LpsAt w A n rows) (hn : n ≤ 1000000) (hr : rightL (rows.map LP.p) = true) :
    Calls Try.prog 13 #[.slice A n c] w fun e w' => ∃ g1 g2 c1 c2, e = .returned (.tuple #[.agg #[.slice (some ⟨g1, 0, none⟩) 2 c1, .slice (some ⟨g2, 0, none⟩) 2 c2], .int .i64 0]) ∧ (g1 < w'.heap.size ∧ g2 < w'.heap.size) ∧ (∀ k, k < 2 → w'.cell? ⟨g1, k, none⟩ = some (.int .u64 (loT (rows.map LP.p) k n : Int)) ∧ w'.cell? ⟨g2, k, none⟩ = some (.int .u64 (hiT (rows.map LP.p) k n : Int))) ∧ Below w.heap.size w w' := by
  have HO := hide (fun W (hW : Below w.heap.size w W) => py_open (c := c) (h.below hW) hn)
  have HA := hide h
  have HR := hide hr
  obtain ⟨h3, h4, hsm⟩ := right_iff hr
  have hlen : (rows.map LP.p).length = n := by rw [List.length_map, h.len]
  rw [hlen] at h3
  have HS := hide hsm
  clear h hr hsm h4 hlen
  go_enter Try.func13, Try.ntmps13
  have hBX := Blk.new w 38 #[.slice none 0 0, .slice none 0 0]
  go_wp2_with fail
  refine (HO.out _ ((Below.refl _ _).alloc (Nat.le_refl _) _)).mono ?_
  rintro e w1 ⟨⟨hf, _⟩ | ⟨_, A1, rfl, hRw⟩, hb⟩
  · rw [HR.out] at hf
    cases hf
  have hB1 := hBX.below hb
  have HB := hide hb
  have HB1 := hide hB1
  have HL1 := hide ((HA.out.below ((Below.refl _ _).alloc (Nat.le_refl _) (.cells #[.slice none 0 0, .slice none 0 0] 38))).below hb)
  obtain ⟨b, o, r, rfl, hbl, hr, hro, x0⟩ := HL1.out.at_ (i := 0) (by omega)
  rw [Nat.add_zero] at x0
  obtain ⟨rx, ry, hrp, hrx, hry⟩ := small_iff (HS.out r.p (List.mem_map.2 ⟨r, List.mem_of_getElem? hr, rfl⟩))
  have hr2 : r.n = 2 := by rw [← hro.1.len, hrp]; rfl
  have hrpt := hro.1
  rw [hrp] at hrpt
  obtain ⟨rb, ro, rx', ry', hrA, hrb, hre, y0, y1⟩ := pt_two hrpt hr2
  injection hre with e1 e2
  injection e2 with e2 _
  subst e1 e2
  rw [hr2, hrA] at x0
  clear hb hBX hB1 hRw
  generalize hps : rows.map LP.p = ps at *
  have HPS := hide hps
  clear hps
  go_wp2_with fail
  have HY := hide (fun (W : World) (hW : Below w1.heap.size w1 W) => show ∀ (j : Nat) (u : Value), [Value.int .u64 (rx : Int), .int .u64 (ry : Int)][j]? = some u → W.cell? ((⟨rb, ro, none⟩ : Addr).add j) = some u from by
    intro j u hu
    rw [Addr.add_lit, hW.cell hrb]
    rcases j with _ | _ | j
    · injection hu with hu
      subst hu
      exact y0
    · injection hu with hu
      subst hu
      exact y1
    · simp at hu)
  have HX := hide (fun (W : World) (hW : Below w1.heap.size w1 W) => (hW.cell (p := ⟨b, o, none⟩) hbl).trans x0)
  have hn0 : (0 : Int) < (n : Int) := by omega
  have hn1 : 0 < n := by omega
  have hn2 : ¬ n = 0 := by omega
  have hn3 : ¬ (n : Int) ≤ 0 := by omega
  clear y0 y1
  refine Code.wp_mono (Q := fun e a W => match e with | .normal => boxQ b o n c w.heap.size rx ry w1 a W | _ => False) ?post ?region
  case region =>
    go_region_held3 (fun w' => w'.cell? ⟨b, o, none⟩ = some (.slice (some ⟨rb, ro, none⟩) 2 r.c))
      (exact HX.out _ (by repeat (first | exact Below.refl _ _ | refine Below.drew ?_ | refine Below.alloc ?_ (by simp; try omega) _ | refine Below.setCell ?_ (by simp; try omega) _)))
      (first
        | (refine step_app_zero (by rfl) (.tmp 20) (.tmp 23) 23 (by rfl) 43 (.int .u64 0) 8 Try.underlying23 info_u rfl _ (by rfl) ⟨rb, ro, none⟩ 2 r.c [.int .u64 (rx : Int), .int .u64 (ry : Int)] (by rfl) rfl (HY.out _ (by repeat (first | exact Below.refl _ _ | refine Below.drew ?_ | refine Below.alloc ?_ (by simp; try omega) _ | refine Below.setCell ?_ (by simp; try omega) _))) (by omega) (by decide) (by decide) ?_
           intro cap1 cur1 hc1 hcm1 hcs1 hct1)
        | (refine step_app_zero (by rfl) (.tmp 25) (.tmp 28) 23 (by rfl) 43 (.int .u64 0) 8 Try.underlying23 info_u rfl _ (by rfl) ⟨rb, ro, none⟩ 2 r.c [.int .u64 (rx : Int), .int .u64 (ry : Int)] (by rfl) rfl (HY.out _ (by repeat (first | exact Below.refl _ _ | refine Below.drew ?_ | refine Below.alloc ?_ (by simp; try omega) _ | refine Below.setCell ?_ (by simp; try omega) _))) (by omega) (by decide) (by decide) ?_
           intro cap2 cur2 hc2 hcm2 hcs2 hct2))
    all_goals
      refine boxQ_intro rfl rfl rfl ⟨?_, ?_, ?_, ?_, hc1, hc2, hcs1, hcs2, hct1, hct2⟩ ?_ ?_ ?_ ?_
      · omega
      · omega
      · omega
      · omega
      · repeat (first | (refine blk_new' ?_; simp; done) | refine blk_drew ?_ | refine Blk.alloc ?_ _ | refine Blk.set2 ?_)
      · repeat (first | (refine blk_new' ?_; simp; done) | refine blk_drew ?_ | refine Blk.alloc ?_ _ | refine Blk.set2 ?_)
      · repeat (first | (refine blk_new' ?_; simp; done) | refine blk_drew ?_ | refine Blk.alloc ?_ _ | refine Blk.set2 ?_)
      · repeat (first | exact Below.refl _ _ | refine Below.drew ?_ | refine Below.alloc ?_ (by simp; try omega) _ | refine Below.setCell ?_ (by simp; try omega) _)
  case post =>
    intro e a W hq
    cases e <;> try exact hq.elim
    obtain ⟨f, g1, g2, B, c1, c2, cur1, cur2, rfl, ⟨k1, k2, k3, k4, k5, k6, k7, k8, k9, k10⟩, d1, d2, d3, hbW⟩ := hq
    have h00 : (ps.getD 0 []).getD 0 0 = rx ∧ (ps.getD 0 []).getD 1 0 = ry := by
      have e : ps.getD 0 [] = [rx, ry] := by rw [← HPS.out, List.getD_eq_getElem?_getD, List.getElem?_map, hr, ← hrp]; rfl
      rw [e]
      exact ⟨rfl, rfl⟩
    have HBA := hide (show BoxAt g1 g2 B c1 c2 (fun k => loT ps k 0) (fun k => hiT ps k 0) W from by
      refine ⟨cur1, cur2, ⟨k7, k8⟩, fun k hk => ?_, d1, d2, d3⟩
      have z1 : ∀ k, k < 2 → cur1[k]? = (cur1.toList.take 2)[k]? := fun k hk => by rw [List.getElem?_take_of_lt hk, Array.getElem?_toList]
      have z2 : ∀ k, k < 2 → cur2[k]? = (cur2.toList.take 2)[k]? := fun k hk => by rw [List.getElem?_take_of_lt hk, Array.getElem?_toList]
      rw [z1 k hk, z2 k hk, k9, k10]
      rcases k with _ | _ | k
      · simp only [loT, hiT, h00.1]
        exact ⟨rfl, rfl⟩
      · simp only [loT, hiT, h00.2]
        exact ⟨rfl, rfl⟩
      · omega)
    have HBW := hide hbW
    clear d1 d2 d3 hbW k7 k8 k9 k10 h00 hr hro hrA hrb x0 hrp hrx hry hr2 hrpt
    simp only [boxF]
    go_wp2
    go_loopw [33] (fun x wr => ∃ j : Nat, x = .int .i64 (j : Int) ∧ j ≤ n ∧ BoxAt g1 g2 B c1 c2 (fun k => loT ps k j) (fun k => hiT ps k j) wr ∧ Below w1.heap.size w1 wr) (fun x _ => n - (intOf x).toNat)
    case atStart => exact ⟨0, rfl, Nat.zero_le _, HBA.out, HBW.out⟩
    case round =>
      obtain ⟨j, rfl, hj, hba, hb⟩ := hrel
      rename World => wz
      have HBZ := hide hb
      by_cases hjn : j < n
      · obtain ⟨b', o', q, he, _, hq, hqo, x1⟩ := HL1.out.at_ hjn
        injection he with he
        injection he with he1 he2
        subst he1 he2
        obtain ⟨qx, qy, hqp, hqx, hqy⟩ := small_iff (HS.out q.p (by rw [← HPS.out]; exact List.mem_map.2 ⟨q, List.mem_of_getElem? hq, rfl⟩))
        have hq2 : q.n = 2 := by rw [← hqo.1.len, hqp]; rfl
        have hqpt := hqo.1
        rw [hqp] at hqpt
        obtain ⟨qb, qo, qx', qy', hqA, hqb, hqe, z0, z1⟩ := pt_two hqpt hq2
        injection hqe with e1 e2
        injection e2 with e2 _
        subst e1 e2
        rw [hq2, hqA] at x1
        have x1 := (HBZ.out.cell (p := ⟨b, o + j, none⟩) hbl).trans x1
        have hqb1 := hqb
        have HPJ := hide (show ps.getD j [] = [qx, qy] by rw [← HPS.out, List.getD_eq_getElem?_getD, List.getElem?_map, hq, ← hqp]; rfl)
        have HZ := hide (fun (W' : World) (hW : Below w1.heap.size w1 W') => show ∀ i, i < 2 → W'.cell? ⟨qb, qo + i, none⟩ = some (.int .u64 (((ps.getD j []).getD i 0 : Nat) : Int)) from by
          intro i hi
          rw [HPJ.out, hW.cell hqb1]
          rcases i with _ | _ | i
          · exact z0
          · exact z1
          · omega)
        have HBA := hide hba
        clear hba hb hq hqo hqp hqpt hqA z0 z1 hqx hqy hq2
        go_wp2
        go_loopw [39] (fun x wr => ∃ i : Nat, x = .int .i64 (i : Int) ∧ i ≤ 2 ∧ BoxAt g1 g2 B c1 c2 (fun k => if k < i then loT ps k (j + 1) else loT ps k j) (fun k => if k < i then hiT ps k (j + 1) else hiT ps k j) wr ∧ Below w1.heap.size w1 wr) (fun x _ => 2 - (intOf x).toNat)
        case atStart => exact ⟨0, rfl, Nat.zero_le _, HBA.out.of fun k _ => by simp, HBZ.out⟩
        case round =>
          obtain ⟨i, rfl, hi, hba, hb⟩ := hrel
          rename World => wy
          have HBY := hide hb
          have HBA := hide hba
          by_cases hi2 : i < 2
          · have zi := HZ.out _ hb i hi2
            obtain ⟨ci, hci⟩ : ∃ ci, ci = (ps.getD j []).getD i 0 := ⟨_, rfl⟩
            rw [← hci] at zi
            have HCI := hide hci
            obtain ⟨s1, s2, s3, s4, s5, s6⟩ := hba.cells hi2
            simp only [Nat.lt_irrefl, if_false] at s3 s4
            clear hba hb hci
            obtain ⟨lo, hlo⟩ : ∃ lo, lo = loT ps i j := ⟨_, rfl⟩
            obtain ⟨hh, hhh⟩ : ∃ hh, hh = hiT ps i j := ⟨_, rfl⟩
            rw [← hlo] at s3
            rw [← hhh] at s4
            have HLO := hide hlo
            have HHH := hide hhh
            clear hlo hhh
            have hiI : (i : Int) < 2 := by omega
            go_wp2
            refine wp_region_store 21 23 (fun w' => w'.cell? ⟨B, 0, none⟩ = some (.slice (some ⟨g1, 0, none⟩) 2 c1) ∧ w'.cell? ⟨B, 1, none⟩ = some (.slice (some ⟨g2, 0, none⟩) 2 c2)) (fun w' => w'.cell? ⟨g1, i, none⟩ = some (.int .u64 (lo : Int))) (fun w' => w'.cell? ⟨g2, i, none⟩ = some (.int .u64 (hh : Int))) (by kernel_rfl) ⟨⟨s1, s2⟩, s3, s4⟩ (fun hSta => ?_)
            refine wpStore_take (i := 0) (oi := { dst := some 44, op := _, type := _, pos := _, after := _, guard := _ }) (v := ?_) false false rfl (by kernel_rfl) (by kernel_rfl) (by kernel_rfl) (by kernel_rfl) (fun _ _ _ h => h) (Or.inl ⟨by rfl, ?_⟩) (by assumption) (fun hSta => ?_)
            rotate_left 1
            · intro wS hSw
              obtain ⟨⟨s1, s2⟩, s3, s4⟩ := hSw
              clear s3
              clear s4
              go_simp
              all_goals with_reducible rfl
            try simp only [Act.put, List.setIfInBounds_toArray, List.set_cons_zero, List.set_cons_succ]
            refine wpStore_take (i := 1) (oi := { dst := some 45, op := _, type := _, pos := _, after := _, guard := _ }) (v := ?_) false false rfl (by kernel_rfl) (by kernel_rfl) (by kernel_rfl) (by kernel_rfl) (fun _ _ _ h => h) (Or.inl ⟨by rfl, ?_⟩) (by assumption) (fun hSta => ?_)
            rotate_left 1
            · intro wS hSw
              obtain ⟨⟨s1, s2⟩, s3, s4⟩ := hSw
              clear s3
              clear s4
              go_simp
              all_goals with_reducible rfl
            try simp only [Act.put, List.setIfInBounds_toArray, List.set_cons_zero, List.set_cons_succ]
            refine wpStore_take (i := 2) (oi := { dst := some 46, op := _, type := _, pos := _, after := _, guard := _ }) (v := ?_) false false rfl (by kernel_rfl) (by kernel_rfl) (by kernel_rfl) (by kernel_rfl) (fun _ _ _ h => h) (Or.inl ⟨by rfl, ?_⟩) (by assumption) (fun hSta => ?_)
            rotate_left 1
            · intro wS hSw
              obtain ⟨⟨s1, s2⟩, s3, s4⟩ := hSw
              clear s3
              clear s4
              go_simp
              all_goals with_reducible rfl
            try simp only [Act.put, List.setIfInBounds_toArray, List.set_cons_zero, List.set_cons_succ]
            refine wpStore_take (i := 3) (oi := { dst := some 47, op := _, type := _, pos := _, after := _, guard := _ }) (v := ?_) false false rfl (by kernel_rfl) (by kernel_rfl) (by kernel_rfl) (by kernel_rfl) (fun _ _ _ h => h) (Or.inl ⟨by rfl, ?_⟩) (by assumption) (fun hSta => ?_)
            rotate_left 1
            · intro wS hSw
              obtain ⟨⟨s1, s2⟩, s3, s4⟩ := hSw
              clear s3
              clear s4
              go_simp
              all_goals with_reducible rfl
            try simp only [Act.put, List.setIfInBounds_toArray, List.set_cons_zero, List.set_cons_succ]
            refine wpStore_take (i := 4) (oi := { dst := some 48, op := _, type := _, pos := _, after := _, guard := _ }) (v := ?_) false false rfl (by kernel_rfl) (by kernel_rfl) (by kernel_rfl) (by kernel_rfl) (fun _ _ _ h => h) (Or.inl ⟨by rfl, ?_⟩) (by assumption) (fun hSta => ?_)
            rotate_left 1
            · intro wS hSw
              obtain ⟨⟨s1, s2⟩, s3, s4⟩ := hSw
              clear s3
              clear s4
              go_simp
              all_goals with_reducible rfl
            try simp only [Act.put, List.setIfInBounds_toArray, List.set_cons_zero, List.set_cons_succ]
            refine wpStore_take (i := 5) (oi := { dst := some 49, op := _, type := _, pos := _, after := _, guard := _ }) (v := ?_) false false rfl (by kernel_rfl) (by kernel_rfl) (by kernel_rfl) (by kernel_rfl) (fun _ _ _ h => h) (Or.inl ⟨by rfl, ?_⟩) (by assumption) (fun hSta => ?_)
            rotate_left 1
            · intro wS hSw
              obtain ⟨⟨s1, s2⟩, s3, s4⟩ := hSw
              clear s3
              clear s4
              go_simp
              all_goals with_reducible rfl
            try simp only [Act.put, List.setIfInBounds_toArray, List.set_cons_zero, List.set_cons_succ]
            refine wpStore_take (i := 6) (oi := { dst := some 50, op := _, type := _, pos := _, after := _, guard := _ }) (v := ?_) false false rfl (by kernel_rfl) (by kernel_rfl) (by kernel_rfl) (by kernel_rfl) (fun _ _ _ h => h) (Or.inl ⟨by rfl, ?_⟩) (by assumption) (fun hSta => ?_)
            rotate_left 1
            · intro wS hSw
              obtain ⟨⟨s1, s2⟩, s3, s4⟩ := hSw
              clear s3
              clear s4
              go_simp
              all_goals with_reducible rfl
            try simp only [Act.put, List.setIfInBounds_toArray, List.set_cons_zero, List.set_cons_succ]
            refine wpStore_take (i := 7) (oi := { dst := some 51, op := _, type := _, pos := _, after := _, guard := _ }) (v := ?_) false false rfl (by kernel_rfl) (by kernel_rfl) (by kernel_rfl) (by kernel_rfl) (fun _ _ _ h => h) (Or.inl ⟨by rfl, ?_⟩) (by assumption) (fun hSta => ?_)
            rotate_left 1
            · intro wS hSw
              obtain ⟨⟨s1, s2⟩, s3, s4⟩ := hSw
              clear s3
              clear s4
              go_simp
              all_goals with_reducible rfl
            try simp only [Act.put, List.setIfInBounds_toArray, List.set_cons_zero, List.set_cons_succ]
            refine wpStore_take (i := 8) (oi := { dst := some 52, op := _, type := _, pos := _, after := _, guard := _ }) (v := ?_) false false rfl (by kernel_rfl) (by kernel_rfl) (by kernel_rfl) (by kernel_rfl) (fun _ _ _ h => h) (Or.inl ⟨by rfl, ?_⟩) (by assumption) (fun hSta => ?_)
            rotate_left 1
            · intro wS hSw
              obtain ⟨⟨s1, s2⟩, s3, s4⟩ := hSw
              clear s3
              clear s4
              go_simp
              all_goals with_reducible rfl
            try simp only [Act.put, List.setIfInBounds_toArray, List.set_cons_zero, List.set_cons_succ]
            refine wpStore_take (i := 9) (oi := { dst := some 53, op := _, type := _, pos := _, after := _, guard := _ }) (v := ?_) false false rfl (by kernel_rfl) (by kernel_rfl) (by kernel_rfl) (by kernel_rfl) (fun _ _ _ h => h) (Or.inl ⟨by rfl, ?_⟩) (by assumption) (fun hSta => ?_)
            rotate_left 1
            · intro wS hSw
              obtain ⟨⟨s1, s2⟩, s3, s4⟩ := hSw
              clear s3
              clear s4
              go_simp
              all_goals with_reducible rfl
            try simp only [Act.put, List.setIfInBounds_toArray, List.set_cons_zero, List.set_cons_succ]
            refine wpStore_take (i := 10) (oi := { dst := some 54, op := _, type := _, pos := _, after := _, guard := _ }) (v := ?_) true false rfl (by kernel_rfl) (by kernel_rfl) (by kernel_rfl) (by kernel_rfl) (fun _ _ _ h => h) (Or.inl ⟨by rfl, ?_⟩) (by assumption) (fun hSta => ?_)
            rotate_left 1
            · intro wS hSw
              obtain ⟨⟨s1, s2⟩, s3, s4⟩ := hSw
              have s3 := s3 rfl
              clear s4
              go_simp
              all_goals with_reducible rfl
            try simp only [Act.put, List.setIfInBounds_toArray, List.set_cons_zero, List.set_cons_succ]
            refine wpStore_take (i := 11) (oi := { dst := some 55, op := _, type := _, pos := _, after := _, guard := _ }) (v := ?_) false false rfl (by kernel_rfl) (by kernel_rfl) (by kernel_rfl) (by kernel_rfl) (fun _ _ _ h => h) (Or.inl ⟨by rfl, ?_⟩) (by assumption) (fun hSta => ?_)
            rotate_left 1
            · intro wS hSw
              obtain ⟨⟨s1, s2⟩, s3, s4⟩ := hSw
              clear s3
              clear s4
              go_simp
              all_goals with_reducible rfl
            try simp only [Act.put, List.setIfInBounds_toArray, List.set_cons_zero, List.set_cons_succ]
            refine wpStore_take (i := 12) (oi := { dst := some 56, op := _, type := _, pos := _, after := _, guard := _ }) (v := ?_) false false rfl (by kernel_rfl) (by kernel_rfl) (by kernel_rfl) (by kernel_rfl) (fun _ _ _ h => h) (Or.inl ⟨by rfl, ?_⟩) (by assumption) (fun hSta => ?_)
            rotate_left 1
            · intro wS hSw
              obtain ⟨⟨s1, s2⟩, s3, s4⟩ := hSw
              clear s3
              clear s4
              go_simp
              all_goals with_reducible rfl
            try simp only [Act.put, List.setIfInBounds_toArray, List.set_cons_zero, List.set_cons_succ]
            refine wpStore_take (i := 13) (oi := { dst := some 57, op := _, type := _, pos := _, after := _, guard := _ }) (v := ?_) false false rfl (by kernel_rfl) (by kernel_rfl) (by kernel_rfl) (by kernel_rfl) (fun _ _ _ h => h) (Or.inl ⟨by rfl, ?_⟩) (by assumption) (fun hSta => ?_)
            rotate_left 1
            · intro wS hSw
              obtain ⟨⟨s1, s2⟩, s3, s4⟩ := hSw
              clear s3
              clear s4
              go_simp
              all_goals with_reducible rfl
            try simp only [Act.put, List.setIfInBounds_toArray, List.set_cons_zero, List.set_cons_succ]
            refine wpStore_take (i := 14) (oi := { dst := some 58, op := _, type := _, pos := _, after := _, guard := _ }) (v := ?_) false false rfl (by kernel_rfl) (by kernel_rfl) (by kernel_rfl) (by kernel_rfl) (fun _ _ _ h => h) (Or.inl ⟨by rfl, ?_⟩) (by assumption) (fun hSta => ?_)
            rotate_left 1
            · intro wS hSw
              obtain ⟨⟨s1, s2⟩, s3, s4⟩ := hSw
              clear s3
              clear s4
              go_simp
              all_goals with_reducible rfl
            try simp only [Act.put, List.setIfInBounds_toArray, List.set_cons_zero, List.set_cons_succ]
            refine wpStore_take (i := 15) (oi := { dst := some 59, op := _, type := _, pos := _, after := _, guard := _ }) (v := ?_) false false rfl (by kernel_rfl) (by kernel_rfl) (by kernel_rfl) (by kernel_rfl) (fun _ _ _ h => h) (Or.inl ⟨by rfl, ?_⟩) (by assumption) (fun hSta => ?_)
            rotate_left 1
            · intro wS hSw
              obtain ⟨⟨s1, s2⟩, s3, s4⟩ := hSw
              clear s3
              clear s4
              go_simp
              all_goals with_reducible rfl
            try simp only [Act.put, List.setIfInBounds_toArray, List.set_cons_zero, List.set_cons_succ]
            refine wpStore_take (i := 16) (oi := { dst := some 60, op := _, type := _, pos := _, after := _, guard := _ }) (v := ?_) false false rfl (by kernel_rfl) (by kernel_rfl) (by kernel_rfl) (by kernel_rfl) (fun _ _ _ h => h) (Or.inl ⟨by rfl, ?_⟩) (by assumption) (fun hSta => ?_)
            rotate_left 1
            · intro wS hSw
              obtain ⟨⟨s1, s2⟩, s3, s4⟩ := hSw
              clear s3
              clear s4
              go_simp
              all_goals with_reducible rfl
            try simp only [Act.put, List.setIfInBounds_toArray, List.set_cons_zero, List.set_cons_succ]
            refine wpStore_take (i := 17) (oi := { dst := some 61, op := _, type := _, pos := _, after := _, guard := _ }) (v := ?_) false true rfl (by kernel_rfl) (by kernel_rfl) (by kernel_rfl) (by kernel_rfl) (fun _ _ _ h => h) (Or.inl ⟨by rfl, ?_⟩) (by assumption) (fun hSta => ?_)
            rotate_left 1
            · intro wS hSw
              obtain ⟨⟨s1, s2⟩, s3, s4⟩ := hSw
              clear s3
              have s4 := s4 rfl
              go_simp
              all_goals with_reducible rfl
            try simp only [Act.put, List.setIfInBounds_toArray, List.set_cons_zero, List.set_cons_succ]
            refine wpStore_take (i := 18) (oi := { dst := some 62, op := _, type := _, pos := _, after := _, guard := _ }) (v := ?_) false false rfl (by kernel_rfl) (by kernel_rfl) (by kernel_rfl) (by kernel_rfl) (fun _ _ _ h => h) (Or.inl ⟨by rfl, ?_⟩) (by assumption) (fun hSta => ?_)
            rotate_left 1
            · intro wS hSw
              obtain ⟨⟨s1, s2⟩, s3, s4⟩ := hSw
              clear s3
              clear s4
              go_simp
              all_goals with_reducible rfl
            try simp only [Act.put, List.setIfInBounds_toArray, List.set_cons_zero, List.set_cons_succ]
            refine wpStore_take (i := 19) (oi := { dst := some 63, op := _, type := _, pos := _, after := _, guard := _ }) (v := ?_) false false rfl (by kernel_rfl) (by kernel_rfl) (by kernel_rfl) (by kernel_rfl) (fun _ _ _ h => h) (Or.inl ⟨by rfl, ?_⟩) (by assumption) (fun hSta => ?_)
            rotate_left 1
            · intro wS hSw
              obtain ⟨⟨s1, s2⟩, s3, s4⟩ := hSw
              clear s3
              clear s4
              go_simp
              all_goals with_reducible rfl
            try simp only [Act.put, List.setIfInBounds_toArray, List.set_cons_zero, List.set_cons_succ]
            refine wpStore_take (i := 20) (oi := { dst := some 64, op := _, type := _, pos := _, after := _, guard := _ }) (v := ?_) false false rfl (by kernel_rfl) (by kernel_rfl) (by kernel_rfl) (by kernel_rfl) (fun _ _ _ h => h) (Or.inl ⟨by rfl, ?_⟩) (by assumption) (fun hSta => ?_)
            rotate_left 1
            · intro wS hSw
              obtain ⟨⟨s1, s2⟩, s3, s4⟩ := hSw
              clear s3
              clear s4
              go_simp
              all_goals with_reducible rfl
            try simp only [Act.put, List.setIfInBounds_toArray, List.set_cons_zero, List.set_cons_succ]
            refine wpStore_one (i := 21) (o := { dst := none, op := _, type := _, pos := _, after := _, guard := _ }) (by kernel_rfl) rfl (fun K hK => ?_)
            go_simp
            have hmn : min (lo : Int) (ci : Int) = ((min lo ci : Nat) : Int) := by omega
            rw [hmn]
            have HBA1 := hide (HBA.out.set_lo k4 i (min lo ci) hi2 k5)
            obtain ⟨t1, t2, -, t4, -, t6⟩ := HBA1.out.cells hi2
            simp only [Nat.lt_irrefl, if_false] at t4
            rw [← HHH.out] at t4
            refine hK.out _ _ ⟨⟨t1, t2⟩, fun h => absurd h (by decide), fun _ => t4⟩ (fun hSta => ?_)
            clear hK K s1 s2 s3 s4 s5 s6
            try simp only [Act.put, List.setIfInBounds_toArray, List.set_cons_zero, List.set_cons_succ]
            refine wpStore_take (i := 22) (oi := { dst := some 65, op := _, type := _, pos := _, after := _, guard := _ }) (v := ?_) false false rfl (by kernel_rfl) (by kernel_rfl) (by kernel_rfl) (by kernel_rfl) (fun _ _ _ h => h) (Or.inl ⟨by rfl, ?_⟩) (by assumption) (fun hSta => ?_)
            rotate_left 1
            · intro wS hSw
              obtain ⟨⟨s1, s2⟩, s3, s4⟩ := hSw
              clear s3
              clear s4
              go_simp
              all_goals with_reducible rfl
            try simp only [Act.put, List.setIfInBounds_toArray, List.set_cons_zero, List.set_cons_succ]
            refine wpStore_one (i := 23) (o := { dst := none, op := _, type := _, pos := _, after := _, guard := _ }) (by kernel_rfl) rfl (fun K hK => ?_)
            go_simp
            have hmx : max (hh : Int) (ci : Int) = ((max hh ci : Nat) : Int) := by omega
            rw [hmx]
            have HBA2 := hide (HBA1.out.set_hi k4 i (max hh ci) hi2 k6)
            obtain ⟨t1', t2', -⟩ := HBA2.out.cells hi2
            refine hK.out _ _ ⟨⟨t1', t2'⟩, fun h => absurd h (by decide), fun h => absurd h (by decide)⟩ (fun hSta => ?_)
            clear hK K t1 t2 t4 t6
            try simp only [Act.put, List.setIfInBounds_toArray, List.set_cons_zero, List.set_cons_succ]
            refine wpStore_done (by kernel_rfl) ?_ _
            clear hSta t1' t2'
            go_wp2
            refine ⟨⟨i + 1, by go_num, by omega, BoxAt.of HBA2.out ?_, ((HBY.out.setCell (p := ⟨g1, i, none⟩) k1 _).setCell (p := ⟨g2, i, none⟩) k2 _).drew⟩, by simp only [intOf]; omega⟩
            intro k hk
            have q1 : loT ps i (j + 1) = min lo ci := by rw [HLO.out, HCI.out]; rfl
            have q2 : hiT ps i (j + 1) = max hh ci := by rw [HHH.out, HCI.out]; rfl
            rcases Nat.lt_trichotomy k i with h | h | h
            · simp only [if_neg (show ¬ k = i by omega), if_pos h, if_pos (show k < i + 1 by omega)]
              first | exact ⟨rfl, rfl⟩ | exact ⟨trivial, trivial⟩
            · subst h
              simp only [if_pos (show k < k + 1 by omega), q1, q2]
              exact ⟨by simp, by simp⟩
            · simp only [if_neg (show ¬ k = i by omega), if_neg (show ¬ k < i by omega), if_neg (show ¬ k < i + 1 by omega)]
              first | exact ⟨rfl, rfl⟩ | exact ⟨trivial, trivial⟩
          · obtain rfl : i = 2 := by omega
            clear hba hb
            go_wp2
            exact ⟨⟨j + 1, by go_num, by omega, HBA.out.of fun k hk => ⟨if_pos hk, if_pos hk⟩, HBY.out⟩, by simp only [intOf]; omega⟩
      · obtain rfl : j = n := by omega
        obtain ⟨s1, s2, -⟩ := hba.cells (i := 0) (by omega)
        have hBR := HB1.out.below hb
        have y0 := hBR.cell 0
        have y1 := hBR.cell 1
        have z0 := hBR.frozen 0
        have z1 := hBR.frozen 1
        have HBA := hide hba
        clear hba hb hBR
        go_wp2
        have hneR : g1 ≠ w.heap.size ∧ g2 ≠ w.heap.size := by
          have h1 := HB.out.size
          rw [World.size_alloc] at h1
          omega
        refine ⟨rfl, .tuple #[.agg #[.slice (some ⟨g1, 0, none⟩) 2 c1, .slice (some ⟨g2, 0, none⟩) 2 c2], .int .i64 0], ?_, g1, g2, c1, c2, rfl, ?_, ?_, ?_⟩
        · simp [results, show Try.f13.results = #[.cell 2 38, .tmp 3] from rfl, go_sem, *]
        · obtain ⟨u, v, _, _, q3, q4, _⟩ := HBA.out
          exact ⟨by simpa using q3.lt, by simpa using q4.lt⟩
        · intro k hk
          obtain ⟨u, v, q1, q2, q3, q4, q5⟩ := HBA.out
          rw [HPS.out]
          exact ⟨(((q3.set_ _ _ _ hneR.1).set_ _ _ _ hneR.1).cell k).trans (q2 k hk).1, (((q4.set_ _ _ _ hneR.2).set_ _ _ _ hneR.2).cell k).trans (q2 k hk).2⟩
        · exact ((below_then ((Below.refl w.heap.size w).alloc (Nat.le_refl _) _) (below_then HB.out (HBZ.out))).setCell (p := ⟨w.heap.size, 0, none⟩) (Nat.le_refl _) _).setCell (p := ⟨w.heap.size, 1, none⟩) (Nat.le_refl _) _
end Go.Proofs.Ytlgdllohmmmegaa
