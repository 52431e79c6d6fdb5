/- Nodes: what they hold, what they tell. -/
import Derived.Test.YtfkpanpageeklaaSlN
import Derived.Test.YtfkpanpageeklaaZA
import Derived.Test.YtfkpanpageeklaaProg
import Derived.Test.YtfkpanpageeklaaBaA
import Derived.Deep.RegionHeld3
import Derived.Deep.Cut
set_option linter.unusedSimpArgs false
set_option linter.unusedVariables false
namespace Go.Proofs.Ytfkpanpageeklaa
open Go.RowKit
/-- A kid: where it hangs, its block, its level, its prefix, its entries. -/
structure Kid where
  at_ : Nat
  blk : Nat
  lv : Int
  pre : List Nat
  es : List Ent
def kidTh (ks : List Kid) : Th := ks.map fun q => (q.at_, Value.pointer (some ⟨q.blk, 0, none⟩))
def kidEs (ks : List Kid) : List Ent := ks.flatMap (·.es)
/-- The node's block. -/
def nodeCells (lv : Int) (A : Option Addr) (k c : Nat) (v : Nat) (kids : Option Addr) (s : Sum4) : Array Value :=
  #[.int .i64 lv, .slice A k c, .int .u64 (v : Int), .pointer kids, .int .u64 (s.c : Int), .int .u64 (s.s : Int), .int .u64 (s.mn : Int), .int .u64 (s.mx : Int)]
/-- Block g is a node of k coordinates, with level, prefix and entries. -/
inductive NodeOf (w : World) (k : Nat) : Nat → Int → List Nat → List Ent → Prop
  | leaf {g : Nat} {A : Option Addr} {c : Nat} {p : List Nat} {v : Nat} (hv : v < 2 ^ 64) (hp : Pt w A k p) (hc : k ≤ c)
      (hB : Blk w g 120 (nodeCells (-1) A k c v none ⟨1, v, v, v⟩)) : NodeOf w k g (-1) p [(p, v)]
  | fork {g : Nat} {A : Option Addr} {c lv : Nat} {pre : List Nat} {gs : Nat} (ks : List Kid) (hlv : lv < 64) (hp : Pt w A k pre) (hc : k ≤ c)
      (hz : ∀ b, b ≤ lv → addrOf pre b = 0) (hk : ∀ q ∈ ks, NodeOf w k q.blk q.lv q.pre q.es) (hl : ∀ q ∈ ks, q.lv < lv)
      (ha : ∀ q ∈ ks, addrOf q.pre lv = q.at_ ∧ ∀ b, lv < b → addrOf q.pre b = addrOf pre b) (hs : ks.Pairwise fun q r => q.at_ < r.at_) (h2 : 2 ≤ ks.length)
      (hS : SlotsAt_n w gs k (kidTh ks)) (hB : Blk w g 120 (nodeCells lv A k c 0 (some ⟨gs, 0, none⟩) (sumsOf (kidEs ks)))) : NodeOf w k g lv pre (kidEs ks)
theorem NodeOf.stay {w w' : World} {k g : Nat} {lv : Int} {pre : List Nat} {es : List Ent} (h : NodeOf w k g lv pre es) (hb : Below w.heap.size w w') : NodeOf w' k g lv pre es := by
  induction h with
  | leaf hv hp hc hB => exact .leaf hv (hp.below hb) hc (hB.below hb)
  | fork ks hlv hp hc hz hk hl ha hs h2 hS hB ih => exact .fork ks hlv (hp.below hb) hc hz ih hl ha hs h2 (hS.below hb) (hB.below hb)
theorem Pt.zp {w : World} {A : Option Addr} {k : Nat} {p : List Nat} (h : Pt w A k p) : Zp k p := ⟨h.1, h.2.2⟩
/-- What is told of a node's entries. -/
theorem NodeOf.info {w : World} {k g : Nat} {lv : Int} {pre : List Nat} {es : List Ent} (h : NodeOf w k g lv pre es) :
    Zp k pre ∧ es ≠ [] ∧ -1 ≤ lv ∧ lv < 64 ∧ (∀ e ∈ es, Zp k e.1 ∧ e.2 < 2 ^ 64 ∧ ∀ b : Nat, lv < b → addrOf e.1 b = addrOf pre b) ∧ Zsorted es ∧ g < w.heap.size := by
  induction h with
  | leaf hv hp hc hB =>
    refine ⟨hp.zp, by simp, by omega, by omega, fun e he => ?_, List.pairwise_singleton _ _, hB.lt⟩
    rw [List.mem_singleton] at he
    subst he
    exact ⟨hp.zp, hv, fun _ _ => rfl⟩
  | @fork g A c lv pre gs ks hlv hp hc hz hk hl ha hs h2 hS hB ih =>
    refine ⟨hp.zp, ?_, by omega, by omega, fun e he => ?_, ?_, hB.lt⟩
    · obtain ⟨q, qs, rfl⟩ := List.exists_cons_of_length_pos (show 0 < ks.length by omega)
      have := (ih q List.mem_cons_self).2.1
      unfold kidEs
      rw [List.flatMap_cons]
      intro h0
      exact this (List.append_eq_nil_iff.1 h0).1
    · obtain ⟨q, hq, he⟩ := List.mem_flatMap.1 he
      obtain ⟨i1, i2, i3, i4, i5, i6⟩ := ih q hq
      obtain ⟨j1, j2, j3⟩ := i5 e he
      refine ⟨j1, j2, fun b hb => ?_⟩
      rw [j3 b (by have := hl q hq; omega)]
      exact (ha q hq).2 b (by omega)
    · unfold kidEs Zsorted
      rw [List.pairwise_flatMap]
      refine ⟨fun q hq => (ih q hq).2.2.2.2.2.1, ?_⟩
      refine hs.imp_of_mem ?_
      intro q r hq hr hqr e he f hf
      obtain ⟨_, _, _, _, i5, _⟩ := ih q hq
      obtain ⟨_, _, _, _, k5, _⟩ := ih r hr
      refine ⟨lv, fun b hb => ?_, ?_⟩
      · rw [(i5 e he).2.2 b (by have := hl q hq; omega), (k5 f hf).2.2 b (by have := hl r hr; omega), (ha q hq).2 b hb, (ha r hr).2 b hb]
      · rw [(i5 e he).2.2 lv (hl q hq), (k5 f hf).2.2 lv (hl r hr), (ha q hq).1, (ha r hr).1]
        exact hqr
/-- A node's own block. -/
theorem NodeOf.head {w : World} {k g : Nat} {lv : Int} {pre : List Nat} {es : List Ent} (h : NodeOf w k g lv pre es) :
    ∃ A c v kids, Blk w g 120 (nodeCells lv A k c v kids (sumsOf es)) ∧ Pt w A k pre ∧ k ≤ c ∧
      ((kids = none ∧ lv = -1 ∧ es = [(pre, v)]) ∨
       (v = 0 ∧ ∃ (gs : Nat) (m : Nat) (ks : List Kid), kids = some ⟨gs, 0, none⟩ ∧ lv = (m : Int) ∧ m < 64 ∧ es = kidEs ks ∧ SlotsAt_n w gs k (kidTh ks) ∧ 2 ≤ ks.length ∧ (∀ b, b ≤ m → addrOf pre b = 0) ∧ (ks.Pairwise fun q r => q.at_ < r.at_) ∧
        ∀ q ∈ ks, NodeOf w k q.blk q.lv q.pre q.es ∧ q.lv < lv ∧ addrOf q.pre m = q.at_ ∧ ∀ b, m < b → addrOf q.pre b = addrOf pre b)) := by
  cases h with
  | leaf hv hp hc hB =>
    refine ⟨_, _, _, none, ?_, hp, hc, .inl ⟨rfl, rfl, rfl⟩⟩
    rw [sumsOf_one _ _ hv]
    exact hB
  | fork ks hlv hp hc hz hk hl ha hs h2 hS hB =>
    exact ⟨_, _, 0, _, hB, hp, hc, .inr ⟨rfl, _, _, ks, rfl, rfl, hlv, rfl, hS, h2, hz, hs, fun q hq => ⟨hk q hq, hl q hq, ha q hq⟩⟩⟩
set_option maxHeartbeats 1000000 in
set_option maxRecDepth 100000 in
theorem nd_k {w : World} {k g : Nat} {lv : Int} {pre : List Nat} {es : List Ent} (h : NodeOf w k g lv pre es) :
    Calls Try.prog 71 #[.pointer (some ⟨g, 0, none⟩)] w fun e w' => e = .returned (.int .i64 (k : Nat)) ∧ w = w' := by
  obtain ⟨A, c, v, kids, hB, -⟩ := h.head
  have c1 := hB.cell 1
  simp [nodeCells] at c1
  clear hB h
  go_enter Try.func71, Try.ntmps71
  go_wp2
  go_ret
  exact ⟨rfl, rfl⟩
set_option maxHeartbeats 1000000 in
set_option maxRecDepth 100000 in
theorem nd_level {w : World} {k g : Nat} {lv : Int} {pre : List Nat} {es : List Ent} (h : NodeOf w k g lv pre es) :
    Calls Try.prog 60 #[.pointer (some ⟨g, 0, none⟩)] w fun e w' => e = .returned (.int .i64 lv) ∧ w = w' := by
  obtain ⟨A, c, v, kids, hB, -⟩ := h.head
  have c1 := hB.cell 0
  simp [nodeCells] at c1
  clear hB h
  go_enter Try.func60, Try.ntmps60
  go_wp2
  go_ret
  exact ⟨rfl, rfl⟩
set_option maxHeartbeats 1000000 in
set_option maxRecDepth 100000 in
theorem nd_prefix {w : World} {k g : Nat} {lv : Int} {pre : List Nat} {es : List Ent} (h : NodeOf w k g lv pre es) (hk : k ≤ 16) :
    Calls Try.prog 62 #[.pointer (some ⟨g, 0, none⟩)] w fun e w' => ∃ v, e = .returned v ∧ w'.ownsRow w.heap.size 50 1 v k (u64s pre) ∧ Below w.heap.size w w' := by
  obtain ⟨A, c, v, kids, hB, hp, -⟩ := h.head
  have c1 := hB.cell 1
  simp [nodeCells] at c1
  have HC := hide (clone_u64 A k c pre w hp (by omega))
  clear hB h hp
  go_enter Try.func62, Try.ntmps62
  go_wp2_with fail
  refine HC.out.mono ?_
  rintro e w1 ⟨v1, rfl, ho, hb⟩
  have HO := hide ho
  clear ho
  go_wp2
  go_ret
  exact ⟨v1, rfl, HO.out, hb⟩
set_option maxHeartbeats 1000000 in
set_option maxRecDepth 100000 in
theorem nd_slots {w : World} {g : Nat} {lv : Int} {A : Option Addr} {k c v : Nat} {kids : Option Addr} {s : Sum4} (hB : Blk w g 120 (nodeCells lv A k c v kids s)) :
    Calls Try.prog 88 #[.pointer (some ⟨g, 0, none⟩)] w fun e w' => e = .returned (.pointer kids) ∧ w = w' := by
  have c1 := hB.cell 3
  simp [nodeCells] at c1
  clear hB
  go_enter Try.func88, Try.ntmps88
  go_wp2
  go_ret
  exact ⟨rfl, rfl⟩
set_option maxHeartbeats 1000000 in
set_option maxRecDepth 100000 in
theorem nd_at {w : World} {k g : Nat} {lv : Int} {pre : List Nat} {es : List Ent} (h : NodeOf w k g lv pre es) (hk1 : 1 ≤ k) (hk : k ≤ 16) (m : Nat) (hm : m < 64) :
    Calls Try.prog 79 #[.pointer (some ⟨g, 0, none⟩), .int .i64 (m : Nat)] w fun e w' => e = .returned (.int .i64 (addrOf pre m : Nat)) ∧ w = w' := by
  obtain ⟨A, c, v, kids, hB, hp, -⟩ := h.head
  have c1 := hB.cell 1
  simp [nodeCells] at c1
  have HC := hide (zb_addr A k pre c m w hp hk1 hk hm)
  clear hB h hp
  go_enter Try.func79, Try.ntmps79
  go_wp2_with fail
  refine HC.out.mono ?_
  rintro e w1 ⟨rfl, rfl⟩
  go_wp2
  go_ret
  exact ⟨rfl, rfl⟩
set_option maxHeartbeats 1000000 in
set_option maxRecDepth 100000 in
theorem nd_covers {w : World} {k g : Nat} {lv : Int} {pre : List Nat} {es : List Ent} (h : NodeOf w k g lv pre es) (hk1 : 1 ≤ k) (hk : k ≤ 16) {B : Option Addr} {d : Nat} {q : List Nat} (hq : Pt w B k q) :
    Calls Try.prog 61 #[.pointer (some ⟨g, 0, none⟩), .slice B k d] w fun e w' => e = .returned (.bool (decide (part pre q ≤ lv))) ∧ w = w' := by
  obtain ⟨A, c, v, kids, hB, hp, -⟩ := h.head
  have c0 := hB.cell 0
  have c1 := hB.cell 1
  simp [nodeCells] at c0 c1
  have HC := hide (zb_part A B k c d pre q w hp hq hk1 hk)
  clear hB h hp hq
  go_enter Try.func61, Try.ntmps61
  go_wp2_with fail
  refine HC.out.mono ?_
  rintro e w1 ⟨rfl, rfl⟩
  go_wp2
  go_ret
  exact ⟨rfl, rfl⟩
set_option maxHeartbeats 1000000 in
set_option maxRecDepth 100000 in
theorem nd_covers_bad {w : World} {k g : Nat} {lv : Int} {pre : List Nat} {es : List Ent} (h : NodeOf w k g lv pre es) {B : Option Addr} {n d : Nat} (hn : k ≠ n) :
    Calls Try.prog 61 #[.pointer (some ⟨g, 0, none⟩), .slice B n d] w fun e w' => e = .returned (.bool false) ∧ w = w' := by
  obtain ⟨A, c, v, kids, hB, hp, -⟩ := h.head
  have c0 := hB.cell 0
  have c1 := hB.cell 1
  simp [nodeCells] at c0 c1
  have HC := hide (zb_part_bad A B k c n d w (.inr hn))
  clear hB h hp
  go_enter Try.func61, Try.ntmps61
  go_wp2_with fail
  refine HC.out.mono ?_
  rintro e w1 ⟨rfl, rfl⟩
  go_wp2
  go_ret
  exact ⟨rfl, rfl⟩
set_option maxHeartbeats 1000000 in
set_option maxRecDepth 100000 in
theorem nd_leaf_bad (A : Option Addr) (n c : Nat) (v : Int) (w : World) (h : rightB n = false) :
    Calls Try.prog 45 #[.slice A n c, .int .u64 v] w fun e w' => e = .returned (.tuple #[.pointer none, .int .i64 2]) ∧ w = w' := by
  have HC := zb_right A n c w
  rw [h] at HC
  have HC' := hide HC
  clear HC h
  go_enter Try.func45, Try.ntmps45
  go_wp2_with fail
  refine HC'.out.mono ?_
  rintro e w1 ⟨rfl, rfl⟩
  go_wp2
  go_ret2
  exact ⟨rfl, rfl⟩
set_option maxHeartbeats 1000000 in
set_option maxRecDepth 100000 in
theorem nd_leaf (A : Option Addr) (n c : Nat) (p : List Nat) (v : Nat) (w : World) (hp : Pt w A n p) (hv : v < 2 ^ 64) (h1 : 1 ≤ n) (h2 : n ≤ 16) :
    Calls Try.prog 45 #[.slice A n c, .int .u64 (v : Int)] w fun e w' => ∃ g, e = .returned (.tuple #[.pointer (some ⟨g, 0, none⟩), .int .i64 0]) ∧ NodeOf w' n g (-1) p [(p, v)] ∧ w.heap.size ≤ g ∧ Below w.heap.size w w' := by
  have HC := zb_right A n c w
  rw [show rightB n = true by unfold rightB; simp; omega] at HC
  have HC' := hide HC
  have HD := hide (clone_u64 A n c p w hp (by omega))
  have HP := hide hp
  clear HC hp
  go_enter Try.func45, Try.ntmps45
  go_wp2_with fail
  refine HC'.out.mono ?_
  rintro e w1 ⟨rfl, rfl⟩
  go_wp2_with fail
  refine HD.out.mono ?_
  rintro e w2 ⟨v2, rfl, ho, hb⟩
  obtain ⟨A2, c2, rfl, hc2, hR⟩ := Rw.of_own ho
  have HR := hide hR
  clear ho hR
  go_wp2
  go_ret2
  have b3 := (Below.refl w2.heap.size w2).alloc (Nat.le_refl _) (.cells (nodeCells (-1) A2 n c2 v none ⟨1, v, v, v⟩) 120)
  refine ⟨_, rfl, .leaf hv ⟨HP.out.1, HR.out.below b3, HP.out.2.2⟩ hc2 (Blk.new w2 _ _), hb.size, below_then hb b3⟩
/-- The row lies in a block of this type. -/
def TyRow (w : World) (e : TypeId) (A : Option Addr) (n : Nat) : Prop := 0 < n → ∃ b o cs fr, A = some ⟨b, o, none⟩ ∧ w.heap[b]? = some (.cells cs e fr)
theorem TyRow.below {w w' : World} {e : TypeId} {A : Option Addr} {n : Nat} (h : TyRow w e A n) (hb : Below w.heap.size w w') : TyRow w' e A n := by
  intro hn
  obtain ⟨b, o, cs, fr, h1, h2⟩ := h hn
  have hlt : b < w.heap.size := by
    rcases Nat.lt_or_ge b w.heap.size with h3 | h3
    · exact h3
    · rw [Array.getElem?_eq_none h3] at h2
      cases h2
  exact ⟨b, o, cs, fr, h1, (hb.block b hlt).trans h2⟩
/-- A row of one cell an element, read at i. -/
theorem Rw.one {w : World} {A : Option Addr} {n i : Nat} {vs : List Value} (h : Rw w 1 A n vs) (hi : i < n) : ∃ b o, A = some ⟨b, o, none⟩ ∧ b < w.heap.size ∧ ∃ u, vs[i]? = some u ∧ w.cell? ⟨b, o + i, none⟩ = some u := by
  obtain ⟨b, o, e, hb, hc⟩ := h.at_ (by omega)
  have hl := h.1
  have : i < vs.length := by omega
  exact ⟨b, o, e, hb, vs[i], by simp [this], hc i _ (by simp [this])⟩
theorem run_slice_to {P : Program} {t e sz : Nat} (ht : P.underlying t = some (.slice e)) (hz : ∀ w, (sizeOf e).run P w = .ok sz w) (A : Option Addr) (n c j : Nat) (hj : j ≤ c) (w : World) :
    (Instr.slice t (.slice A n c) none (some (.int .i64 (j : Int))) none).run P w = .ok (.slice A j c) w := by
  have h0 : (0 : Int) ≤ (j : Int) := by omega
  have h1 : (j : Int) ≤ (c : Int) := by omega
  rcases A with _ | A
  · simp [Instr.slice, run_underlying ht, Instr.sliceBounds, Instr.sliceBound, asIntOf, h0, h1, hz, Addr.add]
    intro h
    omega
  · simp [Instr.slice, run_underlying ht, Instr.sliceBounds, Instr.sliceBound, asIntOf, h0, h1, hz, Addr.add]
    intro h
    omega
theorem Rw.cut {w : World} {sz n i c : Nat} {A : Option Addr} {vs : List Value} (h : Rw w sz A n vs) (hi : i ≤ n) (hc : n ≤ c) : Rw w sz (cutA A c sz i) (n - i) (vs.drop (i * sz)) := by
  refine ⟨by rw [List.length_drop, h.1, Nat.sub_mul], fun hp => ?_⟩
  obtain ⟨b, o, rfl, hb, hcl⟩ := h.2 (by omega)
  refine ⟨b, o + i * sz, ?_, hb, fun j u hu => ?_⟩
  · unfold cutA
    rw [if_neg (by omega)]
    by_cases h0 : i * sz = 0 <;> simp [Addr.add, h0]
  · rw [List.getElem?_drop] at hu
    rw [Nat.add_assoc]
    exact hcl _ _ hu
theorem info_i : (Try.prog.info? 3).map (fun i => (i.zero, i.size, i.bytes)) = some (some (.int .i64 0), 1, 8) := by kernel_rfl
theorem info_u : (Try.prog.info? 50).map (fun i => (i.zero, i.size, i.bytes)) = some (some (.int .u64 0), 1, 8) := by kernel_rfl
section
variable {P : Program} (w : World)
/-- append onto an own row as a step of a region that draws: below the base all stands. -/
theorem step_app {ops : Array Oper} {o : Oper} {a : Act} {K : Act → World → Prop} {Q : Exit → Act → World → Prop} {E : Prop} (hgd : o.guard = none) (s x : Operand) (t : TypeId)
    (ho : o.op = .call { callee := .builtin .append, args := #[s, x], argTypes := #[t, t] })
    (base : Nat) (e : TypeId) (z : Value) (size bytes : Nat) (ht : P.underlying t = some (.slice e)) (hinfo : (P.info? e).map (fun i => (i.zero, i.size, i.bytes)) = some (some z, size, bytes)) (hzs : z.cells.size = size) (hsz : 0 < size)
    (v : Value) (n : Nat) (xs : List Value) (hs : a.eval s = v) (hown : w.ownsRow base e size v n xs)
    (A : Option Addr) (m c : Nat) (news : List Value) (hx : a.eval x = .slice A m c) (w0 : World) (hb : Below base w0 w) (hbase : base ≤ w0.heap.size) (hr : Rw w size A m news) (h1 : ∀ u ∈ news, u.oneCell' = true)
    (h63 : n + m ≤ maxLen) (hbytes : (n + m) * bytes ≤ 140737488355328)
    (h : ∀ v' w', w'.ownsRow base e size v' (n + m) (xs ++ news) → Below base w0 w' → w.grownBy w' v.ownBlock → K (a.put o.dst v') w') :
    if Region.wanted o (yielded ops a.tmps) = true then Oper.wp P o a w K Q else E := by
  obtain ⟨i, hi, hz, hsize, hby⟩ := info_parts hinfo
  exact step_append_any w hgd s x t ho base e i z size bytes ht hi hz hsize hby hzs hsz v n xs hs hown A m c news hx hr h1 h63 hbytes (Nat.le_trans hbase hb.size) fun v' w' g1 g2 _ => h v' w' g1 (below_own hb g2 (Nat.le_trans hbase hb.size) (own_base hown)) g2
/-- .. at a plain region's list. -/
theorem app_b {ops : Array Oper} {rest : List Oper} {o : Oper} {a : Act} {Q : Exit → Act → World → Prop} (hgd : o.guard = none) (s x : Operand) (t : TypeId)
    (ho : o.op = .call { callee := .builtin .append, args := #[s, x], argTypes := #[t, t] })
    (base : Nat) (e : TypeId) (z : Value) (size bytes : Nat) (ht : P.underlying t = some (.slice e)) (hinfo : (P.info? e).map (fun i => (i.zero, i.size, i.bytes)) = some (some z, size, bytes)) (hzs : z.cells.size = size) (hsz : 0 < size)
    (v : Value) (n : Nat) (xs : List Value) (hs : a.eval s = v) (hown : w.ownsRow base e size v n xs)
    (A : Option Addr) (m c : Nat) (news : List Value) (hx : a.eval x = .slice A m c) (w0 : World) (hb : Below base w0 w) (hbase : base ≤ w0.heap.size) (hr : Rw w size A m news) (h1 : ∀ u ∈ news, u.oneCell' = true)
    (h63 : n + m ≤ maxLen) (hbytes : (n + m) * bytes ≤ 140737488355328)
    (h : ∀ v' w', w'.ownsRow base e size v' (n + m) (xs ++ news) → Below base w0 w' → w.grownBy w' v.ownBlock → wpList P ops Q rest (a.put o.dst v') w') : wpList P ops Q (o :: rest) a w := by
  obtain ⟨i, hi, hz, hsize, hby⟩ := info_parts hinfo
  exact wpList_append_any w hgd s x t ho base e i z size bytes ht hi hz hsize hby hzs hsz v n xs hs hown A m c news hx hr h1 h63 hbytes (Nat.le_trans hbase hb.size) fun v' w' g1 g2 _ => h v' w' g1 (below_own hb g2 (Nat.le_trans hbase hb.size) (own_base hown)) g2
end
/-- Two own rows of different types lie in different blocks. -/
theorem own_apart {w : World} {b b' : Nat} {e e' : TypeId} {s s' n n' : Nat} {v v' : Value} {xs xs' : List Value} (h : w.ownsRow b e s v n xs) (h' : w.ownsRow b' e' s' v' n' xs') (hne : e ≠ e') : v.ownBlock = none ∨ v.ownBlock ≠ v'.ownBlock := by
  rcases h.2 with ⟨rfl, _⟩ | ⟨g, cap, cur, rfl, _, hg, _⟩
  · exact .inl rfl
  · right
    rcases h'.2 with ⟨rfl, _⟩ | ⟨g', cap', cur', rfl, _, hg', _⟩
    · simp [Value.ownBlock]
    · intro hh
      have hh : g = g' := by simpa [Value.ownBlock] using hh
      subst hh
      rw [hg] at hg'
      injection hg' with hg'
      injection hg' with _ hg'
      exact hne hg'
/-- One new element, laid into a block of its own. -/
theorem Rw.new1 (w : World) (e : TypeId) (cs : Array Value) {sz : Nat} (h : cs.size = sz) : Rw (w.alloc (.cells cs e)) sz (some ⟨w.heap.size, 0, none⟩) 1 cs.toList :=
  Rw.of_blk (t := e) (cs := cs) (Blk.new w e cs) (by simpa using h) (fun j u hu => by simpa using hu)
theorem Blk.set1 {w : World} {g i : Nat} {t : TypeId} {cs : Array Value} (h : Blk w g t cs) (u : Value) : Blk (w.setCell ⟨g, i, none⟩ u) g t (cs.setIfInBounds i u) := by
  unfold Blk at *
  simp only [World.setCell, Array.getElem?_modify, h]
  simp
theorem Blk.set3 {w : World} {g : Nat} {t : TypeId} {a b c x y z : Value} (h : Blk w g t #[a, b, c]) : Blk (((w.setCell ⟨g, 0, none⟩ x).setCell ⟨g, 1, none⟩ y).setCell ⟨g, 2, none⟩ z) g t #[x, y, z] := by
  exact ((h.set1 x).set1 y).set1 z
theorem own_set3 {w : World} {base : Nat} {e : TypeId} {size : Nat} {v : Value} {n g : Nat} {xs : List Value} {x y z : Value} (h : w.ownsRow base e size v n xs) (hg : g < base) : (((w.setCell ⟨g, 0, none⟩ x).setCell ⟨g, 1, none⟩ y).setCell ⟨g, 2, none⟩ z).ownsRow base e size v n xs :=
  ownsRow_setCell_below (ownsRow_setCell_below (ownsRow_setCell_below h (a := ⟨g, 0, none⟩) hg x) (a := ⟨g, 1, none⟩) hg y) (a := ⟨g, 2, none⟩) hg z
theorem own_rw {w : World} {base : Nat} {e : TypeId} {size n : Nat} {A : Option Addr} {c : Nat} {xs : List Value} (h : w.ownsRow base e size (.slice A n c) n xs) : n ≤ c ∧ Rw w size A n xs := by
  obtain ⟨A', c', hv, hl, hR⟩ := Rw.of_own h
  injection hv with h1 h2 h3
  subst h1 h3
  exact ⟨hl, hR⟩
theorem own_ty {w : World} {base : Nat} {e : TypeId} {size n : Nat} {A : Option Addr} {c : Nat} {xs : List Value} (h : w.ownsRow base e size (.slice A n c) n xs) : TyRow w e A n := by
  intro hn
  rcases h.2 with ⟨_, h0⟩ | ⟨g, cap, cur, hv, _, hg, _⟩
  · omega
  · injection hv with h1 h2 h3
    exact ⟨g, 0, cur, (0, 0), h1, hg⟩
theorem Rw.setc {w : World} {sz n g i : Nat} {e t : TypeId} {A : Option Addr} {vs : List Value} {cs : Array Value} (h : Rw w sz A n vs) (ht : TyRow w e A n) (hB : Blk w g t cs) (hne : e ≠ t) (u : Value) : Rw (w.setCell ⟨g, i, none⟩ u) sz A n vs ∧ TyRow (w.setCell ⟨g, i, none⟩ u) e A n := by
  refine ⟨⟨h.1, fun hn => ?_⟩, fun hn => ?_⟩
  · obtain ⟨b, o, rfl, hb, hc⟩ := h.2 hn
    obtain ⟨b', o', cs', fr, h1, h2⟩ := ht hn
    injection h1 with h1
    injection h1 with h1 h1'
    subst h1
    have hbg : b ≠ g := by
      intro hh
      subst hh
      unfold Blk at hB
      rw [hB] at h2
      injection h2 with h2
      injection h2 with _ h2
      exact hne h2.symm
    refine ⟨b, o, rfl, by simpa [World.setCell] using hb, fun j v hv => ?_⟩
    rw [World.cell?_of_block (w := w) (Below.heap_setCell w ⟨g, i, none⟩ u b hbg)]
    exact hc j v hv
  · obtain ⟨b', o', cs', fr, h1, h2⟩ := ht hn
    have hbg : b' ≠ g := by
      intro hh
      subst hh
      unfold Blk at hB
      rw [hB] at h2
      injection h2 with h2
      injection h2 with _ h2
      exact hne h2.symm
    exact ⟨b', o', cs', fr, h1, (Below.heap_setCell w ⟨g, i, none⟩ u b' hbg).trans h2⟩
theorem below_set3 {B g : Nat} {a w : World} {x y z : Value} (h : Below B a w) (hg : B ≤ g) : Below B a (((w.setCell ⟨g, 0, none⟩ x).setCell ⟨g, 1, none⟩ y).setCell ⟨g, 2, none⟩ z) :=
  ((h.setCell hg _).setCell hg _).setCell hg _
set_option maxHeartbeats 1000000 in
set_option maxRecDepth 100000 in
theorem nd_kid {w : World} {g : Nat} {lv : Int} {A : Option Addr} {k c v : Nat} {s : Sum4} {gs : Nat} {L : Th} (hB : Blk w g 120 (nodeCells lv A k c v (some ⟨gs, 0, none⟩) s)) (hS : SlotsAt_n w gs k L) (addr : Int) :
    Calls Try.prog 70 #[.pointer (some ⟨g, 0, none⟩), .int .i64 addr] w fun e w' => e = .returned ((getTh L addr).getD (.pointer none)) ∧ Below w.heap.size w w' := by
  have HC := hide (nd_slots hB)
  have HG := hide (get_n gs k L addr w hS)
  generalize (getTh L addr).getD (.pointer none) = x at HG ⊢
  generalize (getTh L addr).isSome = b at HG
  clear hB hS
  go_enter Try.func70, Try.ntmps70
  go_wp2_with fail
  refine HC.out.mono ?_
  rintro e w1 ⟨rfl, rfl⟩
  go_wp2_with fail
  refine HG.out.mono ?_
  rintro e w1 ⟨rfl, hb⟩
  go_wp2
  go_ret
  exact ⟨rfl, hb⟩
set_option maxHeartbeats 1000000 in
set_option maxRecDepth 100000 in
theorem nd_kid_leaf {w : World} {g : Nat} {lv : Int} {A : Option Addr} {k c v : Nat} {s : Sum4} (hB : Blk w g 120 (nodeCells lv A k c v none s)) (addr : Int) :
    Calls Try.prog 70 #[.pointer (some ⟨g, 0, none⟩), .int .i64 addr] w fun e w' => e = .returned (.pointer none) ∧ w = w' := by
  have HC := hide (nd_slots hB)
  have HG := hide (get_nil_n addr w)
  clear hB
  go_enter Try.func70, Try.ntmps70
  go_wp2_with fail
  refine HC.out.mono ?_
  rintro e w1 ⟨rfl, rfl⟩
  go_wp2_with fail
  refine HG.out.mono ?_
  rintro e w1 ⟨rfl, rfl⟩
  go_wp2
  go_ret
  exact ⟨rfl, rfl⟩
set_option maxHeartbeats 1000000 in
set_option maxRecDepth 100000 in
theorem nd_from {w : World} {g : Nat} {lv : Int} {A : Option Addr} {k c v : Nat} {s : Sum4} {gs : Nat} {L : Th} (hB : Blk w g 120 (nodeCells lv A k c v (some ⟨gs, 0, none⟩) s)) (hS : SlotsAt_n w gs k L) (addr : Int) :
    Calls Try.prog 85 #[.pointer (some ⟨g, 0, none⟩), .int .i64 addr] w fun e w' => (∃ (a : Nat) (x : Value), e = .returned (.tuple #[.int .i64 a, x]) ∧ (fromTh L addr = some (a, x) ∨ (fromTh L addr = none ∧ a = 0 ∧ x = .pointer none))) ∧ Below w.heap.size w w' := by
  have HC := hide (nd_slots hB)
  have HG := hide (from_n gs k L addr w hS)
  clear hB hS
  go_enter Try.func85, Try.ntmps85
  go_wp2_with fail
  refine HC.out.mono ?_
  rintro e w1 ⟨rfl, rfl⟩
  go_wp2_with fail
  refine HG.out.mono ?_
  rintro e w1 ⟨⟨a, x, ok, rfl, h1, h2⟩, hb⟩
  have H1 := hide h1
  have H2 := hide h2
  clear h1 h2
  go_wp2
  go_ret2
  refine ⟨⟨a, x, rfl, ?_⟩, hb⟩
  cases ok with
  | true => exact .inl (H1.out rfl)
  | false => exact .inr (H2.out rfl)
set_option maxHeartbeats 1000000 in
set_option maxRecDepth 100000 in
theorem nd_from_leaf {w : World} {g : Nat} {lv : Int} {A : Option Addr} {k c v : Nat} {s : Sum4} (hB : Blk w g 120 (nodeCells lv A k c v none s)) (addr : Int) :
    Calls Try.prog 85 #[.pointer (some ⟨g, 0, none⟩), .int .i64 addr] w fun e w' => e = .returned (.tuple #[.int .i64 0, .pointer none]) ∧ w = w' := by
  have HC := hide (nd_slots hB)
  have HG := hide (from_nil_n addr w)
  clear hB
  go_enter Try.func85, Try.ntmps85
  go_wp2_with fail
  refine HC.out.mono ?_
  rintro e w1 ⟨rfl, rfl⟩
  go_wp2_with fail
  refine HG.out.mono ?_
  rintro e w1 ⟨rfl, rfl⟩
  go_wp2
  go_ret2
  exact ⟨rfl, rfl⟩
set_option maxHeartbeats 1000000 in
set_option maxRecDepth 100000 in
theorem nd_slots_nil (w : World) : Calls Try.prog 88 #[.pointer none] w fun e w' => e = .returned (.pointer none) ∧ w = w' := by
  go_enter Try.func88, Try.ntmps88
  go_wp2
  go_ret
  exact ⟨rfl, rfl⟩
set_option maxHeartbeats 1000000 in
set_option maxRecDepth 100000 in
theorem nd_k_nil (w : World) : Calls Try.prog 71 #[.pointer none] w fun e w' => e = .returned (.int .i64 0) ∧ w = w' := by
  go_enter Try.func71, Try.ntmps71
  go_wp2
  go_ret
  exact ⟨rfl, rfl⟩
set_option maxHeartbeats 1000000 in
set_option maxRecDepth 100000 in
theorem nd_level_nil (w : World) : Calls Try.prog 60 #[.pointer none] w fun e w' => e = .returned (.int .i64 (-1)) ∧ w = w' := by
  go_enter Try.func60, Try.ntmps60
  go_wp2
  go_ret
  exact ⟨rfl, rfl⟩
set_option maxHeartbeats 1000000 in
set_option maxRecDepth 100000 in
theorem nd_prefix_nil (w : World) : Calls Try.prog 62 #[.pointer none] w fun e w' => e = .returned (.slice none 0 0) ∧ w = w' := by
  go_enter Try.func62, Try.ntmps62
  go_wp2
  go_ret
  exact ⟨rfl, rfl⟩
set_option maxHeartbeats 1000000 in
set_option maxRecDepth 100000 in
theorem nd_kid_nil (addr : Int) (w : World) : Calls Try.prog 70 #[.pointer none, .int .i64 addr] w fun e w' => e = .returned (.pointer none) ∧ w = w' := by
  go_enter Try.func70, Try.ntmps70
  go_wp2_with fail
  refine (nd_slots_nil _).mono ?_
  rintro e w1 ⟨rfl, rfl⟩
  go_wp2_with fail
  refine (get_nil_n _ _).mono ?_
  rintro e w1 ⟨rfl, rfl⟩
  go_wp2
  go_ret
  exact ⟨rfl, rfl⟩
set_option maxHeartbeats 1000000 in
set_option maxRecDepth 100000 in
theorem nd_from_nil (addr : Int) (w : World) : Calls Try.prog 85 #[.pointer none, .int .i64 addr] w fun e w' => e = .returned (.tuple #[.int .i64 0, .pointer none]) ∧ w = w' := by
  go_enter Try.func85, Try.ntmps85
  go_wp2_with fail
  refine (nd_slots_nil _).mono ?_
  rintro e w1 ⟨rfl, rfl⟩
  go_wp2_with fail
  refine (from_nil_n _ _).mono ?_
  rintro e w1 ⟨rfl, rfl⟩
  go_wp2
  go_ret2
  exact ⟨rfl, rfl⟩
set_option maxHeartbeats 1000000 in
set_option maxRecDepth 100000 in
theorem nd_covers_nil (A : Option Addr) (n c : Nat) (w : World) : Calls Try.prog 61 #[.pointer none, .slice A n c] w fun e w' => e = .returned (.bool false) ∧ w = w' := by
  go_enter Try.func61, Try.ntmps61
  go_wp2
  go_ret
  exact ⟨rfl, rfl⟩
theorem cell_far1 {w : World} {b g i l : Nat} {u : Value} (hne : g ≠ b) : (w.setCell ⟨b, i, none⟩ u).cell? ⟨g, l, none⟩ = w.cell? ⟨g, l, none⟩ :=
  World.cell?_of_block (w := w) (Below.heap_setCell w ⟨b, i, none⟩ u g hne)
theorem cell_far2 {w : World} {b g i j l : Nat} {u v : Value} (hne : g ≠ b) : ((w.setCell ⟨b, i, none⟩ u).setCell ⟨b, j, none⟩ v).cell? ⟨g, l, none⟩ = w.cell? ⟨g, l, none⟩ :=
  (cell_far1 hne).trans (cell_far1 hne)
def Sum4.val (s : Sum4) : Value := .agg #[.int .u64 (s.c : Int), .int .u64 (s.s : Int), .int .u64 (s.mn : Int), .int .u64 (s.mx : Int)]
set_option maxHeartbeats 1000000 in
set_option maxRecDepth 100000 in
theorem nd_sums_nil (w : World) : Calls Try.prog 55 #[.pointer none] w fun e w' => e = .returned (Sum4.val ⟨0, 0, 0, 0⟩) ∧ Below w.heap.size w w' := by
  go_enter Try.func55, Try.ntmps55
  go_wp2
  refine bodyPost_ret (v := Sum4.val ⟨0, 0, 0, 0⟩) (by simp [results, Try.results55, go_sem, Sum4.val]) rfl ⟨rfl, ?_⟩
  exact below_alloc (Below.refl _ _) (Nat.le_refl _) _
set_option maxHeartbeats 1000000 in
set_option maxRecDepth 100000 in
theorem nd_sums {w : World} {g : Nat} {lv : Int} {A : Option Addr} {k c v : Nat} {kids : Option Addr} {s : Sum4} (hB : Blk w g 120 (nodeCells lv A k c v kids s)) :
    Calls Try.prog 55 #[.pointer (some ⟨g, 0, none⟩)] w fun e w' => e = .returned s.val ∧ Below w.heap.size w w' := by
  have hB' := hB.alloc (.cells #[.int .u64 0, .int .u64 0, .int .u64 0, .int .u64 0] 102)
  have c4 := hB'.cell 4
  have c5 := hB'.cell 5
  have c6 := hB'.cell 6
  have c7 := hB'.cell 7
  simp [nodeCells] at c4 c5 c6 c7
  clear hB hB'
  go_enter Try.func55, Try.ntmps55
  go_wp2
  refine bodyPost_ret (v := s.val) (by simp [results, Try.results55, go_sem, Sum4.val]) rfl ⟨rfl, ?_⟩
  exact below_alloc (Below.refl _ _) (Nat.le_refl _) _
set_option maxHeartbeats 1000000 in
set_option maxRecDepth 100000 in
theorem nd_entry_nil (w : World) : Calls Try.prog 73 #[.pointer none] w fun e w' => e = .returned (.tuple #[.agg #[.slice none 0 0, .int .u64 0], .bool false]) ∧ Below w.heap.size w w' := by
  go_enter Try.func73, Try.ntmps73
  go_wp2
  refine bodyPost_ret (v := .tuple #[.agg #[.slice none 0 0, .int .u64 0], .bool false]) (by simp [results, Try.results73, go_sem]) rfl ⟨rfl, ?_⟩
  exact below_alloc (Below.refl _ _) (Nat.le_refl _) _
set_option maxHeartbeats 1000000 in
set_option maxRecDepth 100000 in
theorem nd_entry_fork {w : World} {g : Nat} {lv : Int} {A : Option Addr} {k c v gs : Nat} {s : Sum4} (hB : Blk w g 120 (nodeCells lv A k c v (some ⟨gs, 0, none⟩) s)) :
    Calls Try.prog 73 #[.pointer (some ⟨g, 0, none⟩)] w fun e w' => e = .returned (.tuple #[.agg #[.slice none 0 0, .int .u64 0], .bool false]) ∧ Below w.heap.size w w' := by
  have c3 := (hB.alloc (.cells #[.slice none 0 0, .int .u64 0] 63)).cell 3
  simp [nodeCells] at c3
  clear hB
  go_enter Try.func73, Try.ntmps73
  go_wp2
  refine bodyPost_ret (v := .tuple #[.agg #[.slice none 0 0, .int .u64 0], .bool false]) (by simp [results, Try.results73, go_sem]) rfl ⟨rfl, ?_⟩
  exact below_alloc (Below.refl _ _) (Nat.le_refl _) _
set_option maxHeartbeats 1000000 in
set_option maxRecDepth 100000 in
theorem nd_entry_leaf {w : World} {g : Nat} {lv : Int} {A : Option Addr} {k c v : Nat} {s : Sum4} {p : List Nat} (hB : Blk w g 120 (nodeCells lv A k c v none s)) (hp : Pt w A k p) (hk : k ≤ 16) :
    Calls Try.prog 73 #[.pointer (some ⟨g, 0, none⟩)] w fun e w' => ∃ B d, e = .returned (.tuple #[.agg #[.slice B k d, .int .u64 (v : Int)], .bool true]) ∧ w'.ownsRow (w.heap.size + 1) 50 1 (.slice B k d) k (u64s p) ∧ Below w.heap.size w w' := by
  have b1 := (Below.refl w.heap.size w).alloc (Nat.le_refl _) (.cells #[.slice none 0 0, .int .u64 0] 63)
  have hB1 := hB.alloc (.cells #[.slice none 0 0, .int .u64 0] 63)
  have hN1 := Blk.new w 63 #[.slice none 0 0, .int .u64 0]
  have hp1 := hp.below b1
  have hs1 : (w.alloc (.cells #[.slice none 0 0, .int .u64 0] 63)).heap.size = w.heap.size + 1 := by simp
  have c3 := hB1.cell 3
  have c1 := hB1.cell 1
  have c2 := hB1.cell 2
  simp [nodeCells] at c1 c2 c3
  have hgl := hB.lt
  clear hB
  go_enter Try.func73, Try.ntmps73
  go_upto_region 3 with fail
  generalize w.alloc (.cells #[.slice none 0 0, .int .u64 0] 63) = w1 at *
  have hg1 : g < w1.heap.size := by omega
  go_region_held3 (fun w' => w'.cell? ⟨g, 1, none⟩ = some (.slice A k c) ∧ w'.cell? ⟨g, 2, none⟩ = some (.int .u64 (v : Int)))
    (first
      | go_keep
      | exact hk2
      | exact hk3)
    (first
      | (go_at_call 75
         refine (clone_u64 A k c p w1.drew (hp1.below (Below.refl _ w1).drew) (by omega)).mono ?_
         rintro e w2 ⟨v2, rfl, ho2, hb2⟩
         have hc2 : Below w1.heap.size w1 w2 := (Below.refl _ w1).drew.trans hb2
         obtain ⟨B, d, rfl, -, -⟩ := Rw.of_own ho2
         have hk2 : w2.cell? ⟨g, 1, none⟩ = some (.slice A k c) ∧ w2.cell? ⟨g, 2, none⟩ = some (.int .u64 (v : Int)) := ⟨(hc2.cell (p := ⟨g, 1, none⟩) hg1).trans c1, (hc2.cell (p := ⟨g, 2, none⟩) hg1).trans c2⟩
         have hN2 := hN1.below hc2
         have y0 := hN2.cell 0
         have y1 := hN2.cell 1
         have z0 := hN2.frozen 0
         have z1 := hN2.frozen 1
         try simp at y0 y1
         have hne : g ≠ w.heap.size := by omega
         have hk3 : ((w2.setCell ⟨w.heap.size, 0, none⟩ (.slice B k d)).setCell ⟨w.heap.size, 1, none⟩ (.int .u64 (v : Int))).cell? ⟨g, 1, none⟩ = some (.slice A k c) ∧ ((w2.setCell ⟨w.heap.size, 0, none⟩ (.slice B k d)).setCell ⟨w.heap.size, 1, none⟩ (.int .u64 (v : Int))).cell? ⟨g, 2, none⟩ = some (.int .u64 (v : Int)) :=
           ⟨(cell_far2 hne).trans hk2.1, (cell_far2 hne).trans hk2.2⟩))
  have e3 : Blk ((w2.setCell ⟨w.heap.size, 0, none⟩ (.slice B k d)).setCell ⟨w.heap.size, 1, none⟩ (.int .u64 (v : Int))) w.heap.size 63 #[.slice B k d, .int .u64 (v : Int)] := (hN2.set1 _).set1 _
  have b3 : Below w.heap.size w ((w2.setCell ⟨w.heap.size, 0, none⟩ (.slice B k d)).setCell ⟨w.heap.size, 1, none⟩ (.int .u64 (v : Int))) := ((below_then b1 hc2).setCell (Nat.le_refl _) _).setCell (Nat.le_refl _) _
  have o3 : ((w2.setCell ⟨w.heap.size, 0, none⟩ (.slice B k d)).setCell ⟨w.heap.size, 1, none⟩ (.int .u64 (v : Int))).ownsRow (w.heap.size + 1) 50 1 (.slice B k d) k (u64s p) := by
    have hd : w1.drew.heap.size = w.heap.size + 1 := hs1
    rw [hd] at ho2
    exact ownsRow_setCell_below (ownsRow_setCell_below ho2 (a := ⟨w.heap.size, 0, none⟩) (by simp) _) (a := ⟨w.heap.size, 1, none⟩) (by simp) _
  generalize (w2.setCell ⟨w.heap.size, 0, none⟩ (.slice B k d)).setCell ⟨w.heap.size, 1, none⟩ (.int .u64 (v : Int)) = w3 at *
  have g0 := e3.cell 0
  have g1 := e3.cell 1
  try simp at g0 g1
  have HO := hide o3
  clear o3 ho2 y0 y1 z0 z1 hk2 hk3
  go_wp2
  refine bodyPost_ret (v := .tuple #[.agg #[.slice B k d, .int .u64 (v : Int)], .bool true]) (by simp [results, Try.results73, go_sem, g0, g1]) rfl ⟨B, d, rfl, HO.out, b3⟩
end Go.Proofs.Ytfkpanpageeklaa
