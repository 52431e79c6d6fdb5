/- Nodes: what they hold, what they tell. -/
import Derived.Test.YtlgdllohmmmegaaSlN
import Derived.Test.YtlgdllohmmmegaaZA
import Derived.Test.YtlgdllohmmmegaaProg
import Derived.Test.YtlgdllohmmmegaaBaA
import Derived.Deep.RegionHeld3
import Derived.Deep.Cut
set_option linter.unusedSimpArgs false
set_option linter.unusedVariables false
namespace Go.Proofs.Ytlgdllohmmmegaa
open Go.RowKit
/-- A kid: where it hangs, its block, its level, its prefix, its entries. -/
structure Kid where
  at_ : Nat
  blk : Nat
  lv : Int
  pre : List Nat
  es : List Ent
def kidTh (ks : List Kid) : Th := ks.map fun q => (q.at_, Value.pointer (some ⟨q.blk, 0, none⟩))
def kidEs (ks : List Kid) : List Ent := ks.flatMap (·.es)
/-- The node's block. -/
def nodeCells (lv : Int) (A : Option Addr) (k c : Nat) (v : Nat) (kids : Option Addr) (s : Sum4) : Array Value :=
  #[.int .i64 lv, .slice A k c, .int .u64 (v : Int), .pointer kids, .int .u64 (s.c : Int), .int .u64 (s.s : Int), .int .u64 (s.mn : Int), .int .u64 (s.mx : Int)]
theorem Pt.zp {w : World} {A : Option Addr} {k : Nat} {p : List Nat} (h : Pt w A k p) : Zp k p := ⟨h.1, h.2.2⟩
/-- The row lies in a block of this type. -/
def TyRow (w : World) (e : TypeId) (A : Option Addr) (n : Nat) : Prop := 0 < n → ∃ b o cs fr, A = some ⟨b, o, none⟩ ∧ w.heap[b]? = some (.cells cs e fr)
theorem TyRow.below {w w' : World} {e : TypeId} {A : Option Addr} {n : Nat} (h : TyRow w e A n) (hb : Below w.heap.size w w') : TyRow w' e A n := by
  intro hn
  obtain ⟨b, o, cs, fr, h1, h2⟩ := h hn
  have hlt : b < w.heap.size := by
    rcases Nat.lt_or_ge b w.heap.size with h3 | h3
    · exact h3
    · rw [Array.getElem?_eq_none h3] at h2
      cases h2
  exact ⟨b, o, cs, fr, h1, (hb.block b hlt).trans h2⟩
/-- A row of one cell an element, read at i. -/
theorem Rw.one {w : World} {A : Option Addr} {n i : Nat} {vs : List Value} (h : Rw w 1 A n vs) (hi : i < n) : ∃ b o, A = some ⟨b, o, none⟩ ∧ b < w.heap.size ∧ ∃ u, vs[i]? = some u ∧ w.cell? ⟨b, o + i, none⟩ = some u := by
  obtain ⟨b, o, e, hb, hc⟩ := h.at_ (by omega)
  have hl := h.1
  have : i < vs.length := by omega
  exact ⟨b, o, e, hb, vs[i], by simp [this], hc i _ (by simp [this])⟩
theorem run_slice_to {P : Program} {t e sz : Nat} (ht : P.underlying t = some (.slice e)) (hz : ∀ w, (sizeOf e).run P w = .ok sz w) (A : Option Addr) (n c j : Nat) (hj : j ≤ c) (w : World) :
    (Instr.slice t (.slice A n c) none (some (.int .i64 (j : Int))) none).run P w = .ok (.slice A j c) w := by
  have h0 : (0 : Int) ≤ (j : Int) := by omega
  have h1 : (j : Int) ≤ (c : Int) := by omega
  rcases A with _ | A
  · simp [Instr.slice, run_underlying ht, Instr.sliceBounds, Instr.sliceBound, asIntOf, h0, h1, hz, Addr.add]
    intro h
    omega
  · simp [Instr.slice, run_underlying ht, Instr.sliceBounds, Instr.sliceBound, asIntOf, h0, h1, hz, Addr.add]
    intro h
    omega
theorem Rw.cut {w : World} {sz n i c : Nat} {A : Option Addr} {vs : List Value} (h : Rw w sz A n vs) (hi : i ≤ n) (hc : n ≤ c) : Rw w sz (cutA A c sz i) (n - i) (vs.drop (i * sz)) := by
  refine ⟨by rw [List.length_drop, h.1, Nat.sub_mul], fun hp => ?_⟩
  obtain ⟨b, o, rfl, hb, hcl⟩ := h.2 (by omega)
  refine ⟨b, o + i * sz, ?_, hb, fun j u hu => ?_⟩
  · unfold cutA
    rw [if_neg (by omega)]
    by_cases h0 : i * sz = 0 <;> simp [Addr.add, h0]
  · rw [List.getElem?_drop] at hu
    rw [Nat.add_assoc]
    exact hcl _ _ hu
theorem info_i : (Try.prog.info? 3).map (fun i => (i.zero, i.size, i.bytes)) = some (some (.int .i64 0), 1, 8) := by kernel_rfl
theorem info_u : (Try.prog.info? 43).map (fun i => (i.zero, i.size, i.bytes)) = some (some (.int .u64 0), 1, 8) := by kernel_rfl
section
variable {P : Program} (w : World)
/-- append onto an own row as a step of a region that draws: below the base all stands. -/
theorem step_app {ops : Array Oper} {o : Oper} {a : Act} {K : Act → World → Prop} {Q : Exit → Act → World → Prop} {E : Prop} (hgd : o.guard = none) (s x : Operand) (t : TypeId)
    (ho : o.op = .call { callee := .builtin .append, args := #[s, x], argTypes := #[t, t] })
    (base : Nat) (e : TypeId) (z : Value) (size bytes : Nat) (ht : P.underlying t = some (.slice e)) (hinfo : (P.info? e).map (fun i => (i.zero, i.size, i.bytes)) = some (some z, size, bytes)) (hzs : z.cells.size = size) (hsz : 0 < size)
    (v : Value) (n : Nat) (xs : List Value) (hs : a.eval s = v) (hown : w.ownsRow base e size v n xs)
    (A : Option Addr) (m c : Nat) (news : List Value) (hx : a.eval x = .slice A m c) (w0 : World) (hb : Below base w0 w) (hbase : base ≤ w0.heap.size) (hr : Rw w size A m news) (h1 : ∀ u ∈ news, u.oneCell' = true)
    (h63 : n + m ≤ maxLen) (hbytes : (n + m) * bytes ≤ 140737488355328)
    (h : ∀ v' w', w'.ownsRow base e size v' (n + m) (xs ++ news) → Below base w0 w' → w.grownBy w' v.ownBlock → K (a.put o.dst v') w') :
    if Region.wanted o (yielded ops a.tmps) = true then Oper.wp P o a w K Q else E := by
  obtain ⟨i, hi, hz, hsize, hby⟩ := info_parts hinfo
  exact step_append_any w hgd s x t ho base e i z size bytes ht hi hz hsize hby hzs hsz v n xs hs hown A m c news hx hr h1 h63 hbytes (Nat.le_trans hbase hb.size) fun v' w' g1 g2 _ => h v' w' g1 (below_own hb g2 (Nat.le_trans hbase hb.size) (own_base hown)) g2
/-- .. at a plain region's list. -/
theorem app_b {ops : Array Oper} {rest : List Oper} {o : Oper} {a : Act} {Q : Exit → Act → World → Prop} (hgd : o.guard = none) (s x : Operand) (t : TypeId)
    (ho : o.op = .call { callee := .builtin .append, args := #[s, x], argTypes := #[t, t] })
    (base : Nat) (e : TypeId) (z : Value) (size bytes : Nat) (ht : P.underlying t = some (.slice e)) (hinfo : (P.info? e).map (fun i => (i.zero, i.size, i.bytes)) = some (some z, size, bytes)) (hzs : z.cells.size = size) (hsz : 0 < size)
    (v : Value) (n : Nat) (xs : List Value) (hs : a.eval s = v) (hown : w.ownsRow base e size v n xs)
    (A : Option Addr) (m c : Nat) (news : List Value) (hx : a.eval x = .slice A m c) (w0 : World) (hb : Below base w0 w) (hbase : base ≤ w0.heap.size) (hr : Rw w size A m news) (h1 : ∀ u ∈ news, u.oneCell' = true)
    (h63 : n + m ≤ maxLen) (hbytes : (n + m) * bytes ≤ 140737488355328)
    (h : ∀ v' w', w'.ownsRow base e size v' (n + m) (xs ++ news) → Below base w0 w' → w.grownBy w' v.ownBlock → wpList P ops Q rest (a.put o.dst v') w') : wpList P ops Q (o :: rest) a w := by
  obtain ⟨i, hi, hz, hsize, hby⟩ := info_parts hinfo
  exact wpList_append_any w hgd s x t ho base e i z size bytes ht hi hz hsize hby hzs hsz v n xs hs hown A m c news hx hr h1 h63 hbytes (Nat.le_trans hbase hb.size) fun v' w' g1 g2 _ => h v' w' g1 (below_own hb g2 (Nat.le_trans hbase hb.size) (own_base hown)) g2
end
/-- Two own rows of different types lie in different blocks. -/
theorem own_apart {w : World} {b b' : Nat} {e e' : TypeId} {s s' n n' : Nat} {v v' : Value} {xs xs' : List Value} (h : w.ownsRow b e s v n xs) (h' : w.ownsRow b' e' s' v' n' xs') (hne : e ≠ e') : v.ownBlock = none ∨ v.ownBlock ≠ v'.ownBlock := by
  rcases h.2 with ⟨rfl, _⟩ | ⟨g, cap, cur, rfl, _, hg, _⟩
  · exact .inl rfl
  · right
    rcases h'.2 with ⟨rfl, _⟩ | ⟨g', cap', cur', rfl, _, hg', _⟩
    · simp [Value.ownBlock]
    · intro hh
      have hh : g = g' := by simpa [Value.ownBlock] using hh
      subst hh
      rw [hg] at hg'
      injection hg' with hg'
      injection hg' with _ hg'
      exact hne hg'
/-- One new element, laid into a block of its own. -/
theorem Rw.new1 (w : World) (e : TypeId) (cs : Array Value) {sz : Nat} (h : cs.size = sz) : Rw (w.alloc (.cells cs e)) sz (some ⟨w.heap.size, 0, none⟩) 1 cs.toList :=
  Rw.of_blk (t := e) (cs := cs) (Blk.new w e cs) (by simpa using h) (fun j u hu => by simpa using hu)
theorem Blk.set1 {w : World} {g i : Nat} {t : TypeId} {cs : Array Value} (h : Blk w g t cs) (u : Value) : Blk (w.setCell ⟨g, i, none⟩ u) g t (cs.setIfInBounds i u) := by
  unfold Blk at *
  simp only [World.setCell, Array.getElem?_modify, h]
  simp
theorem Blk.set3 {w : World} {g : Nat} {t : TypeId} {a b c x y z : Value} (h : Blk w g t #[a, b, c]) : Blk (((w.setCell ⟨g, 0, none⟩ x).setCell ⟨g, 1, none⟩ y).setCell ⟨g, 2, none⟩ z) g t #[x, y, z] := by
  exact ((h.set1 x).set1 y).set1 z
theorem own_set3 {w : World} {base : Nat} {e : TypeId} {size : Nat} {v : Value} {n g : Nat} {xs : List Value} {x y z : Value} (h : w.ownsRow base e size v n xs) (hg : g < base) : (((w.setCell ⟨g, 0, none⟩ x).setCell ⟨g, 1, none⟩ y).setCell ⟨g, 2, none⟩ z).ownsRow base e size v n xs :=
  ownsRow_setCell_below (ownsRow_setCell_below (ownsRow_setCell_below h (a := ⟨g, 0, none⟩) hg x) (a := ⟨g, 1, none⟩) hg y) (a := ⟨g, 2, none⟩) hg z
theorem own_rw {w : World} {base : Nat} {e : TypeId} {size n : Nat} {A : Option Addr} {c : Nat} {xs : List Value} (h : w.ownsRow base e size (.slice A n c) n xs) : n ≤ c ∧ Rw w size A n xs := by
  obtain ⟨A', c', hv, hl, hR⟩ := Rw.of_own h
  injection hv with h1 h2 h3
  subst h1 h3
  exact ⟨hl, hR⟩
theorem own_ty {w : World} {base : Nat} {e : TypeId} {size n : Nat} {A : Option Addr} {c : Nat} {xs : List Value} (h : w.ownsRow base e size (.slice A n c) n xs) : TyRow w e A n := by
  intro hn
  rcases h.2 with ⟨_, h0⟩ | ⟨g, cap, cur, hv, _, hg, _⟩
  · omega
  · injection hv with h1 h2 h3
    exact ⟨g, 0, cur, (0, 0), h1, hg⟩
theorem Rw.setc {w : World} {sz n g i : Nat} {e t : TypeId} {A : Option Addr} {vs : List Value} {cs : Array Value} (h : Rw w sz A n vs) (ht : TyRow w e A n) (hB : Blk w g t cs) (hne : e ≠ t) (u : Value) : Rw (w.setCell ⟨g, i, none⟩ u) sz A n vs ∧ TyRow (w.setCell ⟨g, i, none⟩ u) e A n := by
  refine ⟨⟨h.1, fun hn => ?_⟩, fun hn => ?_⟩
  · obtain ⟨b, o, rfl, hb, hc⟩ := h.2 hn
    obtain ⟨b', o', cs', fr, h1, h2⟩ := ht hn
    injection h1 with h1
    injection h1 with h1 h1'
    subst h1
    have hbg : b ≠ g := by
      intro hh
      subst hh
      unfold Blk at hB
      rw [hB] at h2
      injection h2 with h2
      injection h2 with _ h2
      exact hne h2.symm
    refine ⟨b, o, rfl, by simpa [World.setCell] using hb, fun j v hv => ?_⟩
    rw [World.cell?_of_block (w := w) (Below.heap_setCell w ⟨g, i, none⟩ u b hbg)]
    exact hc j v hv
  · obtain ⟨b', o', cs', fr, h1, h2⟩ := ht hn
    have hbg : b' ≠ g := by
      intro hh
      subst hh
      unfold Blk at hB
      rw [hB] at h2
      injection h2 with h2
      injection h2 with _ h2
      exact hne h2.symm
    exact ⟨b', o', cs', fr, h1, (Below.heap_setCell w ⟨g, i, none⟩ u b' hbg).trans h2⟩
theorem below_set3 {B g : Nat} {a w : World} {x y z : Value} (h : Below B a w) (hg : B ≤ g) : Below B a (((w.setCell ⟨g, 0, none⟩ x).setCell ⟨g, 1, none⟩ y).setCell ⟨g, 2, none⟩ z) :=
  ((h.setCell hg _).setCell hg _).setCell hg _
theorem cell_far1 {w : World} {b g i l : Nat} {u : Value} (hne : g ≠ b) : (w.setCell ⟨b, i, none⟩ u).cell? ⟨g, l, none⟩ = w.cell? ⟨g, l, none⟩ :=
  World.cell?_of_block (w := w) (Below.heap_setCell w ⟨b, i, none⟩ u g hne)
theorem cell_far2 {w : World} {b g i j l : Nat} {u v : Value} (hne : g ≠ b) : ((w.setCell ⟨b, i, none⟩ u).setCell ⟨b, j, none⟩ v).cell? ⟨g, l, none⟩ = w.cell? ⟨g, l, none⟩ :=
  (cell_far1 hne).trans (cell_far1 hne)
def Sum4.val (s : Sum4) : Value := .agg #[.int .u64 (s.c : Int), .int .u64 (s.s : Int), .int .u64 (s.mn : Int), .int .u64 (s.mx : Int)]
end Go.Proofs.Ytlgdllohmmmegaa
