/- The document's slots (chapter 5): Del. -/
import Derived.Test.YtkknfnjojamgjaaRefA
import Derived.Deep.RegionHeld3
set_option linter.unusedSimpArgs false
set_option linter.unusedVariables false
namespace Go.Proofs.Ytkknfnjojamgjaa
open Go.RowKit
theorem run_slice_to {P : Program} {t e sz : Nat} (ht : P.underlying t = some (.slice e)) (hz : ∀ w, (sizeOf e).run P w = .ok sz w) (A : Option Addr) (n c j : Nat) (hj : j ≤ c) (w : World) :
    (Instr.slice t (.slice A n c) none (some (.int .i64 (j : Int))) none).run P w = .ok (.slice A j c) w := by
  have h0 : (0 : Int) ≤ (j : Int) := by omega
  have h1 : (j : Int) ≤ (c : Int) := by omega
  rcases A with _ | A
  · simp [Instr.slice, run_underlying ht, Instr.sliceBounds, Instr.sliceBound, asIntOf, h0, h1, hz, Addr.add]
    intro h
    omega
  · simp [Instr.slice, run_underlying ht, Instr.sliceBounds, Instr.sliceBound, asIntOf, h0, h1, hz, Addr.add]
    intro h
    omega
theorem Rw.cut {w : World} {sz n i c : Nat} {A : Option Addr} {vs : List Value} (h : Rw w sz A n vs) (hi : i ≤ n) (hc : n ≤ c) : Rw w sz (cutA A c sz i) (n - i) (vs.drop (i * sz)) := by
  refine ⟨by rw [List.length_drop, h.1, Nat.sub_mul], fun hp => ?_⟩
  obtain ⟨b, o, rfl, hb, hcl⟩ := h.2 (by omega)
  refine ⟨b, o + i * sz, ?_, hb, fun j u hu => ?_⟩
  · unfold cutA
    rw [if_neg (by omega)]
    by_cases h0 : i * sz = 0 <;> simp [Addr.add, h0]
  · rw [List.getElem?_drop] at hu
    rw [Nat.add_assoc]
    exact hcl _ _ hu
theorem info_i : (Try.prog.info? 3).map (fun i => (i.zero, i.size, i.bytes)) = some (some (.int .i64 0), 1, 8) := by kernel_rfl
theorem info_u : (Try.prog.info? 28).map (fun i => (i.zero, i.size, i.bytes)) = some (some (.int .u64 0), 1, 8) := by kernel_rfl
section
variable {P : Program} (w : World)
/-- append onto an own row as a step of a region that draws: below the base all stands. -/
theorem step_app {ops : Array Oper} {o : Oper} {a : Act} {K : Act → World → Prop} {Q : Exit → Act → World → Prop} {E : Prop} (hgd : o.guard = none) (s x : Operand) (t : TypeId)
    (ho : o.op = .call { callee := .builtin .append, args := #[s, x], argTypes := #[t, t] })
    (base : Nat) (e : TypeId) (z : Value) (size bytes : Nat) (ht : P.underlying t = some (.slice e)) (hinfo : (P.info? e).map (fun i => (i.zero, i.size, i.bytes)) = some (some z, size, bytes)) (hzs : z.cells.size = size) (hsz : 0 < size)
    (v : Value) (n : Nat) (xs : List Value) (hs : a.eval s = v) (hown : w.ownsRow base e size v n xs)
    (A : Option Addr) (m c : Nat) (news : List Value) (hx : a.eval x = .slice A m c) (w0 : World) (hb : Below base w0 w) (hbase : base ≤ w0.heap.size) (hr : Rw w size A m news) (h1 : ∀ u ∈ news, u.oneCell' = true)
    (h63 : n + m ≤ maxLen) (hbytes : (n + m) * bytes ≤ 140737488355328)
    (h : ∀ v' w', w'.ownsRow base e size v' (n + m) (xs ++ news) → Below base w0 w' → w.grownBy w' v.ownBlock → K (a.put o.dst v') w') :
    if Region.wanted o (yielded ops a.tmps) = true then Oper.wp P o a w K Q else E := by
  obtain ⟨i, hi, hz, hsize, hby⟩ := info_parts hinfo
  exact step_append_any w hgd s x t ho base e i z size bytes ht hi hz hsize hby hzs hsz v n xs hs hown A m c news hx hr h1 h63 hbytes (Nat.le_trans hbase hb.size) fun v' w' g1 g2 _ => h v' w' g1 (below_own hb g2 (Nat.le_trans hbase hb.size) (own_base hown)) g2
/-- .. at a plain region's list. -/
theorem app_b {ops : Array Oper} {rest : List Oper} {o : Oper} {a : Act} {Q : Exit → Act → World → Prop} (hgd : o.guard = none) (s x : Operand) (t : TypeId)
    (ho : o.op = .call { callee := .builtin .append, args := #[s, x], argTypes := #[t, t] })
    (base : Nat) (e : TypeId) (z : Value) (size bytes : Nat) (ht : P.underlying t = some (.slice e)) (hinfo : (P.info? e).map (fun i => (i.zero, i.size, i.bytes)) = some (some z, size, bytes)) (hzs : z.cells.size = size) (hsz : 0 < size)
    (v : Value) (n : Nat) (xs : List Value) (hs : a.eval s = v) (hown : w.ownsRow base e size v n xs)
    (A : Option Addr) (m c : Nat) (news : List Value) (hx : a.eval x = .slice A m c) (w0 : World) (hb : Below base w0 w) (hbase : base ≤ w0.heap.size) (hr : Rw w size A m news) (h1 : ∀ u ∈ news, u.oneCell' = true)
    (h63 : n + m ≤ maxLen) (hbytes : (n + m) * bytes ≤ 140737488355328)
    (h : ∀ v' w', w'.ownsRow base e size v' (n + m) (xs ++ news) → Below base w0 w' → w.grownBy w' v.ownBlock → wpList P ops Q rest (a.put o.dst v') w') : wpList P ops Q (o :: rest) a w := by
  obtain ⟨i, hi, hz, hsize, hby⟩ := info_parts hinfo
  exact wpList_append_any w hgd s x t ho base e i z size bytes ht hi hz hsize hby hzs hsz v n xs hs hown A m c news hx hr h1 h63 hbytes (Nat.le_trans hbase hb.size) fun v' w' g1 g2 _ => h v' w' g1 (below_own hb g2 (Nat.le_trans hbase hb.size) (own_base hown)) g2
end
/-- Two own rows of different types lie in different blocks. -/
theorem own_apart {w : World} {b b' : Nat} {e e' : TypeId} {s s' n n' : Nat} {v v' : Value} {xs xs' : List Value} (h : w.ownsRow b e s v n xs) (h' : w.ownsRow b' e' s' v' n' xs') (hne : e ≠ e') : v.ownBlock = none ∨ v.ownBlock ≠ v'.ownBlock := by
  rcases h.2 with ⟨rfl, _⟩ | ⟨g, cap, cur, rfl, _, hg, _⟩
  · exact .inl rfl
  · right
    rcases h'.2 with ⟨rfl, _⟩ | ⟨g', cap', cur', rfl, _, hg', _⟩
    · simp [Value.ownBlock]
    · intro hh
      have hh : g = g' := by simpa [Value.ownBlock] using hh
      subst hh
      rw [hg] at hg'
      injection hg' with hg'
      injection hg' with _ hg'
      exact hne hg'
/-- One new element, laid into a block of its own. -/
theorem Rw.new1 (w : World) (e : TypeId) (cs : Array Value) {sz : Nat} (h : cs.size = sz) : Rw (w.alloc (.cells cs e)) sz (some ⟨w.heap.size, 0, none⟩) 1 cs.toList :=
  Rw.of_blk (t := e) (cs := cs) (Blk.new w e cs) (by simpa using h) (fun j u hu => by simpa using hu)
theorem own_empty (w : World) (e : TypeId) (sz : Nat) : (w.alloc (.cells #[] e)).ownsRow w.heap.size e sz (.slice (some ⟨w.heap.size, 0, none⟩) 0 0) 0 [] :=
  ⟨by simp, .inr ⟨w.heap.size, 0, #[], rfl, Nat.le_refl _, heap_alloc_new w _, Nat.le_refl _, by unfold maxLen; omega, by simp, by simp⟩⟩
theorem Blk.set1 {w : World} {g i : Nat} {t : TypeId} {cs : Array Value} (h : Blk w g t cs) (u : Value) : Blk (w.setCell ⟨g, i, none⟩ u) g t (cs.setIfInBounds i u) := by
  unfold Blk at *
  simp only [World.setCell, Array.getElem?_modify, h]
  simp
theorem Blk.set3 {w : World} {g : Nat} {t : TypeId} {a b c x y z : Value} (h : Blk w g t #[a, b, c]) : Blk (((w.setCell ⟨g, 0, none⟩ x).setCell ⟨g, 1, none⟩ y).setCell ⟨g, 2, none⟩ z) g t #[x, y, z] := by
  exact ((h.set1 x).set1 y).set1 z
theorem own_set3 {w : World} {base : Nat} {e : TypeId} {size : Nat} {v : Value} {n g : Nat} {xs : List Value} {x y z : Value} (h : w.ownsRow base e size v n xs) (hg : g < base) : (((w.setCell ⟨g, 0, none⟩ x).setCell ⟨g, 1, none⟩ y).setCell ⟨g, 2, none⟩ z).ownsRow base e size v n xs :=
  ownsRow_setCell_below (ownsRow_setCell_below (ownsRow_setCell_below h (a := ⟨g, 0, none⟩) hg x) (a := ⟨g, 1, none⟩) hg y) (a := ⟨g, 2, none⟩) hg z
theorem own_rw {w : World} {base : Nat} {e : TypeId} {size n : Nat} {A : Option Addr} {c : Nat} {xs : List Value} (h : w.ownsRow base e size (.slice A n c) n xs) : n ≤ c ∧ Rw w size A n xs := by
  obtain ⟨A', c', hv, hl, hR⟩ := Rw.of_own h
  injection hv with h1 h2 h3
  subst h1 h3
  exact ⟨hl, hR⟩
theorem own_ty {w : World} {base : Nat} {e : TypeId} {size n : Nat} {A : Option Addr} {c : Nat} {xs : List Value} (h : w.ownsRow base e size (.slice A n c) n xs) : TyRow w e A n := by
  intro hn
  rcases h.2 with ⟨_, h0⟩ | ⟨g, cap, cur, hv, _, hg, _⟩
  · omega
  · injection hv with h1 h2 h3
    exact ⟨g, 0, cur, (0, 0), h1, hg⟩
theorem Rw.setc {w : World} {sz n g i : Nat} {e t : TypeId} {A : Option Addr} {vs : List Value} {cs : Array Value} (h : Rw w sz A n vs) (ht : TyRow w e A n) (hB : Blk w g t cs) (hne : e ≠ t) (u : Value) : Rw (w.setCell ⟨g, i, none⟩ u) sz A n vs ∧ TyRow (w.setCell ⟨g, i, none⟩ u) e A n := by
  refine ⟨⟨h.1, fun hn => ?_⟩, fun hn => ?_⟩
  · obtain ⟨b, o, rfl, hb, hc⟩ := h.2 hn
    obtain ⟨b', o', cs', fr, h1, h2⟩ := ht hn
    injection h1 with h1
    injection h1 with h1 h1'
    subst h1
    have hbg : b ≠ g := by
      intro hh
      subst hh
      unfold Blk at hB
      rw [hB] at h2
      injection h2 with h2
      injection h2 with _ h2
      exact hne h2.symm
    refine ⟨b, o, rfl, by simpa [World.setCell] using hb, fun j v hv => ?_⟩
    rw [World.cell?_of_block (w := w) (Below.heap_setCell w ⟨g, i, none⟩ u b hbg)]
    exact hc j v hv
  · obtain ⟨b', o', cs', fr, h1, h2⟩ := ht hn
    have hbg : b' ≠ g := by
      intro hh
      subst hh
      unfold Blk at hB
      rw [hB] at h2
      injection h2 with h2
      injection h2 with _ h2
      exact hne h2.symm
    exact ⟨b', o', cs', fr, h1, (Below.heap_setCell w ⟨g, i, none⟩ u b' hbg).trans h2⟩
theorem RefAt.setc {w : World} {v : Value} {k g i : Nat} {L : Th} {cs : Array Value} (h : RefAt w v k L) (hB : Blk w g 32 cs) (u : Value) : RefAt (w.setCell ⟨g, i, none⟩ u) v k L := by
  obtain ⟨A, c, B, d, e, h1, h2, h3, h4, h5, h8, h9, h10, h11⟩ := h
  obtain ⟨x1, x2⟩ := h8.setc h10 hB (by decide) u (i := i)
  obtain ⟨y1, y2⟩ := h9.setc h11 hB (by decide) u (i := i)
  exact ⟨A, c, B, d, e, h1, h2, h3, h4, h5, x1, y1, x2, y2⟩
theorem RefAt.set3 {w : World} {v : Value} {k g : Nat} {L : Th} {a b c x y z : Value} (h : RefAt w v k L) (hB : Blk w g 32 #[a, b, c]) : RefAt (((w.setCell ⟨g, 0, none⟩ x).setCell ⟨g, 1, none⟩ y).setCell ⟨g, 2, none⟩ z) v k L :=
  ((h.setc hB x).setc (hB.set1 x) y).setc ((hB.set1 x).set1 y) z
theorem below_set3 {B g : Nat} {a w : World} {x y z : Value} (h : Below B a w) (hg : B ≤ g) : Below B a (((w.setCell ⟨g, 0, none⟩ x).setCell ⟨g, 1, none⟩ y).setCell ⟨g, 2, none⟩ z) :=
  ((h.setCell hg _).setCell hg _).setCell hg _
theorem one_ints (L : Th) : ∀ u ∈ (L.map fun t => Value.int .i64 (t.1 : Int)), u.oneCell' = true := by
  intro u hu
  obtain ⟨t, _, rfl⟩ := List.mem_map.1 hu
  rfl
theorem one_xs {L : Th} (hX : ∀ t ∈ L, ∃ x, t.2 = Value.int .u64 x) : ∀ u ∈ (L.map fun t => t.2), u.oneCell' = true := by
  intro u hu
  obtain ⟨t, ht, rfl⟩ := List.mem_map.1 hu
  obtain ⟨x, hx⟩ := hX t ht
  rw [hx]
  rfl
theorem split_at {α : Type} {L : List α} {i : Nat} {t : α} (h : L[i]? = some t) : L = L.take i ++ t :: L.drop (i + 1) := by
  obtain ⟨h1, rfl⟩ := List.getElem?_eq_some_iff.1 h
  rw [← List.drop_eq_getElem_cons h1, List.take_append_drop]
theorem stands_keep {k : Nat} {L : Th} {addr : Int} {i : Nat} (hO : OkTh k L) (h : Stands L addr i false) : (L.filter fun t => decide ((t.1 : Int) ≠ addr)) = L := by
  rw [List.filter_eq_self]
  intro t ht
  have h1 := stands_none hO h
  simp only [decide_eq_true_eq]
  intro e
  rw [← e, getTh_some hO ht] at h1
  cases h1
theorem stands_del {k : Nat} {L : Th} {addr : Int} {i : Nat} (hO : OkTh k L) (h : Stands L addr i true) : (L.filter fun t => decide ((t.1 : Int) ≠ addr)) = L.take i ++ L.drop (i + 1) := by
  obtain ⟨t, ht, h1, _⟩ := stands_some hO h
  conv => lhs; rw [split_at ht]
  rw [List.filter_append, List.filter_cons_of_neg (by simp [h1])]
  congr 1
  · rw [List.filter_eq_self]
    intro s hs
    obtain ⟨j, hj, hs⟩ := mem_take_idx hs
    have := h.2.1 j s hs hj
    simp only [decide_eq_true_eq]
    omega
  · rw [List.filter_eq_self]
    intro s hs
    obtain ⟨j, hj, hs⟩ := mem_drop_idx hs
    have := okth_lt hO ht hs (by omega)
    simp only [decide_eq_true_eq]
    omega
theorem okth_filter {k : Nat} {L : Th} (hO : OkTh k L) (p : Nat × Value → Bool) : OkTh k (L.filter p) :=
  ⟨hO.1.filter _, fun t ht => hO.2 t (List.mem_filter.1 ht).1⟩
set_option maxHeartbeats 2000000 in
set_option maxRecDepth 100000 in
theorem r5_del (v : Value) (k : Nat) (L : Th) (addr : Int) (w : World) (h : RefAt w v k L) :
    Calls Try.prog 20 #[v, .int .i64 addr] w fun e w' => ∃ v', e = .returned v' ∧ RefAt w' v' k (L.filter fun t => decide ((t.1 : Int) ≠ addr)) ∧ Below w.heap.size w w' := by
  have H := hide h
  obtain ⟨A, c, B, d, rfl, hk, hO, hX, hlc, hld, hA, hB, -⟩ := h
  have b0 := below_alloc (below_alloc (Below.refl w.heap.size w) (Nat.le_refl _) (.cells #[.int .i64 (k : Nat), .slice A L.length c, .slice B L.length d] 32)) (Nat.le_refl _) (.cells #[.int .i64 0, .slice none 0 0, .slice none 0 0] 32)
  have B0 := (Blk.new w 32 #[.int .i64 (k : Nat), .slice A L.length c, .slice B L.length d]).alloc (.cells #[.int .i64 0, .slice none 0 0, .slice none 0 0] 32)
  have hl16 : L.length ≤ 65536 := by have := len_le_of_ok hO; have := pow16 hk; omega
  have C := hide (r5_place _ _ _ addr _ (H.out.below b0))
  go_enter Try.func20, Try.ntmps20
  have hl := hide hO
  clear hO
  go_wp2_with fail
  refine C.out.mono ?_
  rintro e w1 ⟨i, b, rfl, hS, hb1⟩
  have b1 := below_then b0 hb1
  have B1 := B0.below hb1
  have B2 := (Blk.new (w.alloc (.cells #[.int .i64 (k : Nat), .slice A L.length c, .slice B L.length d] 32)) 32 #[.int .i64 0, .slice none 0 0, .slice none 0 0]).below hb1
  have hsz : (w.alloc (.cells #[.int .i64 (k : Nat), .slice A L.length c, .slice B L.length d] 32)).heap.size = w.heap.size + 1 := by simp
  rw [hsz] at B2
  have hw1 : w.heap.size + 2 ≤ w1.heap.size := by have := hb1.size; simp at this; omega
  clear hb1 hsz
  obtain ⟨ii, hii, hzi, hsi, hbi⟩ := info_parts info_i
  obtain ⟨iu, hiu, hzu, hsu, hbu⟩ := info_parts info_u
  cases b with
  | false =>
    have c0 := B1.cell 0
    have c1 := B1.cell 1
    have c2 := B1.cell 2
    have d0 := B2.cell 0
    have d1 := B2.cell 1
    have d2 := B2.cell 2
    have f0 := B2.frozen 0
    have f1 := B2.frozen 1
    have f2 := B2.frozen 2
    simp at c0 c1 c2 d0 d1 d2
    go_wp2
    have e3 := B2.set3 (x := .int .i64 (k : Nat)) (y := .slice A L.length c) (z := .slice B L.length d)
    have b3 := below_set3 b1 (show w.heap.size ≤ w.heap.size + 1 by omega) (x := .int .i64 (k : Nat)) (y := .slice A L.length c) (z := .slice B L.length d)
    generalize ((w1.setCell ⟨w.heap.size + 1, 0, none⟩ (.int .i64 (k : Nat))).setCell ⟨w.heap.size + 1, 1, none⟩ (.slice A L.length c)).setCell ⟨w.heap.size + 1, 2, none⟩ (.slice B L.length d) = w3 at *
    have g0 := e3.cell 0
    have g1 := e3.cell 1
    have g2 := e3.cell 2
    simp at g0 g1 g2
    refine bodyPost_ret (v := .agg #[.int .i64 (k : Nat), .slice A L.length c, .slice B L.length d]) (by simp [results, Try.results20, go_sem, g0, g1, g2]) rfl ⟨_, rfl, ?_, b3⟩
    rw [stands_keep hl.out hS]
    exact H.out.below b3
  | true =>
    obtain ⟨t, ht, h1, h2⟩ := stands_some hl.out hS
    have hi := (List.getElem?_eq_some_iff.1 ht).1
    have HT := hide ht
    clear ht h1 h2
    have c0 := B1.cell 0
    have c1 := B1.cell 1
    have c2 := B1.cell 2
    simp at c0 c1 c2
    have r1 := fun W => run_slice_to (P := Try.prog) (w := W) Try.underlying29 (sz := 1) (fun _ => rfl) A L.length c i (by omega)
    have r2 := fun W => run_slice_lo (P := Try.prog) (w := W) Try.underlying29 (sz := 1) (fun _ => rfl) A L.length c (i + 1) (by omega)
    have r3 := fun W => run_slice_to (P := Try.prog) (w := W) Try.underlying30 (sz := 1) (fun _ => rfl) B L.length d i (by omega)
    have r4 := fun W => run_slice_lo (P := Try.prog) (w := W) Try.underlying30 (sz := 1) (fun _ => rfl) B L.length d (i + 1) (by omega)
    simp only [Int.natCast_add, Int.cast_ofNat_Int] at r2 r4
    have e5 : IntKind.i64.wrap ((i : Int) + 1) = (i : Int) + 1 := by rw [IntKind.wrap_i64]; omega
    have Hr3 := hide r3
    have Hr4 := hide r4
    clear r3 r4
    go_wp2
    have hbb := ((Below.refl w1.heap.size w1).alloc (Nat.le_refl _) (.cells #[] 3)).drew
    have hAt := (hA.below b1).below hbb
    have hAd := (hA.below b1).cut (i := i + 1) (by omega) hlc
    go_region_held3 (fun w' => w'.cell? ⟨w.heap.size, 1, none⟩ = some (.slice A L.length c))
      (first
        | go_keep
        | exact hk2
        | exact hk3)
      (first
        | (refine step_app _ (by rfl) (.tmp 18) (.tmp 22) _ (by rfl) w1.heap.size 3 _ 1 8 Try.underlying29 info_i rfl (by omega) _ 0 [] (by rfl) (own_empty _ _ _) A i c ((L.map fun t => .int .i64 (t.1 : Int)).take (i * 1)) (by rfl) w1 hbb (Nat.le_refl _) (hAt.take_ (by omega)) ?h2 (by unfold maxLen; omega) (by omega) ?_
           case h2 =>
             intro u hu
             exact one_ints L u (List.mem_of_mem_take hu)
           intro v2 w2 ho2 hb2 _
           have hk2 : w2.cell? ⟨w.heap.size, 1, none⟩ = some (.slice A L.length c) := (hb2.cell (p := ⟨w.heap.size, 1, none⟩) (by simp; omega)).trans c1)
        | (refine step_app _ (by rfl) (.tmp 23) (.tmp 28) _ (by rfl) w1.heap.size 3 _ 1 8 Try.underlying29 info_i rfl (by omega) _ (0 + i) _ (by rfl) ho2 (cutA A c 1 (i + 1)) (L.length - (i + 1)) (c - (i + 1)) ((L.map fun t => .int .i64 (t.1 : Int)).drop ((i + 1) * 1)) (by rfl) w1 hb2 (Nat.le_refl _) (hAd.below hb2) ?h2 (by unfold maxLen; omega) (by omega) ?_
           case h2 =>
             intro u hu
             exact one_ints L u (List.mem_of_mem_drop hu)
           intro v3 w3 ho3 hb3 _
           have hk3 : w3.cell? ⟨w.heap.size, 1, none⟩ = some (.slice A L.length c) := (hb3.cell (p := ⟨w.heap.size, 1, none⟩) (by simp; omega)).trans c1))
    have hb13 := b1.trans (hb3.mono (show w.heap.size ≤ w1.heap.size by omega))
    have B3 := B1.below hb3
    have R3 := B2.below hb3
    have HO3 := hide ho3
    have hsz3 := hb3.size
    clear hAt hAd hk2 hk3 ho2 hb2 r1 r2 c0 c1 c2 hbb ho3 hb3 B1 B2
    have c0 := B3.cell 0
    have c1 := B3.cell 1
    have c2 := B3.cell 2
    simp at c0 c1 c2
    have r3 := Hr3.out
    have r4 := Hr4.out
    have hbb := ((Below.refl w3.heap.size w3).alloc (Nat.le_refl _) (.cells #[] 28)).drew
    have hBt := (hB.below hb13).below hbb
    have hBd := (hB.below hb13).cut (i := i + 1) (by omega) hld
    go_wp2
    go_region_held3 (fun w' => w'.cell? ⟨w.heap.size, 2, none⟩ = some (.slice B L.length d))
      (first
        | go_keep
        | exact hk4
        | exact hk5)
      (first
        | (refine step_app _ (by rfl) (.tmp 30) (.tmp 34) _ (by rfl) w3.heap.size 28 _ 1 8 Try.underlying30 info_u rfl (by omega) _ 0 [] (by rfl) (own_empty _ _ _) B i d ((L.map fun t => t.2).take (i * 1)) (by rfl) w3 hbb (Nat.le_refl _) (hBt.take_ (by omega)) ?h2 (by unfold maxLen; omega) (by omega) ?_
           case h2 =>
             intro u hu
             exact one_xs hX u (List.mem_of_mem_take hu)
           intro v4 w4 ho4 hb4 _
           have hk4 : w4.cell? ⟨w.heap.size, 2, none⟩ = some (.slice B L.length d) := (hb4.cell (p := ⟨w.heap.size, 2, none⟩) (by simp; omega)).trans c2)
        | (refine step_app _ (by rfl) (.tmp 35) (.tmp 40) _ (by rfl) w3.heap.size 28 _ 1 8 Try.underlying30 info_u rfl (by omega) _ (0 + i) _ (by rfl) ho4 (cutA B d 1 (i + 1)) (L.length - (i + 1)) (d - (i + 1)) ((L.map fun t => t.2).drop ((i + 1) * 1)) (by rfl) w3 hb4 (Nat.le_refl _) (hBd.below hb4) ?h2 (by unfold maxLen; omega) (by omega) ?_
           case h2 =>
             intro u hu
             exact one_xs hX u (List.mem_of_mem_drop hu)
           intro v5 w5 ho5 hb5 _
           have hk5 : w5.cell? ⟨w.heap.size, 2, none⟩ = some (.slice B L.length d) := (hb5.cell (p := ⟨w.heap.size, 2, none⟩) (by simp; omega)).trans c2))
    have hb15 := hb13.trans (hb5.mono (show w.heap.size ≤ w3.heap.size by omega))
    have B5 := B3.below hb5
    have R5 := R3.below hb5
    have ho3' := own_below HO3.out hb5
    obtain ⟨n2, hn2⟩ : ∃ n2, 0 + i + (L.length - (i + 1)) = n2 := ⟨_, rfl⟩
    rw [hn2] at ho3' ho5
    obtain ⟨A', c', rfl, -, -⟩ := Rw.of_own ho3'
    obtain ⟨D', d', rfl, -, -⟩ := Rw.of_own ho5
    have HA := hide ho3'
    have HB := hide ho5
    have HN2 := hide hn2
    clear ho3' hn2
    have d0 := R5.cell 0
    have d1 := R5.cell 1
    have d2 := R5.cell 2
    have f0 := R5.frozen 0
    have f1 := R5.frozen 1
    have f2 := R5.frozen 2
    have k0 := B5.cell 0
    simp at d0 d1 d2 k0
    clear hBt hBd hk4 hk5 ho4 hb4 r3 r4 c0 c1 c2 hbb ho5
    go_wp2
    have e3 := R5.set3 (x := .int .i64 (k : Nat)) (y := .slice A' n2 c') (z := .slice D' n2 d')
    have b3 := below_set3 hb15 (show w.heap.size ≤ w.heap.size + 1 by omega) (x := .int .i64 (k : Nat)) (y := .slice A' n2 c') (z := .slice D' n2 d')
    have oA := own_set3 HA.out (show w.heap.size + 1 < w1.heap.size by omega) (x := .int .i64 (k : Nat)) (y := .slice A' n2 c') (z := .slice D' n2 d')
    have oB := own_set3 HB.out (show w.heap.size + 1 < w3.heap.size by omega) (x := .int .i64 (k : Nat)) (y := .slice A' n2 c') (z := .slice D' n2 d')
    generalize ((w5.setCell ⟨w.heap.size + 1, 0, none⟩ (.int .i64 (k : Nat))).setCell ⟨w.heap.size + 1, 1, none⟩ (.slice A' n2 c')).setCell ⟨w.heap.size + 1, 2, none⟩ (.slice D' n2 d') = w6 at *
    have g0 := e3.cell 0
    have g1 := e3.cell 1
    have g2 := e3.cell 2
    simp at g0 g1 g2
    refine bodyPost_ret (v := .agg #[.int .i64 (k : Nat), .slice A' n2 c', .slice D' n2 d']) (by simp [results, Try.results20, go_sem, g0, g1, g2]) rfl ⟨_, rfl, ?_, b3⟩
    obtain ⟨qA, rA⟩ := own_rw oA
    obtain ⟨qB, rB⟩ := own_rw oB
    have hD := stands_del hl.out hS
    have hL : (L.filter fun t => decide ((t.1 : Int) ≠ addr)).length = n2 := by rw [hD, ← HN2.out]; simp; omega
    refine ⟨A', c', D', d', by rw [hL], hk, okth_filter hl.out _, fun t ht => hX t (List.mem_filter.1 ht).1, by rw [hL]; exact qA, by rw [hL]; exact qB, ?_, ?_, by rw [hL]; exact own_ty oA, by rw [hL]; exact own_ty oB⟩
    · rw [hL, hD]
      simpa using rA
    · rw [hL, hD]
      simpa using rB
end Go.Proofs.Ytkknfnjojamgjaa
