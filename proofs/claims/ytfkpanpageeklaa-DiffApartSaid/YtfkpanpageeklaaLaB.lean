/- pantilelaw06: awake, Is, Heavy, Leaves; the reference Shape. -/
import Derived.Test.YtfkpanpageeklaaNdC
import Derived.Test.YtfkpanpageeklaaEnA
import Derived.Test.YtfkpanpageeklaaBaA
import Derived.Test.YtfkpanpageeklaaNdB
import Derived.Laws.StructEq
import Derived.StillTailTactics
import Derived.Test.YtfkpanpageeklaaReA
import Derived.Deep.Cut
import Derived.Deep.CutRange
set_option linter.unusedSimpArgs false
set_option linter.unusedVariables false
namespace Go.Proofs.Ytfkpanpageeklaa
section
open Go.RowKit
theorem u64s_int (p : List Nat) : u64s p = (p.map fun (x : Nat) => (x : Int)).map fun z => Value.int .u64 z := by
  unfold u64s; simp [Function.comp_def]
theorem Fork.head {w : World} {k g lv : Nat} {pre : List Nat} {ks : List Kid} (h : Fork w k g lv pre ks) :
    ∃ A c gs, Pt w A k pre ∧ SlotsAt_n w gs k (kidTh ks) ∧ Blk w g 120 (nodeCells lv A k c 0 (some ⟨gs, 0, none⟩) (sumsOf (kidEs ks))) := by
  obtain ⟨A, c, gs, h1, h2, h3, h4, h5, h6, h7, h8, h9, h10, h11⟩ := h
  exact ⟨A, c, gs, h2, h10, h11⟩
end
section
open Go.RowKit
end
section
open Go.RowKit
/-- An own row and a block of another type. -/
theorem own_set_ty {w : World} {base : Nat} {e t : TypeId} {sz n g i : Nat} {v u : Value} {xs : List Value} {cs : Array Value} (h : w.ownsRow base e sz v n xs) (hB : Blk w g t cs) (hne : e ≠ t) : (w.setCell ⟨g, i, none⟩ u).ownsRow base e sz v n xs := by
  obtain ⟨h1, h2⟩ := h
  refine ⟨h1, ?_⟩
  rcases h2 with h2 | ⟨gr, cap, cur, hv, hg, hh, r⟩
  · exact .inl h2
  · exact .inr ⟨gr, cap, cur, hv, hg, Blk.set_ (t := e) hh g i u (Blk.ne_ (t := e) hh hB hne), r⟩
theorem own_set5_ty {w : World} {base : Nat} {e t : TypeId} {sz n g : Nat} {v x0 x1 x2 x3 x4 : Value} {xs : List Value} {cs : Array Value} (h : w.ownsRow base e sz v n xs) (hB : Blk w g t cs) (hne : e ≠ t) :
    (((((w.setCell ⟨g, 0, none⟩ x0).setCell ⟨g, 1, none⟩ x1).setCell ⟨g, 2, none⟩ x2).setCell ⟨g, 3, none⟩ x3).setCell ⟨g, 4, none⟩ x4).ownsRow base e sz v n xs :=
  own_set_ty (own_set_ty (own_set_ty (own_set_ty (own_set_ty h hB hne) (hB.set1 _) hne) ((hB.set1 _).set1 _) hne) (((hB.set1 _).set1 _).set1 _) hne) ((((hB.set1 _).set1 _).set1 _).set1 _) hne
theorem own_ne_blk {w : World} {base : Nat} {e t : TypeId} {sz n g : Nat} {v : Value} {xs : List Value} {cs : Array Value} (h : w.ownsRow base e sz v n xs) (hB : Blk w g t cs) (hne : e ≠ t) : v.ownBlock ≠ some g := by
  intro hv
  rcases h.2 with ⟨rfl, _⟩ | ⟨gr, cap, cur, rfl, hg, hh, r⟩
  · simp [Value.ownBlock] at hv
  · have : gr = g := by simpa [Value.ownBlock] using hv
    exact Blk.ne_ (t := e) hh hB hne this
/-- A block stays where a row of another type grows. -/
theorem Blk.grown {w w' : World} {base : Nat} {e t : TypeId} {sz n g : Nat} {v : Value} {xs : List Value} {cs : Array Value} (hB : Blk w g t cs) (h : w.ownsRow base e sz v n xs) (hne : e ≠ t) (hg : w.grownBy w' v.ownBlock) : Blk w' g t cs :=
  (hg.block g hB.lt (Ne.symm (own_ne_blk h hB hne))).trans hB
theorem own_grown {w w' : World} {base base' : Nat} {e e' : TypeId} {sz sz' n n' : Nat} {v v' : Value} {xs xs' : List Value} (h : w.ownsRow base e sz v n xs) (h' : w.ownsRow base' e' sz' v' n' xs') (hne : e' ≠ e) (hg : w.grownBy w' v'.ownBlock) : w'.ownsRow base e sz v n xs := by
  obtain ⟨h1, h2⟩ := h
  refine ⟨h1, ?_⟩
  rcases h2 with h2 | ⟨gr, cap, cur, hv, hgb, hh, r⟩
  · exact .inl h2
  · exact .inr ⟨gr, cap, cur, hv, hgb, Blk.grown (t := e) hh h' hne hg, r⟩
/-- The addresses of the kids' lists. -/
def placesG (G : List (List ER)) (lv : Nat) : List Nat := G.map fun g => addrOf ((g.head?.map (·.p)).getD []) lv
end
section
open Go.RowKit
/-- The rows of a node's kids. -/
theorem split_rows : ∀ (ks : List Kid) (rows : List ER), ents rows = kidEs ks → ∃ G : List (List ER), G.flatten = rows ∧ G.length = ks.length ∧ ∀ (i : Nat) (g : List ER) (q : Kid), G[i]? = some g → ks[i]? = some q → ents g = q.es
  | [], rows, h => by
    refine ⟨[], ?_, rfl, fun i g q hg => by simp at hg⟩
    have : rows = [] := by
      unfold ents kidEs at h
      simpa using h
    rw [this]; rfl
  | q :: ks, rows, h => by
    have h' : ents rows = q.es ++ kidEs ks := by rw [h]; unfold kidEs; rw [List.flatMap_cons]
    have h1 : ents (rows.take q.es.length) = q.es := by
      unfold ents at h' ⊢
      rw [List.map_take, h', List.take_left' rfl]
    have h2 : ents (rows.drop q.es.length) = kidEs ks := by
      unfold ents at h' ⊢
      rw [List.map_drop, h', List.drop_left' rfl]
    obtain ⟨G, g1, g2, g3⟩ := split_rows ks _ h2
    refine ⟨rows.take q.es.length :: G, ?_, by simp [g2], ?_⟩
    · rw [List.flatten_cons, g1, List.take_append_drop]
    · intro i g r hg hr
      cases i with
      | zero =>
        simp at hg hr
        rw [← hg, ← hr]; exact h1
      | succ i => exact g3 i g r (by simpa using hg) (by simpa using hr)
theorem ents_mem {rows : List ER} {r : ER} (h : r ∈ rows) : (r.p, r.v) ∈ ents rows := List.mem_map.2 ⟨r, h, rfl⟩
/-- What a fork's lists are. -/
structure ForkG (k lv : Nat) (pre : List Nat) (ks : List Kid) (G : List (List ER)) : Prop where
  len : G.length = ks.length
  es : ∀ (i : Nat) (g : List ER) (q : Kid), G[i]? = some g → ks[i]? = some q → ents g = q.es
  parts : Parts G lv
  at_ : ∀ (i : Nat) (g : List ER) (q : Kid) (r : ER), G[i]? = some g → ks[i]? = some q → r ∈ g → addrOf r.p lv = q.at_
  hi : ∀ r ∈ G.flatten, ∀ b, lv < b → addrOf r.p b = addrOf pre b
theorem forkG {w : World} {k g lv : Nat} {pre : List Nat} {ks : List Kid} (h : Fork w k g lv pre ks) {rows : List ER} (he : ents rows = kidEs ks) : ∃ G, G.flatten = rows ∧ ForkG k lv pre ks G := by
  obtain ⟨A, c, gs, hlv, hp, hkc, hz, hk, hl, ha, hs, h2, hS, hB⟩ := h
  obtain ⟨G, g1, g2, g3⟩ := split_rows ks rows he
  have hat : ∀ (i : Nat) (g : List ER) (q : Kid) (r : ER), G[i]? = some g → ks[i]? = some q → r ∈ g → addrOf r.p lv = q.at_ := by
    intro i g q r hg hq hr
    have hqm := List.mem_of_getElem? hq
    have hm := ents_mem hr
    rw [g3 i g q hg hq] at hm
    have := ((hk q hqm).info.2.2.2.2.1 _ hm).2.2 lv (hl q hqm)
    rw [← (ha q hqm).1]
    exact this
  have hq_of : ∀ (i : Nat) (g : List ER), G[i]? = some g → ∃ q, ks[i]? = some q := fun i g hg => by
    have := (List.getElem?_eq_some_iff.1 hg).1
    exact ⟨ks[i]'(by omega), List.getElem?_eq_getElem _⟩
  refine ⟨G, g1, g2, g3, ⟨?_, ?_, ?_⟩, hat, ?_⟩
  · intro g hg h0
    obtain ⟨i, hi⟩ := List.getElem?_of_mem hg
    obtain ⟨q, hq⟩ := hq_of i g hi
    have := (hk q (List.mem_of_getElem? hq)).info.2.1
    rw [← g3 i g q hi hq, h0] at this
    exact this rfl
  · intro g hg r hr s hs
    obtain ⟨i, hi⟩ := List.getElem?_of_mem hg
    obtain ⟨q, hq⟩ := hq_of i g hi
    rw [hat i g q r hi hq hr, hat i g q s hi hq hs]
  · rw [List.pairwise_iff_getElem]
    intro i j hi hj hij r hr s hs'
    have hgi : G[i]? = some G[i] := List.getElem?_eq_getElem hi
    have hgj : G[j]? = some G[j] := List.getElem?_eq_getElem hj
    have hqi : ks[i]? = some (ks[i]'(by omega)) := List.getElem?_eq_getElem _
    have hqj : ks[j]? = some (ks[j]'(by omega)) := List.getElem?_eq_getElem _
    rw [hat i _ _ r hgi hqi hr, hat j _ _ s hgj hqj hs']
    have := (List.pairwise_iff_getElem.1 hs) i j (by omega) (by omega) hij
    omega
  · intro r hr b hb
    obtain ⟨g, hg, hr⟩ := List.mem_flatten.1 hr
    obtain ⟨i, hi⟩ := List.getElem?_of_mem hg
    obtain ⟨q, hq⟩ := hq_of i g hi
    have hqm := List.mem_of_getElem? hq
    have hm := ents_mem hr
    rw [g3 i g q hi hq] at hm
    have h1 := ((hk q hqm).info.2.2.2.2.1 _ hm).2.2 b (by have := hl q hqm; omega)
    rw [← (ha q hqm).2 b hb]
    exact h1
theorem ForkG.places {k lv : Nat} {pre : List Nat} {ks : List Kid} {G : List (List ER)} (h : ForkG k lv pre ks G) : placesG G lv = ks.map (·.at_) := by
  unfold placesG
  apply List.ext_getElem (by simp [h.len])
  intro i h1 h2
  simp only [List.length_map] at h1 h2
  have hg : G[i]? = some G[i] := List.getElem?_eq_getElem h1
  have hq : ks[i]? = some ks[i] := List.getElem?_eq_getElem h2
  rw [List.getElem_map, List.getElem_map]
  obtain ⟨r, t, hrt⟩ := List.exists_cons_of_ne_nil (h.parts.ne G[i] (List.mem_of_getElem? hg))
  rw [hrt]
  simp only [List.head?_cons, Option.map_some, Option.getD_some]
  exact h.at_ i _ _ r hg hq (by rw [hrt]; exact List.mem_cons_self)
/-- The first and the last row part at the node's level. -/
theorem ForkG.part_ {w : World} {k g lv : Nat} {pre : List Nat} {ks : List Kid} {G : List (List ER)} (h : ForkG k lv pre ks G) (hF : Fork w k g lv pre ks) {W : World} {A : Option Addr} {n : Nat} (hE : EntsAt W A n G.flatten) (hk : ∀ r ∈ G.flatten, r.n = k) :
    ∃ r s, G.flatten[0]? = some r ∧ G.flatten[n - 1]? = some s ∧ part r.p s.p = (lv : Int) ∧ cut (lv + 1) r.p = pre ∧ 2 ≤ n := by
  obtain ⟨A', c, gs, hlv, hp, hkc, hz, hkk, hl, ha, hs, h2, hS, hB⟩ := hF
  have hlen := hE.len
  have hGl := h.len
  have hg0 : G[0]? = some (G[0]'(by omega)) := List.getElem?_eq_getElem _
  have hgl : G[G.length - 1]? = some (G[G.length - 1]'(by omega)) := List.getElem?_eq_getElem _
  generalize G[0]'(by omega) = g0 at hg0
  generalize G[G.length - 1]'(by omega) = gl at hgl
  have n0 := List.length_pos_iff.2 (h.parts.ne g0 (List.mem_of_getElem? hg0))
  have nl := List.length_pos_iff.2 (h.parts.ne gl (List.mem_of_getElem? hgl))
  have hf0 : G.flatten[0]? = some (g0[0]'n0) := by
    have := fl_get hg0 n0 (d := 0)
    rw [fl_zero] at this
    rw [this]; exact List.getElem?_eq_getElem _
  have hfl : fl G (G.length - 1) + gl.length = n := by
    have h1 := fl_succ hgl
    rw [← h1, fl_all G (by omega)]
    exact hlen
  have hfL : G.flatten[n - 1]? = some (gl[gl.length - 1]'(by omega)) := by
    have := fl_get hgl (d := gl.length - 1) (by omega)
    rw [show fl G (G.length - 1) + (gl.length - 1) = n - 1 by omega] at this
    rw [this]; exact List.getElem?_eq_getElem _
  have m0 : g0[0] ∈ g0 := List.getElem_mem _
  have ml : gl[gl.length - 1] ∈ gl := List.getElem_mem _
  generalize g0[0]'n0 = r at *
  generalize gl[gl.length - 1]'(by omega) = s at *
  have hq0 : ks[0]? = some (ks[0]'(by omega)) := List.getElem?_eq_getElem _
  have hql : ks[G.length - 1]? = some (ks[G.length - 1]'(by omega)) := List.getElem?_eq_getElem _
  have a0 := h.at_ 0 g0 _ r hg0 hq0 m0
  have al := h.at_ (G.length - 1) gl _ s hgl hql ml
  have hlt := (List.pairwise_iff_getElem.1 hs) 0 (G.length - 1) (by omega) (by omega) (by omega)
  have mr : r ∈ G.flatten := List.mem_of_getElem? hf0
  have ms : s ∈ G.flatten := List.mem_of_getElem? hfL
  have zr : Zp k r.p := by have := (hE.2 r mr).1.zp; rwa [hk r mr] at this
  have zs : Zp k s.p := by have := (hE.2 s ms).1.zp; rwa [hk s ms] at this
  refine ⟨r, s, hf0, hfL, part_unique zr zs (fun b hb => ?_) (by omega), ?_, ?_⟩
  · rw [h.hi r mr b hb, h.hi s ms b hb]
  · refine eq_of_addr (zp_cut zr) hp.zp fun b => ?_
    rcases Nat.lt_or_ge lv b with hb | hb
    · rw [addr_cut_hi _ (by omega)]; exact h.hi r mr b hb
    · rw [addr_cut_lo _ (by omega)]; exact (hz b hb).symm
  · rcases Nat.lt_or_ge n 2 with hn | hn
    · have : n - 1 = 0 := by omega
      rw [this, hf0] at hfL
      injection hfL with hfL
      subst hfL
      omega
    · exact hn
end
section
open Go.RowKit
theorem places_int (ks : List Kid) : (ks.map fun q => Value.int .i64 (q.at_ : Int)) = ((ks.map fun q => (q.at_ : Int)).map fun z => Value.int .i64 z) := by simp [Function.comp_def]
theorem placesG_int {k lv : Nat} {pre : List Nat} {ks : List Kid} {G : List (List ER)} (h : ForkG k lv pre ks G) : ((placesG G lv).map fun (x : Nat) => Value.int .i64 (x : Int)) = ((ks.map fun q => (q.at_ : Int)).map fun z => Value.int .i64 z) := by
  rw [h.places]; simp [Function.comp_def]
end
section
open Go.RowKit
/-- An entry's node, its point a row of its own. -/
def LeafAt (w : World) (k g : Nat) (p : List Nat) (v : Nat) : Prop := ∃ A c, Blk w g 120 (nodeCells (-1) A k c v none ⟨1, v, v, v⟩) ∧ w.ownsRow 0 50 1 (.slice A k c) k (u64s p) ∧ k ≤ c ∧ Zp k p ∧ v < 2 ^ 64
theorem LeafAt.node {w : World} {k g : Nat} {p : List Nat} {v : Nat} (h : LeafAt w k g p v) : NodeOf w k g (-1) p [(p, v)] := by
  obtain ⟨A, c, h1, h2, h3, h4, h5⟩ := h
  exact .leaf h5 ⟨h4.1, (own_rw h2).2, h4.2⟩ h3 h1
theorem LeafAt.stay {w w' : World} {k g : Nat} {p : List Nat} {v : Nat} (h : LeafAt w k g p v) (hb : Below w.heap.size w w') : LeafAt w' k g p v := by
  obtain ⟨A, c, h1, h2, h3, h4, h5⟩ := h
  exact ⟨A, c, h1.below hb, own_below h2 hb, h3, h4, h5⟩
theorem LeafAt.grown {w w' : World} {k g base sz n : Nat} {p : List Nat} {v : Nat} {u : Value} {xs : List Value} (h : LeafAt w k g p v) (ho : w.ownsRow base 60 sz u n xs) (hg : w.grownBy w' u.ownBlock) : LeafAt w' k g p v := by
  obtain ⟨A, c, h1, h2, h3, h4, h5⟩ := h
  exact ⟨A, c, h1.grown ho (by decide) hg, own_grown h2 ho (by decide) hg, h3, h4, h5⟩
theorem info_n : (Try.prog.info? 60).map (fun i => (i.zero, i.size, i.bytes)) = some (some (.pointer none), 1, 8) := by kernel_rfl
def ptrs (gs : List Nat) : List Value := gs.map fun g => Value.pointer (some ⟨g, 0, none⟩)
end
end Go.Proofs.Ytfkpanpageeklaa
