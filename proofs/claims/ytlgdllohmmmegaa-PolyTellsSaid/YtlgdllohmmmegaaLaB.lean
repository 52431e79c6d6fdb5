/- pantilelaw06: awake, Is, Heavy, Leaves; the reference Shape. -/
import Derived.Test.YtlgdllohmmmegaaNdC
import Derived.Test.YtlgdllohmmmegaaEnA
import Derived.Test.YtlgdllohmmmegaaBaA
import Derived.Test.YtlgdllohmmmegaaNdB
import Derived.Laws.StructEq
import Derived.StillTailTactics
import Derived.Test.YtlgdllohmmmegaaReA
import Derived.Deep.Cut
import Derived.Deep.CutRange
set_option linter.unusedSimpArgs false
set_option linter.unusedVariables false
namespace Go.Proofs.Ytlgdllohmmmegaa
section
open Go.RowKit
theorem u64s_int (p : List Nat) : u64s p = (p.map fun (x : Nat) => (x : Int)).map fun z => Value.int .u64 z := by
  unfold u64s; simp [Function.comp_def]
end
section
open Go.RowKit
end
section
open Go.RowKit
/-- An own row and a block of another type. -/
theorem own_set_ty {w : World} {base : Nat} {e t : TypeId} {sz n g i : Nat} {v u : Value} {xs : List Value} {cs : Array Value} (h : w.ownsRow base e sz v n xs) (hB : Blk w g t cs) (hne : e ≠ t) : (w.setCell ⟨g, i, none⟩ u).ownsRow base e sz v n xs := by
  obtain ⟨h1, h2⟩ := h
  refine ⟨h1, ?_⟩
  rcases h2 with h2 | ⟨gr, cap, cur, hv, hg, hh, r⟩
  · exact .inl h2
  · exact .inr ⟨gr, cap, cur, hv, hg, Blk.set_ (t := e) hh g i u (Blk.ne_ (t := e) hh hB hne), r⟩
theorem own_set5_ty {w : World} {base : Nat} {e t : TypeId} {sz n g : Nat} {v x0 x1 x2 x3 x4 : Value} {xs : List Value} {cs : Array Value} (h : w.ownsRow base e sz v n xs) (hB : Blk w g t cs) (hne : e ≠ t) :
    (((((w.setCell ⟨g, 0, none⟩ x0).setCell ⟨g, 1, none⟩ x1).setCell ⟨g, 2, none⟩ x2).setCell ⟨g, 3, none⟩ x3).setCell ⟨g, 4, none⟩ x4).ownsRow base e sz v n xs :=
  own_set_ty (own_set_ty (own_set_ty (own_set_ty (own_set_ty h hB hne) (hB.set1 _) hne) ((hB.set1 _).set1 _) hne) (((hB.set1 _).set1 _).set1 _) hne) ((((hB.set1 _).set1 _).set1 _).set1 _) hne
theorem own_ne_blk {w : World} {base : Nat} {e t : TypeId} {sz n g : Nat} {v : Value} {xs : List Value} {cs : Array Value} (h : w.ownsRow base e sz v n xs) (hB : Blk w g t cs) (hne : e ≠ t) : v.ownBlock ≠ some g := by
  intro hv
  rcases h.2 with ⟨rfl, _⟩ | ⟨gr, cap, cur, rfl, hg, hh, r⟩
  · simp [Value.ownBlock] at hv
  · have : gr = g := by simpa [Value.ownBlock] using hv
    exact Blk.ne_ (t := e) hh hB hne this
/-- A block stays where a row of another type grows. -/
theorem Blk.grown {w w' : World} {base : Nat} {e t : TypeId} {sz n g : Nat} {v : Value} {xs : List Value} {cs : Array Value} (hB : Blk w g t cs) (h : w.ownsRow base e sz v n xs) (hne : e ≠ t) (hg : w.grownBy w' v.ownBlock) : Blk w' g t cs :=
  (hg.block g hB.lt (Ne.symm (own_ne_blk h hB hne))).trans hB
theorem own_grown {w w' : World} {base base' : Nat} {e e' : TypeId} {sz sz' n n' : Nat} {v v' : Value} {xs xs' : List Value} (h : w.ownsRow base e sz v n xs) (h' : w.ownsRow base' e' sz' v' n' xs') (hne : e' ≠ e) (hg : w.grownBy w' v'.ownBlock) : w'.ownsRow base e sz v n xs := by
  obtain ⟨h1, h2⟩ := h
  refine ⟨h1, ?_⟩
  rcases h2 with h2 | ⟨gr, cap, cur, hv, hgb, hh, r⟩
  · exact .inl h2
  · exact .inr ⟨gr, cap, cur, hv, hgb, Blk.grown (t := e) hh h' hne hg, r⟩
/-- The addresses of the kids' lists. -/
def placesG (G : List (List ER)) (lv : Nat) : List Nat := G.map fun g => addrOf ((g.head?.map (·.p)).getD []) lv
end
section
open Go.RowKit
/-- The rows of a node's kids. -/
theorem split_rows : ∀ (ks : List Kid) (rows : List ER), ents rows = kidEs ks → ∃ G : List (List ER), G.flatten = rows ∧ G.length = ks.length ∧ ∀ (i : Nat) (g : List ER) (q : Kid), G[i]? = some g → ks[i]? = some q → ents g = q.es
  | [], rows, h => by
    refine ⟨[], ?_, rfl, fun i g q hg => by simp at hg⟩
    have : rows = [] := by
      unfold ents kidEs at h
      simpa using h
    rw [this]; rfl
  | q :: ks, rows, h => by
    have h' : ents rows = q.es ++ kidEs ks := by rw [h]; unfold kidEs; rw [List.flatMap_cons]
    have h1 : ents (rows.take q.es.length) = q.es := by
      unfold ents at h' ⊢
      rw [List.map_take, h', List.take_left' rfl]
    have h2 : ents (rows.drop q.es.length) = kidEs ks := by
      unfold ents at h' ⊢
      rw [List.map_drop, h', List.drop_left' rfl]
    obtain ⟨G, g1, g2, g3⟩ := split_rows ks _ h2
    refine ⟨rows.take q.es.length :: G, ?_, by simp [g2], ?_⟩
    · rw [List.flatten_cons, g1, List.take_append_drop]
    · intro i g r hg hr
      cases i with
      | zero =>
        simp at hg hr
        rw [← hg, ← hr]; exact h1
      | succ i => exact g3 i g r (by simpa using hg) (by simpa using hr)
theorem ents_mem {rows : List ER} {r : ER} (h : r ∈ rows) : (r.p, r.v) ∈ ents rows := List.mem_map.2 ⟨r, h, rfl⟩
/-- What a fork's lists are. -/
structure ForkG (k lv : Nat) (pre : List Nat) (ks : List Kid) (G : List (List ER)) : Prop where
  len : G.length = ks.length
  es : ∀ (i : Nat) (g : List ER) (q : Kid), G[i]? = some g → ks[i]? = some q → ents g = q.es
  parts : Parts G lv
  at_ : ∀ (i : Nat) (g : List ER) (q : Kid) (r : ER), G[i]? = some g → ks[i]? = some q → r ∈ g → addrOf r.p lv = q.at_
  hi : ∀ r ∈ G.flatten, ∀ b, lv < b → addrOf r.p b = addrOf pre b
theorem ForkG.places {k lv : Nat} {pre : List Nat} {ks : List Kid} {G : List (List ER)} (h : ForkG k lv pre ks G) : placesG G lv = ks.map (·.at_) := by
  unfold placesG
  apply List.ext_getElem (by simp [h.len])
  intro i h1 h2
  simp only [List.length_map] at h1 h2
  have hg : G[i]? = some G[i] := List.getElem?_eq_getElem h1
  have hq : ks[i]? = some ks[i] := List.getElem?_eq_getElem h2
  rw [List.getElem_map, List.getElem_map]
  obtain ⟨r, t, hrt⟩ := List.exists_cons_of_ne_nil (h.parts.ne G[i] (List.mem_of_getElem? hg))
  rw [hrt]
  simp only [List.head?_cons, Option.map_some, Option.getD_some]
  exact h.at_ i _ _ r hg hq (by rw [hrt]; exact List.mem_cons_self)
end
section
open Go.RowKit
theorem places_int (ks : List Kid) : (ks.map fun q => Value.int .i64 (q.at_ : Int)) = ((ks.map fun q => (q.at_ : Int)).map fun z => Value.int .i64 z) := by simp [Function.comp_def]
theorem placesG_int {k lv : Nat} {pre : List Nat} {ks : List Kid} {G : List (List ER)} (h : ForkG k lv pre ks G) : ((placesG G lv).map fun (x : Nat) => Value.int .i64 (x : Int)) = ((ks.map fun q => (q.at_ : Int)).map fun z => Value.int .i64 z) := by
  rw [h.places]; simp [Function.comp_def]
end
section
open Go.RowKit
def ptrs (gs : List Nat) : List Value := gs.map fun g => Value.pointer (some ⟨g, 0, none⟩)
end
end Go.Proofs.Ytlgdllohmmmegaa
