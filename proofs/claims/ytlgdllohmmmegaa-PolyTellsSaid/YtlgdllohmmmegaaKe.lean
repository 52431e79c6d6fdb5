/- What stays: the blocks of a type. Lists that are collected behind a captured variable. -/
import Derived.Test.YtlgdllohmmmegaaEnA
import Derived.Test.YtlgdllohmmmegaaFr
set_option linter.unusedSimpArgs false
set_option linter.unusedVariables false
namespace Go.Proofs.Ytlgdllohmmmegaa
open Go.RowKit
def Keep (t : TypeId) (w w' : World) : Prop := ∀ (b : Nat) (cs : Array Value) (fr : Nat × Nat), w.heap[b]? = some (Obj.cells cs t fr) → w'.heap[b]? = some (Obj.cells cs t fr)
section
variable {t : TypeId} {w w' w'' : World}
theorem heap_lt {w : World} {b : Nat} {o : Obj} (h : w.heap[b]? = some o) : b < w.heap.size := (Array.getElem?_eq_some_iff.1 h).1
theorem Keep.refl (t : TypeId) (w : World) : Keep t w w := fun _ _ _ h => h
theorem Keep.trans (h : Keep t w w') (h' : Keep t w' w'') : Keep t w w'' := fun b cs fr hb => h' b cs fr (h b cs fr hb)
theorem Keep.below (hb : Below w.heap.size w w') : Keep t w w' := fun b cs fr h => (hb.block b (heap_lt h)).trans h
theorem Keep.set {g i : Nat} {t' : TypeId} {cs : Array Value} (hB : Blk w g t' cs) (hne : t ≠ t') (u : Value) : Keep t w (w.setCell ⟨g, i, none⟩ u) := by
  intro b cs' fr h
  refine (Below.heap_setCell w ⟨g, i, none⟩ u b ?_).trans h
  rintro rfl
  unfold Blk at hB
  rw [hB] at h
  injection h with h
  injection h with _ h
  exact hne h.symm
theorem Keep.grown {base n sz : Nat} {t' : TypeId} {v : Value} {xs : List Value} (ho : w.ownsRow base t' sz v n xs) (hne : t ≠ t') (hg : w.grownBy w' v.ownBlock) : Keep t w w' := by
  intro b cs fr h
  refine (hg.block b (heap_lt h) ?_).trans h
  intro hv
  rcases ho.2 with ⟨rfl, _⟩ | ⟨g, cap, cur, rfl, hg, hh, _⟩
  · simp [Value.ownBlock] at hv
  · have hgb : b = g := by simpa [Value.ownBlock] using hv
    subst hgb
    rw [hh] at h
    injection h with h
    injection h with _ h
    exact hne h.symm
theorem Blk.keep {g : Nat} {cs : Array Value} (h : Blk w g t cs) (hk : Keep t w w') : Blk w' g t cs := hk g cs (0, 0) h
theorem own_keep {base n sz : Nat} {v : Value} {xs : List Value} (h : w.ownsRow base t sz v n xs) (hk : Keep t w w') : w'.ownsRow base t sz v n xs := by
  obtain ⟨h1, h2⟩ := h
  refine ⟨h1, ?_⟩
  rcases h2 with h2 | ⟨g, cap, cur, h2, h3, h4, h5⟩
  · exact .inl h2
  · exact .inr ⟨g, cap, cur, h2, h3, hk g cur (0, 0) h4, h5⟩
theorem TyRow.keep {A : Option Addr} {n : Nat} (h : TyRow w t A n) (hk : Keep t w w') : TyRow w' t A n := by
  intro hn
  obtain ⟨b, o, cs, fr, h1, h2⟩ := h hn
  exact ⟨b, o, cs, fr, h1, hk b cs fr h2⟩
theorem Rw.keep {sz n : Nat} {A : Option Addr} {vs : List Value} (h : Rw w sz A n vs) (ht : TyRow w t A n) (hk : Keep t w w') : Rw w' sz A n vs := by
  refine ⟨h.1, fun hn => ?_⟩
  obtain ⟨b, o, h1, hl, hc⟩ := h.2 hn
  obtain ⟨b', o', cs, fr, h1', h2⟩ := ht hn
  rw [h1] at h1'
  injection h1' with h1'
  injection h1' with h3 h4
  subst h3 h4
  have h5 := hk b cs fr h2
  refine ⟨b, o, h1, heap_lt h5, fun j u hu => ?_⟩
  rw [World.cell?_of_block (w := w) (a := ⟨b, o + j, none⟩) (h5.trans h2.symm)]
  exact hc j u hu
end
/-- An entry whose point lies in a block of numbers. -/
def ER.okT (w : World) (r : ER) : Prop := r.ok w ∧ TyRow w 43 r.A r.n
section
variable {w w' : World} {r : ER}
theorem ER.okT.keep (h : r.okT w) (hk : Keep 43 w w') : r.okT w' := ⟨⟨⟨h.1.1.1, h.1.1.2.1.keep h.2 hk, h.1.1.2.2⟩, h.1.2⟩, h.2.keep hk⟩
theorem ER.okT.below (h : r.okT w) (hb : Below w.heap.size w w') : r.okT w' := h.keep (Keep.below hb)
theorem ER.okT.of_own {base n : Nat} {A : Option Addr} {c v : Nat} {p : List Nat} (h : w.ownsRow base 43 1 (.slice A n c) n (u64s p)) (hp : Zp n p) (hv : v < 2 ^ 64) : ER.okT w ⟨A, n, c, p, v⟩ := by
  obtain ⟨A', c', e, hc, hR⟩ := Rw.of_own h
  injection e with e1 e2 e3
  subst e1 e3
  refine ⟨⟨⟨hp.1, hR, hp.2⟩, hc, ?_, hv⟩, own_ty h⟩
  rcases h.2 with ⟨h1, -⟩ | ⟨g, cap, cur, h1, _, _, _, hm, _⟩
  · injection h1 with _ _ h3
    show c ≤ maxLen
    rw [h3]
    exact Nat.zero_le _
  · injection h1 with _ _ h3
    show c ≤ maxLen
    rw [h3]
    exact hm
theorem ER.okT.nil (w : World) : ER.okT w ⟨none, 0, 0, [], 0⟩ := ⟨⟨pt_nil w, Nat.le_refl _, Nat.zero_le _, by decide⟩, fun h => absurd h (by decide)⟩
end
/-- A list that grows behind a captured variable. -/
def Col {α : Type} (tv te : TypeId) (sz : Nat) (f : α → List Value) (B : Nat) (w : World) (bo : Nat) (rows : List α) : Prop :=
  B ≤ bo ∧ ∃ v, Blk w bo tv #[v] ∧ w.ownsRow B te sz v rows.length (rows.flatMap f)
theorem Col.start {α : Type} (tv te : TypeId) (sz : Nat) (f : α → List Value) (w : World) : Col tv te sz f w.heap.size (w.alloc (.cells #[.slice none 0 0] tv)) w.heap.size [] :=
  ⟨Nat.le_refl _, _, Blk.new w tv _, World.ownsRow_nil _ _ _ _⟩
theorem Col.below {α : Type} {tv te : TypeId} {sz : Nat} {f : α → List Value} {B : Nat} {w w' : World} {bo : Nat} {rows : List α} (h : Col tv te sz f B w bo rows) (hb : Below w.heap.size w w') : Col tv te sz f B w' bo rows := by
  obtain ⟨h1, v, h2, h3⟩ := h
  exact ⟨h1, v, h2.below hb, own_below h3 hb⟩
/-- What the captured variable holds. -/
theorem Col.cell {α : Type} {tv te : TypeId} {sz : Nat} {f : α → List Value} {B : Nat} {w : World} {bo : Nat} {rows : List α} (h : Col tv te sz f B w bo rows) :
    ∃ A c, w.cell? ⟨bo, 0, none⟩ = some (.slice A rows.length c) ∧ w.frozen? ⟨bo, 0, none⟩ = false ∧ bo < w.heap.size ∧ Blk w bo tv #[.slice A rows.length c] ∧ w.ownsRow B te sz (.slice A rows.length c) rows.length (rows.flatMap f) := by
  obtain ⟨h1, v, h2, h3⟩ := h
  obtain ⟨A, c, rfl, -, -⟩ := Rw.of_own h3
  exact ⟨A, c, h2.cell 0, h2.frozen 0, h2.lt, h2, h3⟩
/-- One more: the row has grown, the variable has been stored. -/
theorem Col.step {α : Type} {tv te : TypeId} {sz : Nat} {f : α → List Value} {B : Nat} {w w' : World} {bo : Nat} {rows : List α} {v v' : Value} (hB : B ≤ bo) (h2 : Blk w bo tv #[v]) (h3 : w.ownsRow B te sz v rows.length (rows.flatMap f)) (hne : tv ≠ te)
    (hg : w.grownBy w' v.ownBlock) {r : α} (ho : w'.ownsRow B te sz v' (rows.length + 1) (rows.flatMap f ++ f r)) :
    Blk w' bo tv #[v] ∧ Col tv te sz f B (w'.setCell ⟨bo, 0, none⟩ v') bo (rows ++ [r]) ∧ (∀ t, t ≠ tv → t ≠ te → Keep t w (w'.setCell ⟨bo, 0, none⟩ v')) := by
  have hB' := h2.keep (Keep.grown h3 hne hg)
  refine ⟨hB', ⟨hB, v', ?_, ?_⟩, fun t h4 h5 => (Keep.grown h3 h5 hg).trans (Keep.set hB' h4 v')⟩
  · have := hB'.set1 (i := 0) v'
    simpa using this
  · rw [List.length_append, List.length_singleton, List.flatMap_append, show [r].flatMap f = f r by simp]
    exact own_keep ho (Keep.set hB' (Ne.symm hne) v')
end Go.Proofs.Ytlgdllohmmmegaa
