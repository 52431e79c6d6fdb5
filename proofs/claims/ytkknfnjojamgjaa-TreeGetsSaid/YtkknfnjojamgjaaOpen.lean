/- Slices that came in, opened element by element. -/
import Derived.Test.YtkknfnjojamgjaaBase
import Derived.OpenShut
import Derived.Deep.Slices
import Derived.Deep.Strs
set_option linter.unusedSimpArgs false
set_option linter.unusedVariables false
namespace Go.Proofs.Ytkknfnjojamgjaa
open Go.RowKit Go.ChangeShapes Go.WideShapes Go.Deep
theorem flat_get {α : Type} {f : α → List Value} {sz : Nat} (hf : ∀ a, (f a).length = sz) : ∀ (rows : List α) (i r : Nat), r < sz → (rows.flatMap f)[i * sz + r]? = (rows[i]?).bind fun a => (f a)[r]?
  | [], i, r, _ => by simp
  | a :: rows, 0, r, hr => by
    rw [List.flatMap_cons, List.getElem?_append_left (by rw [hf]; omega)]
    simp
  | a :: rows, i + 1, r, hr => by
    rw [List.flatMap_cons, List.getElem?_append_right (by rw [hf, Nat.add_mul]; omega), hf, List.getElem?_cons_succ, ← flat_get hf rows i r hr]
    congr 1
    rw [Nat.add_mul]
    omega
theorem flat_length {α : Type} {f : α → List Value} {sz : Nat} (hf : ∀ a, (f a).length = sz) : ∀ (rows : List α), (rows.flatMap f).length = rows.length * sz
  | [] => by simp
  | a :: rows => by rw [List.flatMap_cons, List.length_append, hf, flat_length hf rows, List.length_cons, Nat.add_mul]; omega
/-- A row's element, read. -/
theorem Rw.elem {α : Type} {f : α → List Value} {sz n i : Nat} {w : World} {A : Option Addr} {rows : List α} (hf : ∀ a, (f a).length = sz) (h : Rw w sz A n (rows.flatMap f)) (hi : i < n) (hsz : 0 < sz) :
    ∃ b o a, A = some ⟨b, o, none⟩ ∧ b < w.heap.size ∧ rows[i]? = some a ∧ ∀ (r : Nat) u, (f a)[r]? = some u → w.cell? ⟨b, o + (i * sz + r), none⟩ = some u := by
  obtain ⟨b, o, rfl, hb, hc⟩ := h.2 (by omega)
  have hl : rows.length = n := by
    have h1 := h.1
    rw [flat_length hf] at h1
    exact Nat.eq_of_mul_eq_mul_right hsz h1
  have ha : rows[i]? = some (rows[i]'(by omega)) := List.getElem?_eq_getElem _
  refine ⟨b, o, _, rfl, hb, ha, fun r u hu => hc _ u ?_⟩
  have hr : r < sz := by
    have := (List.getElem?_eq_some_iff.1 hu).1
    rw [hf] at this
    exact this
  rw [flat_get hf rows i r hr, ha]
  exact hu
/-- A row made of its elements. -/
theorem Rw.of_elems {α : Type} {f : α → List Value} {sz n : Nat} {w : World} {A : Option Addr} {rows : List α} (hf : ∀ a, (f a).length = sz) (hl : rows.length = n)
    (h : 0 < n → ∃ b o, A = some ⟨b, o, none⟩ ∧ b < w.heap.size ∧ ∀ (i : Nat) a, rows[i]? = some a → ∀ (r : Nat) u, (f a)[r]? = some u → w.cell? ⟨b, o + (i * sz + r), none⟩ = some u) : Rw w sz A n (rows.flatMap f) := by
  refine ⟨by rw [flat_length hf, hl], fun hn => ?_⟩
  obtain ⟨b, o, e, hb, hc⟩ := h hn
  refine ⟨b, o, e, hb, fun j u hu => ?_⟩
  have hsz : 0 < sz := by
    rcases Nat.eq_zero_or_pos sz with h0 | h0
    · have := (List.getElem?_eq_some_iff.1 hu).1
      rw [flat_length hf, h0] at this
      omega
    · exact h0
  have hj : j = (j / sz) * sz + j % sz := by rw [Nat.mul_comm]; exact (Nat.div_add_mod j sz).symm
  rw [hj] at hu ⊢
  rw [flat_get hf rows _ _ (Nat.mod_lt _ hsz)] at hu
  obtain ⟨a, ha, hu⟩ := Option.bind_eq_some_iff.1 hu
  exact hc _ a ha _ u hu
theorem choose_rows {α : Type} {p : Nat → α → Prop} : ∀ {n : Nat}, (∀ i, i < n → ∃ a, p i a) → ∃ rows : List α, rows.length = n ∧ ∀ (i : Nat) a, rows[i]? = some a → p i a
  | 0, _ => ⟨[], rfl, fun i a h => by simp at h⟩
  | n + 1, h => by
    obtain ⟨rows, hl, hr⟩ := choose_rows (n := n) fun i hi => h i (by omega)
    obtain ⟨a, ha⟩ := h n (by omega)
    refine ⟨rows ++ [a], by simp [hl], fun i b hb => ?_⟩
    rcases Nat.lt_or_ge i n with h1 | h1
    · rw [List.getElem?_append_left (by omega)] at hb
      exact hr i b hb
    · have hi := (List.getElem?_eq_some_iff.1 hb).1
      simp at hi
      obtain rfl : i = n := by omega
      rw [List.getElem?_append_right (by omega), hl] at hb
      simp at hb
      rw [← hb]
      exact ha
theorem cell_of_cells {w : World} {base : Nat} {a : Addr} {n : Nat} {cs : List Value} (h : w.cells? base a n = some cs) : cs.length = n ∧ ∀ j u, cs[j]? = some u → w.cell? (a.add j) = some u := by
  obtain ⟨_, h1, h2⟩ := World.cells?_some h
  refine ⟨h1, fun j u hu => ?_⟩
  have hj := (List.getElem?_eq_some_iff.1 hu).1
  rw [h2 j (by omega), hu]
variable {H : Type} {enc : TypeId × Value → H} {P : Program} {w : World} {spare : Nat → Bool} {held : Bool}
/-- A slice that came in: its elements, each opened by 'ho'. -/
theorem open_elems {α : Type} (f : α → List Value) (ok : α → Prop) {sz : Nat} (hf : ∀ a, (f a).length = sz) (hsz : 0 < sz) {t e : TypeId} {fuel : Nat} {A : Option Addr} {len cap : Nat} {x : DataW H × List MemPlace}
    (ht : P.underlying t = some (.slice e)) (hc : P.cellsOf e = sz) (ho : ∀ (n : Nat) (cs : List Value) (d : DataW H × List MemPlace), DataW.trod enc P w 0 spare held n e cs = some d → ∃ a, cs = f a ∧ ok a)
    (h : DataW.trod enc P w 0 spare held fuel t [.slice A len cap] = some x) :
    ∃ rows : List α, rows.length = len ∧ (∀ a ∈ rows, ok a) ∧ Rw w sz A len (rows.flatMap f) ∧ len ≤ cap ∧ cap ≤ maxLen := by
  rcases open_slice ht h with ⟨h0, _⟩ | ⟨a, l, c, m, n, D, Pl, h0, hb, hl, hm, hmm, _, hx⟩
  · injection h0 with h0 _
    injection h0 with h1 h2 h3
    subst h1 h2 h3
    exact ⟨[], rfl, (fun a ha => by cases ha), Rw.nil _ _ _, Nat.le_refl _, Nat.zero_le _⟩
  · injection h0 with h0 _
    injection h0 with h1 h2 h3
    subst h1 h2 h3
    have hlm : len ≤ m := by rw [hmm]; split <;> omega
    obtain ⟨rows, hr, hp⟩ := choose_rows (n := len) (p := fun i (q : α) => ok q ∧ ∀ (r : Nat) u, (f q)[r]? = some u → w.cell? ((a.add (i * sz)).add r) = some u) fun i hi => by
      obtain ⟨cs, g1, g2⟩ := hx i (by omega)
      rw [hc] at g1
      obtain ⟨q, rfl, hq⟩ := ho _ _ _ g2
      exact ⟨q, hq, (cell_of_cells g1).2⟩
    refine ⟨rows, hr, fun q hq => ?_, Rw.of_elems hf hr fun hn => ?_, hl, hm⟩
    · obtain ⟨i, hi⟩ := List.getElem?_of_mem hq
      exact (hp i q hi).1
    · have key : ∀ (i : Nat) q, rows[i]? = some q → ∀ (r : Nat) u, (f q)[r]? = some u → w.cell? (a.add (i * sz + r)) = some u := by
        intro i q hq r u hu
        have := (hp i q hq).2 r u hu
        rw [add_add] at this
        exact this
      have h00 : rows[0]? = some (rows[0]'(by omega)) := List.getElem?_eq_getElem _
      have h01 : (f (rows[0]'(by omega)))[0]? = some ((f (rows[0]'(by omega)))[0]'(by rw [hf]; omega)) := List.getElem?_eq_getElem _
      have h2 := key 0 _ h00 0 _ h01
      have hspot : a.spot = none := by
        simp [Addr.add] at h2
        unfold World.cell? at h2
        split at h2
        · split at h2
          · cases h2
          · rename_i hs
            simpa using hs
        · cases h2
      obtain ⟨b, o, s⟩ := a
      simp at hspot
      subst hspot
      refine ⟨b, o, rfl, ?_, fun i q hq r u hu => ?_⟩
      · exact World.block_lt_of_cell? w ⟨b, o, none⟩ (by simpa [Addr.add] using h2)
      · have := key i q hq r u hu
        unfold Addr.add at this
        by_cases h3 : i * sz + r = 0
        · rw [if_pos h3] at this
          rw [h3]
          exact this
        · rw [if_neg h3] at this
          exact this
end Go.Proofs.Ytkknfnjojamgjaa
