/- Slots, in plain words: cells, things. -/
import Derived.Test.YtkknfnjojamgjaaBase
set_option linter.unusedSimpArgs false
set_option linter.unusedVariables false
namespace Go.Proofs.Ytkknfnjojamgjaa
open Go.RowKit
structure Cl where
  a : Nat
  x : Value
  h : Bool
def Cl.vals (c : Cl) : List Value := [.int .i64 (c.a : Int), c.x, .bool c.h]
def clv (cs : List Cl) : List Value := cs.flatMap Cl.vals
theorem clv_nil : clv [] = [] := rfl
theorem clv_cons (c : Cl) (cs : List Cl) : clv (c :: cs) = c.vals ++ clv cs := rfl
theorem clv_append (a b : List Cl) : clv (a ++ b) = clv a ++ clv b := by simp [clv]
theorem clv_length (cs : List Cl) : (clv cs).length = cs.length * 3 := by
  induction cs with
  | nil => rfl
  | cons c cs ih => rw [clv_cons, List.length_append, ih, List.length_cons]; simp [Cl.vals]; omega
theorem clv_get (cs : List Cl) (i : Nat) (c : Cl) (h : cs[i]? = some c) (j : Nat) (hj : j < 3) : (clv cs)[i * 3 + j]? = c.vals[j]? := by
  induction cs generalizing i with
  | nil => simp at h
  | cons d cs ih =>
    rw [clv_cons]
    cases i with
    | zero =>
      simp at h
      subst h
      rw [List.getElem?_append_left (by simp [Cl.vals]; omega)]
      simp
    | succ i =>
      rw [List.getElem?_append_right (by simp [Cl.vals]; omega)]
      rw [show (i + 1) * 3 + j - d.vals.length = i * 3 + j by simp [Cl.vals]; omega]
      exact ih i (by simpa using h)
theorem Rw.cl {w : World} {A : Option Addr} {n i : Nat} {cs : List Cl} (h : Rw w 3 A n (clv cs)) (hi : i < n) :
    ∃ b o c, A = some ⟨b, o, none⟩ ∧ b < w.heap.size ∧ cs[i]? = some c ∧ w.cell? ⟨b, o + i * 3, none⟩ = some (.int .i64 (c.a : Int)) ∧ w.cell? ⟨b, o + i * 3 + 1, none⟩ = some c.x ∧ w.cell? ⟨b, o + i * 3 + 2, none⟩ = some (.bool c.h) := by
  have hl := h.1
  rw [clv_length] at hl
  obtain ⟨b, o, hA, hb, hc⟩ := h.2 (by omega)
  have hi' : i < cs.length := by omega
  have hg := List.getElem?_eq_getElem hi'
  refine ⟨b, o, cs[i], hA, hb, hg, ?_, ?_, ?_⟩
  · exact hc (i * 3) _ (by simpa [Cl.vals] using clv_get cs i _ hg 0 (by omega))
  · rw [Nat.add_assoc]; exact hc (i * 3 + 1) _ (by simpa [Cl.vals] using clv_get cs i _ hg 1 (by omega))
  · rw [Nat.add_assoc]; exact hc (i * 3 + 2) _ (by simpa [Cl.vals] using clv_get cs i _ hg 2 (by omega))
/-- Rising addresses. -/
def Rising (cs : List Cl) : Prop := ∀ (i j : Nat) (c d : Cl), cs[i]? = some c → cs[j]? = some d → i < j → c.a < d.a
/-- Where an address stands, or would: and is it there? -/
def Found (cs : List Cl) (addr : Int) (at_ : Nat) (ok : Bool) : Prop :=
  at_ ≤ cs.length ∧ (∀ (i : Nat) (c : Cl), cs[i]? = some c → i < at_ → (c.a : Int) < addr) ∧ (∀ (i : Nat) (c : Cl), cs[i]? = some c → at_ ≤ i → addr ≤ (c.a : Int)) ∧ ok = (match cs[at_]? with | some c => decide ((c.a : Int) = addr) && c.h | none => false)
theorem found_end {cs : List Cl} {addr : Int} {lo : Nat} (h : lo ≤ cs.length) (hl : ∀ (i : Nat) (c : Cl), cs[i]? = some c → i < lo → (c.a : Int) < addr) (hh : ∀ (i : Nat) (c : Cl), cs[i]? = some c → lo ≤ i → addr < (c.a : Int)) : Found cs addr lo false := by
  refine ⟨h, hl, fun i c hi hle => Int.le_of_lt (hh i c hi hle), ?_⟩
  cases hc : cs[lo]? with
  | none => rfl
  | some c =>
    have := hh lo c hc (Nat.le_refl _)
    have hne : ¬ (c.a : Int) = addr := by omega
    simp [hne]
theorem found_eq {cs : List Cl} {addr : Int} {m : Nat} {d : Cl} (hS : Rising cs) (hd : cs[m]? = some d) (e : (d.a : Int) = addr) : Found cs addr m d.h := by
  refine ⟨Nat.le_of_lt (List.getElem?_eq_some_iff.1 hd).1, fun i c hi hlt => ?_, fun i c hi hle => ?_, ?_⟩
  · have := hS i m c d hi hd hlt; omega
  · rcases Nat.lt_or_ge m i with h | h
    · have := hS m i d c hd hi h; omega
    · have : i = m := by omega
      subst this
      rw [hd] at hi
      injection hi with hi
      subst hi
      omega
  · rw [hd]; simp [e]
theorem below_step {cs : List Cl} {addr : Int} {m : Nat} {d : Cl} (hS : Rising cs) (hd : cs[m]? = some d) (e : (d.a : Int) < addr) : ∀ (i : Nat) (c : Cl), cs[i]? = some c → i < m + 1 → (c.a : Int) < addr := by
  intro i c hi hlt
  rcases Nat.lt_or_ge i m with h | h
  · have := hS i m c d hi hd h; omega
  · have : i = m := by omega
    subst this
    rw [hd] at hi
    injection hi with hi
    subst hi
    exact e
theorem above_step {cs : List Cl} {addr : Int} {m : Nat} {d : Cl} (hS : Rising cs) (hd : cs[m]? = some d) (e : addr < (d.a : Int)) : ∀ (i : Nat) (c : Cl), cs[i]? = some c → m ≤ i → addr < (c.a : Int) := by
  intro i c hi hle
  rcases Nat.lt_or_ge m i with h | h
  · have := hS m i d c hd hi h; omega
  · have : i = m := by omega
    subst this
    rw [hd] at hi
    injection hi with hi
    subst hi
    exact e
def live (cs : List Cl) : List Cl := cs.filter (·.h)
theorem live_take (cs : List Cl) (k : Nat) (c : Cl) (h : cs[k]? = some c) : live (cs.take (k + 1)) = live (cs.take k) ++ (if c.h then [c] else []) := by
  obtain ⟨hk, rfl⟩ := List.getElem?_eq_some_iff.1 h
  rw [List.take_succ_eq_append_getElem hk]
  unfold live
  rw [List.filter_append]
  cases hh : cs[k].h <;> simp [hh]
theorem live_len (cs : List Cl) (k : Nat) : (live (cs.take k)).length ≤ cs.length := Nat.le_trans (List.length_filter_le _ _) (by simp; omega)
theorem vals_one (c : Cl) (h : c.x.oneCell' = true) : ∀ u ∈ c.vals, u.oneCell' = true := by
  intro u hu
  simp only [Cl.vals, List.mem_cons, List.not_mem_nil, or_false] at hu
  rcases hu with rfl | rfl | rfl
  · rfl
  · exact h
  · rfl
/-! ### Things: addresses, rising, and what is there -/
abbrev Th := List (Nat × Value)
def mkC (L : Th) : List Cl := L.map fun t => ⟨t.1, t.2, true⟩
def denseB (k n : Nat) : Bool := decide (k ≤ 6 ∧ 2 ^ k < 2 * n)
def cellAt (z : Value) (L : Th) (i : Nat) : Cl := match L.find? (fun t => t.1 == i) with | some t => ⟨i, t.2, true⟩ | none => ⟨i, z, false⟩
def cellsOf (z : Value) (k : Nat) (L : Th) : List Cl := if denseB k L.length then (List.range (2 ^ k)).map (cellAt z L) else mkC L
/-- Addresses rising, below 2^k. -/
def OkTh (k : Nat) (L : Th) : Prop := L.Pairwise (fun s t => s.1 < t.1) ∧ ∀ t ∈ L, t.1 < 2 ^ k
theorem mkC_length (L : Th) : (mkC L).length = L.length := by simp [mkC]
theorem mkC_get (L : Th) (i : Nat) : (mkC L)[i]? = (L[i]?).map fun t => ⟨t.1, t.2, true⟩ := by simp [mkC]
theorem mkC_rising {k : Nat} {L : Th} (h : OkTh k L) : Rising (mkC L) := by
  intro i j c d hi hj hlt
  rw [mkC_get] at hi hj
  obtain ⟨s, hs, rfl⟩ := Option.map_eq_some_iff.1 hi
  obtain ⟨t, ht, rfl⟩ := Option.map_eq_some_iff.1 hj
  obtain ⟨hi', rfl⟩ := List.getElem?_eq_some_iff.1 hs
  obtain ⟨hj', rfl⟩ := List.getElem?_eq_some_iff.1 ht
  exact List.pairwise_iff_getElem.1 h.1 i j hi' hj' hlt
theorem cellAt_a (z : Value) (L : Th) (i : Nat) : (cellAt z L i).a = i := by unfold cellAt; split <;> rfl
theorem cellsOf_rising {z : Value} {k : Nat} {L : Th} (h : OkTh k L) : Rising (cellsOf z k L) := by
  unfold cellsOf
  split
  · intro i j c d hi hj hlt
    rw [List.getElem?_map] at hi hj
    obtain ⟨s, hs, rfl⟩ := Option.map_eq_some_iff.1 hi
    obtain ⟨t, ht, rfl⟩ := Option.map_eq_some_iff.1 hj
    obtain ⟨hi', rfl⟩ := List.getElem?_eq_some_iff.1 hs
    obtain ⟨hj', rfl⟩ := List.getElem?_eq_some_iff.1 ht
    simp [cellAt_a]
    exact hlt
  · exact mkC_rising h
theorem live_mkC (L : Th) : live (mkC L) = mkC L := by
  unfold live mkC
  rw [List.filter_map]
  congr 1
  exact List.filter_eq_self.2 (fun _ _ => rfl)
theorem len_le_aux (m : Nat) : ∀ (L : Th) (a : Nat), a ≤ m → (∀ t ∈ L, a ≤ t.1) → L.Pairwise (fun s t => s.1 < t.1) → (∀ t ∈ L, t.1 < m) → a + L.length ≤ m
  | [], a, h, _, _, _ => by simpa using h
  | s :: L, a, _, ha, hp, hm => by
    have h1 := ha s (by simp)
    have h2 := hm s (by simp)
    have hs := (List.pairwise_cons.1 hp).1
    have := len_le_aux m L (s.1 + 1) (by omega) (fun t ht => by have := hs t ht; omega) (List.pairwise_cons.1 hp).2 (fun t ht => hm t (by simp [ht]))
    simp
    omega
theorem len_le_of_ok {k : Nat} {L : Th} (h : OkTh k L) : L.length ≤ 2 ^ k := by
  have := len_le_aux (2 ^ k) L 0 (Nat.zero_le _) (fun _ _ => Nat.zero_le _) h.1 h.2
  omega
theorem pow16 {k : Nat} (h : k ≤ 16) : 2 ^ k ≤ 65536 := pow_len_le h
theorem cellsOf_len {z : Value} {k : Nat} {L : Th} (h : OkTh k L) (hk : k ≤ 16) : (cellsOf z k L).length ≤ 65536 := by
  have := pow16 hk
  have := len_le_of_ok h
  unfold cellsOf
  split
  · simp; omega
  · rw [mkC_length]; omega
theorem find_none_of {k : Nat} {L : Th} {i : Nat} (h : ∀ t ∈ L, t.1 ≠ i) : L.find? (fun t => t.1 == i) = none := by
  rw [List.find?_eq_none]
  intro t ht
  simp [h t ht]
/-- The cells that have a thing are the things. -/
theorem live_range (z : Value) : ∀ (m : Nat) (L : Th), L.Pairwise (fun s t => s.1 < t.1) → live ((List.range m).map (cellAt z L)) = mkC (L.filter (fun t => decide (t.1 < m)))
  | 0, L, _ => by simp [live, mkC]
  | m + 1, L, h => by
    rw [List.range_succ, List.map_append, List.map_singleton]
    have ih := live_range z m L h
    unfold live at ih ⊢
    rw [List.filter_append, ih]
    unfold mkC
    have key : L.filter (fun t => decide (t.1 < m + 1)) = L.filter (fun t => decide (t.1 < m)) ++ L.filter (fun t => t.1 == m) := by
      clear ih
      induction L with
      | nil => rfl
      | cons s L ihL =>
        have hL := (List.pairwise_cons.1 h).2
        have hs := (List.pairwise_cons.1 h).1
        rcases Nat.lt_trichotomy s.1 m with h1 | h1 | h1
        · have e1 : decide (s.1 < m + 1) = true := by simp; omega
          have e2 : decide (s.1 < m) = true := by simp; omega
          have e3 : (s.1 == m) = false := by simp; omega
          simp [List.filter_cons, e1, e2, e3, ihL hL]
        · have e1 : decide (s.1 < m + 1) = true := by simp; omega
          have e2 : decide (s.1 < m) = false := by simp; omega
          have e3 : (s.1 == m) = true := by simp; omega
          have n1 : L.filter (fun t => decide (t.1 < m + 1)) = [] := List.filter_eq_nil_iff.2 (fun t ht => by have := hs t ht; simp; omega)
          have n2 : L.filter (fun t => decide (t.1 < m)) = [] := List.filter_eq_nil_iff.2 (fun t ht => by have := hs t ht; simp; omega)
          have n3 : L.filter (fun t => t.1 == m) = [] := List.filter_eq_nil_iff.2 (fun t ht => by have := hs t ht; simp; omega)
          rw [List.filter_cons, List.filter_cons, List.filter_cons, n1, n2, n3]
          simp [e1, e2, e3]
        · have n1 : (s :: L).filter (fun t => decide (t.1 < m + 1)) = [] := List.filter_eq_nil_iff.2 (fun t ht => by
            rcases List.mem_cons.1 ht with rfl | ht
            · simp; omega
            · have := hs t ht; simp; omega)
          have n2 : (s :: L).filter (fun t => decide (t.1 < m)) = [] := List.filter_eq_nil_iff.2 (fun t ht => by
            rcases List.mem_cons.1 ht with rfl | ht
            · simp; omega
            · have := hs t ht; simp; omega)
          have n3 : (s :: L).filter (fun t => t.1 == m) = [] := List.filter_eq_nil_iff.2 (fun t ht => by
            rcases List.mem_cons.1 ht with rfl | ht
            · simp; omega
            · have := hs t ht; simp; omega)
          rw [n1, n2, n3]; rfl
    rw [key, List.map_append]
    congr 1
    cases hf : L.find? (fun t => t.1 == m) with
    | none =>
      have hn : L.filter (fun t => t.1 == m) = [] := List.filter_eq_nil_iff.2 (fun t ht => List.find?_eq_none.1 hf t ht)
      simp [cellAt, hf, hn]
    | some t =>
      have ht := List.find?_some hf
      have hm := List.mem_of_find?_eq_some hf
      simp at ht
      have hn : L.filter (fun t => t.1 == m) = [t] := by
        clear ih key
        induction L with
        | nil => simp at hf
        | cons s L ihL =>
          have hL := (List.pairwise_cons.1 h).2
          have hs := (List.pairwise_cons.1 h).1
          by_cases e : (s.1 == m) = true
          · rw [List.find?_cons, e] at hf
            injection hf with hf
            subst hf
            rw [List.filter_cons, if_pos e]
            have : L.filter (fun t => t.1 == m) = [] := List.filter_eq_nil_iff.2 (fun u hu => by have := hs u hu; simp; omega)
            rw [this]
          · rw [List.find?_cons, show (s.1 == m) = false by simpa using e] at hf
            rw [List.filter_cons, if_neg e]
            exact ihL hL hf (List.mem_of_find?_eq_some hf)
      simp [cellAt, hf, hn, ht]
theorem live_cellsOf (z : Value) {k : Nat} {L : Th} (h : OkTh k L) : live (cellsOf z k L) = mkC L := by
  unfold cellsOf
  split
  · rw [live_range z _ L h.1]
    congr 1
    exact List.filter_eq_self.2 (fun t ht => by simpa using h.2 t ht)
  · exact live_mkC L
/-! ### Dense slots as they are made -/
theorem clv_set (cs : List Cl) (i : Nat) (c : Cl) (hi : i < cs.length) : (((clv cs).set (i * 3) (.int .i64 (c.a : Int))).set (i * 3 + 1) c.x).set (i * 3 + 2) (.bool c.h) = clv (cs.set i c) := by
  induction cs generalizing i with
  | nil => simp at hi
  | cons d cs ih =>
    cases i with
    | zero => simp [clv_cons, Cl.vals]
    | succ i =>
      have := ih i (by simpa using hi)
      rw [clv_cons, List.set_cons_succ, clv_cons, ← this]
      have h3 : d.vals.length = 3 := rfl
      rw [show (i + 1) * 3 = 3 + i * 3 by omega]
      rw [List.set_append_right _ _ (by omega), List.set_append_right _ _ (by omega), List.set_append_right _ _ (by omega)]
      rw [h3, show 3 + i * 3 - 3 = i * 3 by omega, show 3 + i * 3 + 1 - 3 = i * 3 + 1 by omega, show 3 + i * 3 + 2 - 3 = i * 3 + 2 by omega]
/-- The row whose first j addresses are laid. -/
def laidTo (z : Value) (m j : Nat) : List Cl := (List.range m).map fun i => if i < j then ⟨i, z, false⟩ else ⟨0, z, false⟩
theorem laidTo_zero (z : Value) (m : Nat) : laidTo z m 0 = List.replicate m ⟨0, z, false⟩ := by
  apply List.ext_getElem?
  intro i
  simp only [laidTo, List.getElem?_map, List.getElem?_replicate]
  by_cases h : i < m <;> simp [h]
theorem laidTo_succ (z : Value) (m j : Nat) (h : j < m) : (laidTo z m j).set j ⟨j, z, false⟩ = laidTo z m (j + 1) := by
  apply List.ext_getElem?
  intro i
  simp only [laidTo, List.getElem?_set, List.getElem?_map, List.length_map, List.length_range]
  by_cases hi : i < m
  · by_cases e : j = i
    · subst e; simp [h]
    · have : (i < j) = (i < j + 1) := by apply propext; omega
      simp [e, hi, this]
  · by_cases e : j = i
    · omega
    · simp [e, hi]
theorem laidTo_all (z : Value) (m : Nat) : laidTo z m m = (List.range m).map (cellAt z []) := by
  unfold laidTo
  apply List.map_congr_left
  intro i hi
  simp [cellAt, List.mem_range.1 hi]
/-- One thing more is laid. -/
theorem dense_step (z : Value) (m : Nat) (L : Th) (k : Nat) (t : Nat × Value) (hp : L.Pairwise (fun s t => s.1 < t.1)) (ht : L[k]? = some t) (hm : t.1 < m) :
    ((List.range m).map (cellAt z (L.take k))).set t.1 ⟨t.1, t.2, true⟩ = (List.range m).map (cellAt z (L.take (k + 1))) := by
  have ht2 : L.take (k + 1) = L.take k ++ [t] := by
    obtain ⟨hk, rfl⟩ := List.getElem?_eq_some_iff.1 ht
    exact List.take_succ_eq_append_getElem hk
  have hlt : ∀ u ∈ L.take k, u.1 ≠ t.1 := by
    intro u hu
    obtain ⟨hk, rfl⟩ := List.getElem?_eq_some_iff.1 ht
    obtain ⟨j, hj, rfl⟩ := List.getElem_of_mem hu
    rw [List.getElem_take]
    rw [List.length_take] at hj
    have := List.pairwise_iff_getElem.1 hp j k (by omega) hk (by omega)
    omega
  have hn := find_none_of (k := 0) hlt
  rw [ht2]
  generalize L.take k = T at *
  apply List.ext_getElem?
  intro i
  simp only [List.getElem?_set, List.getElem?_map, List.length_map, List.length_range]
  by_cases hi : i < m
  · by_cases e : t.1 = i
    · subst e
      simp [hm, cellAt, List.find?_append, hn]
    · have e' : (t.1 == i) = false := by simpa using e
      simp [e, hi, cellAt, List.find?_append, List.find?_cons, e']
  · by_cases e : t.1 = i
    · omega
    · simp [e, hi]
theorem clv_rep_get (z : Value) (m j : Nat) (h : j < m * 3) : (clv (List.replicate m ⟨0, z, false⟩))[j]? = #[Value.int .i64 0, z, .bool false][j % 3]? := by
  have hd : j = j / 3 * 3 + j % 3 := by omega
  have hm : j % 3 < 3 := Nat.mod_lt _ (by omega)
  have hi : (List.replicate m (⟨0, z, false⟩ : Cl))[j / 3]? = some ⟨0, z, false⟩ := by rw [List.getElem?_replicate]; simp; omega
  have := clv_get _ _ _ hi (j % 3) hm
  rw [← hd] at this
  rw [this]
  simp [Cl.vals]
theorem made_clv (z : Value) (m : Nat) : (madeCells #[.int .i64 0, z, .bool false] (m * 3)).toList = clv (laidTo z m 0) := by
  rw [laidTo_zero]
  apply List.ext_getElem?
  intro j
  by_cases h : j < m * 3
  · rw [clv_rep_get z m j h]
    have hm : j % 3 < 3 := Nat.mod_lt _ (by omega)
    simp [madeCells, h, hm]
  · rw [List.getElem?_eq_none (by simp [size_madeCells]; omega), List.getElem?_eq_none (by rw [clv_length]; simp; omega)]
theorem made_own (w : World) (e : TypeId) (z : Value) (m : Nat) (hm : m ≤ 65536) : (w.alloc (.cells (madeCells #[.int .i64 0, z, .bool false] (m * 3)) e)).ownsRow w.heap.size e 3 (.slice (some ⟨w.heap.size, 0, none⟩) m m) m (clv (laidTo z m 0)) := by
  refine ⟨by rw [clv_length]; simp [laidTo], .inr ⟨w.heap.size, m, _, rfl, Nat.le_refl _, heap_alloc_new w _, Nat.le_refl _, by simp only [maxLen]; omega, by simp [size_madeCells], ?_⟩⟩
  rw [made_clv]
  apply List.take_of_length_le
  rw [clv_length]
  simp [laidTo]
theorem laidTo_len (z : Value) (m j : Nat) : (laidTo z m j).length = m := by simp [laidTo]
theorem clv_set_a (cs : List Cl) (i a : Nat) (c : Cl) (h : cs[i]? = some c) : (clv cs).set (i * 3) (.int .i64 (a : Int)) = clv (cs.set i ⟨a, c.x, c.h⟩) := by
  induction cs generalizing i with
  | nil => simp at h
  | cons d cs ih =>
    cases i with
    | zero =>
      simp at h
      subst h
      simp [clv_cons, Cl.vals]
    | succ i =>
      have := ih i (by simpa using h)
      rw [clv_cons, List.set_cons_succ, clv_cons, ← this]
      have h3 : d.vals.length = 3 := rfl
      rw [show (i + 1) * 3 = 3 + i * 3 by omega, List.set_append_right _ _ (by omega), h3, show 3 + i * 3 - 3 = i * 3 by omega]
theorem laid_store (z : Value) (m j : Nat) (h : j < m) : (clv (laidTo z m j)).set (j * 3) (.int .i64 (j : Int)) = clv (laidTo z m (j + 1)) := by
  rw [clv_set_a (laidTo z m j) j j ⟨0, z, false⟩ (by simp [laidTo, h]), laidTo_succ z m j h]
theorem own_store3 {w : World} {base n cap g i : Nat} {e : TypeId} {cs : List Cl} (h : w.ownsRow base e 3 (.slice (some ⟨g, 0, none⟩) n cap) n (clv cs)) (c : Cl) (hi : i < n) :
    (((w.setCell ⟨g, i * 3, none⟩ (.int .i64 (c.a : Int))).setCell ⟨g, i * 3 + 1, none⟩ c.x).setCell ⟨g, i * 3 + 2, none⟩ (.bool c.h)).ownsRow base e 3 (.slice (some ⟨g, 0, none⟩) n cap) n (clv (cs.set i c)) := by
  have hl := h.1
  rw [clv_length] at hl
  rw [← clv_set cs i c (by omega)]
  exact (((h.stored (i * 3) _).1.stored (i * 3 + 1) _).1.stored (i * 3 + 2) _).1
theorem own_cells {w : World} {base n cap g i : Nat} {e : TypeId} {cs : List Cl} (h : w.ownsRow base e 3 (.slice (some ⟨g, 0, none⟩) n cap) n (clv cs)) (hi : i < n) :
    ∃ c, cs[i]? = some c ∧ w.cell? ⟨g, i * 3, none⟩ = some (.int .i64 (c.a : Int)) ∧ w.cell? ⟨g, i * 3 + 1, none⟩ = some c.x ∧ w.cell? ⟨g, i * 3 + 2, none⟩ = some (.bool c.h) ∧
      w.frozen? ⟨g, i * 3, none⟩ = false ∧ w.frozen? ⟨g, i * 3 + 1, none⟩ = false ∧ w.frozen? ⟨g, i * 3 + 2, none⟩ = false := by
  have hl := h.1
  rw [clv_length] at hl
  have hi' : i < cs.length := by omega
  have hg := List.getElem?_eq_getElem hi'
  refine ⟨cs[i], hg, ?_, ?_, ?_, h.frozenAt _, h.frozenAt _, h.frozenAt _⟩
  · exact (h.cellAt (i * 3) (by omega)).trans (by simpa [Cl.vals] using clv_get cs i _ hg 0 (by omega))
  · exact (h.cellAt (i * 3 + 1) (by omega)).trans (by simpa [Cl.vals] using clv_get cs i _ hg 1 (by omega))
  · exact (h.cellAt (i * 3 + 2) (by omega)).trans (by simpa [Cl.vals] using clv_get cs i _ hg 2 (by omega))
/-! ### What is asked of things -/
def getTh (L : Th) (addr : Int) : Option Value := (L.find? (fun t => decide ((t.1 : Int) = addr))).map (·.2)
def fromTh (L : Th) (addr : Int) : Option (Nat × Value) := (L.filter (fun t => decide (addr ≤ (t.1 : Int)))).head?
def upTh (L : Th) (addr : Int) : Option (Nat × Value) := (L.filter (fun t => decide ((t.1 : Int) ≤ addr))).getLast?
theorem th_of_live {cs : List Cl} {L : Th} (h : live cs = mkC L) : L = (live cs).map fun c => (c.a, c.x) := by
  rw [h]
  unfold mkC
  rw [List.map_map]
  exact (List.map_id'' (fun t => rfl) L).symm
theorem mem_th {cs : List Cl} {L : Th} (h : live cs = mkC L) {i : Nat} {c : Cl} (hc : cs[i]? = some c) (hh : c.h = true) : (c.a, c.x) ∈ L := by
  rw [th_of_live h]
  exact List.mem_map.2 ⟨c, List.mem_filter.2 ⟨List.mem_of_getElem? hc, hh⟩, rfl⟩
theorem of_mem_th {cs : List Cl} {L : Th} (h : live cs = mkC L) {t : Nat × Value} (ht : t ∈ L) : ∃ (i : Nat) (c : Cl), cs[i]? = some c ∧ c.h = true ∧ c.a = t.1 ∧ c.x = t.2 := by
  rw [th_of_live h] at ht
  obtain ⟨c, hc, rfl⟩ := List.mem_map.1 ht
  obtain ⟨h1, h2⟩ := List.mem_filter.1 hc
  obtain ⟨i, hi, rfl⟩ := List.getElem_of_mem h1
  exact ⟨i, cs[i], List.getElem?_eq_getElem hi, h2, rfl, rfl⟩
theorem th_unique {k : Nat} {L : Th} (h : OkTh k L) {s t : Nat × Value} (hs : s ∈ L) (ht : t ∈ L) (e : s.1 = t.1) : s = t := by
  obtain ⟨i, hi, rfl⟩ := List.getElem_of_mem hs
  obtain ⟨j, hj, rfl⟩ := List.getElem_of_mem ht
  rcases Nat.lt_trichotomy i j with hlt | rfl | hlt
  · have := List.pairwise_iff_getElem.1 h.1 i j hi hj hlt; omega
  · rfl
  · have := List.pairwise_iff_getElem.1 h.1 j i hj hi hlt; omega
theorem getTh_some {k : Nat} {L : Th} (h : OkTh k L) {t : Nat × Value} (ht : t ∈ L) : getTh L (t.1 : Int) = some t.2 := by
  unfold getTh
  cases hf : L.find? (fun s => decide ((s.1 : Int) = (t.1 : Int))) with
  | none =>
    have := List.find?_eq_none.1 hf t ht
    simp at this
  | some s =>
    have h1 := List.find?_some hf
    have h2 := List.mem_of_find?_eq_some hf
    simp at h1
    rw [th_unique h h2 ht (by omega)]
    rfl
theorem getTh_none {L : Th} {addr : Int} (h : ∀ t ∈ L, (t.1 : Int) ≠ addr) : getTh L addr = none := by
  unfold getTh
  rw [Option.map_eq_none_iff, List.find?_eq_none]
  intro t ht
  simp [h t ht]
theorem found_some {k : Nat} {cs : List Cl} {L : Th} {addr : Int} {at_ : Nat} (hF : Found cs addr at_ true) (hO : OkTh k L) (h : live cs = mkC L) : ∃ c, cs[at_]? = some c ∧ c.h = true ∧ (c.a : Int) = addr ∧ getTh L addr = some c.x := by
  have h4 := hF.2.2.2
  split at h4
  · rename_i c hc
    simp at h4
    refine ⟨c, hc, h4.2, h4.1, ?_⟩
    rw [← h4.1]
    exact getTh_some hO (mem_th h hc h4.2)
  · cases h4
theorem found_none {cs : List Cl} {L : Th} {addr : Int} {at_ : Nat} (hF : Found cs addr at_ false) (hS : Rising cs) (h : live cs = mkC L) : getTh L addr = none := by
  apply getTh_none
  intro t ht e
  obtain ⟨i, c, hc, hh, ha, _⟩ := of_mem_th h ht
  obtain ⟨_, h2, h3, h4⟩ := hF
  rcases Nat.lt_trichotomy i at_ with hlt | rfl | hlt
  · have := h2 i c hc hlt; omega
  · rw [hc] at h4
    simp [hh] at h4
    omega
  · have hlen : at_ < cs.length := by have := (List.getElem?_eq_some_iff.1 hc).1; omega
    have hd := List.getElem?_eq_getElem hlen
    have h5 := hS at_ i _ c hd hc hlt
    have h6 := h3 at_ _ hd (Nat.le_refl _)
    omega
theorem live_split (cs : List Cl) (j : Nat) (c : Cl) (h : cs[j]? = some c) (hh : c.h = true) : live cs = live (cs.take j) ++ c :: live (cs.drop (j + 1)) := by
  obtain ⟨hj, rfl⟩ := List.getElem?_eq_some_iff.1 h
  conv => lhs; rw [← List.take_append_drop j cs, List.drop_eq_getElem_cons hj]
  unfold live
  rw [List.filter_append, List.filter_cons, if_pos hh]
theorem from_at {cs : List Cl} {L : Th} {addr : Int} {j : Nat} {c : Cl} (h : live cs = mkC L) (hc : cs[j]? = some c) (hh : c.h = true) (hl : ∀ (i : Nat) (d : Cl), cs[i]? = some d → i < j → d.h = true → (d.a : Int) < addr) (hge : addr ≤ (c.a : Int)) : fromTh L addr = some (c.a, c.x) := by
  unfold fromTh
  rw [th_of_live h, live_split cs j c hc hh, List.map_append, List.filter_append]
  have : (List.map (fun c : Cl => (c.a, c.x)) (live (cs.take j))).filter (fun t => decide (addr ≤ (t.1 : Int))) = [] := by
    rw [List.filter_eq_nil_iff]
    intro t ht
    obtain ⟨d, hd, rfl⟩ := List.mem_map.1 ht
    obtain ⟨h1, h2⟩ := List.mem_filter.1 hd
    obtain ⟨i, hi, rfl⟩ := List.getElem_of_mem h1
    rw [List.length_take] at hi
    have := hl i cs[i] (List.getElem?_eq_getElem (by omega)) (by omega) (by simpa using h2)
    simp
    omega
  rw [this]
  simp [hge]
theorem from_none {cs : List Cl} {L : Th} {addr : Int} (h : live cs = mkC L) (hl : ∀ (i : Nat) (d : Cl), cs[i]? = some d → d.h = true → (d.a : Int) < addr) : fromTh L addr = none := by
  unfold fromTh
  rw [List.head?_eq_none_iff, List.filter_eq_nil_iff]
  intro t ht
  obtain ⟨i, c, hc, hh, ha, _⟩ := of_mem_th h ht
  have := hl i c hc hh
  simp
  omega
theorem up_at {cs : List Cl} {L : Th} {addr : Int} {j : Nat} {c : Cl} (h : live cs = mkC L) (hc : cs[j]? = some c) (hh : c.h = true) (hl : ∀ (i : Nat) (d : Cl), cs[i]? = some d → j < i → d.h = true → addr < (d.a : Int)) (hge : (c.a : Int) ≤ addr) : upTh L addr = some (c.a, c.x) := by
  unfold upTh
  rw [th_of_live h, live_split cs j c hc hh, List.map_append, List.filter_append, List.map_cons, List.filter_cons, if_pos (by simpa using hge)]
  have : (List.map (fun c : Cl => (c.a, c.x)) (live (cs.drop (j + 1)))).filter (fun t => decide ((t.1 : Int) ≤ addr)) = [] := by
    rw [List.filter_eq_nil_iff]
    intro t ht
    obtain ⟨d, hd, rfl⟩ := List.mem_map.1 ht
    obtain ⟨h1, h2⟩ := List.mem_filter.1 hd
    obtain ⟨i, hi, rfl⟩ := List.getElem_of_mem h1
    rw [List.length_drop] at hi
    rw [List.getElem_drop] at h2
    have := hl (j + 1 + i) _ (List.getElem?_eq_getElem (by omega)) (by omega) h2
    simp
    omega
  rw [this]
  simp
theorem up_none {cs : List Cl} {L : Th} {addr : Int} (h : live cs = mkC L) (hl : ∀ (i : Nat) (d : Cl), cs[i]? = some d → d.h = true → addr < (d.a : Int)) : upTh L addr = none := by
  unfold upTh
  rw [List.getLast?_eq_none_iff, List.filter_eq_nil_iff]
  intro t ht
  obtain ⟨i, c, hc, hh, ha, _⟩ := of_mem_th h ht
  have := hl i c hc hh
  simp
  omega
/-- The code of an address: 0, or Arg. -/
def chk (k : Nat) (addr : Int) : Int := if 0 ≤ addr ∧ addr < ((2 ^ k : Nat) : Int) then 0 else 3
theorem found_above {cs : List Cl} {addr : Int} {at_ : Nat} (hF : Found cs addr at_ false) (hS : Rising cs) : ∀ (i : Nat) (d : Cl), cs[i]? = some d → at_ ≤ i → d.h = true → addr < (d.a : Int) := by
  intro i c hc hle hh
  obtain ⟨_, h2, h3, h4⟩ := hF
  have h5 := h3 i c hc hle
  rcases Nat.lt_or_ge at_ i with hlt | hge
  · have hlen : at_ < cs.length := by have := (List.getElem?_eq_some_iff.1 hc).1; omega
    have hd := List.getElem?_eq_getElem hlen
    have h6 := hS at_ i _ c hd hc hlt
    have h7 := h3 at_ _ hd (Nat.le_refl _)
    omega
  · have : i = at_ := by omega
    subst this
    rw [hc] at h4
    simp [hh] at h4
    omega
theorem found_above1 {k : Nat} {cs : List Cl} {L : Th} {addr : Int} {at_ : Nat} (hF : Found cs addr at_ true) (hO : OkTh k L) (h : live cs = mkC L) (hS : Rising cs) :
    at_ < cs.length ∧ (∀ (i : Nat) (d : Cl), cs[i]? = some d → at_ + 1 ≤ i → d.h = true → addr < (d.a : Int)) ∧ (∀ (i : Nat) (d : Cl), cs[i]? = some d → i < at_ + 1 → (d.a : Int) ≤ addr) := by
  obtain ⟨c, hc, hh, ha, _⟩ := found_some hF hO h
  refine ⟨(List.getElem?_eq_some_iff.1 hc).1, fun i d hd hi _ => ?_, fun i d hd hi => ?_⟩
  · have := hS at_ i c d hc hd (by omega); omega
  · rcases Nat.lt_or_ge i at_ with h1 | h1
    · have := hF.2.1 i d hd h1; omega
    · have : i = at_ := by omega
      subst this
      rw [hc] at hd
      injection hd with hd
      subst hd
      omega
/-! ### One thing more, one thing less -/
def insTh (L : Th) (a : Nat) (x : Value) : Th := L.filter (fun t => decide (t.1 < a)) ++ [(a, x)] ++ L.filter (fun t => decide (a < t.1))
def delTh (L : Th) (a : Nat) : Th := L.filter (fun t => decide (t.1 ≠ a))
theorem filter_take {α : Type} (p : α → Bool) (L : List α) (n : Nat) (h1 : ∀ t ∈ L.take n, p t = true) (h2 : ∀ t ∈ L.drop n, p t = false) : L.filter p = L.take n := by
  conv => lhs; rw [← List.take_append_drop n L]
  rw [List.filter_append, List.filter_eq_self.2 h1, List.filter_eq_nil_iff.2 (fun t ht => by simp [h2 t ht]), List.append_nil]
theorem filter_drop {α : Type} (p : α → Bool) (L : List α) (n : Nat) (h1 : ∀ t ∈ L.take n, p t = false) (h2 : ∀ t ∈ L.drop n, p t = true) : L.filter p = L.drop n := by
  conv => lhs; rw [← List.take_append_drop n L]
  rw [List.filter_append, List.filter_eq_self.2 h2, List.filter_eq_nil_iff.2 (fun t ht => by simp [h1 t ht]), List.nil_append]
theorem mem_take_idx {α : Type} {L : List α} {n : Nat} {t : α} (h : t ∈ L.take n) : ∃ i, i < n ∧ L[i]? = some t := by
  obtain ⟨i, hi, rfl⟩ := List.getElem_of_mem h
  rw [List.length_take] at hi
  exact ⟨i, by omega, by rw [List.getElem_take]; exact List.getElem?_eq_getElem (by omega)⟩
theorem mem_drop_idx {α : Type} {L : List α} {n : Nat} {t : α} (h : t ∈ L.drop n) : ∃ i, n ≤ i ∧ L[i]? = some t := by
  obtain ⟨i, hi, rfl⟩ := List.getElem_of_mem h
  rw [List.length_drop] at hi
  exact ⟨n + i, by omega, by rw [List.getElem_drop]; exact List.getElem?_eq_getElem (by omega)⟩
theorem mkC_idx {L : Th} {i : Nat} {t : Nat × Value} (h : L[i]? = some t) : (mkC L)[i]? = some ⟨t.1, t.2, true⟩ := by rw [mkC_get, h]; rfl
theorem mkC_append (a b : Th) : mkC (a ++ b) = mkC a ++ mkC b := by simp [mkC]
theorem ins_new {L : Th} {a at_ : Nat} (x : Value) {k : Nat} (hO : OkTh k L) (hF : Found (mkC L) (a : Int) at_ false) : (mkC L).take at_ ++ [⟨a, x, true⟩] ++ (mkC L).drop at_ = mkC (insTh L a x) := by
  have hab := found_above hF (mkC_rising hO)
  have e1 : L.filter (fun t => decide (t.1 < a)) = L.take at_ := filter_take _ _ _
    (fun t ht => by obtain ⟨i, hi, h⟩ := mem_take_idx ht; have := hF.2.1 i _ (mkC_idx h) hi; simp at this ⊢; omega)
    (fun t ht => by obtain ⟨i, hi, h⟩ := mem_drop_idx ht; have := hab i _ (mkC_idx h) hi rfl; simp at this ⊢; omega)
  have e2 : L.filter (fun t => decide (a < t.1)) = L.drop at_ := filter_drop _ _ _
    (fun t ht => by obtain ⟨i, hi, h⟩ := mem_take_idx ht; have := hF.2.1 i _ (mkC_idx h) hi; simp at this ⊢; omega)
    (fun t ht => by obtain ⟨i, hi, h⟩ := mem_drop_idx ht; have := hab i _ (mkC_idx h) hi rfl; simp at this ⊢; omega)
  unfold insTh
  rw [e1, e2, mkC_append, mkC_append]
  unfold mkC
  rw [List.map_take, List.map_drop]
  rfl
theorem ins_old {L : Th} {a at_ : Nat} (x : Value) {k : Nat} (hO : OkTh k L) (hF : Found (mkC L) (a : Int) at_ true) : at_ < L.length ∧ (mkC L).set at_ ⟨a, x, true⟩ = mkC (insTh L a x) := by
  obtain ⟨hlt, hab, hbe⟩ := found_above1 hF hO (live_mkC L) (mkC_rising hO)
  rw [mkC_length] at hlt
  refine ⟨hlt, ?_⟩
  have e1 : L.filter (fun t => decide (t.1 < a)) = L.take at_ := filter_take _ _ _
    (fun t ht => by obtain ⟨i, hi, h⟩ := mem_take_idx ht; have := hF.2.1 i _ (mkC_idx h) hi; simp at this ⊢; omega)
    (fun t ht => by obtain ⟨i, hi, h⟩ := mem_drop_idx ht; have := hF.2.2.1 i _ (mkC_idx h) hi; simp at this ⊢; omega)
  have e2 : L.filter (fun t => decide (a < t.1)) = L.drop (at_ + 1) := filter_drop _ _ _
    (fun t ht => by obtain ⟨i, hi, h⟩ := mem_take_idx ht; have := hbe i _ (mkC_idx h) hi; simp at this ⊢; omega)
    (fun t ht => by obtain ⟨i, hi, h⟩ := mem_drop_idx ht; have := hab i _ (mkC_idx h) hi rfl; simp at this ⊢; omega)
  unfold insTh
  rw [e1, e2, mkC_append, mkC_append, List.set_eq_take_append_cons_drop, if_pos (by rw [mkC_length]; exact hlt)]
  unfold mkC
  rw [List.map_take, List.map_drop, List.append_assoc]
  rfl
theorem insTh_ok {k : Nat} {L : Th} {a : Nat} (x : Value) (h : OkTh k L) (ha : a < 2 ^ k) : OkTh k (insTh L a x) := by
  unfold insTh
  refine ⟨?_, fun t ht => ?_⟩
  · rw [List.append_assoc, List.pairwise_append]
    refine ⟨h.1.filter _, ?_, ?_⟩
    · rw [List.singleton_append, List.pairwise_cons]
      exact ⟨fun t ht => by have := (List.mem_filter.1 ht).2; simpa using this, h.1.filter _⟩
    · intro s hs t ht
      have h1 := (List.mem_filter.1 hs).2
      simp at h1
      rcases List.mem_append.1 ht with ht | ht
      · simp at ht
        rw [ht]
        exact h1
      · have h2 := (List.mem_filter.1 ht).2
        simp at h2
        omega
  · rcases List.mem_append.1 ht with ht | ht
    · rcases List.mem_append.1 ht with ht | ht
      · exact h.2 t (List.mem_filter.1 ht).1
      · simp at ht
        rw [ht]
        exact ha
    · exact h.2 t (List.mem_filter.1 ht).1
theorem delTh_ok {k : Nat} {L : Th} {a : Nat} (h : OkTh k L) : OkTh k (delTh L a) := ⟨h.1.filter _, fun t ht => h.2 t (List.mem_filter.1 ht).1⟩
theorem clv_set_x (cs : List Cl) (i : Nat) (x : Value) (c : Cl) (h : cs[i]? = some c) : (clv cs).set (i * 3 + 1) x = clv (cs.set i ⟨c.a, x, c.h⟩) := by
  induction cs generalizing i with
  | nil => simp at h
  | cons d cs ih =>
    cases i with
    | zero =>
      simp at h
      subst h
      simp [clv_cons, Cl.vals]
    | succ i =>
      have := ih i (by simpa using h)
      rw [clv_cons, List.set_cons_succ, clv_cons, ← this]
      have h3 : d.vals.length = 3 := rfl
      rw [show (i + 1) * 3 + 1 = 3 + (i * 3 + 1) by omega, List.set_append_right _ _ (by omega), h3, show 3 + (i * 3 + 1) - 3 = i * 3 + 1 by omega]
/-- A row whose p-th cell goes: those behind it, up to j, stand one place ahead. -/
def shifted {α : Type} (cs : List α) (p j : Nat) : List α := cs.take p ++ (cs.drop (p + 1)).take (j - p - 1) ++ cs.drop (j - 1)
theorem shifted_start {α : Type} (cs : List α) (p : Nat) : shifted cs p (p + 1) = cs := by
  unfold shifted
  rw [show p + 1 - p - 1 = 0 by omega, List.take_zero, List.append_nil, Nat.add_sub_cancel, List.take_append_drop]
theorem shifted_len {α : Type} (cs : List α) (p j : Nat) (h : p < j) (hj : j ≤ cs.length) : (shifted cs p j).length = cs.length := by
  simp [shifted]; omega
theorem shifted_get {α : Type} (cs : List α) (p j : Nat) (h : p < j) (hj : j < cs.length) : (shifted cs p j)[j]? = cs[j]? := by
  unfold shifted
  rw [List.getElem?_append_right (by simp; omega), List.getElem?_drop]
  congr 1
  simp
  omega
theorem shifted_set {α : Type} (cs : List α) (p j : Nat) (c : α) (h : p < j) (hc : cs[j]? = some c) : (shifted cs p j).set (j - 1) c = shifted cs p (j + 1) := by
  obtain ⟨hj, rfl⟩ := List.getElem?_eq_some_iff.1 hc
  unfold shifted
  have hl : (cs.take p ++ (cs.drop (p + 1)).take (j - p - 1)).length = j - 1 := by simp; omega
  rw [List.set_append_right _ _ (by omega), hl, Nat.sub_self]
  have e1 : cs.drop (j - 1) = cs[j - 1] :: cs.drop j := by
    rw [List.drop_eq_getElem_cons (by omega), show j - 1 + 1 = j by omega]
  have e2 : (cs.drop (p + 1)).take (j + 1 - p - 1) = (cs.drop (p + 1)).take (j - p - 1) ++ [cs[j]] := by
    rw [show j + 1 - p - 1 = (j - p - 1) + 1 by omega, List.take_succ_eq_append_getElem (by simp; omega)]
    congr 2
    rw [List.getElem_drop]
    congr 1
    omega
  rw [e1, e2, List.set_cons_zero, Nat.add_sub_cancel, List.append_assoc, List.append_assoc, List.append_assoc]
  rfl
theorem shifted_end {α : Type} (cs : List α) (p : Nat) (h : p < cs.length) : (shifted cs p cs.length).take (cs.length - 1) = cs.take p ++ cs.drop (p + 1) := by
  unfold shifted
  rw [List.take_append_of_le_length (by simp; omega), List.take_of_length_le (by simp; omega), List.take_of_length_le (l := cs.drop (p + 1)) (by simp; omega)]
theorem del_at {L : Th} {k p : Nat} {t : Nat × Value} (hO : OkTh k L) (h : L[p]? = some t) : L.take p ++ L.drop (p + 1) = delTh L t.1 := by
  obtain ⟨hp, rfl⟩ := List.getElem?_eq_some_iff.1 h
  have hne : ∀ (i : Nat) (s : Nat × Value), L[i]? = some s → i ≠ p → s.1 ≠ L[p].1 := by
    intro i s hs hi
    obtain ⟨hi', rfl⟩ := List.getElem?_eq_some_iff.1 hs
    rcases Nat.lt_trichotomy i p with hlt | heq | hlt
    · have := List.pairwise_iff_getElem.1 hO.1 i p hi' hp hlt; omega
    · exact absurd heq hi
    · have := List.pairwise_iff_getElem.1 hO.1 p i hp hi' hlt; omega
  have hsplit : L = L.take p ++ L[p] :: L.drop (p + 1) := by rw [← List.drop_eq_getElem_cons hp, List.take_append_drop]
  have key : ∀ s ∈ L.take p ++ L.drop (p + 1), s.1 ≠ L[p].1 := by
    intro s hs
    rcases List.mem_append.1 hs with hs | hs
    · obtain ⟨i, hi, hs⟩ := mem_take_idx hs
      exact hne i s hs (by omega)
    · obtain ⟨i, hi, hs⟩ := mem_drop_idx hs
      exact hne i s hs (by omega)
  generalize L[p] = u at *
  have h1 : ∀ X Y : Th, (X ++ u :: Y).filter (fun t => decide (t.1 ≠ u.1)) = (X ++ Y).filter (fun t => decide (t.1 ≠ u.1)) := by
    intro X Y
    rw [List.filter_append, List.filter_cons, if_neg (by simp), ← List.filter_append]
  have h2 := h1 (L.take p) (L.drop (p + 1))
  rw [← hsplit] at h2
  unfold delTh
  rw [h2]
  exact (List.filter_eq_self.2 (fun s hs => by simpa using key s hs)).symm
theorem getTh_idx {L : Th} {addr : Int} {x : Value} (h : getTh L addr = some x) : ∃ (p : Nat) (t : Nat × Value), L[p]? = some t ∧ (t.1 : Int) = addr := by
  unfold getTh at h
  obtain ⟨t, ht, _⟩ := Option.map_eq_some_iff.1 h
  have h1 := List.find?_some ht
  obtain ⟨p, hp, rfl⟩ := List.getElem_of_mem (List.mem_of_find?_eq_some ht)
  exact ⟨p, L[p], List.getElem?_eq_getElem hp, by simpa using h1⟩
end Go.Proofs.Ytkknfnjojamgjaa
