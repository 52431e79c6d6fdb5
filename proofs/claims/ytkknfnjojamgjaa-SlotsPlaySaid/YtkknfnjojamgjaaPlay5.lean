/- pantilelaw05.SlotsPlay: the walk. -/
import Derived.Test.YtkknfnjojamgjaaEven
import Derived.Test.YtkknfnjojamgjaaLawNil5
import Derived.Test.YtkknfnjojamgjaaOpen
set_option linter.unusedSimpArgs false
set_option linter.unusedVariables false
namespace Go.Proofs.Ytkknfnjojamgjaa
open Go.RowKit
def actv (a : Bool × Int × Int) : List Value := [.bool a.1, .int .i64 a.2.1, .int .u64 a.2.2]
theorem actv_len (a : Bool × Int × Int) : (actv a).length = 3 := rfl
/-- The document's slots, in a variable. -/
def RefBox (w : World) (b k : Nat) (L : Th) : Prop :=
  ∃ A n c B d, Blk w b 32 #[.int .i64 (k : Nat), .slice A n c, .slice B n d] ∧ RefAt w (.agg #[.int .i64 (k : Nat), .slice A n c, .slice B n d]) k L
theorem RefBox.below {w w' : World} {b k : Nat} {L : Th} (h : RefBox w b k L) (hb : Below w.heap.size w w') : RefBox w' b k L := by
  obtain ⟨A, n, c, B, d, h1, h2⟩ := h
  exact ⟨A, n, c, B, d, h1.below hb, h2.below hb⟩
theorem rw_far {w : World} {A : Option Addr} {m b i : Nat} {cs : List Cl} {t : TypeId} {x y u : Value} {p : Option Addr} {q r : Nat} (hR : Rw w 3 A m (clv cs)) (hB : Blk w b t #[x, y, .slice p q r]) : Rw (w.setCell ⟨b, i, none⟩ u) 3 A m (clv cs) := by
  refine ⟨hR.1, fun hm => ?_⟩
  obtain ⟨g, o, rfl, hg, hc⟩ := hR.2 hm
  have hne : g ≠ b := by
    intro hh
    subst hh
    obtain ⟨b', o', d, he, _, hd, c0, c1, c2⟩ := hR.cl (i := 0) hm
    injection he with he
    injection he with e1 e2
    subst e1 e2
    rw [hB.cell] at c2
    rcases o with _ | o
    · simp at c2
    · have := (Array.getElem?_eq_some_iff.1 c2).1
      simp at this
      omega
  refine ⟨g, o, rfl, by simpa [World.setCell] using hg, fun j v hv => ?_⟩
  rw [World.cell?_of_block (w := w) (Below.heap_setCell w ⟨b, i, none⟩ u g hne)]
  exact hc j v hv
theorem SlotsAt_u.setc {w : World} {g k b i : Nat} {L : Th} {x y u : Value} {p : Option Addr} {q r : Nat} (h : SlotsAt_u w g k L) (hB : Blk w b 32 #[x, y, .slice p q r]) : SlotsAt_u (w.setCell ⟨b, i, none⟩ u) g k L := by
  obtain ⟨h1, h2, h3, h4, A, m, c, h5, h6, h7⟩ := h
  exact ⟨h1, h2, h3, h4, A, m, c, h5.set_ b i u (h5.ne_ hB (by decide)), rw_far h6 hB, h7⟩
theorem SlotsAt_u.set3 {w : World} {g k b : Nat} {L : Th} {x y x' y' : Value} {p p' : Option Addr} {q r q' r' : Nat} (h : SlotsAt_u w g k L) (hB : Blk w b 32 #[x, y, .slice p q r]) : SlotsAt_u (((w.setCell ⟨b, 0, none⟩ x').setCell ⟨b, 1, none⟩ y').setCell ⟨b, 2, none⟩ (.slice p' q' r')) g k L :=
  ((h.setc hB).setc (hB.set1 x')).setc ((hB.set1 x').set1 y')
/-- A new value in the variable: the other one, and slots, are as they were. -/
theorem RefBox.put {w : World} {b k : Nat} {L L' : Th} {A B : Option Addr} {n c m d : Nat} (h : RefBox w b k L) (h' : RefAt w (.agg #[.int .i64 (k : Nat), .slice A n c, .slice B m d]) k L') :
    RefBox (((w.setCell ⟨b, 0, none⟩ (.int .i64 (k : Nat))).setCell ⟨b, 1, none⟩ (.slice A n c)).setCell ⟨b, 2, none⟩ (.slice B m d)) b k L' := by
  obtain ⟨A1, n1, c1, B1, d1, h1, h2⟩ := h
  have hn : n = m := by
    obtain ⟨A2, c2, B2, d2, he, -⟩ := h'
    simp at he
    omega
  subst hn
  exact ⟨A, n, c, B, d, h1.set3, h'.set3 h1⟩
theorem RefBox.other {w : World} {b b' k k' : Nat} {L L' : Th} {x y z : Value} (h : RefBox w b k L) (h' : RefBox w b' k' L') (hne : b ≠ b') : RefBox (((w.setCell ⟨b', 0, none⟩ x).setCell ⟨b', 1, none⟩ y).setCell ⟨b', 2, none⟩ z) b k L := by
  obtain ⟨A1, n1, c1, B1, d1, h1, h2⟩ := h
  obtain ⟨A2, n2, c2, B2, d2, h3, h4⟩ := h'
  exact ⟨A1, n1, c1, B1, d1, ((h1.set_ _ _ _ hne).set_ _ _ _ hne).set_ _ _ _ hne, h2.set3 h3⟩
theorem RefBox.slots {w : World} {g b k k' : Nat} {L L' : Th} {x y : Value} {p : Option Addr} {q r : Nat} (h : SlotsAt_u w g k L) (h' : RefBox w b k' L') : SlotsAt_u (((w.setCell ⟨b, 0, none⟩ x).setCell ⟨b, 1, none⟩ y).setCell ⟨b, 2, none⟩ (.slice p q r)) g k L := by
  obtain ⟨A2, n2, c2, B2, d2, h3, h4⟩ := h'
  exact h.set3 h3
theorem refAt_nil (w : World) (k : Nat) (hk : k ≤ 16) : RefAt w (.agg #[.int .i64 (k : Nat), .slice none 0 0, .slice none 0 0]) k [] :=
  ⟨none, 0, none, 0, rfl, hk, ⟨List.Pairwise.nil, fun t h => by cases h⟩, fun t h => (by cases h), Nat.le_refl _, Nat.le_refl _, Rw.nil _ _ _, Rw.nil _ _ _, fun h => absurd h (by simp), fun h => absurd h (by simp)⟩
set_option maxHeartbeats 4000000 in
set_option maxRecDepth 100000 in
theorem play5_bad (k : Int) (A : Option Addr) (n c : Nat) (addr : Int) (w : World) (hn : n ≤ maxLen) (hk : k < 1 ∨ 16 < k) :
    Calls Try.prog 3 #[.int .i64 k, .slice A n c, .int .i64 addr] w fun e w' => e = .returned (.bool true) ∧ Below w.heap.size w w' := by
  go_enter Try.func3, Try.ntmps3
  go_wp2_with fail
  refine (awake5 _).mono ?_
  rintro e0 w0 ⟨rfl, b0⟩
  rcases Nat.lt_or_ge 100 n with h100 | h100
  · go_wp2
    go_ret
    exact ⟨rfl, b0⟩
  · go_wp2_with fail
    refine (new_bad_u k _ hk).mono ?_
    rintro e1 w1 ⟨rfl, rfl⟩
    rcases (show k < 1 ∨ (1 ≤ k ∧ 16 < k) by omega) with h1 | ⟨h1, h2⟩
    · go_wp2
      go_ret
      exact ⟨rfl, b0⟩
    · go_wp2
      go_ret
      exact ⟨rfl, b0⟩
/-- What holds at each round: the slots and the document's, the elder slots and the document's. -/
def Inv5 (W : World) (bm bw k g gO : Nat) (L LO : Th) : Prop := SlotsAt_u W g k L ∧ SlotsAt_u W gO k LO ∧ RefBox W bm k L ∧ RefBox W bw k LO
theorem Inv5.below {w w' : World} {bm bw k g gO : Nat} {L LO : Th} (h : Inv5 w bm bw k g gO L LO) (hb : Below w.heap.size w w') : Inv5 w' bm bw k g gO L LO :=
  ⟨h.1.below hb, h.2.1.below hb, h.2.2.1.below hb, h.2.2.2.below hb⟩
theorem delTh_int (L : Th) (a : Nat) : (L.filter fun t => decide ((t.1 : Int) ≠ (a : Int))) = delTh L a := by
  unfold delTh
  apply List.filter_congr
  intro t _
  rw [decide_eq_decide]
  omega
theorem act_cells {w : World} {A : Option Addr} {n j : Nat} {acts : List (Bool × Int × Int)} (h : Rw w 3 A n (acts.flatMap actv)) (hj : j < n) :
    ∃ b o d a x, A = some ⟨b, o, none⟩ ∧ b < w.heap.size ∧ w.cell? ⟨b, o + j * 3, none⟩ = some (.bool d) ∧ w.cell? ⟨b, o + j * 3 + 1, none⟩ = some (.int .i64 a) ∧ w.cell? ⟨b, o + j * 3 + 2, none⟩ = some (.int .u64 x) := by
  obtain ⟨b, o, q, e, hb, _, hc⟩ := h.elem actv_len hj (by omega)
  refine ⟨b, o, q.1, q.2.1, q.2.2, e, hb, ?_, ?_, ?_⟩
  · exact hc 0 _ rfl
  · rw [Nat.add_assoc]; exact hc 1 _ rfl
  · rw [Nat.add_assoc]; exact hc 2 _ rfl
end Go.Proofs.Ytkknfnjojamgjaa
