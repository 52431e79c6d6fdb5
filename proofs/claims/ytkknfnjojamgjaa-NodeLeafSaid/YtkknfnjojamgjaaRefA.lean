/- The document's slots (chapter 5): addresses and things as two rows. -/
import Derived.Test.YtkknfnjojamgjaaSlAllU
import Derived.Test.YtkknfnjojamgjaaSlK
set_option linter.unusedSimpArgs false
set_option linter.unusedVariables false
namespace Go.Proofs.Ytkknfnjojamgjaa
open Go.RowKit
/-- The row lies in a block of this type. -/
def TyRow (w : World) (e : TypeId) (A : Option Addr) (n : Nat) : Prop := 0 < n → ∃ b o cs fr, A = some ⟨b, o, none⟩ ∧ w.heap[b]? = some (.cells cs e fr)
theorem TyRow.below {w w' : World} {e : TypeId} {A : Option Addr} {n : Nat} (h : TyRow w e A n) (hb : Below w.heap.size w w') : TyRow w' e A n := by
  intro hn
  obtain ⟨b, o, cs, fr, h1, h2⟩ := h hn
  have hlt : b < w.heap.size := by
    rcases Nat.lt_or_ge b w.heap.size with h3 | h3
    · exact h3
    · rw [Array.getElem?_eq_none h3] at h2
      cases h2
  exact ⟨b, o, cs, fr, h1, (hb.block b hlt).trans h2⟩
/-- The document's slots hold k and the things L. -/
def RefAt (w : World) (v : Value) (k : Nat) (L : Th) : Prop :=
  ∃ A c B d, v = .agg #[.int .i64 (k : Nat), .slice A L.length c, .slice B L.length d] ∧ k ≤ 16 ∧ OkTh k L ∧ (∀ t ∈ L, ∃ x, t.2 = .int .u64 x) ∧ L.length ≤ c ∧ L.length ≤ d ∧
    Rw w 1 A L.length (L.map fun t => .int .i64 (t.1 : Int)) ∧ Rw w 1 B L.length (L.map fun t => t.2) ∧ TyRow w 3 A L.length ∧ TyRow w 28 B L.length
theorem RefAt.below {w w' : World} {v : Value} {k : Nat} {L : Th} (h : RefAt w v k L) (hb : Below w.heap.size w w') : RefAt w' v k L := by
  obtain ⟨A, c, B, d, e, h1, h2, h3, h4, h5, h8, h9, h10, h11⟩ := h
  exact ⟨A, c, B, d, e, h1, h2, h3, h4, h5, h8.below hb, h9.below hb, h10.below hb, h11.below hb⟩
/-- A row of one cell an element, read at i. -/
theorem Rw.one {w : World} {A : Option Addr} {n i : Nat} {vs : List Value} (h : Rw w 1 A n vs) (hi : i < n) : ∃ b o, A = some ⟨b, o, none⟩ ∧ b < w.heap.size ∧ ∃ u, vs[i]? = some u ∧ w.cell? ⟨b, o + i, none⟩ = some u := by
  obtain ⟨b, o, e, hb, hc⟩ := h.at_ (by omega)
  have hl := h.1
  have : i < vs.length := by omega
  exact ⟨b, o, e, hb, vs[i], by simp [this], hc i _ (by simp [this])⟩
/-- Where an address stands among the things. -/
def Stands (L : Th) (addr : Int) (i : Nat) (b : Bool) : Prop :=
  i ≤ L.length ∧ (∀ (j : Nat) t, L[j]? = some t → j < i → (t.1 : Int) < addr) ∧ (∀ (j : Nat) t, L[j]? = some t → i ≤ j → addr ≤ (t.1 : Int)) ∧ (b = true → ∃ t, L[i]? = some t ∧ (t.1 : Int) = addr) ∧ (b = false → ∀ t, L[i]? = some t → addr < (t.1 : Int))
theorem okth_lt {k : Nat} {L : Th} (h : OkTh k L) {i j : Nat} {s t : Nat × Value} (hi : L[i]? = some s) (hj : L[j]? = some t) (hij : i < j) : s.1 < t.1 := by
  obtain ⟨h1, rfl⟩ := List.getElem?_eq_some_iff.1 hi
  obtain ⟨h2, rfl⟩ := List.getElem?_eq_some_iff.1 hj
  exact List.pairwise_iff_getElem.1 h.1 i j h1 h2 hij
set_option maxHeartbeats 1000000 in
set_option maxRecDepth 100000 in
theorem r5_place (v : Value) (k : Nat) (L : Th) (addr : Int) (w : World) (h : RefAt w v k L) :
    Calls Try.prog 79 #[v, .int .i64 addr] w fun e w' => ∃ i b, e = .returned (.tuple #[.int .i64 (i : Nat), .bool b]) ∧ Stands L addr i b ∧ Below w.heap.size w w' := by
  obtain ⟨A, c, B, d, rfl, hk, hO, hX, hlc, hld, hA, hB, -⟩ := h
  have hl16 : L.length ≤ 65536 := by have := len_le_of_ok hO; have := pow16 hk; omega
  generalize hn : L.length = n at *
  have HN := hide hn
  clear hn
  go_enter Try.func79, Try.ntmps79
  have b0 : Below w.heap.size w (w.alloc (.cells #[.int .i64 (k : Nat), .slice A n c, .slice B n d] 32)) := below_alloc (Below.refl _ _) (Nat.le_refl _) _
  have c0 : (w.alloc (.cells #[.int .i64 (k : Nat), .slice A n c, .slice B n d] 32)).cell? ⟨w.heap.size, 1, none⟩ = some (.slice A n c) := by
    simp
  go_wp2
  generalize hw1 : w.alloc (.cells #[.int .i64 (k : Nat), .slice A n c, .slice B n d] 32) = w1 at *
  go_loopw [6] (fun x wr => ∃ (j : Nat), x = .int .i64 j ∧ j ≤ n ∧ (∀ (i : Nat) t, L[i]? = some t → i < j → (t.1 : Int) < addr) ∧ wr = w1) (fun x _ => n - (intOf x).toNat)
  case atStart => exact ⟨0, rfl, Nat.zero_le _, fun _ _ _ h => absurd h (by omega), rfl⟩
  case round =>
    obtain ⟨j, rfl, hj, hl, rfl⟩ := hrel
    have Hl := hide hl
    clear hl hw1
    by_cases hjn : j < n
    · obtain ⟨b, o, rfl, hbl, u, hu, k0⟩ := (hA.below b0).one hjn
      rw [List.getElem?_map] at hu
      obtain ⟨t, ht, rfl⟩ := Option.map_eq_some_iff.1 hu
      have HT := hide ht
      clear hu ht
      rcases (show (t.1 : Int) < addr ∨ addr ≤ (t.1 : Int) by omega) with hc | hc
      · go_wp2
        go_roundw
        case rel =>
          refine ⟨j + 1, by go_num, by omega, fun i s hs hi => ?_, by first | rfl | trivial⟩
          rcases Nat.lt_or_ge i j with h3 | h3
          · exact Hl.out i s hs h3
          · obtain rfl : i = j := by omega
            have := HT.out
            rw [hs] at this
            injection this with this
            rw [this]
            exact hc
        case measure => simp [intOf]; omega
      · have hd1 : decide ((j : Int) < (n : Int)) = true := by simp; omega
        rcases (show (t.1 : Int) = addr ∨ addr < (t.1 : Int) by omega) with he | he
        · have he1 : ((t.1 : Int) == addr) = true := by simpa using he
          clear he
          go_wp2
          go_quiet (fail)
          go_wp2
          go_ret2
          have he := eq_of_beq he1
          refine ⟨j, true, rfl, ⟨by have := HN.out; omega, Hl.out, fun i s hs hi => ?_, fun _ => ⟨t, HT.out, he⟩, fun h => by cases h⟩, below_drewN b0 _⟩
          rcases Nat.lt_or_ge j i with h3 | h3
          · have := okth_lt hO HT.out hs h3; omega
          · obtain rfl : i = j := by omega
            have := HT.out
            rw [hs] at this
            injection this with this
            rw [this]
            exact hc
        · have he1 : ((t.1 : Int) == addr) = false := by simpa using (show ¬ (t.1 : Int) = addr by omega)
          have he2 := hide he
          clear he
          go_wp2
          go_quiet (fail)
          go_wp2
          go_ret2
          have he := he2.out
          refine ⟨j, false, rfl, ⟨by have := HN.out; omega, Hl.out, fun i s hs hi => ?_, (fun h => by cases h), fun _ s hs => ?_⟩, below_drewN b0 _⟩
          · rcases Nat.lt_or_ge j i with h3 | h3
            · have := okth_lt hO HT.out hs h3; omega
            · obtain rfl : i = j := by omega
              have := HT.out
              rw [hs] at this
              injection this with this
              rw [this]
              exact hc
          · have := HT.out
            rw [hs] at this
            injection this with this
            rw [this]
            exact he
    · have hd1 : decide ((j : Int) < (n : Int)) = false := by simp; omega
      go_wp2
      go_quiet (fail)
      go_wp2
      go_ret2
      refine ⟨j, false, rfl, ⟨by have := HN.out; omega, Hl.out, fun i s hs hi => ?_, (fun h => by cases h), fun _ s hs => ?_⟩, below_drewN b0 _⟩
      · have := (List.getElem?_eq_some_iff.1 hs).1; have := HN.out; omega
      · have := (List.getElem?_eq_some_iff.1 hs).1; have := HN.out; omega
theorem pow2_lt {j k : Nat} (hj : j < k) (hk : k ≤ 16) : 2 * 2 ^ j ≤ 65536 := by
  have : 2 ^ (j + 1) ≤ 2 ^ 16 := Nat.pow_le_pow_right (by omega) (by omega)
  rw [Nat.pow_succ] at this
  omega
set_option maxHeartbeats 1000000 in
set_option maxRecDepth 100000 in
theorem r5_there (v : Value) (k : Nat) (L : Th) (addr : Int) (w : World) (h : RefAt w v k L) :
    Calls Try.prog 19 #[v, .int .i64 addr] w fun e w' => e = .returned (.bool (decide (0 ≤ addr ∧ addr < ((2 ^ k : Nat) : Int)))) ∧ Below w.heap.size w w' := by
  obtain ⟨A, c, B, d, rfl, hk, -⟩ := h
  have hp := pow16 hk
  have b0 := below_alloc (Below.refl w.heap.size w) (Nat.le_refl _) (.cells #[.int .i64 (k : Nat), .slice A L.length c, .slice B L.length d] 32)
  have c0 : (w.alloc (.cells #[.int .i64 (k : Nat), .slice A L.length c, .slice B L.length d] 32)).cell? ⟨w.heap.size, 0, none⟩ = some (.int .i64 (k : Nat)) := by simp
  go_enter Try.func19, Try.ntmps19
  go_wp2
  generalize hw1 : w.alloc (.cells #[.int .i64 (k : Nat), .slice A L.length c, .slice B L.length d] 32) = w1 at *
  clear hw1
  go_loopw [5, 6] (fun x y wr => ∃ (j : Nat), x = .int .i64 ((2 ^ j : Nat) : Int) ∧ y = .int .i64 (j : Nat) ∧ j ≤ k ∧ wr = w1) (fun _ y _ => k - (intOf y).toNat)
  case atStart => exact ⟨0, rfl, rfl, Nat.zero_le _, rfl⟩
  case round =>
    obtain ⟨j, rfl, rfl, hj, rfl⟩ := hrel
    by_cases hjk : j < k
    · have h2 := pow2_lt hjk hk
      have h3 : 2 ^ (j + 1) = 2 * 2 ^ j := by rw [Nat.pow_succ]; omega
      generalize hz : 2 ^ j = z at *
      have h4 : IntKind.i64.wrap (2 * (z : Int)) = 2 * (z : Int) := by rw [IntKind.wrap_i64]; omega
      go_wp2
      go_roundw
      case rel => exact ⟨j + 1, by rw [h3]; simp, by go_num, by omega, by first | rfl | trivial⟩
      case measure => simp [intOf]; omega
    · obtain rfl : j = k := by omega
      by_cases h0 : 0 ≤ addr
      · have e1 : decide (0 ≤ addr) = true := by simpa using h0
        go_wp2
        go_ret
        refine ⟨?_, b0⟩
        simp [h0]
      · have e1 : decide (0 ≤ addr) = false := by simpa using h0
        go_wp2
        go_ret
        refine ⟨?_, b0⟩
        simp [h0]
set_option maxHeartbeats 1000000 in
set_option maxRecDepth 100000 in
theorem r5_dense (v : Value) (k : Nat) (L : Th) (w : World) (h : RefAt w v k L) :
    Calls Try.prog 88 #[v] w fun e w' => e = .returned (.bool (denseB k L.length)) ∧ Below w.heap.size w w' := by
  obtain ⟨A, c, B, d, rfl, hk, hO, -⟩ := h
  have hp := pow16 hk
  have hl16 : L.length ≤ 65536 := by have := len_le_of_ok hO; omega
  unfold denseB
  generalize L.length = n at *
  have b0 := below_alloc (Below.refl w.heap.size w) (Nat.le_refl _) (.cells #[.int .i64 (k : Nat), .slice A n c, .slice B n d] 32)
  have c0 : (w.alloc (.cells #[.int .i64 (k : Nat), .slice A n c, .slice B n d] 32)).cell? ⟨w.heap.size, 0, none⟩ = some (.int .i64 (k : Nat)) := by simp
  have c1 : (w.alloc (.cells #[.int .i64 (k : Nat), .slice A n c, .slice B n d] 32)).cell? ⟨w.heap.size, 1, none⟩ = some (.slice A n c) := by simp
  go_enter Try.func88, Try.ntmps88
  go_wp2
  generalize hw1 : w.alloc (.cells #[.int .i64 (k : Nat), .slice A n c, .slice B n d] 32) = w1 at *
  clear hw1
  go_loopw [3, 4] (fun x y wr => ∃ (j : Nat), x = .int .i64 ((2 ^ j : Nat) : Int) ∧ y = .int .i64 (j : Nat) ∧ j ≤ k ∧ wr = w1) (fun _ y _ => k - (intOf y).toNat)
  case atStart => exact ⟨0, rfl, rfl, Nat.zero_le _, rfl⟩
  case round =>
    obtain ⟨j, rfl, rfl, hj, rfl⟩ := hrel
    by_cases hjk : j < k
    · have h2 := pow2_lt hjk hk
      have h3 : 2 ^ (j + 1) = 2 * 2 ^ j := by rw [Nat.pow_succ]; omega
      generalize hz : 2 ^ j = z at *
      have h4 : IntKind.i64.wrap (2 * (z : Int)) = 2 * (z : Int) := by rw [IntKind.wrap_i64]; omega
      go_wp2
      go_roundw
      case rel => exact ⟨j + 1, by rw [h3]; simp, by go_num, by omega, by first | rfl | trivial⟩
      case measure => simp [intOf]; omega
    · obtain rfl : j = k := by omega
      have h4 : IntKind.i64.wrap (2 * (n : Int)) = 2 * (n : Int) := by rw [IntKind.wrap_i64]; omega
      by_cases h0 : j ≤ 6
      · have e1 : decide ((j : Int) ≤ 6) = true := by simp; omega
        go_wp2
        go_ret
        refine ⟨?_, b0⟩
        simp [h0]
        norm_cast
      · have e1 : decide ((j : Int) ≤ 6) = false := by simp; omega
        go_wp2
        go_ret
        refine ⟨?_, b0⟩
        simp [h0]
theorem stands_some {k : Nat} {L : Th} {addr : Int} {i : Nat} (hO : OkTh k L) (h : Stands L addr i true) : ∃ t, L[i]? = some t ∧ (t.1 : Int) = addr ∧ getTh L addr = some t.2 := by
  obtain ⟨t, h1, h2⟩ := h.2.2.2.1 rfl
  exact ⟨t, h1, h2, by rw [← h2]; exact getTh_some hO (List.mem_of_getElem? h1)⟩
theorem stands_none {k : Nat} {L : Th} {addr : Int} {i : Nat} (hO : OkTh k L) (h : Stands L addr i false) : getTh L addr = none := by
  apply getTh_none
  intro t ht he
  obtain ⟨j, hj⟩ := List.getElem?_of_mem ht
  rcases Nat.lt_or_ge j i with h3 | h3
  · have := h.2.1 j t hj h3; omega
  · have h4 := h.2.2.1 j t hj h3
    rcases Nat.lt_or_ge i j with h5 | h5
    · have h6 := (List.getElem?_eq_some_iff.1 hj).1
      have h7 : L[i]? = some (L[i]'(by omega)) := List.getElem?_eq_getElem _
      have h8 := h.2.2.2.2 rfl _ h7
      have := okth_lt hO h7 hj h5; omega
    · obtain rfl : i = j := by omega
      have := h.2.2.2.2 rfl t hj; omega
set_option maxHeartbeats 1000000 in
set_option maxRecDepth 100000 in
theorem r5_get (v : Value) (k : Nat) (L : Th) (addr : Int) (w : World) (h : RefAt w v k L) :
    Calls Try.prog 17 #[v, .int .i64 addr] w fun e w' => e = .returned (.tuple #[(getTh L addr).getD (.int .u64 0), .bool (getTh L addr).isSome]) ∧ Below w.heap.size w w' := by
  have H := hide h
  obtain ⟨A, c, B, d, rfl, hk, hO, hX, hlc, hld, hA, hB, -⟩ := h
  have b0 := below_alloc (Below.refl w.heap.size w) (Nat.le_refl _) (.cells #[.int .i64 (k : Nat), .slice A L.length c, .slice B L.length d] 32)
  have B0 := Blk.new w 32 #[.int .i64 (k : Nat), .slice A L.length c, .slice B L.length d]
  have hl16 : L.length ≤ 65536 := by have := len_le_of_ok hO; have := pow16 hk; omega
  have C := hide (r5_place _ _ _ addr _ (H.out.below b0))
  go_enter Try.func17, Try.ntmps17
  have hl := hide hO
  clear hO
  go_wp2_with fail
  refine C.out.mono ?_
  rintro e w1 ⟨i, b, rfl, hS, hb1⟩
  have b1 := below_then b0 hb1
  have c2 := (B0.below hb1).cell 2
  simp at c2
  cases b with
  | false =>
    have hN := hide (stands_none hl.out hS)
    clear hS
    go_wp2
    go_ret2
    rw [hN.out]
    exact ⟨rfl, b1⟩
  | true =>
    obtain ⟨t, ht, h1, h2⟩ := stands_some hl.out hS
    have hi := (List.getElem?_eq_some_iff.1 ht).1
    obtain ⟨b, o, rfl, hbl, u, hu, k0⟩ := (hB.below b1).one hi
    rw [List.getElem?_map, ht] at hu
    simp at hu
    subst hu
    obtain ⟨x, hx⟩ := hX t (List.mem_of_getElem? ht)
    rw [hx] at k0 h2
    have H2 := hide h2
    clear ht h1 h2 hx
    go_wp2
    go_ret2
    rw [H2.out]
    exact ⟨rfl, b1⟩
end Go.Proofs.Ytkknfnjojamgjaa
