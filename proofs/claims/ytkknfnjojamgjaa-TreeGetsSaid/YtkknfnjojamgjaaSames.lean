/- The documents' comparisons of lists. -/
import Derived.Test.YtkknfnjojamgjaaNdA
set_option linter.unusedSimpArgs false
set_option linter.unusedVariables false
namespace Go.Proofs.Ytkknfnjojamgjaa
open Go.RowKit
/-- Are two lists the same? -/
def sameB (xs ys : List Int) : Bool := decide (xs = ys)
theorem sameB_len {xs ys : List Int} (h : xs.length ≠ ys.length) : sameB xs ys = false := by
  unfold sameB
  simp only [decide_eq_false_iff_not]
  intro e
  exact h (by rw [e])
theorem sameB_at {xs ys : List Int} {j : Nat} {x y : Int} (hx : xs[j]? = some x) (hy : ys[j]? = some y) (h : x ≠ y) : sameB xs ys = false := by
  unfold sameB
  simp only [decide_eq_false_iff_not]
  intro e
  rw [e, hy] at hx
  injection hx with hx
  exact h hx.symm
theorem sameB_take {xs ys : List Int} {j : Nat} (hx : xs.length = j) (hy : ys.length = j) (h : xs.take j = ys.take j) : sameB xs ys = true := by
  unfold sameB
  simp only [decide_eq_true_eq]
  rw [List.take_of_length_le (by omega), List.take_of_length_le (by omega)] at h
  exact h
set_option maxHeartbeats 1000000 in
set_option maxRecDepth 100000 in
theorem same_ints (A B : Option Addr) (n c m d : Nat) (xs ys : List Int) (w : World) (hA : Rw w 1 A n (xs.map fun z => .int .i64 z)) (hB : Rw w 1 B m (ys.map fun z => .int .i64 z)) (hn : n ≤ 70368744177664) (hm : m ≤ 70368744177664) :
    Calls Try.prog 89 #[.slice A n c, .slice B m d] w fun e w' => e = .returned (.bool (sameB xs ys)) ∧ Below w.heap.size w w' := by
  have hx : xs.length = n := by have := hA.1; simpa using this
  have hy : ys.length = m := by have := hB.1; simpa using this
  have HX := hide hx
  have HY := hide hy
  go_enter Try.func89, Try.ntmps89
  rcases Nat.decEq n m with hne | rfl
  · have e1 : ((n : Int) == (m : Int)) = false := by simp; omega
    have HR := hide (sameB_len (by omega : xs.length ≠ ys.length))
    clear hx hy
    go_wp2
    go_ret
    rw [HR.out]
    exact ⟨rfl, Below.refl _ _⟩
  · clear hx hy
    go_wp2
    go_loopw [5] (fun x wr => ∃ (j : Nat), x = .int .i64 j ∧ j ≤ n ∧ xs.take j = ys.take j ∧ Below w.heap.size w wr) (fun x _ => n - (intOf x).toNat)
    case atStart => exact ⟨0, rfl, Nat.zero_le _, rfl, Below.refl _ _⟩
    case round =>
      obtain ⟨j, rfl, hj, ht, hb⟩ := hrel
      have HT := hide ht
      clear ht
      by_cases hjn : j < n
      · obtain ⟨b, o, rfl, hbl, u, hu, k0⟩ := (hA.below hb).one hjn
        obtain ⟨b', o', rfl, hbl', u', hu', k1⟩ := (hB.below hb).one hjn
        rw [List.getElem?_map] at hu hu'
        obtain ⟨x, hx, rfl⟩ := Option.map_eq_some_iff.1 hu
        obtain ⟨y, hy, rfl⟩ := Option.map_eq_some_iff.1 hu'
        have Hx := hide hx
        have Hy := hide hy
        clear hu hu' hx hy
        cases e : (x == y) with
        | true =>
          have HE := hide (eq_of_beq e)
          go_wp2
          go_quiet (fail)
          go_wp2
          go_roundw
          case rel =>
            refine ⟨j + 1, by go_num, by omega, ?_, below_drewN hb _⟩
            rw [List.take_add_one, List.take_add_one, HT.out, Hx.out, Hy.out, HE.out]
          case measure => simp [intOf]; omega
        | false =>
          have HE := hide (show x ≠ y by intro h; simp [h] at e)
          go_wp2
          go_quiet (fail)
          go_wp2
          go_ret
          refine ⟨?_, below_drewN hb _⟩
          rw [sameB_at Hx.out Hy.out HE.out]
          rfl
      · obtain rfl : j = n := by omega
        have HR := hide (sameB_take HX.out HY.out HT.out)
        go_wp2
        go_ret
        rw [HR.out]
        exact ⟨rfl, hb⟩
set_option maxHeartbeats 1000000 in
set_option maxRecDepth 100000 in
theorem same_u64 (A B : Option Addr) (n c m d : Nat) (xs ys : List Int) (w : World) (hA : Rw w 1 A n (xs.map fun z => .int .u64 z)) (hB : Rw w 1 B m (ys.map fun z => .int .u64 z)) (hn : n ≤ 70368744177664) (hm : m ≤ 70368744177664) :
    Calls Try.prog 37 #[.slice A n c, .slice B m d] w fun e w' => e = .returned (.bool (sameB xs ys)) ∧ Below w.heap.size w w' := by
  have hx : xs.length = n := by have := hA.1; simpa using this
  have hy : ys.length = m := by have := hB.1; simpa using this
  have HX := hide hx
  have HY := hide hy
  go_enter Try.func37, Try.ntmps37
  rcases Nat.decEq n m with hne | rfl
  · have e1 : ((n : Int) == (m : Int)) = false := by simp; omega
    have HR := hide (sameB_len (by omega : xs.length ≠ ys.length))
    clear hx hy
    go_wp2
    go_ret
    rw [HR.out]
    exact ⟨rfl, Below.refl _ _⟩
  · clear hx hy
    go_wp2
    go_loopw [5] (fun x wr => ∃ (j : Nat), x = .int .i64 j ∧ j ≤ n ∧ xs.take j = ys.take j ∧ Below w.heap.size w wr) (fun x _ => n - (intOf x).toNat)
    case atStart => exact ⟨0, rfl, Nat.zero_le _, rfl, Below.refl _ _⟩
    case round =>
      obtain ⟨j, rfl, hj, ht, hb⟩ := hrel
      have HT := hide ht
      clear ht
      by_cases hjn : j < n
      · obtain ⟨b, o, rfl, hbl, u, hu, k0⟩ := (hA.below hb).one hjn
        obtain ⟨b', o', rfl, hbl', u', hu', k1⟩ := (hB.below hb).one hjn
        rw [List.getElem?_map] at hu hu'
        obtain ⟨x, hx, rfl⟩ := Option.map_eq_some_iff.1 hu
        obtain ⟨y, hy, rfl⟩ := Option.map_eq_some_iff.1 hu'
        have Hx := hide hx
        have Hy := hide hy
        clear hu hu' hx hy
        cases e : (x == y) with
        | true =>
          have HE := hide (eq_of_beq e)
          go_wp2
          go_quiet (fail)
          go_wp2
          go_roundw
          case rel =>
            refine ⟨j + 1, by go_num, by omega, ?_, below_drewN hb _⟩
            rw [List.take_add_one, List.take_add_one, HT.out, Hx.out, Hy.out, HE.out]
          case measure => simp [intOf]; omega
        | false =>
          have HE := hide (show x ≠ y by intro h; simp [h] at e)
          go_wp2
          go_quiet (fail)
          go_wp2
          go_ret
          refine ⟨?_, below_drewN hb _⟩
          rw [sameB_at Hx.out Hy.out HE.out]
          rfl
      · obtain rfl : j = n := by omega
        have HR := hide (sameB_take HX.out HY.out HT.out)
        go_wp2
        go_ret
        rw [HR.out]
        exact ⟨rfl, hb⟩
end Go.Proofs.Ytkknfnjojamgjaa
