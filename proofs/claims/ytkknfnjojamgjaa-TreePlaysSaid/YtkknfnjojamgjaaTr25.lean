/- pantilelaw07.TreePlays: of any K, behind any acts, each answer, and the tree, are those of the list of its entries. -/
import Derived.Test.YtkknfnjojamgjaaTrD
set_option linter.unusedSimpArgs false
set_option linter.unusedVariables false
namespace Go.Proofs.Ytkknfnjojamgjaa
open Go.RowKit
set_option maxHeartbeats 4000000 in
set_option maxRecDepth 100000 in
theorem plays_in {w : World} {k n c : Nat} {A : Option Addr} {acts : List TA} (hk1 : 1 ≤ k) (hk : k ≤ 16) (hE : ActsAt w A n acts) :
    Calls Try.prog 9 #[.int .i64 (k : Int), .slice A n c] w fun e w' => e = .returned (.bool true) ∧ Below w.heap.size w w' := by
  have HE := hide hE
  clear hE
  have ek1 : decide ((k : Int) < 1) = false := by simp; omega
  have ek2 : decide ((16 : Int) < (k : Int)) = false := by simp; omega
  go_enter Try.func9, Try.ntmps9
  go_wp2_with fail
  refine (awake7 w).mono ?_
  rintro e w0 ⟨rfl, hb0⟩
  have HB0 := hide hb0
  have HH := hide (heavy7 A n c 60 acts w0 (HE.out.below hb0) (by omega))
  simp only [Int.cast_ofNat_Int] at HH
  clear hb0
  go_wp2_with fail
  refine HH.out.mono ?_
  rintro e w1 ⟨rfl | ⟨rfl, hn⟩, hb1⟩
  · have HB1 := hide (below_then HB0.out hb1)
    clear hb1 HH
    go_wp2
    go_ret
    exact ⟨rfl, HB1.out⟩
  · have HB1 := hide (below_then HB0.out hb1)
    have HN := hide (tr_new k w1 hk1 hk)
    clear hb1 HH
    go_wp2_with fail
    refine HN.out.mono ?_
    rintro e w2 ⟨rfl, hT2, hb2⟩
    have hal := (Below.refl w2.heap.size w2).alloc (Nat.le_refl _) (.cells #[] 59)
    have HB2 := hide (below_then (below_then HB1.out hb2) hal)
    have HNW := hide (now_new (A := some ⟨w2.heap.size, 0, none⟩) (c := 0) hk1 hk (Blk.below hT2 hal))
    clear hT2 hb2 hal HN
    go_wp2
    go_loopw [5, 7, 8] (fun x7 x9 x10 wr => ∃ (j t : Nat) (A' : Option Addr) (n' c' : Nat), x7 = .pointer (some ⟨t, 0, none⟩) ∧ x9 = .slice A' n' c' ∧ x10 = .int .i64 (j : Int) ∧ j ≤ n ∧ n' ≤ j ∧ Now wr k t A' n' c' ∧ Below w.heap.size w wr) (fun _ _ x _ => n - (intOf x).toNat)
    case atStart => exact ⟨0, w1.heap.size, some ⟨w2.heap.size, 0, none⟩, 0, 0, rfl, rfl, rfl, Nat.zero_le _, Nat.le_refl _, HNW.out, HB2.out⟩
    case round =>
      obtain ⟨j, t, A', n', c', rfl, rfl, rfl, hj, hnj, hNow, hb⟩ := hrel
      have HNow := hide hNow
      have HBr := hide hb
      rename World => wz
      by_cases hjn : j < n
      · obtain ⟨b, o, r, rfl, hbl, hr, hok, k0, k1, k2⟩ := (HE.out.below hb).at_ hjn
        have HD := hide (done7 hNow (by omega) hok)
        clear hNow hb hr hok
        go_wp2_with fail
        refine HD.out.mono ?_
        rintro e w5 ⟨t', A5, n5, c5, rfl, hN5, hn5, hb5⟩
        have HH := hide (And.intro hN5 (below_then HBr.out hb5))
        clear hN5 hb5 HD k0 k1 k2
        go_wp2
        go_roundw
        case rel => exact ⟨j + 1, t', A5, n5, c5, rfl, rfl, by go_num, by omega, by omega, HH.out.1, HH.out.2⟩
        case measure => simp [intOf]; omega
      · have e9 : decide ((j : Int) < (n : Int)) = false := by simp; omega
        obtain ⟨rows, es, i1, i2, i3, i4, i5, i6⟩ := hNow
        have HIS := hide (is_tree i1 i2 i3 (by omega) i5 i6)
        clear i1 i2 i3 i4 i5 i6 hb
        go_wp2_with fail
        refine HIS.out.mono ?_
        rintro e w6 ⟨rfl, hb6⟩
        have HB6 := hide (below_then HBr.out hb6)
        clear hb6
        go_wp2
        go_ret
        exact ⟨rfl, HB6.out⟩
set_option maxHeartbeats 4000000 in
set_option maxRecDepth 100000 in
theorem plays_out {w : World} {k : Int} {n c : Nat} {A : Option Addr} {acts : List TA} (hk : k < 1 ∨ 16 < k) (hE : ActsAt w A n acts) :
    Calls Try.prog 9 #[.int .i64 k, .slice A n c] w fun e w' => e = .returned (.bool true) ∧ Below w.heap.size w w' := by
  have HE := hide hE
  have HK := hide hk
  clear hE hk
  go_enter Try.func9, Try.ntmps9
  go_wp2_with fail
  refine (awake7 w).mono ?_
  rintro e w0 ⟨rfl, hb0⟩
  have HB0 := hide hb0
  have HH := hide (heavy7 A n c 60 acts w0 (HE.out.below hb0) (by omega))
  simp only [Int.cast_ofNat_Int] at HH
  clear hb0
  go_wp2_with fail
  refine HH.out.mono ?_
  rintro e w1 ⟨rfl | ⟨rfl, hn⟩, hb1⟩
  · have HB1 := hide (below_then HB0.out hb1)
    clear hb1 HH
    go_wp2
    go_ret
    exact ⟨rfl, HB1.out⟩
  · have HB1 := hide (below_then HB0.out hb1)
    clear hb1 HH
    go_wp2_with fail
    refine (tr_new_bad k w1 HK.out).mono ?_
    rintro e w2 ⟨rfl, rfl⟩
    by_cases h1 : k < 1
    · have e1 : decide (k < 1) = true := by simp; omega
      clear h1
      go_wp2
      go_ret
      exact ⟨rfl, HB1.out⟩
    · have e1 : decide (k < 1) = false := by simp; omega
      have e2 : decide ((16 : Int) < k) = true := by have := HK.out; simp; omega
      clear h1
      go_wp2
      go_ret
      exact ⟨rfl, HB1.out⟩
theorem tree_plays (w : World) (k : Int) (_ : (Lit.int .i64 k).wf = true) (A : Option Addr) (n c : Nat) (acts : List TA) (h : ActsAt w A n acts ∧ n ≤ c ∧ c ≤ maxLen) :
    Calls Try.prog 9 #[.int .i64 k, .slice A n c] w fun e w' => e = .returned (.bool true) ∧ Below w.heap.size w w' := by
  by_cases hk : 1 ≤ k ∧ k ≤ 16
  · have := plays_in (k := k.toNat) (c := c) (by omega) (by omega) h.1
    rw [Int.toNat_of_nonneg (by omega)] at this
    exact this
  · exact plays_out (by omega) h.1
end Go.Proofs.Ytkknfnjojamgjaa
