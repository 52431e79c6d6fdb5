/- pantilelaw07.TreeKeeps: whatever is done with a tree then, that tree is as it was; what is done with each of two trees that come of it doesn't touch the other. -/
import Derived.Test.YtkknfnjojamgjaaTrD
set_option linter.unusedSimpArgs false
set_option linter.unusedVariables false
namespace Go.Proofs.Ytkknfnjojamgjaa
open Go.RowKit
set_option maxHeartbeats 8000000 in
set_option maxRecDepth 100000 in
theorem tree_keeps (w : World) (k : Int) (_ : (Lit.int .i64 k).wf = true) (AL : Option Addr) (nl cl : Nat) (al : List TA) (hl : ActsAt w AL nl al ∧ nl ≤ cl ∧ cl ≤ maxLen) (AA : Option Addr) (na ca : Nat) (aa : List TA) (ha : ActsAt w AA na aa ∧ na ≤ ca ∧ ca ≤ maxLen)
    (AB : Option Addr) (nb cb : Nat) (ab : List TA) (hb : ActsAt w AB nb ab ∧ nb ≤ cb ∧ cb ≤ maxLen) :
    Calls Try.prog 10 #[.int .i64 k, .slice AL nl cl, .slice AA na ca, .slice AB nb cb] w fun e w' => e = .returned (.bool true) ∧ Below w.heap.size w w' := by
  have HEL := hide hl.1
  have HEA := hide ha.1
  have HEB := hide hb.1
  clear hl ha hb
  go_enter Try.func10, Try.ntmps10
  go_wp2_with fail
  refine (awake7 w).mono ?_
  rintro e w0 ⟨rfl, hb0⟩
  have HB0 := hide hb0
  have HH := hide (heavy7 AL nl cl 30 al w0 (HEL.out.below hb0) (by omega))
  simp only [Int.cast_ofNat_Int] at HH
  clear hb0
  go_wp2_with fail
  refine HH.out.mono ?_
  rintro e w1 ⟨rfl | ⟨rfl, hnl⟩, hb1⟩
  · have HB1 := hide (below_then HB0.out hb1)
    clear hb1 HH
    go_wp2
    go_ret
    exact ⟨rfl, HB1.out⟩
  have hc1 := below_then HB0.out hb1
  have HB1 := hide hc1
  have HH := hide (heavy7 AA na ca 30 aa w1 (HEA.out.below hc1) (by omega))
  simp only [Int.cast_ofNat_Int] at HH
  clear hb1 hc1
  go_wp2_with fail
  refine HH.out.mono ?_
  rintro e w2 ⟨rfl | ⟨rfl, hna⟩, hb2⟩
  · have HB2 := hide (below_then HB1.out hb2)
    clear hb2 HH
    go_wp2
    go_ret
    exact ⟨rfl, HB2.out⟩
  have hc2 := below_then HB1.out hb2
  have HB2 := hide hc2
  have HH := hide (heavy7 AB nb cb 30 ab w2 (HEB.out.below hc2) (by omega))
  simp only [Int.cast_ofNat_Int] at HH
  clear hb2 hc2
  go_wp2_with fail
  refine HH.out.mono ?_
  rintro e w3 ⟨rfl | ⟨rfl, hnb⟩, hb3⟩
  · have HB3 := hide (below_then HB2.out hb3)
    clear hb3 HH
    go_wp2
    go_ret
    exact ⟨rfl, HB3.out⟩
  have hc3 := below_then HB2.out hb3
  have HB3 := hide hc3
  clear hb3 HH
  by_cases h1 : k < 1
  · have e1 : decide (k < 1) = true := by simp; omega
    clear h1 hc3
    go_wp2
    go_ret
    exact ⟨rfl, HB3.out⟩
  have e1 : decide (k < 1) = false := by simp; omega
  by_cases h2 : 16 < k
  · have e2 : decide ((16 : Int) < k) = true := by simp; omega
    clear h1 h2 hc3
    go_wp2
    go_ret
    exact ⟨rfl, HB3.out⟩
  have e2 : decide ((16 : Int) < k) = false := by simp; omega
  obtain ⟨kn, rfl⟩ : ∃ kn : Nat, k = (kn : Int) := ⟨k.toNat, by omega⟩
  have hk1 : 1 ≤ kn := by omega
  have hk16 : kn ≤ 16 := by omega
  have HG := hide (grown7 (c := cl) hk1 hk16 (HEL.out.below hc3) (by omega))
  clear h1 h2 hc3
  go_wp2_with fail
  refine HG.out.mono ?_
  rintro e w4 ⟨t, A4, n4, c4, rfl, hN4, hn4, hb4⟩
  have hc4 := below_then HB3.out hb4
  have HN4 := hide hN4
  have HB4 := hide hc4
  clear hN4 hb4 hc4 HG
  go_wp2
  go_loopw [12, 13, 14, 15, 16] (fun x12 x13 x14 x15 x16 wr => ∃ (j tx : Nat) (Ax : Option Addr) (nx cx ty : Nat) (Ay : Option Addr) (ny cy : Nat), x12 = .pointer (some ⟨tx, 0, none⟩) ∧ x14 = .slice Ax nx cx ∧ x13 = .pointer (some ⟨ty, 0, none⟩) ∧ x15 = .slice Ay ny cy ∧ x16 = .int .i64 (j : Int) ∧ j ≤ 30 ∧ nx ≤ n4 + j ∧ ny ≤ n4 + j ∧ Now wr kn tx Ax nx cx ∧ Now wr kn ty Ay ny cy ∧ Below w.heap.size w wr ∧ Below w4.heap.size w4 wr) (fun _ _ _ _ x _ => 31 - (intOf x).toNat)
  case atStart => exact ⟨0, t, A4, n4, c4, t, A4, n4, c4, rfl, rfl, rfl, rfl, rfl, by omega, by omega, by omega, HN4.out, HN4.out, HB4.out, Below.refl _ _⟩
  case round =>
    obtain ⟨j, tx, Ax, nx, cx, ty, Ay, ny, cy, rfl, rfl, rfl, rfl, rfl, hj, hnx, hny, hNx, hNy, hb, hbq⟩ := hrel
    have HNx := hide hNx
    have HNy := hide hNy
    have HBr := hide hb
    have HBq := hide hbq
    rename World => wz
    by_cases hja : j < na
    · obtain ⟨b, o, r, rfl, hbl, hr, hok, k0, k1, k2⟩ := (HEA.out.below hb).at_ hja
      have HD := hide (done7 hNx (by omega) hok)
      clear hNx hNy hb hbq hr hok
      go_wp2_with fail
      refine HD.out.mono ?_
      rintro e w5 ⟨t5, A5, n5, c5, rfl, hN5, hn5, hb5⟩
      have hc5 := below_then HBr.out hb5
      have HN5 := hide hN5
      have HB5 := hide hc5
      have HQ5 := hide (below_then HBq.out hb5)
      have HNy5 := hide (HNy.out.stay hb5)
      by_cases hjb : j < nb
      · obtain ⟨b', o', r', rfl, hbl', hr', hok', k0, k1, k2⟩ := (HEB.out.below hc5).at_ hjb
        have HD2 := hide (done7 HNy5.out (by omega) hok')
        clear hN5 hb5 hc5 HD hr' hok'
        go_wp2_with fail
        refine HD2.out.mono ?_
        rintro e w6 ⟨t6, A6, n6, c6, rfl, hN6, hn6, hb6⟩
        have HH := hide (And.intro (HN5.out.stay hb6) (And.intro hN6 (And.intro (below_then HB5.out hb6) (below_then HQ5.out hb6))))
        clear hN6 hb6 HD2 k0 k1 k2
        go_wp2
        go_roundw
        case rel => exact ⟨j + 1, t5, A5, n5, c5, t6, A6, n6, c6, rfl, rfl, rfl, rfl, by go_num, by omega, by omega, by omega, HH.out.1, HH.out.2.1, HH.out.2.2.1, HH.out.2.2.2⟩
        case measure => simp [intOf]; omega
      · have e9 : decide ((j : Int) < (nb : Int)) = false := by simp; omega
        clear hN5 hb5 hc5 HD k0 k1 k2
        go_wp2
        go_roundw
        case rel => exact ⟨j + 1, t5, A5, n5, c5, ty, Ay, ny, cy, rfl, rfl, rfl, rfl, by go_num, by omega, by omega, by omega, HN5.out, HNy5.out, HB5.out, HQ5.out⟩
        case measure => simp [intOf]; omega
    · have e8 : decide ((j : Int) < (na : Int)) = false := by simp; omega
      by_cases hjb : j < nb
      · obtain ⟨b', o', r', rfl, hbl', hr', hok', k0, k1, k2⟩ := (HEB.out.below hb).at_ hjb
        have HD2 := hide (done7 hNy (by omega) hok')
        clear hNx hNy hb hbq hr' hok'
        go_wp2_with fail
        refine HD2.out.mono ?_
        rintro e w6 ⟨t6, A6, n6, c6, rfl, hN6, hn6, hb6⟩
        have HH := hide (And.intro (HNx.out.stay hb6) (And.intro hN6 (And.intro (below_then HBr.out hb6) (below_then HBq.out hb6))))
        clear hN6 hb6 HD2 k0 k1 k2
        go_wp2
        go_roundw
        case rel => exact ⟨j + 1, tx, Ax, nx, cx, t6, A6, n6, c6, rfl, rfl, rfl, rfl, by go_num, by omega, by omega, by omega, HH.out.1, HH.out.2.1, HH.out.2.2.1, HH.out.2.2.2⟩
        case measure => simp [intOf]; omega
      · have e9 : decide ((j : Int) < (nb : Int)) = false := by simp; omega
        obtain ⟨rows, es, i1, i2, i3, i4, i5, i6⟩ := HN4.out.stay hbq
        have HIS := hide (is_tree i1 i2 i3 (by omega) i5 i6)
        clear i1 i2 i3 i4 i5 i6 hb hbq hNx hNy
        go_wp2_with fail
        refine HIS.out.mono ?_
        rintro e w6 ⟨rfl, hb6⟩
        obtain ⟨rows2, es2, i1, i2, i3, i4, i5, i6⟩ := HNx.out.stay hb6
        have HIS2 := hide (is_tree i1 i2 i3 (by omega) i5 i6)
        have HB6 := hide (below_then HBr.out hb6)
        have HNy6 := hide (HNy.out.stay hb6)
        clear i1 i2 i3 i4 i5 i6 hb6 HIS
        go_wp2_with fail
        refine HIS2.out.mono ?_
        rintro e w7 ⟨rfl, hb7⟩
        obtain ⟨rows3, es3, i1, i2, i3, i4, i5, i6⟩ := HNy6.out.stay hb7
        have HIS3 := hide (is_tree i1 i2 i3 (by omega) i5 i6)
        have HB7 := hide (below_then HB6.out hb7)
        clear i1 i2 i3 i4 i5 i6 hb7 HIS2
        go_wp2_with fail
        refine HIS3.out.mono ?_
        rintro e w8 ⟨rfl, hb8⟩
        have HB8 := hide (below_then HB7.out hb8)
        clear hb8
        go_wp2
        go_ret
        exact ⟨rfl, HB8.out⟩
end Go.Proofs.Ytkknfnjojamgjaa
