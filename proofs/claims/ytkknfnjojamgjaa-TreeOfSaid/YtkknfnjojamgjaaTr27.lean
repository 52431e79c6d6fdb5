/- pantilelaw07.TreeOf: of any tree behind any acts, its root makes a tree with the same entries, which goes on as that does. -/
import Derived.Test.YtkknfnjojamgjaaTrD
set_option linter.unusedSimpArgs false
set_option linter.unusedVariables false
namespace Go.Proofs.Ytkknfnjojamgjaa
open Go.RowKit
set_option maxHeartbeats 1000000 in
set_option maxRecDepth 100000 in
theorem tr_of_some {w : World} {k g : Nat} {lv : Int} {pre : List Nat} {es : List Ent} (hN : NodeOf w k g lv pre es) (h1 : 1 ≤ k) (h2 : k ≤ 16) : Calls Try.prog 66 #[.int .i64 (k : Int), .pointer (some ⟨g, 0, none⟩)] w fun e w' => e = .returned (.tuple #[.pointer (some ⟨w.heap.size, 0, none⟩), .int .i64 0]) ∧ TreeBlk w' w.heap.size k (some ⟨g, 0, none⟩) ∧ Below w.heap.size w w' := by
  have e1 : decide ((k : Int) < 1) = false := by simp; omega
  have e2 : decide ((16 : Int) < (k : Int)) = false := by simp; omega
  have HK := hide (nd_k hN)
  clear hN
  go_enter Try.func66, Try.ntmps66
  go_wp2_with fail
  refine HK.out.mono ?_
  rintro e w1 ⟨rfl, rfl⟩
  go_wp2
  go_ret2
  exact ⟨rfl, Blk.new w _ _, (Below.refl _ _).alloc (Nat.le_refl _) _⟩
set_option maxHeartbeats 1000000 in
set_option maxRecDepth 100000 in
theorem tr_of_dim {w : World} {k o g : Nat} {lv : Int} {pre : List Nat} {es : List Ent} (hN : NodeOf w k g lv pre es) (h1 : 1 ≤ o) (h2 : o ≤ 16) (hne : o ≠ k) : Calls Try.prog 66 #[.int .i64 (o : Int), .pointer (some ⟨g, 0, none⟩)] w fun e w' => e = .returned (.tuple #[.pointer none, .int .i64 2]) ∧ w = w' := by
  have e1 : decide ((o : Int) < 1) = false := by simp; omega
  have e2 : decide ((16 : Int) < (o : Int)) = false := by simp; omega
  have e3 : ((k : Int) != (o : Int)) = true := by simp; omega
  have HK := hide (nd_k hN)
  clear hN hne
  go_enter Try.func66, Try.ntmps66
  go_wp2_with fail
  refine HK.out.mono ?_
  rintro e w1 ⟨rfl, rfl⟩
  go_wp2
  go_ret2
  exact ⟨rfl, rfl⟩
theorem ptr_eq_nil (w : World) : (binOp .neq 54 (.pointer none) (.pointer none)).run Try.prog w = .ok (.bool false) w := by kernel_rfl
/-- What Of answers of a tree's own root. -/
theorem of_root {w : World} {k t : Nat} {es : List Ent} {root : Option Addr} (hT : TreeOf w k t es) (hB : TreeBlk w t k root) :
    Calls Try.prog 66 #[.int .i64 (k : Int), .pointer root] w fun e w' => ∃ u, e = .returned (.tuple #[.pointer (some ⟨u, 0, none⟩), .int .i64 0]) ∧ TreeBlk w' u k root ∧ TreeOf w' k u es ∧ Below w.heap.size w w' := by
  have huniq : ∀ r', TreeBlk w t k r' → r' = root := fun r' h => by
    have h1 := Blk.cell h 1
    have h2 := Blk.cell hB 1
    rw [h1] at h2
    simp at h2
    exact h2
  obtain ⟨h1, h2, ⟨h3, rfl⟩ | ⟨g, lv, pre, h3, h4⟩⟩ := hT
  · obtain rfl := huniq _ h3
    exact (tr_of_nil k w h1 h2).mono fun e w' ⟨a, b, c⟩ => ⟨_, a, b, ⟨h1, h2, .inl ⟨b, rfl⟩⟩, c⟩
  · obtain rfl := huniq _ h3
    exact (tr_of_some h4 h1 h2).mono fun e w' ⟨a, b, c⟩ => ⟨_, a, b, ⟨h1, h2, .inr ⟨g, lv, pre, b, h4.stay c⟩⟩, c⟩
/-- What Of answers of a root for any K. -/
theorem of_other {w : World} {k t : Nat} {es : List Ent} {root : Option Addr} (hT : TreeOf w k t es) (hB : TreeBlk w t k root) (o : Int) :
    Calls Try.prog 66 #[.int .i64 o, .pointer root] w fun e w' => (((o < 1 ∨ 16 < o) ∧ e = .returned (.tuple #[.pointer none, .int .i64 3])) ∨
      (1 ≤ o ∧ o ≤ 16 ∧ o ≠ (k : Int) ∧ 0 < es.length ∧ e = .returned (.tuple #[.pointer none, .int .i64 2])) ∨
      (1 ≤ o ∧ o ≤ 16 ∧ (o = (k : Int) ∨ es.length = 0) ∧ ∃ (u : Nat) (on : Nat) (r : Option Addr), (on : Int) = o ∧ e = .returned (.tuple #[.pointer (some ⟨u, 0, none⟩), .int .i64 0]) ∧ TreeBlk w' u on r)) ∧ Below w.heap.size w w' := by
  by_cases ho : 1 ≤ o ∧ o ≤ 16
  · obtain ⟨on, rfl⟩ : ∃ on : Nat, o = (on : Int) := ⟨o.toNat, by omega⟩
    by_cases hk : on = k
    · subst hk
      exact (of_root hT hB).mono fun e w' ⟨u, a, b, c, d⟩ => ⟨.inr (.inr ⟨ho.1, ho.2, .inl rfl, u, on, root, rfl, a, b⟩), d⟩
    · obtain ⟨h1, h2, ⟨h3, rfl⟩ | ⟨g, lv, pre, h3, h4⟩⟩ := hT
      · have : root = none := by
          have h1 := Blk.cell h3 1
          have h2 := Blk.cell hB 1
          rw [h1] at h2
          simp at h2
          exact h2.symm
        subst this
        exact (tr_of_nil on w (by omega) (by omega)).mono fun e w' ⟨a, b, c⟩ => ⟨.inr (.inr ⟨ho.1, ho.2, .inr rfl, _, on, none, rfl, a, b⟩), c⟩
      · have : root = some ⟨g, 0, none⟩ := by
          have h1 := Blk.cell h3 1
          have h2 := Blk.cell hB 1
          rw [h1] at h2
          simp at h2
          exact h2.symm
        subst this
        refine (tr_of_dim h4 (by omega) (by omega) hk).mono fun e w' ⟨a, b⟩ => ⟨.inr (.inl ⟨ho.1, ho.2, by omega, List.length_pos_iff.2 h4.info.2.1, a⟩), by rw [b]; exact Below.refl _ _⟩
  · refine (tr_of_bad o root w (by omega)).mono fun e w' ⟨a, b⟩ => ⟨.inl ⟨by omega, a⟩, by rw [b]; exact Below.refl _ _⟩
set_option maxHeartbeats 8000000 in
set_option maxRecDepth 100000 in
theorem tree_of (w : World) (k : Int) (_ : (Lit.int .i64 k).wf = true) (o : Int) (_ : (Lit.int .i64 o).wf = true) (AL : Option Addr) (nl cl : Nat) (al : List TA) (hl : ActsAt w AL nl al ∧ nl ≤ cl ∧ cl ≤ maxLen) (AA : Option Addr) (na ca : Nat) (aa : List TA) (ha : ActsAt w AA na aa ∧ na ≤ ca ∧ ca ≤ maxLen) :
    Calls Try.prog 11 #[.int .i64 k, .int .i64 o, .slice AL nl cl, .slice AA na ca] w fun e w' => e = .returned (.bool true) ∧ Below w.heap.size w w' := by
  have HEL := hide hl.1
  have HEA := hide ha.1
  clear hl ha
  go_enter Try.func11, Try.ntmps11
  go_wp2_with fail
  refine (awake7 w).mono ?_
  rintro e w0 ⟨rfl, hb0⟩
  have HB0 := hide hb0
  have HH := hide (heavy7 AL nl cl 30 al w0 (HEL.out.below hb0) (by omega))
  simp only [Int.cast_ofNat_Int] at HH
  clear hb0
  go_wp2_with fail
  refine HH.out.mono ?_
  rintro e w1 ⟨rfl | ⟨rfl, hnl⟩, hb1⟩
  · have HB1 := hide (below_then HB0.out hb1)
    clear hb1 HH
    go_wp2
    go_ret
    exact ⟨rfl, HB1.out⟩
  have hc1 := below_then HB0.out hb1
  have HB1 := hide hc1
  have HH := hide (heavy7 AA na ca 30 aa w1 (HEA.out.below hc1) (by omega))
  simp only [Int.cast_ofNat_Int] at HH
  clear hb1 hc1
  go_wp2_with fail
  refine HH.out.mono ?_
  rintro e w3 ⟨rfl | ⟨rfl, hna⟩, hb3⟩
  · have HB3 := hide (below_then HB1.out hb3)
    clear hb3 HH
    go_wp2
    go_ret
    exact ⟨rfl, HB3.out⟩
  have hc3 := below_then HB1.out hb3
  have HB3 := hide hc3
  clear hb3 HH
  by_cases h1 : k < 1
  · have e1 : decide (k < 1) = true := by simp; omega
    clear h1 hc3
    go_wp2
    go_ret
    exact ⟨rfl, HB3.out⟩
  have e1 : decide (k < 1) = false := by simp; omega
  by_cases h2 : 16 < k
  · have e2 : decide ((16 : Int) < k) = true := by simp; omega
    clear h1 h2 hc3
    go_wp2
    go_ret
    exact ⟨rfl, HB3.out⟩
  have e2 : decide ((16 : Int) < k) = false := by simp; omega
  obtain ⟨kn, rfl⟩ : ∃ kn : Nat, k = (kn : Int) := ⟨k.toNat, by omega⟩
  have hk1 : 1 ≤ kn := by omega
  have hk16 : kn ≤ 16 := by omega
  have HG := hide (grown7 (c := cl) hk1 hk16 (HEL.out.below hc3) (by omega))
  clear h1 h2 hc3
  go_wp2_with fail
  refine HG.out.mono ?_
  rintro e w4 ⟨t, A4, n4, c4, rfl, ⟨rows, es, hT4, hE4, hnc4, hS4, hkk4, hes4⟩, hn4, hb4⟩
  have HB4 := hide (below_then HB3.out hb4)
  obtain ⟨root, hR4⟩ := hT4.blk
  have hlen : es.length = n4 := by rw [← hes4, ← hE4.len]; unfold ents; simp
  have HT4 := hide hT4
  have HR4 := hide hR4
  have HE4 := hide hE4
  have HNC := hide hnc4
  have HS4 := hide hS4
  have HKK := hide hkk4
  have HES := hide hes4
  have HLEN := hide hlen
  have HRT := hide (fun (W : World) (hW : Below w4.heap.size w4 W) => tr_root (Blk.below hR4 hW))
  have HR0 := hide (HRT.out w4 (Below.refl _ _))
  have HOF := hide (of_root hT4 hR4)
  clear hT4 hR4 hE4 hnc4 hS4 hkk4 hes4 hb4 hlen HG
  go_wp2_with fail
  refine HR0.out.mono ?_
  rintro e w5 ⟨rfl, rfl⟩
  go_wp2_with fail
  refine HOF.out.mono ?_
  rintro e w5 ⟨u, rfl, hU5, hTU5, hb5⟩
  have HB5 := hide hb5
  have HU5 := hide hU5
  have HTU5 := hide hTU5
  have HR5 := hide (HRT.out w5 hb5)
  have HO := hide (of_other (HT4.out.stay hb5) (Blk.below HR4.out hb5) o)
  clear hU5 hTU5 hb5 HR0 HOF
  go_wp2_with fail
  refine HR5.out.mono ?_
  rintro e w6 ⟨rfl, rfl⟩
  go_wp2_with fail
  refine HO.out.mono ?_
  rintro e w6 ⟨hcs, hb6⟩
  have HCS := hide hcs
  have HB6 := hide hb6
  have HRU := hide (tr_root (Blk.below HU5.out hb6))
  have HRR := hide (HRT.out w6 (below_then HB5.out hb6))
  obtain ⟨x, code, hx⟩ : ∃ (x : Option Addr) (code : Int), e = .returned (.tuple #[.pointer x, .int .i64 code]) := by
    rcases hcs with ⟨_, h⟩ | ⟨_, _, _, _, h⟩ | ⟨_, _, _, u', on, r, _, h, _⟩
    · exact ⟨_, _, h⟩
    · exact ⟨_, _, h⟩
    · exact ⟨_, _, h⟩
  subst hx
  have hIS := is_tree (HTU5.out.stay hb6) (HE4.out.below (below_then HB5.out hb6)) HNC.out (by omega) HKK.out HES.out
  have HIS := hide hIS
  clear hcs hb6 hIS HR5 HO
  have hpp : ∀ W, (binOp .neq 54 (.pointer root) (.pointer root)).run Try.prog W = .ok (.bool false) W := fun W => by
    cases root with
    | none => exact ptr_eq_nil W
    | some a => exact ptr_same_neq a W
  go_wp2_with fail
  refine HRU.out.mono ?_
  rintro e w7 ⟨rfl, rfl⟩
  go_wp2_with fail
  refine HRR.out.mono ?_
  rintro e w7 ⟨rfl, rfl⟩
  go_wp2_with fail
  refine HIS.out.mono ?_
  rintro e w7 ⟨rfl, hb7⟩
  have hb57 := below_then HB5.out (below_then HB6.out hb7)
  have HB7 := hide hb57
  have HT7 := hide ((HTU5.out.stay HB6.out).stay hb7)
  have HE7 := hide (HE4.out.below hb57)
  have HBW := hide (below_then HB4.out hb57)
  have HB67 := hide hb7
  clear hb7 hb57 HRU HRR HIS
  go_upto_region 12 with fail
  have HNW : Hid (Now w7 kn u A4 n4 c4) := hide ⟨rows, es, HT7.out, HE7.out, HNC.out, HS4.out, HKK.out, HES.out⟩
  rcases HCS.out with ⟨hr, h⟩ | ⟨ha, hb, hne, hpos, h⟩ | ⟨ha, hb, hor, u', on, r, hon, h, hX⟩
  · injection h with h
    injection h with h
    simp only [Array.mk.injEq, List.cons.injEq, Value.pointer.injEq, Value.int.injEq, and_true, true_and] at h
    obtain ⟨rfl, rfl⟩ := h
    by_cases h3 : o < 1
    · have e3 : decide (o < 1) = true := by simp; omega
      clear h3 hr
      go_wp2
      go_loopw [10, 12, 16] (fun x10 x12 x16 wr => ∃ (j tx : Nat) (Ax : Option Addr) (nx cx : Nat), x12 = .pointer (some ⟨tx, 0, none⟩) ∧ x10 = .slice Ax nx cx ∧ x16 = .int .i64 (j : Int) ∧ j ≤ na ∧ nx ≤ n4 + j ∧ Now wr kn tx Ax nx cx ∧ Below w.heap.size w wr) (fun _ _ x _ => na - (intOf x).toNat)
      case atStart => exact ⟨0, u, A4, n4, c4, rfl, rfl, rfl, Nat.zero_le _, by omega, HNW.out, HBW.out⟩
      case round =>
        obtain ⟨j, tx, Ax, nx, cx, rfl, rfl, rfl, hj, hnx, hNx, hb⟩ := hrel
        have HNx := hide hNx
        have HBr := hide hb
        rename World => wz
        by_cases hja : j < na
        · obtain ⟨b, o1, r, rfl, hbl, hr, hok, k0, k1, k2⟩ := (HEA.out.below hb).at_ hja
          have HD := hide (done7 hNx (by omega) hok)
          clear hNx hb hr hok
          go_wp2_with fail
          refine HD.out.mono ?_
          rintro e w5 ⟨t5, A5, n5, c5, rfl, hN5, hn5, hb5⟩
          have HH := hide (And.intro hN5 (below_then HBr.out hb5))
          clear hN5 hb5 HD k0 k1 k2
          go_wp2
          go_roundw
          case rel => exact ⟨j + 1, t5, A5, n5, c5, rfl, rfl, by go_num, by omega, by omega, HH.out.1, HH.out.2⟩
          case measure => simp [intOf]; omega
        · have e9 : decide ((j : Int) < (na : Int)) = false := by simp; omega
          obtain ⟨rows2, es2, i1, i2, i3, i4, i5, i6⟩ := hNx
          have HIS := hide (is_tree i1 i2 i3 (by omega) i5 i6)
          clear i1 i2 i3 i4 i5 i6 hb
          go_wp2_with fail
          refine HIS.out.mono ?_
          rintro e w6 ⟨rfl, hb6⟩
          have HB6 := hide (below_then HBr.out hb6)
          clear hb6
          go_wp2
          go_ret
          exact ⟨rfl, HB6.out⟩
    · have e3 : decide (o < 1) = false := by simp; omega
      have e4 : decide ((16 : Int) < o) = true := by simp; omega
      clear h3 hr
      go_wp2
      go_loopw [10, 12, 16] (fun x10 x12 x16 wr => ∃ (j tx : Nat) (Ax : Option Addr) (nx cx : Nat), x12 = .pointer (some ⟨tx, 0, none⟩) ∧ x10 = .slice Ax nx cx ∧ x16 = .int .i64 (j : Int) ∧ j ≤ na ∧ nx ≤ n4 + j ∧ Now wr kn tx Ax nx cx ∧ Below w.heap.size w wr) (fun _ _ x _ => na - (intOf x).toNat)
      case atStart => exact ⟨0, u, A4, n4, c4, rfl, rfl, rfl, Nat.zero_le _, by omega, HNW.out, HBW.out⟩
      case round =>
        obtain ⟨j, tx, Ax, nx, cx, rfl, rfl, rfl, hj, hnx, hNx, hb⟩ := hrel
        have HNx := hide hNx
        have HBr := hide hb
        rename World => wz
        by_cases hja : j < na
        · obtain ⟨b, o1, r, rfl, hbl, hr, hok, k0, k1, k2⟩ := (HEA.out.below hb).at_ hja
          have HD := hide (done7 hNx (by omega) hok)
          clear hNx hb hr hok
          go_wp2_with fail
          refine HD.out.mono ?_
          rintro e w5 ⟨t5, A5, n5, c5, rfl, hN5, hn5, hb5⟩
          have HH := hide (And.intro hN5 (below_then HBr.out hb5))
          clear hN5 hb5 HD k0 k1 k2
          go_wp2
          go_roundw
          case rel => exact ⟨j + 1, t5, A5, n5, c5, rfl, rfl, by go_num, by omega, by omega, HH.out.1, HH.out.2⟩
          case measure => simp [intOf]; omega
        · have e9 : decide ((j : Int) < (na : Int)) = false := by simp; omega
          obtain ⟨rows2, es2, i1, i2, i3, i4, i5, i6⟩ := hNx
          have HIS := hide (is_tree i1 i2 i3 (by omega) i5 i6)
          clear i1 i2 i3 i4 i5 i6 hb
          go_wp2_with fail
          refine HIS.out.mono ?_
          rintro e w6 ⟨rfl, hb6⟩
          have HB6 := hide (below_then HBr.out hb6)
          clear hb6
          go_wp2
          go_ret
          exact ⟨rfl, HB6.out⟩
  · injection h with h
    injection h with h
    simp only [Array.mk.injEq, List.cons.injEq, Value.pointer.injEq, Value.int.injEq, and_true, true_and] at h
    obtain ⟨rfl, rfl⟩ := h
    have e3 : decide (o < 1) = false := by simp; omega
    have e4 : decide ((16 : Int) < o) = false := by simp; omega
    have e5 : (o != (kn : Int)) = true := by simp; omega
    have hl := HLEN.out
    have e6 : decide ((0 : Int) < (n4 : Int)) = true := by simp; omega
    have e7 : (0 : Int) < (n4 : Int) := by omega
    have e8 : 0 < n4 := by omega
    clear ha hb hne hpos hl
    go_wp2
    go_loopw [10, 12, 16] (fun x10 x12 x16 wr => ∃ (j tx : Nat) (Ax : Option Addr) (nx cx : Nat), x12 = .pointer (some ⟨tx, 0, none⟩) ∧ x10 = .slice Ax nx cx ∧ x16 = .int .i64 (j : Int) ∧ j ≤ na ∧ nx ≤ n4 + j ∧ Now wr kn tx Ax nx cx ∧ Below w.heap.size w wr) (fun _ _ x _ => na - (intOf x).toNat)
    case atStart => exact ⟨0, u, A4, n4, c4, rfl, rfl, rfl, Nat.zero_le _, by omega, HNW.out, HBW.out⟩
    case round =>
      obtain ⟨j, tx, Ax, nx, cx, rfl, rfl, rfl, hj, hnx, hNx, hb⟩ := hrel
      have HNx := hide hNx
      have HBr := hide hb
      rename World => wz
      by_cases hja : j < na
      · obtain ⟨b, o1, r, rfl, hbl, hr, hok, k0, k1, k2⟩ := (HEA.out.below hb).at_ hja
        have HD := hide (done7 hNx (by omega) hok)
        clear hNx hb hr hok
        go_wp2_with fail
        refine HD.out.mono ?_
        rintro e w5 ⟨t5, A5, n5, c5, rfl, hN5, hn5, hb5⟩
        have HH := hide (And.intro hN5 (below_then HBr.out hb5))
        clear hN5 hb5 HD k0 k1 k2
        go_wp2
        go_roundw
        case rel => exact ⟨j + 1, t5, A5, n5, c5, rfl, rfl, by go_num, by omega, by omega, HH.out.1, HH.out.2⟩
        case measure => simp [intOf]; omega
      · have e9 : decide ((j : Int) < (na : Int)) = false := by simp; omega
        obtain ⟨rows2, es2, i1, i2, i3, i4, i5, i6⟩ := hNx
        have HIS := hide (is_tree i1 i2 i3 (by omega) i5 i6)
        clear i1 i2 i3 i4 i5 i6 hb
        go_wp2_with fail
        refine HIS.out.mono ?_
        rintro e w6 ⟨rfl, hb6⟩
        have HB6 := hide (below_then HBr.out hb6)
        clear hb6
        go_wp2
        go_ret
        exact ⟨rfl, HB6.out⟩
  · injection h with h
    injection h with h
    simp only [Array.mk.injEq, List.cons.injEq, Value.pointer.injEq, Value.int.injEq, and_true, true_and] at h
    obtain ⟨rfl, rfl⟩ := h
    have e3 : decide (o < 1) = false := by simp; omega
    have e4 : decide ((16 : Int) < o) = false := by simp; omega
    have HK := hide (tr_k (Blk.below hX HB67.out))
    rw [hon] at HK
    have hl := HLEN.out
    by_cases hok : o = (kn : Int)
    · have e5 : (o != (kn : Int)) = false := by simp; omega
      clear ha hb hor hon hX hok hl
      try clear hn40
      go_wp2_with fail
      refine HK.out.mono ?_
      rintro e w8 ⟨rfl, rfl⟩
      go_wp2
      go_loopw [10, 12, 16] (fun x10 x12 x16 wr => ∃ (j tx : Nat) (Ax : Option Addr) (nx cx : Nat), x12 = .pointer (some ⟨tx, 0, none⟩) ∧ x10 = .slice Ax nx cx ∧ x16 = .int .i64 (j : Int) ∧ j ≤ na ∧ nx ≤ n4 + j ∧ Now wr kn tx Ax nx cx ∧ Below w.heap.size w wr) (fun _ _ x _ => na - (intOf x).toNat)
      case atStart => exact ⟨0, u, A4, n4, c4, rfl, rfl, rfl, Nat.zero_le _, by omega, HNW.out, HBW.out⟩
      case round =>
        obtain ⟨j, tx, Ax, nx, cx, rfl, rfl, rfl, hj, hnx, hNx, hb⟩ := hrel
        have HNx := hide hNx
        have HBr := hide hb
        rename World => wz
        by_cases hja : j < na
        · obtain ⟨b, o1, r, rfl, hbl, hr, hok, k0, k1, k2⟩ := (HEA.out.below hb).at_ hja
          have HD := hide (done7 hNx (by omega) hok)
          clear hNx hb hr hok
          go_wp2_with fail
          refine HD.out.mono ?_
          rintro e w5 ⟨t5, A5, n5, c5, rfl, hN5, hn5, hb5⟩
          have HH := hide (And.intro hN5 (below_then HBr.out hb5))
          clear hN5 hb5 HD k0 k1 k2
          go_wp2
          go_roundw
          case rel => exact ⟨j + 1, t5, A5, n5, c5, rfl, rfl, by go_num, by omega, by omega, HH.out.1, HH.out.2⟩
          case measure => simp [intOf]; omega
        · have e9 : decide ((j : Int) < (na : Int)) = false := by simp; omega
          obtain ⟨rows2, es2, i1, i2, i3, i4, i5, i6⟩ := hNx
          have HIS := hide (is_tree i1 i2 i3 (by omega) i5 i6)
          clear i1 i2 i3 i4 i5 i6 hb
          go_wp2_with fail
          refine HIS.out.mono ?_
          rintro e w6 ⟨rfl, hb6⟩
          have HB6 := hide (below_then HBr.out hb6)
          clear hb6
          go_wp2
          go_ret
          exact ⟨rfl, HB6.out⟩
    · have e5 : (o != (kn : Int)) = true := by simp; omega
      have hn40 : n4 = 0 := by omega
      have e6 : decide ((0 : Int) < (n4 : Int)) = false := by simp; omega
      have e7 : ¬ 0 < n4 := by omega
      clear ha hb hor hon hX hok hl
      try clear hn40
      go_wp2_with fail
      refine HK.out.mono ?_
      rintro e w8 ⟨rfl, rfl⟩
      go_wp2
      go_loopw [10, 12, 16] (fun x10 x12 x16 wr => ∃ (j tx : Nat) (Ax : Option Addr) (nx cx : Nat), x12 = .pointer (some ⟨tx, 0, none⟩) ∧ x10 = .slice Ax nx cx ∧ x16 = .int .i64 (j : Int) ∧ j ≤ na ∧ nx ≤ n4 + j ∧ Now wr kn tx Ax nx cx ∧ Below w.heap.size w wr) (fun _ _ x _ => na - (intOf x).toNat)
      case atStart => exact ⟨0, u, A4, n4, c4, rfl, rfl, rfl, Nat.zero_le _, by omega, HNW.out, HBW.out⟩
      case round =>
        obtain ⟨j, tx, Ax, nx, cx, rfl, rfl, rfl, hj, hnx, hNx, hb⟩ := hrel
        have HNx := hide hNx
        have HBr := hide hb
        rename World => wz
        by_cases hja : j < na
        · obtain ⟨b, o1, r, rfl, hbl, hr, hok, k0, k1, k2⟩ := (HEA.out.below hb).at_ hja
          have HD := hide (done7 hNx (by omega) hok)
          clear hNx hb hr hok
          go_wp2_with fail
          refine HD.out.mono ?_
          rintro e w5 ⟨t5, A5, n5, c5, rfl, hN5, hn5, hb5⟩
          have HH := hide (And.intro hN5 (below_then HBr.out hb5))
          clear hN5 hb5 HD k0 k1 k2
          go_wp2
          go_roundw
          case rel => exact ⟨j + 1, t5, A5, n5, c5, rfl, rfl, by go_num, by omega, by omega, HH.out.1, HH.out.2⟩
          case measure => simp [intOf]; omega
        · have e9 : decide ((j : Int) < (na : Int)) = false := by simp; omega
          obtain ⟨rows2, es2, i1, i2, i3, i4, i5, i6⟩ := hNx
          have HIS := hide (is_tree i1 i2 i3 (by omega) i5 i6)
          clear i1 i2 i3 i4 i5 i6 hb
          go_wp2_with fail
          refine HIS.out.mono ?_
          rintro e w6 ⟨rfl, hb6⟩
          have HB6 := hide (below_then HBr.out hb6)
          clear hb6
          go_wp2
          go_ret
          exact ⟨rfl, HB6.out⟩

end Go.Proofs.Ytkknfnjojamgjaa
