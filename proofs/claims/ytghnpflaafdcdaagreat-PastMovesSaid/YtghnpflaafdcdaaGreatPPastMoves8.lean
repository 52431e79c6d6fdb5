/- PastMoves: contracts and plain laws that the statement leans on (R22 R22b LwP PsF R12a R12d R12b). No condition. -/
import Derived.Test.YtghnpflaafdcdaaGreatPPastMoves7
set_option linter.unusedSimpArgs false
set_option linter.unusedVariables false
namespace Go.Proofs.YtghnpflaafdcdaaGreat
open Go.RowKit
/-- A list of entries as a header. -/
structure LV where
  A : Option Addr
  n : Nat
  c : Nat
def LV.val (z : LV) : Value := .slice z.A z.n z.c
def lvs (L : List LV) : List Value := L.map LV.val
theorem lvs_len (L : List LV) : (lvs L).length = L.length := by simp [lvs]
theorem lvs_one (L : List LV) : ∀ u ∈ lvs L, u.oneCell' = true := by
  intro u hu
  obtain ⟨x, -, rfl⟩ := List.mem_map.1 hu
  rfl
theorem info_l : (Tryz.prog.info? 32).map (fun i => (i.zero, i.size, i.bytes)) = some (some (.slice none 0 0), 1, 24) := by kernel_rfl
/-- A row of lists. -/
def RowL (w : World) (A : Option Addr) (n : Nat) (L : List LV) : Prop := Rw w 1 A n (lvs L) ∧ TyRow w 32 A n
section
variable {w w' : World} {A : Option Addr} {n : Nat} {L : List LV}
theorem RowL.below (h : RowL w A n L) (hb : Below w.heap.size w w') : RowL w' A n L := ⟨h.1.below hb, h.2.below hb⟩
theorem RowL.keep (h : RowL w A n L) (hk : Keep 32 w w') : RowL w' A n L := ⟨h.1.keep h.2 hk, h.2.keep hk⟩
theorem RowL.len (h : RowL w A n L) : L.length = n := by
  have := h.1.1
  rw [lvs_len] at this
  omega
theorem RowL.nil (w : World) : RowL w none 0 [] := ⟨⟨rfl, fun h => absurd h (by decide)⟩, fun h => absurd h (by decide)⟩
theorem RowL.of_own {base c : Nat} (h : w.ownsRow base 32 1 (.slice A n c) n (lvs L)) : RowL w A n L := by
  obtain ⟨A', c', e, -, hR⟩ := Rw.of_own h
  injection e with e1 e2 e3
  subst e1
  exact ⟨hR, own_ty h⟩
end
/-- The reference's past, by value. -/
def mval (AB : Option Addr) (nB cB : Nat) (z : LV) (AA : Option Addr) (nA cA : Nat) : Value := .agg #[.slice AB nB cB, z.val, .slice AA nA cA]
theorem keep_set3 {w : World} {g : Nat} {t t' : TypeId} {x y z : Value} (hB : Blk w g t #[x, y, z]) (hne : t' ≠ t) (a b c : Value) : Keep t' w (((w.setCell ⟨g, 0, none⟩ a).setCell ⟨g, 1, none⟩ b).setCell ⟨g, 2, none⟩ c) :=
  ((Keep.set hB hne a).trans (Keep.set (hB.set1 a) hne b)).trans (Keep.set ((hB.set1 a).set1 b) hne c)
theorem below_s3 {B g : Nat} {a0 w : World} (h : Below B a0 w) (hg : B ≤ g) (a b c : Value) : Below B a0 (((w.setCell ⟨g, 0, none⟩ a).setCell ⟨g, 1, none⟩ b).setCell ⟨g, 2, none⟩ c) :=
  ((h.setCell (p := ⟨g, 0, none⟩) hg a).setCell (p := ⟨g, 1, none⟩) hg b).setCell (p := ⟨g, 2, none⟩) hg c
theorem far_set3 {w : World} {g b o : Nat} (x y z : Value) (h : b ≠ g) : (((w.setCell ⟨g, 0, none⟩ x).setCell ⟨g, 1, none⟩ y).setCell ⟨g, 2, none⟩ z).cell? ⟨b, o, none⟩ = w.cell? ⟨b, o, none⟩ := by
  rw [World.cell?_setCell_far _ _ _ _ (show g ≠ b from fun e => h e.symm), World.cell?_setCell_far _ _ _ _ (show g ≠ b from fun e => h e.symm), World.cell?_setCell_far _ _ _ _ (show g ≠ b from fun e => h e.symm)]
theorem lvs_snoc (L : List LV) (z : LV) : lvs L ++ [z.val] = lvs (L ++ [z]) := by simp [lvs]
theorem rowl_own {w : World} {base n c : Nat} {A : Option Addr} {L : List LV} {z : LV} (h : w.ownsRow base 32 1 (.slice A (0 + n + 1) c) (0 + n + 1) ([] ++ lvs L ++ [z.val])) : RowL w A (n + 1) (L ++ [z]) := by
  rw [List.nil_append, lvs_snoc, Nat.zero_add] at h
  exact RowL.of_own h
theorem RowL.cutL {w : World} {A : Option Addr} {n c i : Nat} {L : List LV} (h : RowL w A n L) (hi : i ≤ n) (hc : n ≤ c) : RowL w (cutA A c 1 i) (n - i) (L.drop i) := by
  refine ⟨?_, ?_⟩
  · have := h.1.cut hi hc
    rw [Nat.mul_one] at this
    unfold lvs at this ⊢
    rw [List.map_drop]
    exact this
  · intro hp
    obtain ⟨b, o, cs, fr, rfl, hb⟩ := h.2 (by omega)
    refine ⟨b, o + i, cs, fr, ?_, hb⟩
    unfold cutA
    rw [if_neg (by omega)]
    by_cases h0 : i = 0 <;> simp [Addr.add, h0]
theorem RowL.take {w : World} {A : Option Addr} {n i : Nat} {L : List LV} (h : RowL w A n L) (hi : i ≤ n) : RowL w A i (L.take i) := by
  refine ⟨?_, ?_⟩
  · have := h.1.take_ hi
    rw [Nat.mul_one] at this
    unfold lvs at this ⊢
    rw [List.map_take]
    exact this
  · intro hp
    exact h.2 (by omega)
theorem RowL.at_ {w : World} {A : Option Addr} {n i : Nat} {L : List LV} (h : RowL w A n L) (hi : i < n) : ∃ b o z, A = some ⟨b, o, none⟩ ∧ b < w.heap.size ∧ L[i]? = some z ∧ w.cell? ⟨b, o + i, none⟩ = some z.val := by
  obtain ⟨b, o, h1, h2, h3⟩ := h.1.2 (by omega)
  have hl := h.len
  have hz : L[i]? = some L[i] := List.getElem?_eq_getElem (by omega)
  exact ⟨b, o, L[i], h1, h2, hz, h3 i _ (by unfold lvs; rw [List.getElem?_map, hz]; rfl)⟩
set_option maxHeartbeats 4000000 in
set_option maxRecDepth 100000 in
theorem ref22_do {w : World} {AB AA : Option Addr} {nB cB nA cA : Nat} {z x : LV} {L : List LV} (h : RowL w AB nB L) (hn : nB ≤ 50) :
    Calls Tryz.prog 11 #[mval AB nB cB z AA nA cA, x.val] w fun e w' => ∃ A' n' c', e = .returned (mval A' n' c' x none 0 0) ∧ RowL w' A' n' ((L ++ [z]).drop (nB - 49)) ∧ n' ≤ c' ∧ n' = nB + 1 - (nB - 49) ∧ Below w.heap.size w w' := by
  obtain ⟨zA, zn, zc⟩ := z
  obtain ⟨xA, xn, xc⟩ := x
  have hl := h.len
  unfold mval LV.val
  have hb0 : Below w.heap.size w ((w.alloc (.cells #[.slice AB nB cB, .slice zA zn zc, .slice AA nA cA] 34)).alloc (.cells #[.slice none 0 0, .slice none 0 0, .slice none 0 0] 34)) := ((Below.refl _ _).alloc (Nat.le_refl _) _).alloc (by simp) _
  have hN1 := (Blk.new w 34 #[.slice AB nB cB, .slice zA zn zc, .slice AA nA cA]).alloc (.cells #[.slice none 0 0, .slice none 0 0, .slice none 0 0] 34)
  have hN2 := Blk.new (w.alloc (.cells #[.slice AB nB cB, .slice zA zn zc, .slice AA nA cA] 34)) 34 #[.slice none 0 0, .slice none 0 0, .slice none 0 0]
  have hs0 : ((w.alloc (.cells #[.slice AB nB cB, .slice zA zn zc, .slice AA nA cA] 34)).alloc (.cells #[.slice none 0 0, .slice none 0 0, .slice none 0 0] 34)).heap.size = w.heap.size + 1 + 1 := by simp
  rw [show (w.alloc (.cells #[.slice AB nB cB, .slice zA zn zc, .slice AA nA cA] 34)).heap.size = w.heap.size + 1 by simp] at hN2
  have HL := hide h
  clear h
  go_enter Tryz.func11, Tryz.ntmps11
  go_wp2_with fail
  generalize (w.alloc (.cells #[.slice AB nB cB, .slice zA zn zc, .slice AA nA cA] 34)).alloc (.cells #[.slice none 0 0, .slice none 0 0, .slice none 0 0] 34) = W0 at *
  have HROW := hide (fun W (hW : Below W0.heap.size W0 W) => (HL.out.below (below_then hb0 hW)).1)
  have HK := hide (fun W (hW : Below W0.heap.size W0 W) => (⟨(hN1.below hW).cell 0, (hN1.below hW).cell 1⟩ : W.cell? ⟨w.heap.size, 0, none⟩ = _ ∧ W.cell? ⟨w.heap.size, 1, none⟩ = _))
  have HR := hide (fun W (hW : Below W0.heap.size W0 W) => hN2.below hW)
  have k1 := hN1.cell 0
  have k2 := hN1.cell 1
  simp at k1 k2
  have HB0 := hide hb0
  have HS0 := hide hs0
  have hlo : w.heap.size ≤ W0.heap.size := by omega
  have HLO := hide hlo
  have HLW := hide (show w.heap.size ≤ w.heap.size + 1 by omega)
  clear hN1 hN2 hb0 hs0 hlo
  have HOe := hide (fun W (hW : Below (W0.alloc (.cells #[] 32)).heap.size (W0.alloc (.cells #[] 32)) W) => own_below (own_empty W0 32 1) hW)
  have hof := fun W (hW : Below ((W0.alloc (.cells #[.slice zA zn zc] 32)).alloc (.cells #[] 32)).heap.size ((W0.alloc (.cells #[.slice zA zn zc] 32)).alloc (.cells #[] 32)) W) => own_lower (base' := W0.heap.size) (own_below (own_empty (W0.alloc (.cells #[.slice zA zn zc] 32)) 32 1) hW) (by simp)
  rw [show (W0.alloc (.cells #[.slice zA zn zc] 32)).heap.size = W0.heap.size + 1 by simp] at hof
  have HOf := hide hof
  have HZ1 := hide (fun W (hW : Below (W0.alloc (.cells #[.slice zA zn zc] 32)).heap.size (W0.alloc (.cells #[.slice zA zn zc] 32)) W) => (Rw.new1 W0 32 #[.slice zA zn zc] (sz := 1) rfl).below hW)
  have hz2 := fun W (hW : Below ((W0.alloc (.cells #[] 32)).alloc (.cells #[.slice zA zn zc] 32)).heap.size ((W0.alloc (.cells #[] 32)).alloc (.cells #[.slice zA zn zc] 32)) W) => (Rw.new1 (W0.alloc (.cells #[] 32)) 32 #[.slice zA zn zc] (sz := 1) rfl).below hW
  rw [show (W0.alloc (.cells #[] 32)).heap.size = W0.heap.size + 1 by simp] at hz2
  have HZ2 := hide hz2
  clear hof hz2
  go_region_held3 (fun w' => w'.cell? ⟨w.heap.size, 0, none⟩ = some (.slice AB nB cB) ∧ w'.cell? ⟨w.heap.size, 1, none⟩ = some (.slice zA zn zc))
    (first | go_keep | exact hK4 | exact hK3)
    (first
      | (refine step_app_n _ (by rfl) (.tmp 9) (.tmp 12) _ (by rfl) W0.heap.size 32 _ 1 24 Tryz.underlying31 info_l rfl (by omega) _ (0 + nB) ([] ++ lvs L) (by rfl) (own_below ho3 (by ((repeat (first | exact Below.refl _ _ | refine Below.drew ?_ | refine Below.alloc ?_ (by first | (simp; done) | (simp; omega)) _)); done))) (some ⟨_, 0, none⟩) 1 1 [.slice zA zn zc] (by rfl) W0 (by ((repeat (first | exact Below.refl _ _ | exact hb3 | refine Below.drew ?_ | refine below_alloc ?_ (by first | (simp; done) | (simp; omega)) _)); done)) (Nat.le_refl _) (by first | exact hz3 | exact (Rw.new1 w3 32 #[.slice zA zn zc] (sz := 1) rfl).below (by ((repeat (first | exact Below.refl _ _ | refine Below.drew ?_ | refine Below.alloc ?_ (by first | (simp; done) | (simp; omega)) _)); done))) (fun u hu => by simp only [List.mem_cons, List.not_mem_nil, or_false] at hu; subst hu; rfl) (by unfold maxLen; omega) (by omega) ?_
         intro v4 w4 ho4 hb4 hg4 hv4
         have hK4 := HK.out _ hb4
         have HB4 := hide hb4
         obtain ⟨A4, c4, rfl, hn4, -⟩ := Rw.of_own ho4
         have HO4 := hide ho4
         clear ho4 hb4 hg4 hv4 ho3 hb3 hg3 hv3 hK3)
      | (refine step_app_n _ (by rfl) (.tmp 6) (.tmp 8) _ (by rfl) W0.heap.size 32 _ 1 24 Tryz.underlying31 info_l rfl (by omega) _ 0 [] (by rfl) (HOe.out _ (by ((repeat (first | exact Below.refl _ _ | refine Below.drew ?_ | refine Below.alloc ?_ (by first | (simp; done) | (simp; omega)) _)); done))) AB nB cB (lvs L) (by rfl) W0 (by ((repeat (first | exact Below.refl _ _ | exact hb3 | refine Below.drew ?_ | refine below_alloc ?_ (by first | (simp; done) | (simp; omega)) _)); done)) (Nat.le_refl _) (HROW.out _ (by ((repeat (first | exact Below.refl _ _ | refine Below.drew ?_ | refine Below.alloc ?_ (by first | (simp; done) | (simp; omega)) _)); done))) (lvs_one _) (by unfold maxLen; omega) (by omega) ?_
         intro v3 w3 ho3 hb3 hg3 hv3
         have hK3 := HK.out _ hb3
         first
           | (refine (fun (hz3 : Rw w3 1 (some ⟨W0.heap.size + 1, 0, none⟩) 1 [.slice zA zn zc]) => ?_) (rw_grown (HZ2.out _ ?_) hg3 ?_)
              rotate_left 1
              · repeat (first | exact Below.refl _ _ | refine Below.drew ?_ | refine Below.alloc ?_ (by first | (simp; done) | (simp; omega)) _)
              · intro _ b o he _ hv
                injection he with he
                injection he with he _
                simp [Value.ownBlock] at hv
                omega)
           | (refine (fun (hz3 : Rw w3 1 (some ⟨W0.heap.size, 0, none⟩) 1 [.slice zA zn zc]) => ?_) (rw_grown (HZ1.out _ ?_) hg3 ?_)
              rotate_left 1
              · repeat (first | exact Below.refl _ _ | refine Below.drew ?_ | refine Below.alloc ?_ (by first | (simp; done) | (simp; omega)) _)
              · intro _ b o he _ hv
                injection he with he
                injection he with he _
                simp [Value.ownBlock] at hv
                omega)
           | skip)
      | (refine step_app_n _ (by rfl) (.tmp 6) (.tmp 8) _ (by rfl) W0.heap.size 32 _ 1 24 Tryz.underlying31 info_l rfl (by omega) _ 0 [] (by rfl) (HOf.out _ (by ((repeat (first | exact Below.refl _ _ | refine Below.drew ?_ | refine Below.alloc ?_ (by first | (simp; done) | (simp; omega)) _)); done))) AB nB cB (lvs L) (by rfl) W0 (by ((repeat (first | exact Below.refl _ _ | exact hb3 | refine Below.drew ?_ | refine below_alloc ?_ (by first | (simp; done) | (simp; omega)) _)); done)) (Nat.le_refl _) (HROW.out _ (by ((repeat (first | exact Below.refl _ _ | refine Below.drew ?_ | refine Below.alloc ?_ (by first | (simp; done) | (simp; omega)) _)); done))) (lvs_one _) (by unfold maxLen; omega) (by omega) ?_
         intro v3 w3 ho3 hb3 hg3 hv3
         have hK3 := HK.out _ hb3
         first
           | (have hz3 := rw_grown (HZ2.out _ (by ((repeat (first | exact Below.refl _ _ | refine Below.drew ?_ | refine Below.alloc ?_ (by first | (simp; done) | (simp; omega)) _)); done))) hg3 (fun _ b o he _ hv => by injection he with he; injection he with he _; simp [Value.ownBlock] at hv; omega))
           | (have hz3 := rw_grown (HZ1.out _ (by ((repeat (first | exact Below.refl _ _ | refine Below.drew ?_ | refine Below.alloc ?_ (by first | (simp; done) | (simp; omega)) _)); done))) hg3 (fun _ b o he _ hv => by injection he with he; injection he with he _; simp [Value.ownBlock] at hv; omega))
           | skip))
  all_goals
    have hN4 := HR.out _ HB4.out
    have y0 := hN4.cell 0
    have y1 := hN4.cell 1
    have y2 := hN4.cell 2
    have z0 := hN4.frozen 0
    have z1 := hN4.frozen 1
    have z2 := hN4.frozen 2
    have hlt := hN4.lt
    simp at y0 y1 y2
    have hR4 := rowl_own (z := ⟨zA, zn, zc⟩) HO4.out
    rw [Nat.zero_add] at hn4
    have hbt := below_then HB0.out HB4.out
    by_cases h50 : 50 < nB + 1
    · have e1 : decide ((50 : Int) < ((nB : Int) + 1)) = true := by simp; omega
      have r1 := run_slice_lo (P := Tryz.prog) Tryz.underlying31 (sz := 1) Tryz.sizeOf32 A4 (nB + 1) c4 1 (by omega) w4
      have hR5 := hR4.cutL (i := 1) (by omega) hn4
      have h1 : nB - 49 = 1 := by omega
      have HFI := hide (fun (a b c : Value) => (⟨hR5.keep (keep_set3 hN4 (by decide) a b c), by omega, below_s3 hbt HLW.out a b c⟩ : RowL (((w4.setCell ⟨w.heap.size + 1, 0, none⟩ a).setCell ⟨w.heap.size + 1, 1, none⟩ b).setCell ⟨w.heap.size + 1, 2, none⟩ c) _ (nB + 1 - 1) ((L ++ [(⟨zA, zn, zc⟩ : LV)]).drop 1) ∧ nB + 1 - 1 ≤ c4 - 1 ∧ Below w.heap.size w (((w4.setCell ⟨w.heap.size + 1, 0, none⟩ a).setCell ⟨w.heap.size + 1, 1, none⟩ b).setCell ⟨w.heap.size + 1, 2, none⟩ c)))
      have H1 := hide h1
      have HG := hide (fun (a b c : Value) => hN4.set3 (x := a) (y := b) (z := c))
      clear hN4 hR4 hR5 hbt hn4 h1
      simp only [Int.cast_ofNat_Int] at r1
      go_wp2
      (try simp only [Exit.inBlock, Exit.then])
      have hG := HG.out (.slice (cutA A4 c4 1 1) (nB + 1 - 1) (c4 - 1)) (.slice xA xn xc) (.slice none 0 0)
      have g0 := hG.cell 0
      have g1 := hG.cell 1
      have g2 := hG.cell 2
      simp at g0 g1 g2
      refine bodyPost_ret (v := .agg #[.slice (cutA A4 c4 1 1) (nB + 1 - 1) (c4 - 1), .slice xA xn xc, .slice none 0 0]) (by simp [results, Tryz.results11, go_sem, g0, g1, g2]) rfl ?_
      exact ⟨_, _, _, rfl, by rw [H1.out]; obtain ⟨f1, f2, f3⟩ := HFI.out _ _ _; exact ⟨f1, f2, rfl, f3⟩⟩
    · have e1 : decide ((50 : Int) < ((nB : Int) + 1)) = false := by simp; omega
      have h1 : nB - 49 = 0 := by omega
      have HFI := hide (fun (a b c : Value) => (⟨hR4.keep (keep_set3 hN4 (by decide) a b c), hn4, below_s3 hbt HLW.out a b c⟩ : RowL (((w4.setCell ⟨w.heap.size + 1, 0, none⟩ a).setCell ⟨w.heap.size + 1, 1, none⟩ b).setCell ⟨w.heap.size + 1, 2, none⟩ c) _ (nB + 1) ((L ++ [(⟨zA, zn, zc⟩ : LV)]).drop 0) ∧ nB + 1 ≤ c4 ∧ Below w.heap.size w (((w4.setCell ⟨w.heap.size + 1, 0, none⟩ a).setCell ⟨w.heap.size + 1, 1, none⟩ b).setCell ⟨w.heap.size + 1, 2, none⟩ c)))
      have H1 := hide h1
      have HG := hide (fun (a b c : Value) => hN4.set3 (x := a) (y := b) (z := c))
      clear hN4 hR4 hbt hn4 h1
      go_wp2
      (try simp only [Exit.inBlock, Exit.then])
      have hG := HG.out (.slice A4 (nB + 1) c4) (.slice xA xn xc) (.slice none 0 0)
      have g0 := hG.cell 0
      have g1 := hG.cell 1
      have g2 := hG.cell 2
      simp at g0 g1 g2
      refine bodyPost_ret (v := .agg #[.slice A4 (nB + 1) c4, .slice xA xn xc, .slice none 0 0]) (by simp [results, Tryz.results11, go_sem, g0, g1, g2]) rfl ?_
      exact ⟨_, _, _, rfl, by rw [H1.out]; obtain ⟨f1, f2, f3⟩ := HFI.out _ _ _; exact ⟨f1, f2, rfl, f3⟩⟩
set_option maxHeartbeats 4000000 in
set_option maxRecDepth 100000 in
theorem ref22_undo_no {w : World} {AB AA : Option Addr} {nB cB nA cA : Nat} {z : LV} (hn : nB = 0) :
    Calls Tryz.prog 12 #[mval AB nB cB z AA nA cA] w fun e w' => e = .returned (.tuple #[mval AB nB cB z AA nA cA, .bool false]) ∧ Below w.heap.size w w' := by
  obtain ⟨zA, zn, zc⟩ := z
  subst hn
  unfold mval LV.val
  go_enter Tryz.func12, Tryz.ntmps12
  go_wp2
  (try simp only [Exit.inBlock, Exit.then])
  refine bodyPost_ret (v := .tuple #[.agg #[.slice AB 0 cB, .slice zA zn zc, .slice AA nA cA], .bool false]) (by simp [results, Tryz.results12, go_sem]) rfl ?_
  exact ⟨rfl, ((Below.refl _ _).alloc (Nat.le_refl _) _).alloc (by simp) _⟩
set_option maxHeartbeats 8000000 in
set_option maxRecDepth 100000 in
theorem ref22_undo {w : World} {AB AA : Option Addr} {nB cB nA cA : Nat} {z : LV} {L LA : List LV} (hB : RowL w AB nB L) (hA : RowL w AA nA LA) (hcB : nB ≤ cB) (hcA : nA ≤ cA) (hnB : nB ≤ 60) (hnA : nA ≤ 60) (hn : 0 < nB) :
    Calls Tryz.prog 12 #[mval AB nB cB z AA nA cA] w fun e w' => ∃ A' c' z9, e = .returned (.tuple #[mval AB (nB - 1) cB z9 A' (nA + 1) c', .bool true]) ∧ L[nB - 1]? = some z9 ∧ RowL w' A' (nA + 1) (LA ++ [z]) ∧ nA + 1 ≤ c' ∧ Below w.heap.size w w' := by
  obtain ⟨zA, zn, zc⟩ := z
  have hl := hA.len
  obtain ⟨m, hm⟩ : ∃ m, nB = m + 1 := ⟨nB - 1, by omega⟩
  obtain ⟨b, o, e9, rfl, hbl, he9, hcell⟩ := hB.at_ (i := nB - 1) (by omega)
  obtain ⟨eA, en, ec⟩ := e9
  unfold mval LV.val
  have hb0 : Below w.heap.size w ((w.alloc (.cells #[.slice (some ⟨b, o, none⟩) nB cB, .slice zA zn zc, .slice AA nA cA] 34)).alloc (.cells #[.slice none 0 0, .slice none 0 0, .slice none 0 0] 34)) := ((Below.refl _ _).alloc (Nat.le_refl _) _).alloc (by simp) _
  have hN1 := (Blk.new w 34 #[.slice (some ⟨b, o, none⟩) nB cB, .slice zA zn zc, .slice AA nA cA]).alloc (.cells #[.slice none 0 0, .slice none 0 0, .slice none 0 0] 34)
  have hN2 := Blk.new (w.alloc (.cells #[.slice (some ⟨b, o, none⟩) nB cB, .slice zA zn zc, .slice AA nA cA] 34)) 34 #[.slice none 0 0, .slice none 0 0, .slice none 0 0]
  have hs0 : ((w.alloc (.cells #[.slice (some ⟨b, o, none⟩) nB cB, .slice zA zn zc, .slice AA nA cA] 34)).alloc (.cells #[.slice none 0 0, .slice none 0 0, .slice none 0 0] 34)).heap.size = w.heap.size + 1 + 1 := by simp
  rw [show (w.alloc (.cells #[.slice (some ⟨b, o, none⟩) nB cB, .slice zA zn zc, .slice AA nA cA] 34)).heap.size = w.heap.size + 1 by simp] at hN2
  have hcell0 : ((w.alloc (.cells #[.slice (some ⟨b, o, none⟩) nB cB, .slice zA zn zc, .slice AA nA cA] 34)).alloc (.cells #[.slice none 0 0, .slice none 0 0, .slice none 0 0] 34)).cell? ⟨b, o + m, none⟩ = some (.slice eA en ec) := by
    rw [hb0.cell (p := ⟨b, o + m, none⟩) hbl]
    rw [hm] at hcell
    exact hcell
  have HL := hide (And.intro hB hA)
  have HE9 := hide he9
  have hbne : b ≠ w.heap.size + 1 := by omega
  have hbW : b < w.heap.size + 1 + 1 := by omega
  clear hB hA hcell he9
  have i1 : IntKind.i64.wrap ((nB : Int) - 1) = (m : Int) := by
    rw [wrap_i64_sm (by omega) (by omega)]
    omega
  have i2 : (0 : Int) ≤ (m : Int) := by omega
  have i3 : (m : Int) < (nB : Int) := by omega
  have i4 : ((nB : Int) == 0) = false := by simp; omega
  have r1 := run_slice_to (P := Tryz.prog) Tryz.underlying31 (sz := 1) Tryz.sizeOf32 (some ⟨b, o, none⟩) nB cB m (by omega)
  have HM := hide hm
  clear hm
  go_enter Tryz.func12, Tryz.ntmps12
  go_wp2_with fail
  generalize (w.alloc (.cells #[.slice (some ⟨b, o, none⟩) nB cB, .slice zA zn zc, .slice AA nA cA] 34)).alloc (.cells #[.slice none 0 0, .slice none 0 0, .slice none 0 0] 34) = W0 at *
  rw [← hs0] at hbW
  have HROW := hide (fun W (hW : Below W0.heap.size W0 W) => (HL.out.2.below (below_then hb0 hW)).1)
  have HK := hide (fun W (hW : Below W0.heap.size W0 W) => (⟨(hN1.below hW).cell 0, (hN1.below hW).cell 1, (hN1.below hW).cell 2, (hW.cell (p := ⟨b, o + m, none⟩) hbW).trans hcell0⟩ : W.cell? ⟨w.heap.size, 0, none⟩ = some (.slice (some ⟨b, o, none⟩) nB cB) ∧ W.cell? ⟨w.heap.size, 1, none⟩ = some (.slice zA zn zc) ∧ W.cell? ⟨w.heap.size, 2, none⟩ = some (.slice AA nA cA) ∧ W.cell? ⟨b, o + m, none⟩ = some (.slice eA en ec)))
  have HK2 := hide (fun W (hW : Below W0.heap.size W0 W) (x y v : Value) => (⟨(far_set3 x y v (by omega)).trans ((hN1.below hW).cell 0), (far_set3 x y v (by omega)).trans ((hN1.below hW).cell 1), (far_set3 x y v (by omega)).trans ((hN1.below hW).cell 2), (far_set3 x y v hbne).trans ((hW.cell (p := ⟨b, o + m, none⟩) hbW).trans hcell0)⟩ : (((W.setCell ⟨w.heap.size + 1, 0, none⟩ x).setCell ⟨w.heap.size + 1, 1, none⟩ y).setCell ⟨w.heap.size + 1, 2, none⟩ v).cell? ⟨w.heap.size, 0, none⟩ = some (.slice (some ⟨b, o, none⟩) nB cB) ∧ (((W.setCell ⟨w.heap.size + 1, 0, none⟩ x).setCell ⟨w.heap.size + 1, 1, none⟩ y).setCell ⟨w.heap.size + 1, 2, none⟩ v).cell? ⟨w.heap.size, 1, none⟩ = some (.slice zA zn zc) ∧ (((W.setCell ⟨w.heap.size + 1, 0, none⟩ x).setCell ⟨w.heap.size + 1, 1, none⟩ y).setCell ⟨w.heap.size + 1, 2, none⟩ v).cell? ⟨w.heap.size, 2, none⟩ = some (.slice AA nA cA) ∧ (((W.setCell ⟨w.heap.size + 1, 0, none⟩ x).setCell ⟨w.heap.size + 1, 1, none⟩ y).setCell ⟨w.heap.size + 1, 2, none⟩ v).cell? ⟨b, o + m, none⟩ = some (.slice eA en ec)))
  have HR := hide (fun W (hW : Below W0.heap.size W0 W) => hN2.below hW)
  have k1 := hN1.cell 0
  have k2 := hN1.cell 1
  have k3 := hN1.cell 2
  simp at k1 k2 k3
  have HB0 := hide hb0
  have HS0 := hide hs0
  have hlo : w.heap.size ≤ W0.heap.size := by omega
  have HLO := hide hlo
  have HLW := hide (show w.heap.size ≤ w.heap.size + 1 by omega)
  clear hN1 hN2 hb0 hs0 hlo hbW hbne
  have HOe := hide (fun W (hW : Below (W0.alloc (.cells #[] 32)).heap.size (W0.alloc (.cells #[] 32)) W) => own_below (own_empty W0 32 1) hW)
  have hof := fun W (hW : Below ((W0.alloc (.cells #[.slice zA zn zc] 32)).alloc (.cells #[] 32)).heap.size ((W0.alloc (.cells #[.slice zA zn zc] 32)).alloc (.cells #[] 32)) W) => own_lower (base' := W0.heap.size) (own_below (own_empty (W0.alloc (.cells #[.slice zA zn zc] 32)) 32 1) hW) (by simp)
  rw [show (W0.alloc (.cells #[.slice zA zn zc] 32)).heap.size = W0.heap.size + 1 by simp] at hof
  have HOf := hide hof
  have HZ1 := hide (fun W (hW : Below (W0.alloc (.cells #[.slice zA zn zc] 32)).heap.size (W0.alloc (.cells #[.slice zA zn zc] 32)) W) => (Rw.new1 W0 32 #[.slice zA zn zc] (sz := 1) rfl).below hW)
  have hz2 := fun W (hW : Below ((W0.alloc (.cells #[] 32)).alloc (.cells #[.slice zA zn zc] 32)).heap.size ((W0.alloc (.cells #[] 32)).alloc (.cells #[.slice zA zn zc] 32)) W) => (Rw.new1 (W0.alloc (.cells #[] 32)) 32 #[.slice zA zn zc] (sz := 1) rfl).below hW
  rw [show (W0.alloc (.cells #[] 32)).heap.size = W0.heap.size + 1 by simp] at hz2
  have HZ2 := hide hz2
  clear hof hz2
  go_region_held3 (fun w' => w'.cell? ⟨w.heap.size, 0, none⟩ = some (.slice (some ⟨b, o, none⟩) nB cB) ∧ w'.cell? ⟨w.heap.size, 1, none⟩ = some (.slice zA zn zc) ∧ w'.cell? ⟨w.heap.size, 2, none⟩ = some (.slice AA nA cA) ∧ w'.cell? ⟨b, o + m, none⟩ = some (.slice eA en ec))
    (first | go_keep | exact hK4 | exact hK3 | exact hK5 _ _ _)
    (first
      | (refine step_app_n _ (by rfl) (.tmp 25) (.tmp 28) _ (by rfl) W0.heap.size 32 _ 1 24 Tryz.underlying31 info_l rfl (by omega) _ (0 + nA) ([] ++ lvs LA) (by rfl) (own_below ho3 (by ((repeat (first | exact Below.refl _ _ | refine Below.drew ?_ | refine Below.alloc ?_ (by first | (simp; done) | (simp; omega)) _)); done))) (some ⟨_, 0, none⟩) 1 1 [.slice zA zn zc] (by rfl) W0 (by ((repeat (first | exact Below.refl _ _ | exact hb3 | refine Below.drew ?_ | refine below_alloc ?_ (by first | (simp; done) | (simp; omega)) _)); done)) (Nat.le_refl _) (by first | exact hz3 | exact (Rw.new1 w3 32 #[.slice zA zn zc] (sz := 1) rfl).below (by ((repeat (first | exact Below.refl _ _ | refine Below.drew ?_ | refine Below.alloc ?_ (by first | (simp; done) | (simp; omega)) _)); done))) (fun u hu => by simp only [List.mem_cons, List.not_mem_nil, or_false] at hu; subst hu; rfl) (by unfold maxLen; omega) (by omega) ?_
         intro v4 w4 ho4 hb4 hg4 hv4
         have hK4 := HK.out _ hb4
         have HB4 := hide hb4
         obtain ⟨A4, c4, rfl, hn4, -⟩ := Rw.of_own ho4
         have HO4 := hide ho4
         have hK5 := HK2.out _ HB4.out
         have hN4 := HR.out _ HB4.out
         have y0 := hN4.cell 0
         have y1 := hN4.cell 1
         have y2 := hN4.cell 2
         have z0 := hN4.frozen 0
         have z1 := hN4.frozen 1
         have z2 := hN4.frozen 2
         have hlt := hN4.lt
         simp at y0 y1 y2
         clear ho4 hb4 hg4 hv4 ho3 hb3 hg3 hv3 hK3)
      | (refine step_app_n _ (by rfl) (.tmp 22) (.tmp 24) _ (by rfl) W0.heap.size 32 _ 1 24 Tryz.underlying31 info_l rfl (by omega) _ 0 [] (by rfl) (HOe.out _ (by ((repeat (first | exact Below.refl _ _ | refine Below.drew ?_ | refine Below.alloc ?_ (by first | (simp; done) | (simp; omega)) _)); done))) AA nA cA (lvs LA) (by rfl) W0 (by ((repeat (first | exact Below.refl _ _ | exact hb3 | refine Below.drew ?_ | refine below_alloc ?_ (by first | (simp; done) | (simp; omega)) _)); done)) (Nat.le_refl _) (HROW.out _ (by ((repeat (first | exact Below.refl _ _ | refine Below.drew ?_ | refine Below.alloc ?_ (by first | (simp; done) | (simp; omega)) _)); done))) (lvs_one _) (by unfold maxLen; omega) (by omega) ?_
         intro v3 w3 ho3 hb3 hg3 hv3
         have hK3 := HK.out _ hb3
         first
           | (refine (fun (hz3 : Rw w3 1 (some ⟨W0.heap.size + 1, 0, none⟩) 1 [.slice zA zn zc]) => ?_) (rw_grown (HZ2.out _ ?_) hg3 ?_)
              rotate_left 1
              · repeat (first | exact Below.refl _ _ | refine Below.drew ?_ | refine Below.alloc ?_ (by first | (simp; done) | (simp; omega)) _)
              · intro _ b o he _ hv
                injection he with he
                injection he with he _
                simp [Value.ownBlock] at hv
                omega)
           | (refine (fun (hz3 : Rw w3 1 (some ⟨W0.heap.size, 0, none⟩) 1 [.slice zA zn zc]) => ?_) (rw_grown (HZ1.out _ ?_) hg3 ?_)
              rotate_left 1
              · repeat (first | exact Below.refl _ _ | refine Below.drew ?_ | refine Below.alloc ?_ (by first | (simp; done) | (simp; omega)) _)
              · intro _ b o he _ hv
                injection he with he
                injection he with he _
                simp [Value.ownBlock] at hv
                omega)
           | skip)
      | (refine step_app_n _ (by rfl) (.tmp 22) (.tmp 24) _ (by rfl) W0.heap.size 32 _ 1 24 Tryz.underlying31 info_l rfl (by omega) _ 0 [] (by rfl) (HOf.out _ (by ((repeat (first | exact Below.refl _ _ | refine Below.drew ?_ | refine Below.alloc ?_ (by first | (simp; done) | (simp; omega)) _)); done))) AA nA cA (lvs LA) (by rfl) W0 (by ((repeat (first | exact Below.refl _ _ | exact hb3 | refine Below.drew ?_ | refine below_alloc ?_ (by first | (simp; done) | (simp; omega)) _)); done)) (Nat.le_refl _) (HROW.out _ (by ((repeat (first | exact Below.refl _ _ | refine Below.drew ?_ | refine Below.alloc ?_ (by first | (simp; done) | (simp; omega)) _)); done))) (lvs_one _) (by unfold maxLen; omega) (by omega) ?_
         intro v3 w3 ho3 hb3 hg3 hv3
         have hK3 := HK.out _ hb3
         first
           | (have hz3 := rw_grown (HZ2.out _ (by ((repeat (first | exact Below.refl _ _ | refine Below.drew ?_ | refine Below.alloc ?_ (by first | (simp; done) | (simp; omega)) _)); done))) hg3 (fun _ b o he _ hv => by injection he with he; injection he with he _; simp [Value.ownBlock] at hv; omega))
           | (have hz3 := rw_grown (HZ1.out _ (by ((repeat (first | exact Below.refl _ _ | refine Below.drew ?_ | refine Below.alloc ?_ (by first | (simp; done) | (simp; omega)) _)); done))) hg3 (fun _ b o he _ hv => by injection he with he; injection he with he _; simp [Value.ownBlock] at hv; omega))
           | skip))
  all_goals
    have hR4 := rowl_own (z := ⟨zA, zn, zc⟩) HO4.out
    rw [Nat.zero_add] at hn4
    have hbt := below_then HB0.out HB4.out
    have HFI := hide (fun (x y v : Value) => (⟨HE9.out, hR4.keep (keep_set3 hN4 (by decide) x y v), hn4, below_s3 hbt HLW.out x y v⟩ : L[nB - 1]? = some ⟨eA, en, ec⟩ ∧ RowL (((w4.setCell ⟨w.heap.size + 1, 0, none⟩ x).setCell ⟨w.heap.size + 1, 1, none⟩ y).setCell ⟨w.heap.size + 1, 2, none⟩ v) A4 (nA + 1) (LA ++ [(⟨zA, zn, zc⟩ : LV)]) ∧ nA + 1 ≤ c4 ∧ Below w.heap.size w (((w4.setCell ⟨w.heap.size + 1, 0, none⟩ x).setCell ⟨w.heap.size + 1, 1, none⟩ y).setCell ⟨w.heap.size + 1, 2, none⟩ v)))
    have HG := hide (fun (x y v : Value) => hN4.set3 (x := x) (y := y) (z := v))
    go_wp2
    (try simp only [Exit.inBlock, Exit.then])
    have hG := HG.out (.slice (some ⟨b, o, none⟩) m cB) (.slice eA en ec) (.slice A4 (nA + 1) c4)
    have g0 := hG.cell 0
    have g1 := hG.cell 1
    have g2 := hG.cell 2
    simp at g0 g1 g2
    have hm' : nB - 1 = m := by rw [HM.out]; rfl
    refine bodyPost_ret (v := .tuple #[.agg #[.slice (some ⟨b, o, none⟩) m cB, .slice eA en ec, .slice A4 (nA + 1) c4], .bool true]) (by simp [results, Tryz.results12, go_sem, g0, g1, g2]) rfl ?_
    obtain ⟨f1, f2, f3⟩ := HFI.out (.slice (some ⟨b, o, none⟩) m cB) (.slice eA en ec) (.slice A4 (nA + 1) c4)
    rw [hm'] at f1 ⊢
    exact ⟨A4, c4, ⟨eA, en, ec⟩, rfl, f1, f2, f3⟩
set_option maxHeartbeats 4000000 in
set_option maxRecDepth 100000 in
theorem ref22_redo_no {w : World} {AB AA : Option Addr} {nB cB nA cA : Nat} {z : LV} (hn : nA = 0) :
    Calls Tryz.prog 14 #[mval AB nB cB z AA nA cA] w fun e w' => e = .returned (.tuple #[mval AB nB cB z AA nA cA, .bool false]) ∧ Below w.heap.size w w' := by
  obtain ⟨zA, zn, zc⟩ := z
  subst hn
  unfold mval LV.val
  go_enter Tryz.func14, Tryz.ntmps14
  go_wp2
  (try simp only [Exit.inBlock, Exit.then])
  refine bodyPost_ret (v := .tuple #[.agg #[.slice AB nB cB, .slice zA zn zc, .slice AA 0 cA], .bool false]) (by simp [results, Tryz.results14, go_sem]) rfl ?_
  exact ⟨rfl, ((Below.refl _ _).alloc (Nat.le_refl _) _).alloc (by simp) _⟩
set_option maxHeartbeats 8000000 in
set_option maxRecDepth 100000 in
theorem ref22_redo {w : World} {AB AA : Option Addr} {nB cB nA cA : Nat} {z : LV} {L LA : List LV} (hB : RowL w AB nB L) (hA : RowL w AA nA LA) (hcB : nB ≤ cB) (hcA : nA ≤ cA) (hnB : nB ≤ 60) (hnA : nA ≤ 60) (hn : 0 < nA) :
    Calls Tryz.prog 14 #[mval AB nB cB z AA nA cA] w fun e w' => ∃ A' c' z9, e = .returned (.tuple #[mval A' (nB + 1) c' z9 AA (nA - 1) cA, .bool true]) ∧ LA[nA - 1]? = some z9 ∧ RowL w' A' (nB + 1) (L ++ [z]) ∧ nB + 1 ≤ c' ∧ Below w.heap.size w w' := by
  obtain ⟨zA, zn, zc⟩ := z
  have hl := hB.len
  obtain ⟨m, hm⟩ : ∃ m, nA = m + 1 := ⟨nA - 1, by omega⟩
  obtain ⟨b, o, e9, rfl, hbl, he9, hcell⟩ := hA.at_ (i := nA - 1) (by omega)
  obtain ⟨eA, en, ec⟩ := e9
  unfold mval LV.val
  have hb0 : Below w.heap.size w ((w.alloc (.cells #[.slice AB nB cB, .slice zA zn zc, .slice (some ⟨b, o, none⟩) nA cA] 34)).alloc (.cells #[.slice none 0 0, .slice none 0 0, .slice none 0 0] 34)) := ((Below.refl _ _).alloc (Nat.le_refl _) _).alloc (by simp) _
  have hN1 := (Blk.new w 34 #[.slice AB nB cB, .slice zA zn zc, .slice (some ⟨b, o, none⟩) nA cA]).alloc (.cells #[.slice none 0 0, .slice none 0 0, .slice none 0 0] 34)
  have hN2 := Blk.new (w.alloc (.cells #[.slice AB nB cB, .slice zA zn zc, .slice (some ⟨b, o, none⟩) nA cA] 34)) 34 #[.slice none 0 0, .slice none 0 0, .slice none 0 0]
  have hs0 : ((w.alloc (.cells #[.slice AB nB cB, .slice zA zn zc, .slice (some ⟨b, o, none⟩) nA cA] 34)).alloc (.cells #[.slice none 0 0, .slice none 0 0, .slice none 0 0] 34)).heap.size = w.heap.size + 1 + 1 := by simp
  rw [show (w.alloc (.cells #[.slice AB nB cB, .slice zA zn zc, .slice (some ⟨b, o, none⟩) nA cA] 34)).heap.size = w.heap.size + 1 by simp] at hN2
  have hcell0 : ((w.alloc (.cells #[.slice AB nB cB, .slice zA zn zc, .slice (some ⟨b, o, none⟩) nA cA] 34)).alloc (.cells #[.slice none 0 0, .slice none 0 0, .slice none 0 0] 34)).cell? ⟨b, o + m, none⟩ = some (.slice eA en ec) := by
    rw [hb0.cell (p := ⟨b, o + m, none⟩) hbl]
    rw [hm] at hcell
    exact hcell
  have HL := hide (And.intro hB hA)
  have HE9 := hide he9
  have hbne : b ≠ w.heap.size + 1 := by omega
  have hbW : b < w.heap.size + 1 + 1 := by omega
  clear hB hA hcell he9
  have i1 : IntKind.i64.wrap ((nA : Int) - 1) = (m : Int) := by
    rw [wrap_i64_sm (by omega) (by omega)]
    omega
  have i2 : (0 : Int) ≤ (m : Int) := by omega
  have i3 : (m : Int) < (nA : Int) := by omega
  have i4 : ((nA : Int) == 0) = false := by simp; omega
  have r1 := run_slice_to (P := Tryz.prog) Tryz.underlying31 (sz := 1) Tryz.sizeOf32 (some ⟨b, o, none⟩) nA cA m (by omega)
  have HM := hide hm
  clear hm
  go_enter Tryz.func14, Tryz.ntmps14
  go_wp2_with fail
  generalize (w.alloc (.cells #[.slice AB nB cB, .slice zA zn zc, .slice (some ⟨b, o, none⟩) nA cA] 34)).alloc (.cells #[.slice none 0 0, .slice none 0 0, .slice none 0 0] 34) = W0 at *
  rw [← hs0] at hbW
  have HROW := hide (fun W (hW : Below W0.heap.size W0 W) => (HL.out.1.below (below_then hb0 hW)).1)
  have HK := hide (fun W (hW : Below W0.heap.size W0 W) => (⟨(hN1.below hW).cell 0, (hN1.below hW).cell 1, (hN1.below hW).cell 2, (hW.cell (p := ⟨b, o + m, none⟩) hbW).trans hcell0⟩ : W.cell? ⟨w.heap.size, 0, none⟩ = some (.slice AB nB cB) ∧ W.cell? ⟨w.heap.size, 1, none⟩ = some (.slice zA zn zc) ∧ W.cell? ⟨w.heap.size, 2, none⟩ = some (.slice (some ⟨b, o, none⟩) nA cA) ∧ W.cell? ⟨b, o + m, none⟩ = some (.slice eA en ec)))
  have HK2 := hide (fun W (hW : Below W0.heap.size W0 W) (x y v : Value) => (⟨(far_set3 x y v (by omega)).trans ((hN1.below hW).cell 0), (far_set3 x y v (by omega)).trans ((hN1.below hW).cell 1), (far_set3 x y v (by omega)).trans ((hN1.below hW).cell 2), (far_set3 x y v hbne).trans ((hW.cell (p := ⟨b, o + m, none⟩) hbW).trans hcell0)⟩ : (((W.setCell ⟨w.heap.size + 1, 0, none⟩ x).setCell ⟨w.heap.size + 1, 1, none⟩ y).setCell ⟨w.heap.size + 1, 2, none⟩ v).cell? ⟨w.heap.size, 0, none⟩ = some (.slice AB nB cB) ∧ (((W.setCell ⟨w.heap.size + 1, 0, none⟩ x).setCell ⟨w.heap.size + 1, 1, none⟩ y).setCell ⟨w.heap.size + 1, 2, none⟩ v).cell? ⟨w.heap.size, 1, none⟩ = some (.slice zA zn zc) ∧ (((W.setCell ⟨w.heap.size + 1, 0, none⟩ x).setCell ⟨w.heap.size + 1, 1, none⟩ y).setCell ⟨w.heap.size + 1, 2, none⟩ v).cell? ⟨w.heap.size, 2, none⟩ = some (.slice (some ⟨b, o, none⟩) nA cA) ∧ (((W.setCell ⟨w.heap.size + 1, 0, none⟩ x).setCell ⟨w.heap.size + 1, 1, none⟩ y).setCell ⟨w.heap.size + 1, 2, none⟩ v).cell? ⟨b, o + m, none⟩ = some (.slice eA en ec)))
  have HR := hide (fun W (hW : Below W0.heap.size W0 W) => hN2.below hW)
  have k1 := hN1.cell 0
  have k2 := hN1.cell 1
  have k3 := hN1.cell 2
  simp at k1 k2 k3
  have HB0 := hide hb0
  have HS0 := hide hs0
  have hlo : w.heap.size ≤ W0.heap.size := by omega
  have HLO := hide hlo
  have HLW := hide (show w.heap.size ≤ w.heap.size + 1 by omega)
  clear hN1 hN2 hb0 hs0 hlo hbW hbne
  have HOe := hide (fun W (hW : Below (W0.alloc (.cells #[] 32)).heap.size (W0.alloc (.cells #[] 32)) W) => own_below (own_empty W0 32 1) hW)
  have hof := fun W (hW : Below ((W0.alloc (.cells #[.slice zA zn zc] 32)).alloc (.cells #[] 32)).heap.size ((W0.alloc (.cells #[.slice zA zn zc] 32)).alloc (.cells #[] 32)) W) => own_lower (base' := W0.heap.size) (own_below (own_empty (W0.alloc (.cells #[.slice zA zn zc] 32)) 32 1) hW) (by simp)
  rw [show (W0.alloc (.cells #[.slice zA zn zc] 32)).heap.size = W0.heap.size + 1 by simp] at hof
  have HOf := hide hof
  have HZ1 := hide (fun W (hW : Below (W0.alloc (.cells #[.slice zA zn zc] 32)).heap.size (W0.alloc (.cells #[.slice zA zn zc] 32)) W) => (Rw.new1 W0 32 #[.slice zA zn zc] (sz := 1) rfl).below hW)
  have hz2 := fun W (hW : Below ((W0.alloc (.cells #[] 32)).alloc (.cells #[.slice zA zn zc] 32)).heap.size ((W0.alloc (.cells #[] 32)).alloc (.cells #[.slice zA zn zc] 32)) W) => (Rw.new1 (W0.alloc (.cells #[] 32)) 32 #[.slice zA zn zc] (sz := 1) rfl).below hW
  rw [show (W0.alloc (.cells #[] 32)).heap.size = W0.heap.size + 1 by simp] at hz2
  have HZ2 := hide hz2
  clear hof hz2
  go_region_held3 (fun w' => w'.cell? ⟨w.heap.size, 0, none⟩ = some (.slice AB nB cB) ∧ w'.cell? ⟨w.heap.size, 1, none⟩ = some (.slice zA zn zc) ∧ w'.cell? ⟨w.heap.size, 2, none⟩ = some (.slice (some ⟨b, o, none⟩) nA cA) ∧ w'.cell? ⟨b, o + m, none⟩ = some (.slice eA en ec))
    (first | go_keep | exact hK4 | exact hK3 | exact hK5 _ _ _)
    (first
      | (refine step_app_n _ (by rfl) (.tmp 14) (.tmp 17) _ (by rfl) W0.heap.size 32 _ 1 24 Tryz.underlying31 info_l rfl (by omega) _ (0 + nB) ([] ++ lvs L) (by rfl) (own_below ho3 (by ((repeat (first | exact Below.refl _ _ | refine Below.drew ?_ | refine Below.alloc ?_ (by first | (simp; done) | (simp; omega)) _)); done))) (some ⟨_, 0, none⟩) 1 1 [.slice zA zn zc] (by rfl) W0 (by ((repeat (first | exact Below.refl _ _ | exact hb3 | refine Below.drew ?_ | refine below_alloc ?_ (by first | (simp; done) | (simp; omega)) _)); done)) (Nat.le_refl _) (by first | exact hz3 | exact (Rw.new1 w3 32 #[.slice zA zn zc] (sz := 1) rfl).below (by ((repeat (first | exact Below.refl _ _ | refine Below.drew ?_ | refine Below.alloc ?_ (by first | (simp; done) | (simp; omega)) _)); done))) (fun u hu => by simp only [List.mem_cons, List.not_mem_nil, or_false] at hu; subst hu; rfl) (by unfold maxLen; omega) (by omega) ?_
         intro v4 w4 ho4 hb4 hg4 hv4
         have hK4 := HK.out _ hb4
         have HB4 := hide hb4
         obtain ⟨A4, c4, rfl, hn4, -⟩ := Rw.of_own ho4
         have HO4 := hide ho4
         have hK5 := HK2.out _ HB4.out
         have hN4 := HR.out _ HB4.out
         have y0 := hN4.cell 0
         have y1 := hN4.cell 1
         have y2 := hN4.cell 2
         have z0 := hN4.frozen 0
         have z1 := hN4.frozen 1
         have z2 := hN4.frozen 2
         have hlt := hN4.lt
         simp at y0 y1 y2
         clear ho4 hb4 hg4 hv4 ho3 hb3 hg3 hv3 hK3)
      | (refine step_app_n _ (by rfl) (.tmp 11) (.tmp 13) _ (by rfl) W0.heap.size 32 _ 1 24 Tryz.underlying31 info_l rfl (by omega) _ 0 [] (by rfl) (HOe.out _ (by ((repeat (first | exact Below.refl _ _ | refine Below.drew ?_ | refine Below.alloc ?_ (by first | (simp; done) | (simp; omega)) _)); done))) AB nB cB (lvs L) (by rfl) W0 (by ((repeat (first | exact Below.refl _ _ | exact hb3 | refine Below.drew ?_ | refine below_alloc ?_ (by first | (simp; done) | (simp; omega)) _)); done)) (Nat.le_refl _) (HROW.out _ (by ((repeat (first | exact Below.refl _ _ | refine Below.drew ?_ | refine Below.alloc ?_ (by first | (simp; done) | (simp; omega)) _)); done))) (lvs_one _) (by unfold maxLen; omega) (by omega) ?_
         intro v3 w3 ho3 hb3 hg3 hv3
         have hK3 := HK.out _ hb3
         first
           | (refine (fun (hz3 : Rw w3 1 (some ⟨W0.heap.size + 1, 0, none⟩) 1 [.slice zA zn zc]) => ?_) (rw_grown (HZ2.out _ ?_) hg3 ?_)
              rotate_left 1
              · repeat (first | exact Below.refl _ _ | refine Below.drew ?_ | refine Below.alloc ?_ (by first | (simp; done) | (simp; omega)) _)
              · intro _ b o he _ hv
                injection he with he
                injection he with he _
                simp [Value.ownBlock] at hv
                omega)
           | (refine (fun (hz3 : Rw w3 1 (some ⟨W0.heap.size, 0, none⟩) 1 [.slice zA zn zc]) => ?_) (rw_grown (HZ1.out _ ?_) hg3 ?_)
              rotate_left 1
              · repeat (first | exact Below.refl _ _ | refine Below.drew ?_ | refine Below.alloc ?_ (by first | (simp; done) | (simp; omega)) _)
              · intro _ b o he _ hv
                injection he with he
                injection he with he _
                simp [Value.ownBlock] at hv
                omega)
           | skip)
      | (refine step_app_n _ (by rfl) (.tmp 11) (.tmp 13) _ (by rfl) W0.heap.size 32 _ 1 24 Tryz.underlying31 info_l rfl (by omega) _ 0 [] (by rfl) (HOf.out _ (by ((repeat (first | exact Below.refl _ _ | refine Below.drew ?_ | refine Below.alloc ?_ (by first | (simp; done) | (simp; omega)) _)); done))) AB nB cB (lvs L) (by rfl) W0 (by ((repeat (first | exact Below.refl _ _ | exact hb3 | refine Below.drew ?_ | refine below_alloc ?_ (by first | (simp; done) | (simp; omega)) _)); done)) (Nat.le_refl _) (HROW.out _ (by ((repeat (first | exact Below.refl _ _ | refine Below.drew ?_ | refine Below.alloc ?_ (by first | (simp; done) | (simp; omega)) _)); done))) (lvs_one _) (by unfold maxLen; omega) (by omega) ?_
         intro v3 w3 ho3 hb3 hg3 hv3
         have hK3 := HK.out _ hb3
         first
           | (have hz3 := rw_grown (HZ2.out _ (by ((repeat (first | exact Below.refl _ _ | refine Below.drew ?_ | refine Below.alloc ?_ (by first | (simp; done) | (simp; omega)) _)); done))) hg3 (fun _ b o he _ hv => by injection he with he; injection he with he _; simp [Value.ownBlock] at hv; omega))
           | (have hz3 := rw_grown (HZ1.out _ (by ((repeat (first | exact Below.refl _ _ | refine Below.drew ?_ | refine Below.alloc ?_ (by first | (simp; done) | (simp; omega)) _)); done))) hg3 (fun _ b o he _ hv => by injection he with he; injection he with he _; simp [Value.ownBlock] at hv; omega))
           | skip))
  all_goals
    have hR4 := rowl_own (z := ⟨zA, zn, zc⟩) HO4.out
    rw [Nat.zero_add] at hn4
    have hbt := below_then HB0.out HB4.out
    have HFI := hide (fun (x y v : Value) => (⟨HE9.out, hR4.keep (keep_set3 hN4 (by decide) x y v), hn4, below_s3 hbt HLW.out x y v⟩ : LA[nA - 1]? = some ⟨eA, en, ec⟩ ∧ RowL (((w4.setCell ⟨w.heap.size + 1, 0, none⟩ x).setCell ⟨w.heap.size + 1, 1, none⟩ y).setCell ⟨w.heap.size + 1, 2, none⟩ v) A4 (nB + 1) (L ++ [(⟨zA, zn, zc⟩ : LV)]) ∧ nB + 1 ≤ c4 ∧ Below w.heap.size w (((w4.setCell ⟨w.heap.size + 1, 0, none⟩ x).setCell ⟨w.heap.size + 1, 1, none⟩ y).setCell ⟨w.heap.size + 1, 2, none⟩ v)))
    have HG := hide (fun (x y v : Value) => hN4.set3 (x := x) (y := y) (z := v))
    go_wp2
    (try simp only [Exit.inBlock, Exit.then])
    have hG := HG.out (.slice A4 (nB + 1) c4) (.slice eA en ec) (.slice (some ⟨b, o, none⟩) m cA)
    have g0 := hG.cell 0
    have g1 := hG.cell 1
    have g2 := hG.cell 2
    simp at g0 g1 g2
    have hm' : nA - 1 = m := by rw [HM.out]; rfl
    refine bodyPost_ret (v := .tuple #[.agg #[.slice A4 (nB + 1) c4, .slice eA en ec, .slice (some ⟨b, o, none⟩) m cA], .bool true]) (by simp [results, Tryz.results14, go_sem, g0, g1, g2]) rfl ?_
    obtain ⟨f1, f2, f3⟩ := HFI.out (.slice A4 (nB + 1) c4) (.slice eA en ec) (.slice (some ⟨b, o, none⟩) m cA)
    rw [hm'] at f1 ⊢
    exact ⟨A4, c4, ⟨eA, en, ec⟩, rfl, f1, f2, f3⟩
end Go.Proofs.YtghnpflaafdcdaaGreat
set_option linter.unusedSimpArgs false
set_option linter.unusedVariables false
namespace Go.Proofs.YtghnpflaafdcdaaGreat
open Go.RowKit
/-- Lists in a row, and the place of the present one. -/
structure MP (w : World) (Z : List LV) (a : Nat) (AB : Option Addr) (nB cB : Nat) (z : LV) (AA : Option Addr) (nA cA : Nat) : Prop where
  here : Z[a]? = some z
  behind : RowL w AB nB (Z.take a)
  ahead : RowL w AA nA (Z.drop (a + 1)).reverse
  cb : nB ≤ cB
  ca : nA ≤ cA
section
variable {w w' : World} {Z : List LV} {a nB cB nA cA : Nat} {AB AA : Option Addr} {z : LV}
theorem MP.below (h : MP w Z a AB nB cB z AA nA cA) (hb : Below w.heap.size w w') : MP w' Z a AB nB cB z AA nA cA := ⟨h.here, h.behind.below hb, h.ahead.below hb, h.cb, h.ca⟩
theorem MP.keep (h : MP w Z a AB nB cB z AA nA cA) (hk : Keep 32 w w') : MP w' Z a AB nB cB z AA nA cA := ⟨h.here, h.behind.keep hk, h.ahead.keep hk, h.cb, h.ca⟩
theorem MP.lt (h : MP w Z a AB nB cB z AA nA cA) : a < Z.length := (List.getElem?_eq_some_iff.1 h.here).1
theorem MP.nb (h : MP w Z a AB nB cB z AA nA cA) : nB = a := by
  have := h.behind.len
  have := h.lt
  simp only [List.length_take] at *
  omega
theorem MP.na (h : MP w Z a AB nB cB z AA nA cA) : nA = Z.length - (a + 1) := by
  have := h.ahead.len
  simp only [List.length_reverse, List.length_drop] at *
  omega
theorem take_here {α : Type} {Z : List α} {a : Nat} {z : α} (h : Z[a]? = some z) : Z.take a ++ [z] = Z.take (a + 1) := by
  rw [List.take_add_one, h]
  rfl
theorem drop_here {α : Type} {Z : List α} {a : Nat} {z : α} (h : Z[a]? = some z) : Z.drop a = z :: Z.drop (a + 1) := by
  obtain ⟨h1, h2⟩ := List.getElem?_eq_some_iff.1 h
  rw [List.drop_eq_getElem_cons h1, h2]
theorem MP.undo_no (h : MP w Z a AB nB cB z AA nA cA) (ha : a = 0) :
    Calls Tryz.prog 12 #[mval AB nB cB z AA nA cA] w fun e w' => e = .returned (.tuple #[mval AB nB cB z AA nA cA, .bool false]) ∧ Below w.heap.size w w' :=
  ref22_undo_no (by rw [h.nb, ha])
theorem MP.redo_no (h : MP w Z a AB nB cB z AA nA cA) (ha : Z.length ≤ a + 1) :
    Calls Tryz.prog 14 #[mval AB nB cB z AA nA cA] w fun e w' => e = .returned (.tuple #[mval AB nB cB z AA nA cA, .bool false]) ∧ Below w.heap.size w w' :=
  ref22_redo_no (by rw [h.na]; omega)
theorem MP.undo (h : MP w Z a AB nB cB z AA nA cA) (ha : 0 < a) (hZ : Z.length ≤ 51) :
    Calls Tryz.prog 12 #[mval AB nB cB z AA nA cA] w fun e w' => ∃ A' n' c' B' m' d' z', e = .returned (.tuple #[mval A' n' c' z' B' m' d', .bool true]) ∧ MP w' Z (a - 1) A' n' c' z' B' m' d' ∧ Below w.heap.size w w' := by
  have hlt := h.lt
  have hnb := h.nb
  have hna := h.na
  refine (ref22_undo h.behind h.ahead h.cb h.ca (by omega) (by omega) (by omega)).mono ?_
  rintro e w' ⟨A', c', z9, rfl, h9, hR, hc, hb⟩
  refine ⟨_, _, _, _, _, _, _, rfl, ⟨?_, ?_, ?_, by have := h.cb; omega, hc⟩, hb⟩
  · rw [hnb] at h9
    rw [List.getElem?_take_of_lt (by omega)] at h9
    exact h9
  · have := (h.behind.below hb).take (i := nB - 1) (by omega)
    rw [List.take_take, show min (nB - 1) a = a - 1 by omega] at this
    exact this
  · rw [show a - 1 + 1 = a by omega, drop_here h.here, List.reverse_cons]
    exact hR
theorem MP.redo (h : MP w Z a AB nB cB z AA nA cA) (ha : a + 1 < Z.length) (hZ : Z.length ≤ 51) :
    Calls Tryz.prog 14 #[mval AB nB cB z AA nA cA] w fun e w' => ∃ A' n' c' B' m' d' z', e = .returned (.tuple #[mval A' n' c' z' B' m' d', .bool true]) ∧ MP w' Z (a + 1) A' n' c' z' B' m' d' ∧ Below w.heap.size w w' := by
  have hlt := h.lt
  have hnb := h.nb
  have hna := h.na
  refine (ref22_redo h.behind h.ahead h.cb h.ca (by omega) (by omega) (by omega)).mono ?_
  rintro e w' ⟨A', c', z9, rfl, h9, hR, hc, hb⟩
  refine ⟨_, _, _, _, _, _, _, rfl, ⟨?_, ?_, ?_, hc, by have := h.ca; omega⟩, hb⟩
  · rw [List.getElem?_reverse (by rw [List.length_drop]; omega), List.length_drop, List.getElem?_drop] at h9
    rw [show a + 1 + (Z.length - (a + 1) - 1 - (nA - 1)) = a + 1 by omega] at h9
    exact h9
  · rw [take_here h.here] at hR
    rw [← hnb]
    rw [← hnb] at hR
    exact hR
  · have := (h.ahead.below hb).take (i := nA - 1) (by omega)
    rw [List.take_reverse, List.length_drop, List.drop_drop] at this
    rw [show a + 1 + (Z.length - (a + 1) - (nA - 1)) = a + 1 + 1 by omega] at this
    exact this
theorem MP.do_ (h : MP w Z a AB nB cB z AA nA cA) (hZ : Z.length ≤ 51) (x : LV) :
    Calls Tryz.prog 11 #[mval AB nB cB z AA nA cA, x.val] w fun e w' => ∃ A' n' c', e = .returned (mval A' n' c' x none 0 0) ∧ MP w' (clip (Z.take (a + 1) ++ [x])) ((clip (Z.take (a + 1) ++ [x])).length - 1) A' n' c' x none 0 0 ∧ Below w.heap.size w w' := by
  have hlt := h.lt
  have hnb := h.nb
  refine (ref22_do (x := x) h.behind (by omega)).mono ?_
  rintro e w' ⟨A', n', c', rfl, hR, hc, hn', hb⟩
  have hcl := clip_len (Z.take (a + 1) ++ [x])
  rw [List.length_append, List.length_take, List.length_singleton] at hcl
  have hlc : (Z.take (a + 1) ++ [x]).length - 51 = a - 49 := by
    rw [List.length_append, List.length_take, List.length_singleton]
    omega
  refine ⟨A', n', c', rfl, ⟨?_, ?_, ?_, hc, Nat.le_refl _⟩, hb⟩
  · have h1 : (clip (Z.take (a + 1) ++ [x])).getLast? = some x := by
      unfold clip
      rw [hlc, List.getLast?_drop, if_neg (by rw [List.length_append, List.length_take, List.length_singleton]; omega), List.getLast?_append]
      rfl
    rw [List.getLast?_eq_getElem?] at h1
    exact h1
  · rw [take_here h.here] at hR
    have h1 : (clip (Z.take (a + 1) ++ [x])).take ((clip (Z.take (a + 1) ++ [x])).length - 1) = (Z.take (a + 1)).drop (nB - 49) := by
      rw [hcl]
      unfold clip
      rw [hlc, hnb, List.drop_append_of_le_length (by rw [List.length_take]; omega), List.take_append_of_le_length (by rw [List.length_drop, List.length_take]; omega), List.take_of_length_le (by rw [List.length_drop, List.length_take]; omega)]
    rw [h1]
    exact hR
  · rw [show (clip (Z.take (a + 1) ++ [x])).length - 1 + 1 = (clip (Z.take (a + 1) ++ [x])).length by omega, List.drop_length]
    exact RowL.nil _
end
theorem Blk.far3 {w : World} {g h : Nat} {t : TypeId} {cs : Array Value} (hB : Blk w g t cs) (hne : g ≠ h) (x y z : Value) : Blk (((w.setCell ⟨h, 0, none⟩ x).setCell ⟨h, 1, none⟩ y).setCell ⟨h, 2, none⟩ z) g t cs :=
  ((hB.set_ h 0 x hne).set_ h 1 y hne).set_ h 2 z hne
/-- The place behind so many undos, or redos, is there. -/
def JOk (Z : List LV) (a : Nat) (n : Int) : Prop := -(a : Int) ≤ n ∧ n ≤ (Z.length : Int) - 1 - (a : Int)
set_option maxHeartbeats 8000000 in
set_option maxRecDepth 100000 in
theorem jump22 {w : World} {Z : List LV} {a nB cB nA cA : Nat} {AB AA : Option Addr} {z : LV} (h : MP w Z a AB nB cB z AA nA cA) (hZ : Z.length ≤ 51) (n : Int) :
    Calls Tryz.prog 16 #[mval AB nB cB z AA nA cA, .int .i64 n] w fun e w' => ((¬ JOk Z a n ∧ e = .returned (.tuple #[mval AB nB cB z AA nA cA, .bool false])) ∨
      ∃ A' n' c' B' m' d' z', JOk Z a n ∧ e = .returned (.tuple #[mval A' n' c' z' B' m' d', .bool true]) ∧ MP w' Z ((a : Int) + n).toNat A' n' c' z' B' m' d') ∧ Below w.heap.size w w' := by
  obtain ⟨zA, zn, zc⟩ := z
  have hlt := h.lt
  have HM := hide h
  unfold mval LV.val
  clear h
  by_cases hbig : 100 < n ∨ n < -100
  · have hno : ¬ JOk Z a n := by
      unfold JOk
      omega
    have HNO := hide hno
    have hcase : decide ((100 : Int) < n) = true ∨ (decide ((100 : Int) < n) = false ∧ decide (n < (-100 : Int)) = true) := by
      rcases Decidable.em (100 < n) with h | h
      · exact .inl (by simpa using h)
      · exact .inr ⟨by simpa using h, by simp; omega⟩
    clear hno hbig
    rcases hcase with e1 | ⟨e1, e2⟩
    all_goals
      go_enter Tryz.func16, Tryz.ntmps16
      go_wp2
      (try simp only [Exit.inBlock, Exit.then])
      refine bodyPost_ret (v := .tuple #[.agg #[.slice AB nB cB, .slice zA zn zc, .slice AA nA cA], .bool false]) (by simp [results, Tryz.results16, go_sem]) rfl ?_
      exact ⟨.inl ⟨HNO.out, rfl⟩, ((Below.refl _ _).alloc (Nat.le_refl _) _).alloc (by simp) _⟩
  · have e1 : decide ((100 : Int) < n) = false := by simp; omega
    have e2 : decide (n < (-100 : Int)) = false := by simp; omega
    have HBIG := hide hbig
    clear hbig
    have hb0 : Below w.heap.size w (((w.alloc (.cells #[.slice AB nB cB, .slice zA zn zc, .slice AA nA cA] 34)).alloc (.cells #[.slice none 0 0, .slice none 0 0, .slice none 0 0] 34)).alloc (.cells #[.slice AB nB cB, .slice zA zn zc, .slice AA nA cA] 34)) := (((Below.refl _ _).alloc (Nat.le_refl _) _).alloc (by simp) _).alloc (by simp; omega) _
    have hN1 := ((Blk.new w 34 #[.slice AB nB cB, .slice zA zn zc, .slice AA nA cA]).alloc (.cells #[.slice none 0 0, .slice none 0 0, .slice none 0 0] 34)).alloc (.cells #[.slice AB nB cB, .slice zA zn zc, .slice AA nA cA] 34)
    have hN2 := (Blk.new (w.alloc (.cells #[.slice AB nB cB, .slice zA zn zc, .slice AA nA cA] 34)) 34 #[.slice none 0 0, .slice none 0 0, .slice none 0 0]).alloc (.cells #[.slice AB nB cB, .slice zA zn zc, .slice AA nA cA] 34)
    have hN3 := Blk.new ((w.alloc (.cells #[.slice AB nB cB, .slice zA zn zc, .slice AA nA cA] 34)).alloc (.cells #[.slice none 0 0, .slice none 0 0, .slice none 0 0] 34)) 34 #[.slice AB nB cB, .slice zA zn zc, .slice AA nA cA]
    rw [show (w.alloc (.cells #[.slice AB nB cB, .slice zA zn zc, .slice AA nA cA] 34)).heap.size = w.heap.size + 1 by simp] at hN2
    rw [show ((w.alloc (.cells #[.slice AB nB cB, .slice zA zn zc, .slice AA nA cA] 34)).alloc (.cells #[.slice none 0 0, .slice none 0 0, .slice none 0 0] 34)).heap.size = w.heap.size + 1 + 1 by simp] at hN3
    have HB0 := hide hb0
    have HN := hide (And.intro hN1 (And.intro hN2 hN3))
    have HMP0 := hide (HM.out.below hb0)
    clear hb0 hN1 hN2 hN3
    go_enter Tryz.func16, Tryz.ntmps16
    go_wp2
    go_loopw [1, 7] (fun x1 x7 wr => ∃ (n' : Int) (a' : Nat) (AB' : Option Addr) (nB' cB' : Nat) (z' : LV) (AA' : Option Addr) (nA' cA' : Nat), x1 = .int .i64 n' ∧ x7 = .bool true ∧ (a' : Int) = (a : Int) + (n - n') ∧ ((n ≤ n' ∧ n' ≤ 0) ∨ (0 ≤ n' ∧ n' ≤ n)) ∧ MP wr Z a' AB' nB' cB' z' AA' nA' cA' ∧ Blk wr w.heap.size 34 #[.slice AB' nB' cB', z'.val, .slice AA' nA' cA'] ∧ Blk wr (w.heap.size + 1) 34 #[.slice none 0 0, .slice none 0 0, .slice none 0 0] ∧ Blk wr (w.heap.size + 1 + 1) 34 #[.slice AB nB cB, .slice zA zn zc, .slice AA nA cA] ∧ Below w.heap.size w wr) (fun x1 _ _ => (intOf x1).natAbs)
    case atStart => exact ⟨n, a, AB, nB, cB, ⟨zA, zn, zc⟩, AA, nA, cA, rfl, rfl, by omega, by omega, HMP0.out, HN.out.1, HN.out.2.1, HN.out.2.2, HB0.out⟩
    case round =>
      obtain ⟨n', a', AB', nB', cB', z', AA', nA', cA', rfl, rfl, ha, hn, hM, h1, h2, h3, hb⟩ := hrel
      clear HMP0 HN HB0 e1 e2
      rename World => wz
      obtain ⟨zA', zn', zc'⟩ := z'
      change Blk wz w.heap.size 34 #[.slice AB' nB' cB', .slice zA' zn' zc', .slice AA' nA' cA'] at h1
      have k0 := h1.cell 0
      have k1 := h1.cell 1
      have k2 := h1.cell 2
      simp at k0 k1 k2
      have HMM := hide hM
      have HH := hide (And.intro h1 (And.intro h2 h3))
      have HB := hide hb
      have HA := hide ha
      have HNN := hide hn
      have hnn : -100 ≤ n' ∧ n' ≤ 100 := by
        have := HBIG.out
        omega
      obtain ⟨hn1, hn2⟩ := hnn
      clear hM h1 h2 h3 hb ha hn
      by_cases hz : n' = 0
      · have e5 : (n' != 0) = false := by simp [hz]
        have y0 := HH.out.2.1.cell 0
        have y1 := HH.out.2.1.cell 1
        have y2 := HH.out.2.1.cell 2
        have z0 := HH.out.2.1.frozen 0
        have z1 := HH.out.2.1.frozen 1
        have z2 := HH.out.2.1.frozen 2
        have hlt2 := HH.out.2.1.lt
        simp at y0 y1 y2
        have HG := hide (fun (x y v : Value) => HH.out.2.1.set3 (x := x) (y := y) (z := v))
        have HF := hide (fun (x y v : Value) => (⟨HMM.out.keep (keep_set3 HH.out.2.1 (by decide) x y v), below_s3 HB.out (Nat.le_succ _) x y v⟩ : MP (((wz.setCell ⟨w.heap.size + 1, 0, none⟩ x).setCell ⟨w.heap.size + 1, 1, none⟩ y).setCell ⟨w.heap.size + 1, 2, none⟩ v) Z a' AB' nB' cB' ⟨zA', zn', zc'⟩ AA' nA' cA' ∧ Below w.heap.size w _))
        have HZ := hide hz
        clear hz
        go_wp2
        (try simp only [Exit.inBlock, Exit.then])
        have hG := HG.out (.slice AB' nB' cB') (.slice zA' zn' zc') (.slice AA' nA' cA')
        have g0 := hG.cell 0
        have g1 := hG.cell 1
        have g2 := hG.cell 2
        simp at g0 g1 g2
        refine bodyPost_ret (v := .tuple #[.agg #[.slice AB' nB' cB', .slice zA' zn' zc', .slice AA' nA' cA'], .bool true]) (by simp [results, Tryz.results16, go_sem, g0, g1, g2]) rfl ?_
        obtain ⟨f1, f2⟩ := HF.out (.slice AB' nB' cB') (.slice zA' zn' zc') (.slice AA' nA' cA')
        have hj : JOk Z a n ∧ ((a : Int) + n).toNat = a' := by
          have h1 := HA.out
          have h2 := HZ.out
          have h3 := HMM.out.lt
          unfold JOk
          omega
        exact ⟨.inr ⟨_, _, _, _, _, _, ⟨zA', zn', zc'⟩, hj.1, rfl, by rw [hj.2]; exact f1⟩, f2⟩
      rcases Decidable.em (n' < 0) with hneg | hneg
      · have e5 : (n' != 0) = true := by simp [hz]
        have e6 : decide (n' < 0) = true := by simp; omega
        have i1 : IntKind.i64.wrap (n' + 1) = n' + 1 := by rw [IntKind.wrap_i64]; omega
        have z0 := HH.out.1.frozen 0
        have z1 := HH.out.1.frozen 1
        have z2 := HH.out.1.frozen 2
        have HNE := hide (And.intro hz hneg)
        have HZ51 := hide hZ
        clear hz hneg
        by_cases hend : a' = 0
        · have hu := HMM.out.undo_no hend
          unfold mval LV.val at hu
          have HU := hide hu
          clear hu
          have HEND := hide hend
          clear hend
          go_wp2_with fail
          refine HU.out.mono ?_
          rintro e w5 ⟨rfl, hb5⟩
          have hb5t := below_then HB.out hb5
          have q1 := HH.out.1.below hb5
          have q2 := HH.out.2.1.below hb5
          have q3 := HH.out.2.2.below hb5
          have hN1 : w.heap.size ≠ w.heap.size + 1 := by omega
          have hN2 : w.heap.size + 1 ≠ w.heap.size := by omega
          have hN3 : w.heap.size + 1 + 1 ≠ w.heap.size := by omega
          have HQ := hide (fun (x y v : Value) => (⟨q1.set3 (x := x) (y := y) (z := v), q2.far3 hN2 x y v, q3.far3 hN3 x y v, below_s3 hb5t (Nat.le_refl _) x y v⟩ : _ ∧ _ ∧ _ ∧ _))
          have y0 := q1.cell 0
          have y1 := q1.cell 1
          have y2 := q1.cell 2
          have z0 := q1.frozen 0
          have z1 := q1.frozen 1
          have z2 := q1.frozen 2
          have hl5 := q1.lt
          simp at y0 y1 y2
          have hq := HQ.out (.slice AB' nB' cB') (.slice zA' zn' zc') (.slice AA' nA' cA')
          have s0 := hq.2.2.1.cell 0
          have s1 := hq.2.2.1.cell 1
          have s2 := hq.2.2.1.cell 2
          have t0 := hq.2.1.cell 0
          have t1 := hq.2.1.cell 1
          have t2 := hq.2.1.cell 2
          have v0 := hq.2.1.frozen 0
          have v1 := hq.2.1.frozen 1
          have v2 := hq.2.1.frozen 2
          have hl6 := hq.2.1.lt
          simp at s0 s1 s2 t0 t1 t2 v0 v1 v2 hl6
          have HG := hide (fun (x y v : Value) => hq.2.1.set3 (x := x) (y := y) (z := v))
          have HF := hide (fun (x y v : Value) => below_s3 hq.2.2.2 (Nat.le_succ _) x y v)
          clear hb5 q1 q2 q3 hN1 hN2 hN3 hb5t hq
          go_wp2
          (try simp only [Exit.inBlock, Exit.then])
          have hG := HG.out (.slice AB nB cB) (.slice zA zn zc) (.slice AA nA cA)
          have g0 := hG.cell 0
          have g1 := hG.cell 1
          have g2 := hG.cell 2
          simp at g0 g1 g2
          refine bodyPost_ret (v := .tuple #[.agg #[.slice AB nB cB, .slice zA zn zc, .slice AA nA cA], .bool false]) (by simp [results, Tryz.results16, go_sem, g0, g1, g2]) rfl ?_
          have hj : ¬ JOk Z a n := by
            have h1 := HA.out
            have h2 := HNE.out
            have h3 := HNN.out
            have h4 := HEND.out
            have h5 := HMM.out.lt
            unfold JOk
            omega
          exact ⟨.inl ⟨hj, rfl⟩, HF.out _ _ _⟩
        · have hu := HMM.out.undo (show 0 < a' by omega) hZ
          unfold mval LV.val at hu
          have HU := hide hu
          clear hu
          have HEND := hide hend
          clear hend
          go_wp2_with fail
          refine HU.out.mono ?_
          rintro e w5 ⟨A6, n6, c6, B6, m6, d6, ⟨zA6, zn6, zc6⟩, rfl, hM6, hb5⟩
          have hb5t := below_then HB.out hb5
          have q1 := HH.out.1.below hb5
          have q2 := HH.out.2.1.below hb5
          have q3 := HH.out.2.2.below hb5
          have hN1 : w.heap.size ≠ w.heap.size + 1 := by omega
          have hN2 : w.heap.size + 1 ≠ w.heap.size := by omega
          have hN3 : w.heap.size + 1 + 1 ≠ w.heap.size := by omega
          have HQ := hide (fun (x y v : Value) => (⟨q1.set3 (x := x) (y := y) (z := v), q2.far3 hN2 x y v, q3.far3 hN3 x y v, below_s3 hb5t (Nat.le_refl _) x y v, hM6.keep (keep_set3 q1 (by decide) x y v)⟩ : _ ∧ _ ∧ _ ∧ _ ∧ _))
          have y0 := q1.cell 0
          have y1 := q1.cell 1
          have y2 := q1.cell 2
          have z0 := q1.frozen 0
          have z1 := q1.frozen 1
          have z2 := q1.frozen 2
          have hl5 := q1.lt
          simp at y0 y1 y2
          clear hb5 q1 q2 q3 hN1 hN2 hN3 hb5t hM6
          go_wp2
          go_roundw
          case rel =>
            obtain ⟨f1, f2, f3, f4, f5⟩ := HQ.out (.slice A6 n6 c6) (.slice zA6 zn6 zc6) (.slice B6 m6 d6)
            have h1 := HA.out
            have h2 := HNE.out
            have h3 := HNN.out
            have h4 := HEND.out
            exact ⟨_, a' - 1, A6, n6, c6, ⟨zA6, zn6, zc6⟩, B6, m6, d6, rfl, rfl, by omega, by omega, f5, f1, f2, f3, f4⟩
          case measure =>
            have h2 := HNE.out
            simp only [intOf]
            simp
            omega
      · have e5 : (n' != 0) = true := by simp [hz]
        have e6 : decide (n' < 0) = false := by simp; omega
        have i1 : IntKind.i64.wrap (n' - 1) = n' - 1 := by rw [IntKind.wrap_i64]; omega
        have z0 := HH.out.1.frozen 0
        have z1 := HH.out.1.frozen 1
        have z2 := HH.out.1.frozen 2
        have HNE := hide (And.intro hz hneg)
        have HZ51 := hide hZ
        clear hz hneg
        by_cases hend : Z.length ≤ a' + 1
        · have hu := HMM.out.redo_no hend
          unfold mval LV.val at hu
          have HU := hide hu
          clear hu
          have HEND := hide hend
          clear hend
          go_wp2_with fail
          refine HU.out.mono ?_
          rintro e w5 ⟨rfl, hb5⟩
          have hb5t := below_then HB.out hb5
          have q1 := HH.out.1.below hb5
          have q2 := HH.out.2.1.below hb5
          have q3 := HH.out.2.2.below hb5
          have hN1 : w.heap.size ≠ w.heap.size + 1 := by omega
          have hN2 : w.heap.size + 1 ≠ w.heap.size := by omega
          have hN3 : w.heap.size + 1 + 1 ≠ w.heap.size := by omega
          have HQ := hide (fun (x y v : Value) => (⟨q1.set3 (x := x) (y := y) (z := v), q2.far3 hN2 x y v, q3.far3 hN3 x y v, below_s3 hb5t (Nat.le_refl _) x y v⟩ : _ ∧ _ ∧ _ ∧ _))
          have y0 := q1.cell 0
          have y1 := q1.cell 1
          have y2 := q1.cell 2
          have z0 := q1.frozen 0
          have z1 := q1.frozen 1
          have z2 := q1.frozen 2
          have hl5 := q1.lt
          simp at y0 y1 y2
          have hq := HQ.out (.slice AB' nB' cB') (.slice zA' zn' zc') (.slice AA' nA' cA')
          have s0 := hq.2.2.1.cell 0
          have s1 := hq.2.2.1.cell 1
          have s2 := hq.2.2.1.cell 2
          have t0 := hq.2.1.cell 0
          have t1 := hq.2.1.cell 1
          have t2 := hq.2.1.cell 2
          have v0 := hq.2.1.frozen 0
          have v1 := hq.2.1.frozen 1
          have v2 := hq.2.1.frozen 2
          have hl6 := hq.2.1.lt
          simp at s0 s1 s2 t0 t1 t2 v0 v1 v2 hl6
          have HG := hide (fun (x y v : Value) => hq.2.1.set3 (x := x) (y := y) (z := v))
          have HF := hide (fun (x y v : Value) => below_s3 hq.2.2.2 (Nat.le_succ _) x y v)
          clear hb5 q1 q2 q3 hN1 hN2 hN3 hb5t hq
          go_wp2
          (try simp only [Exit.inBlock, Exit.then])
          have hG := HG.out (.slice AB nB cB) (.slice zA zn zc) (.slice AA nA cA)
          have g0 := hG.cell 0
          have g1 := hG.cell 1
          have g2 := hG.cell 2
          simp at g0 g1 g2
          refine bodyPost_ret (v := .tuple #[.agg #[.slice AB nB cB, .slice zA zn zc, .slice AA nA cA], .bool false]) (by simp [results, Tryz.results16, go_sem, g0, g1, g2]) rfl ?_
          have hj : ¬ JOk Z a n := by
            have h1 := HA.out
            have h2 := HNE.out
            have h3 := HNN.out
            have h4 := HEND.out
            have h5 := HMM.out.lt
            unfold JOk
            omega
          exact ⟨.inl ⟨hj, rfl⟩, HF.out _ _ _⟩
        · have hu := HMM.out.redo (show a' + 1 < Z.length by omega) hZ
          unfold mval LV.val at hu
          have HU := hide hu
          clear hu
          have HEND := hide hend
          clear hend
          go_wp2_with fail
          refine HU.out.mono ?_
          rintro e w5 ⟨A6, n6, c6, B6, m6, d6, ⟨zA6, zn6, zc6⟩, rfl, hM6, hb5⟩
          have hb5t := below_then HB.out hb5
          have q1 := HH.out.1.below hb5
          have q2 := HH.out.2.1.below hb5
          have q3 := HH.out.2.2.below hb5
          have hN1 : w.heap.size ≠ w.heap.size + 1 := by omega
          have hN2 : w.heap.size + 1 ≠ w.heap.size := by omega
          have hN3 : w.heap.size + 1 + 1 ≠ w.heap.size := by omega
          have HQ := hide (fun (x y v : Value) => (⟨q1.set3 (x := x) (y := y) (z := v), q2.far3 hN2 x y v, q3.far3 hN3 x y v, below_s3 hb5t (Nat.le_refl _) x y v, hM6.keep (keep_set3 q1 (by decide) x y v)⟩ : _ ∧ _ ∧ _ ∧ _ ∧ _))
          have y0 := q1.cell 0
          have y1 := q1.cell 1
          have y2 := q1.cell 2
          have z0 := q1.frozen 0
          have z1 := q1.frozen 1
          have z2 := q1.frozen 2
          have hl5 := q1.lt
          simp at y0 y1 y2
          clear hb5 q1 q2 q3 hN1 hN2 hN3 hb5t hM6
          go_wp2
          go_roundw
          case rel =>
            obtain ⟨f1, f2, f3, f4, f5⟩ := HQ.out (.slice A6 n6 c6) (.slice zA6 zn6 zc6) (.slice B6 m6 d6)
            have h1 := HA.out
            have h2 := HNE.out
            have h3 := HNN.out
            have h4 := HEND.out
            exact ⟨_, a' + 1, A6, n6, c6, ⟨zA6, zn6, zc6⟩, B6, m6, d6, rfl, rfl, by omega, by omega, f5, f1, f2, f3, f4⟩
          case measure =>
            have h2 := HNE.out
            simp only [intOf]
            simp
            omega
end Go.Proofs.YtghnpflaafdcdaaGreat
set_option linter.unusedSimpArgs false
set_option linter.unusedVariables false
namespace Go.Proofs.YtghnpflaafdcdaaGreat
open Go.RowKit
theorem pt_lit1 (w : World) (a : Nat) (ha : a < 2 ^ 64) : Pt (w.alloc (.cells #[.int .u64 (a : Int)] 36)) (some ⟨w.heap.size, 0, none⟩) 1 [a] :=
  ⟨rfl, Rw.of_blk (Blk.new w _ _) rfl (fun j u hu => by simpa [u64s] using hu), by simpa using ha⟩
/-- Trees, and what each of them holds. -/
def Trs (w : World) (k : Nat) (L : List (Nat × List Ent)) : Prop := ∀ x ∈ L, TreeOf w k x.1 x.2
section
variable {w w' : World} {k p : Nat} {L : List (Nat × List Ent)}
theorem Trs.below (h : Trs w k L) (hb : Below w.heap.size w w') : Trs w' k L := fun x hx => (h x hx).stay hb
theorem Trs.ex (h : Trs w k L) (hP : PastBlk w p) (hx : Ex p w w') : Trs w' k L := fun x hm => (h x hm).ex hP hx
end
theorem tree_ne {w : World} {k s t : Nat} {es es' : List Ent} {x : Ent} (h : TreeOf w k s es) (h' : TreeOf w k t es') (h1 : x ∈ es) (h2 : x ∉ es') : s ≠ t := by
  rintro rfl
  rw [tree_uniq h h'] at h1
  exact h2 h1
set_option maxHeartbeats 4000000 in
set_option maxRecDepth 100000 in
theorem awake22 (w : World) : Calls Tryz.prog 4 #[] w fun e w' => e = .returned (.bool true) ∧ Below w.heap.size w w' := by
  have HN := hide (tr_new 1 w (by omega) (by omega))
  go_enter Tryz.func4, Tryz.ntmps4
  go_wp2_with fail
  refine HN.out.mono ?_
  rintro e w1 ⟨rfl, hT1, hb1⟩
  have hL1 : Trs w1 1 [(w.heap.size, [])] := by
    intro x hx
    rw [List.mem_singleton] at hx
    subst hx
    exact ⟨by omega, by omega, .inl ⟨hT1, rfl⟩⟩
  generalize hs : w.heap.size = t at hL1 ⊢
  have HWT := hide hs
  have HB1 := hide hb1
  have HL1 := hide hL1
  clear hT1 hb1 hL1 HN hs
  have hb_a := below_alloc HB1.out (Nat.le_refl _) (.cells #[.int .u64 1] 36)
  have hq_a := (Below.refl w1.heap.size w1).alloc (Nat.le_refl _) (.cells #[.int .u64 1] 36)
  have HPa := hide (tr_put (v := 1) (c := 1) ((HL1.out (t, []) (by simp)).stay hq_a) (pt_lit1 w1 1 (by omega)) (by omega))
  have HQa := hide hq_a
  have HB_a := hide hb_a
  clear hb_a hq_a
  go_wp2_with fail
  refine HPa.out.mono ?_
  rintro e w3 ⟨ta, esa, rfl, hT, hm, hn, hb⟩
  have HL3 := hide (show Trs w3 1 [(t, []), (ta, esa)] from fun x hx => by
    simp only [List.mem_cons, List.not_mem_nil, or_false] at hx
    rcases hx with rfl | rfl
    · exact ((HL1.out _ (by simp)).stay HQa.out).stay hb
    · exact hT)
  have HB3 := hide (below_then HB_a.out hb)
  have HMa := hide hm
  clear hT hm hn hb HPa
  have hb_b := below_alloc HB3.out (Nat.le_refl _) (.cells #[.int .u64 2] 36)
  have hq_b := (Below.refl w3.heap.size w3).alloc (Nat.le_refl _) (.cells #[.int .u64 2] 36)
  have HPb := hide (tr_put (v := 2) (c := 1) ((HL3.out (t, []) (by simp)).stay hq_b) (pt_lit1 w3 2 (by omega)) (by omega))
  have HQb := hide hq_b
  have HB_b := hide hb_b
  clear hb_b hq_b
  go_wp2_with fail
  refine HPb.out.mono ?_
  rintro e w5 ⟨tb, esb, rfl, hT, hm, hn, hb⟩
  have HL5 := hide (show Trs w5 1 [(t, []), (ta, esa), (tb, esb)] from fun x hx => by
    simp only [List.mem_cons, List.not_mem_nil, or_false] at hx
    rcases hx with rfl | rfl | rfl
    · exact ((HL3.out _ (by simp)).stay HQb.out).stay hb
    · exact ((HL3.out _ (by simp)).stay HQb.out).stay hb
    · exact hT)
  have HB5 := hide (below_then HB_b.out hb)
  have HMb := hide hm
  clear hT hm hn hb HPb
  have hb_c := below_alloc HB5.out (Nat.le_refl _) (.cells #[.int .u64 3] 36)
  have hq_c := (Below.refl w5.heap.size w5).alloc (Nat.le_refl _) (.cells #[.int .u64 3] 36)
  have HPc := hide (tr_put (v := 3) (c := 1) ((HL5.out (t, []) (by simp)).stay hq_c) (pt_lit1 w5 3 (by omega)) (by omega))
  have HQc := hide hq_c
  have HB_c := hide hb_c
  clear hb_c hq_c
  go_wp2_with fail
  refine HPc.out.mono ?_
  rintro e w7 ⟨tc, esc, rfl, hT, hm, hn, hb⟩
  have HL7 := hide (show Trs w7 1 [(t, []), (ta, esa), (tb, esb), (tc, esc)] from fun x hx => by
    simp only [List.mem_cons, List.not_mem_nil, or_false] at hx
    rcases hx with rfl | rfl | rfl | rfl
    · exact ((HL5.out _ (by simp)).stay HQc.out).stay hb
    · exact ((HL5.out _ (by simp)).stay HQc.out).stay hb
    · exact ((HL5.out _ (by simp)).stay HQc.out).stay hb
    · exact hT)
  have HB7 := hide (below_then HB_c.out hb)
  have HMc := hide hm
  clear hT hm hn hb HPc
  have HAT := hide (show ta ≠ t from tree_ne (HL7.out (ta, esa) (by simp)) (HL7.out (t, []) (by simp)) (x := ([1], 1)) ((HMa.out _).2 (.inl rfl)) (by simp))
  have HBA := hide (show tb ≠ ta from tree_ne (HL7.out (tb, esb) (by simp)) (HL7.out (ta, esa) (by simp)) (x := ([2], 2)) ((HMb.out _).2 (.inl rfl)) (fun h => by have := (HMa.out _).1 h; simp at this))
  have HCA := hide (show tc ≠ ta from tree_ne (HL7.out (tc, esc) (by simp)) (HL7.out (ta, esa) (by simp)) (x := ([3], 3)) ((HMc.out _).2 (.inl rfl)) (fun h => by have := (HMa.out _).1 h; simp at this))
  clear HMa HMb HMc HQa HQb HQc HB_a HB_b HB_c HL1 HL3 HL5
  have HNP := hide (ps_new w7 t)
  go_wp2_with fail
  refine HNP.out.mono ?_
  rintro e w8 ⟨⟨p, rfl, hpl, hp⟩, hb⟩
  have HPL := hide (show w.heap.size ≤ p by have := HB7.out.size; omega)
  have HB8 := hide (below_then HB7.out hb)
  have HL8 := hide (HL7.out.below hb)
  have HP8 := hide (hp.lower (Nat.zero_le _))
  clear hpl hp hb HNP HL7 HB7
  obtain ⟨r1, hr1⟩ := (HL8.out (ta, esa) (by simp)).blk
  obtain ⟨r0, hr0⟩ := (HL8.out (t, []) (by simp)).blk
  have HD := hide (ps_do HP8.out (show [t][0]? = some t from rfl) hr1 hr0 (by omega) HAT.out (Nat.zero_le _))
  clear hr1 hr0
  go_wp2_with fail
  refine HD.out.mono ?_
  rintro e w9 ⟨rfl, hp, hx⟩
  have HL9 := hide (HL8.out.ex HP8.out.blk hx)
  have HB9 := hide (HB8.out.trans (hx.to_below HPL.out (by have := HB8.out.size; omega)))
  have HP9 := hide hp
  clear hp hx HD
  change Hid (PastAt _ w9 p [t, ta] 1) at HP9
  obtain ⟨r1, hr1⟩ := (HL9.out (tb, esb) (by simp)).blk
  obtain ⟨r0, hr0⟩ := (HL9.out (ta, esa) (by simp)).blk
  have HD := hide (ps_do HP9.out (show [t, ta][1]? = some ta from rfl) hr1 hr0 (by omega) HBA.out (Nat.zero_le _))
  clear hr1 hr0
  go_wp2_with fail
  refine HD.out.mono ?_
  rintro e w10 ⟨rfl, hp, hx⟩
  have HL10 := hide (HL9.out.ex HP9.out.blk hx)
  have HB10 := hide (HB9.out.trans (hx.to_below HPL.out (by have := HB9.out.size; omega)))
  have HP10 := hide hp
  clear hp hx HD
  change Hid (PastAt _ w10 p [t, ta, tb] 2) at HP10
  have HU := hide (ps_undo HP10.out (by omega))
  go_wp2_with fail
  refine HU.out.mono ?_
  rintro e w11 ⟨rfl, hp, hx⟩
  have HL11 := hide (HL10.out.ex HP10.out.blk hx)
  have HB11 := hide (HB10.out.trans (hx.to_below HPL.out (by have := HB10.out.size; omega)))
  have HP11 := hide (show PastAt _ w11 p [t, ta, tb] 1 from hp)
  clear hp hx HU
  obtain ⟨r1, hr1⟩ := (HL11.out (tc, esc) (by simp)).blk
  obtain ⟨r0, hr0⟩ := (HL11.out (ta, esa) (by simp)).blk
  have HD := hide (ps_do HP11.out (show [t, ta, tb][1]? = some ta from rfl) hr1 hr0 (by omega) HCA.out (Nat.zero_le _))
  clear hr1 hr0
  go_wp2_with fail
  refine HD.out.mono ?_
  rintro e w12 ⟨rfl, hp, hx⟩
  have HL12 := hide (HL11.out.ex HP11.out.blk hx)
  have HB12 := hide (HB11.out.trans (hx.to_below HPL.out (by have := HB11.out.size; omega)))
  have HP12 := hide hp
  clear hp hx HD
  change Hid (PastAt _ w12 p [t, ta, tc] 2) at HP12
  have HLE := hide (ps_len HP12.out)
  go_wp2_with fail
  refine HLE.out.mono ?_
  rintro e w13 ⟨rfl, hb⟩
  simp only [List.length_cons, List.length_nil]
  have HL13 := hide (HL12.out.below hb)
  have HB13 := hide (below_then HB12.out hb)
  have HP13 := hide (HP12.out.below hb)
  clear hb HLE
  have HNO := hide (ps_now HP13.out (show [t, ta, tc][2]? = some tc from rfl))
  go_wp2_with fail
  refine HNO.out.mono ?_
  rintro e w14 ⟨rfl, hb⟩
  obtain ⟨r1, hr1⟩ := ((HL13.out (tc, esc) (by simp)).stay hb).blk
  have e1 := ptr_eq_t tc tc w14 hr1 hr1
  rw [decide_eq_true rfl] at e1
  have HB14 := hide (below_then HB13.out hb)
  have HR := hide (ps_redo_no (HP13.out.below hb) (by simp))
  clear hb hr1 HNO
  go_wp2_with fail
  refine HR.out.mono ?_
  rintro e w15 ⟨rfl, hb⟩
  have HB15 := hide (below_then HB14.out hb)
  clear hb HR
  go_wp2
  go_ret
  exact ⟨rfl, HB15.out⟩
end Go.Proofs.YtghnpflaafdcdaaGreat
set_option linter.unusedSimpArgs false
set_option linter.unusedVariables false
namespace Go.Proofs.YtghnpflaafdcdaaGreat
open Go.RowKit
section
variable {B : Nat} {w w' : World} {p a : Nat} {ts : List Nat}
theorem PastAt.keep (h : PastAt B w p ts a) (h1 : Keep 64 w w') (h2 : Keep 24 w w') : PastAt B w' p ts a := by
  obtain ⟨g1, g2, A, c, g3, g4, g5, g6, g7⟩ := h
  exact ⟨g1, g2, A, c, g3.keep h1, g4, g5, g6.keep h2, g7.keep g6.ty h2⟩
end
/-- Three cells of a block, set anew. -/
abbrev set3 (w : World) (g : Nat) (x y z : Value) : World := ((w.setCell ⟨g, 0, none⟩ x).setCell ⟨g, 1, none⟩ y).setCell ⟨g, 2, none⟩ z
theorem set3_ex (w : World) (g : Nat) (x y z : Value) : Ex g w (set3 w g x y z) := (((Ex.refl g w).set 0 x).set 1 y).set 2 z
def isSl (v : Value) : Prop := ∃ A n c, v = .slice A n c
theorem st22_set3 {w : World} {g : Nat} {x y z : Value} (hB : Blk w g 34 #[x, y, z]) (hx : isSl x) (hy : isSl y) (hz : isSl z) (a b c : Value) : St22 w (set3 w g a b c) := by
  refine St22.ex (set3_ex w g a b c) ⟨_, _, hB, by decide, by decide, by decide, fun i v hv => ?_⟩ hB (by decide)
  obtain ⟨A1, n1, c1, rfl⟩ := hx
  obtain ⟨A2, n2, c2, rfl⟩ := hy
  obtain ⟨A3, n3, c3, rfl⟩ := hz
  rcases i with _ | _ | _ | i
  all_goals simp at hv
  all_goals subst hv
  all_goals exact ⟨fun z h => (by cases h), fun b h => (by cases h)⟩
/-- Between two moves: the past's trees, the lists, the reference's past in its block. -/
structure R22S (k B : Nat) (w0 w : World) (p mb N : Nat) (Z : List (Nat × LV)) (a : Nat) (AB : Option Addr) (nB cB : Nat) (z : LV) (AA : Option Addr) (nA cA : Nat) : Prop where
  past : PastAt B w p (Z.map (·.1)) a
  now : ∀ z ∈ Z, Now w k z.1 z.2.A z.2.n z.2.c ∧ z.2.n ≤ N
  mp : MP w (Z.map (·.2)) a AB nB cB z AA nA cA
  blk : Blk w mb 34 #[.slice AB nB cB, z.val, .slice AA nA cA]
  below : Below B w0 w
  hp : B ≤ p
  hm : B ≤ mb
  hB : B ≤ w0.heap.size
section
variable {k B p mb N a nB cB nA cA : Nat} {w0 w w' : World} {Z : List (Nat × LV)} {AB AA : Option Addr} {z : LV}
theorem R22S.stay (h : R22S k B w0 w p mb N Z a AB nB cB z AA nA cA) (hb : Below w.heap.size w w') : R22S k B w0 w' p mb N Z a AB nB cB z AA nA cA :=
  ⟨h.past.below hb, fun x hx => ⟨(h.now x hx).1.stay hb, (h.now x hx).2⟩, h.mp.below hb, h.blk.below hb, h.below.trans (hb.mono (Nat.le_trans h.hB h.below.size)), h.hp, h.hm, h.hB⟩
theorem R22S.more (h : R22S k B w0 w p mb N Z a AB nB cB z AA nA cA) {N' : Nat} (hN : N ≤ N') : R22S k B w0 w p mb N' Z a AB nB cB z AA nA cA :=
  { h with now := fun x hx => ⟨(h.now x hx).1, Nat.le_trans (h.now x hx).2 hN⟩ }
theorem R22S.cur (h : R22S k B w0 w p mb N Z a AB nB cB z AA nA cA) : ∃ t, Z[a]? = some (t, z) := by
  have := h.mp.here
  rw [List.getElem?_map] at this
  obtain ⟨⟨t, z'⟩, h1, h2⟩ := Option.map_eq_some_iff.1 this
  simp only at h2
  subst h2
  exact ⟨t, h1⟩
theorem R22S.ts {t : Nat} (ht : Z[a]? = some (t, z)) : (Z.map (·.1))[a]? = some t := by
  rw [List.getElem?_map, ht]
  rfl
theorem R22S.len (h : R22S k B w0 w p mb N Z a AB nB cB z AA nA cA) : Z.length ≤ 51 ∧ a < Z.length := by
  have h1 := h.past.1
  have h2 := h.past.2.1
  rw [List.length_map] at h1 h2
  exact ⟨h2, h1⟩
theorem R22S.hB' (h : R22S k B w0 w p mb N Z a AB nB cB z AA nA cA) : B ≤ w.heap.size := Nat.le_trans h.hB h.below.size
/-- The reference's past is stored. -/
theorem R22S.fin {N' a' nB' cB' nA' cA' : Nat} {W : World} {Z' : List (Nat × LV)} {AB' AA' : Option Addr} {z' : LV} {x y v : Value} (hP : PastAt B W p (Z'.map (·.1)) a') (hN : ∀ z ∈ Z', Now W k z.1 z.2.A z.2.n z.2.c ∧ z.2.n ≤ N')
    (hM : MP W (Z'.map (·.2)) a' AB' nB' cB' z' AA' nA' cA') (hB : Blk W mb 34 #[x, y, v]) (hx : isSl x) (hy : isSl y) (hv : isSl v) (hb : Below B w0 W) (hp : B ≤ p) (hm : B ≤ mb) (hB0 : B ≤ w0.heap.size) :
    R22S k B w0 (set3 W mb (.slice AB' nB' cB') z'.val (.slice AA' nA' cA')) p mb N' Z' a' AB' nB' cB' z' AA' nA' cA' :=
  have hs := st22_set3 hB hx hy hv (.slice AB' nB' cB') z'.val (.slice AA' nA' cA')
  ⟨hP.keep (keep_set3 hB (by decide) _ _ _) (keep_set3 hB (by decide) _ _ _), fun q hq => ⟨hs.now (hN q hq).1, (hN q hq).2⟩, hM.keep hs.keepL, hB.set3, below_s3 hb hm _ _ _, hp, hm, hB0⟩
theorem R22S.undone {W W2 : World} {a' nB' cB' nA' cA' : Nat} {AB' AA' : Option Addr} {z' : LV} (h : R22S k B w0 w p mb N Z a AB nB cB z AA nA cA) (hb : Below w.heap.size w W) (hM : MP W (Z.map (·.2)) a' AB' nB' cB' z' AA' nA' cA')
    (hP : PastAt B W2 p (Z.map (·.1)) a') (hx : Ex p W W2) : R22S k B w0 (set3 W2 mb (.slice AB' nB' cB') z'.val (.slice AA' nA' cA')) p mb N Z a' AB' nB' cB' z' AA' nA' cA' := by
  have h1 := h.stay hb
  have hpb := h1.past.blk
  obtain ⟨A, n, c, a0, hPB⟩ := id hpb
  have hs := St22.ex hx hpb.far hPB (by decide)
  exact R22S.fin hP (fun q hq => ⟨hs.now (h1.now q hq).1, (h1.now q hq).2⟩) (hM.keep hs.keepL) (hx.blk h1.blk (h1.blk.ne_ hPB (by decide))) ⟨_, _, _, rfl⟩ ⟨_, _, _, rfl⟩ ⟨_, _, _, rfl⟩ (h1.below.trans (hx.to_below h1.hp h1.hB')) h1.hp h1.hm h1.hB
theorem R22S.undone_no {W W2 : World} (h : R22S k B w0 w p mb N Z a AB nB cB z AA nA cA) (hb : Below w.heap.size w W2) : R22S k B w0 (set3 W2 mb (.slice AB nB cB) z.val (.slice AA nA cA)) p mb N Z a AB nB cB z AA nA cA := by
  have h1 := h.stay hb
  exact R22S.fin h1.past h1.now h1.mp h1.blk ⟨_, _, _, rfl⟩ ⟨_, _, _, rfl⟩ ⟨_, _, _, rfl⟩ h1.below h1.hp h1.hm h1.hB
theorem clip_snoc_map {α β : Type} (f : α → β) (Z : List α) (a : Nat) (x : α) : clip ((Z.map f).take (a + 1) ++ [f x]) = (clip (Z.take (a + 1) ++ [x])).map f := by
  rw [← clip_map, List.map_append, List.map_take]
  rfl
theorem mem_clip {α : Type} {Z : List α} {a : Nat} {x q : α} (h : q ∈ clip (Z.take (a + 1) ++ [x])) : q ∈ Z ∨ q = x := by
  rcases List.mem_append.1 (List.mem_of_mem_drop h) with h | h
  · exact .inl (List.mem_of_mem_take h)
  · exact .inr (List.mem_singleton.1 h)
/-- One more. -/
theorem R22S.done_ {W W2 W3 : World} {t' nB' cB' : Nat} {AB' : Option Addr} {x : LV} (h : R22S k B w0 w p mb N Z a AB nB cB z AA nA cA) (hb : Below w.heap.size w W) (hN : Now W k t' x.A x.n x.c) (hxn : x.n ≤ N + 1)
    (hP : PastAt B W2 p (clip ((Z.map (·.1)).take (a + 1) ++ [t'])) ((clip ((Z.map (·.1)).take (a + 1) ++ [t'])).length - 1)) (hx : Ex p W W2) (hb3 : Below W2.heap.size W2 W3)
    (hM : MP W3 (clip ((Z.map (·.2)).take (a + 1) ++ [x])) ((clip ((Z.map (·.2)).take (a + 1) ++ [x])).length - 1) AB' nB' cB' x none 0 0) :
    R22S k B w0 (set3 W3 mb (.slice AB' nB' cB') x.val (.slice none 0 0)) p mb (N + 1) (clip (Z.take (a + 1) ++ [(t', x)])) ((clip (Z.take (a + 1) ++ [(t', x)])).length - 1) AB' nB' cB' x none 0 0 := by
  have h1 := h.stay hb
  have hpb := h1.past.blk
  obtain ⟨A, n, c, a0, hPB⟩ := id hpb
  have hs := St22.ex hx hpb.far hPB (by decide)
  rw [clip_snoc_map (·.1) Z a (t', x), List.length_map] at hP
  rw [clip_snoc_map (·.2) Z a (t', x), List.length_map] at hM
  refine R22S.fin (hP.below hb3) (fun q hq => ?_) hM ((hx.blk h1.blk (h1.blk.ne_ hPB (by decide))).below hb3) ⟨_, _, _, rfl⟩ ⟨_, _, _, rfl⟩ ⟨_, _, _, rfl⟩ ((h1.below.trans (hx.to_below h1.hp h1.hB')).trans (hb3.mono (Nat.le_trans h1.hB' hx.size))) h1.hp h1.hm h1.hB
  rcases mem_clip hq with hq | rfl
  · exact ⟨(hs.now (h1.now q hq).1).stay hb3, Nat.le_succ_of_le (h1.now q hq).2⟩
  · exact ⟨(hs.now hN).stay hb3, hxn⟩
theorem R22S.blk_ex {W2 : World} (h : R22S k B w0 w p mb N Z a AB nB cB z AA nA cA) (hx : Ex p w W2) : Blk W2 mb 34 #[.slice AB nB cB, z.val, .slice AA nA cA] ∧ MP W2 (Z.map (·.2)) a AB nB cB z AA nA cA := by
  have hpb := h.past.blk
  obtain ⟨A, n, c, a0, hPB⟩ := id hpb
  have hs := St22.ex hx hpb.far hPB (by decide)
  exact ⟨hx.blk h.blk (h.blk.ne_ hPB (by decide)), h.mp.keep hs.keepL⟩
theorem R22S.blk_set1 {W2 : World} {t : Nat} (h : R22S k B w0 w p mb N Z a AB nB cB z AA nA cA) (ht : Z[a]? = some (t, z)) (hA : ∃ w1 w2 b o, Below w.heap.size w w1 ∧ Set1 b o t w1 w2 ∧ B ≤ b ∧ Below w2.heap.size w2 W2) : Blk W2 mb 34 #[.slice AB nB cB, z.val, .slice AA nA cA] := by
  obtain ⟨w1, w2, b, o, g1, g2, g3, g4⟩ := hA
  exact (g2.blkOf (h.blk.below g1) (by decide)).below g4
/-- Another one in the present's place. -/
theorem R22S.amended {W W2 : World} {t t' : Nat} {x : LV} (h : R22S k B w0 w p mb N Z a AB nB cB z AA nA cA) (ht : Z[a]? = some (t, z)) (hb : Below w.heap.size w W) (hN : Now W k t' x.A x.n x.c) (hxn : x.n ≤ N + 1)
    (hP : PastAt B W2 p ((Z.map (·.1)).set a t') a) (hA : ∃ w1 w2 b o, Below W.heap.size W w1 ∧ Set1 b o t w1 w2 ∧ B ≤ b ∧ Below w2.heap.size w2 W2) :
    R22S k B w0 (W2.setCell ⟨mb, 1, none⟩ x.val) p mb (N + 1) (Z.set a (t', x)) a AB nB cB x AA nA cA := by
  obtain ⟨w1, w2, b, o, g1, g2, g3, g4⟩ := hA
  have h1 := (h.stay hb).stay g1
  obtain ⟨rT, hT⟩ : ∃ rT, TreeBlk w1 t k rT := by
    obtain ⟨rows, es, q1, -⟩ := (h1.now _ (List.mem_of_getElem? ht)).1
    exact q1.blk
  have hs := (St22.set1 g2 hT).trans (St22.below g4)
  have hBm := (g2.blkOf h1.blk (by decide)).below g4
  have hb2 : Below B w0 W2 := by
    obtain ⟨u, hu⟩ := g2.set
    subst hu
    exact (h1.below.setCell (p := ⟨b, o, none⟩) g3 u).trans (g4.mono (by have := h1.hB'; simpa using this))
  have e1 : W2.setCell ⟨mb, 1, none⟩ x.val = set3 W2 mb (.slice AB nB cB) x.val (.slice AA nA cA) → True := fun _ => trivial
  have hex : Ex mb W2 (W2.setCell ⟨mb, 1, none⟩ x.val) := (Ex.refl _ _).set 1 _
  have hs2 : St22 W2 (W2.setCell ⟨mb, 1, none⟩ x.val) := St22.ex hex ⟨_, _, hBm, by decide, by decide, by decide, fun i v hv => by
    rcases i with _ | _ | _ | i
    all_goals simp at hv
    all_goals subst hv
    all_goals exact ⟨fun z h => (by cases h), fun b h => (by cases h)⟩⟩ hBm (by decide)
  have hlt := (h1.len).2
  refine ⟨?_, fun q hq => ?_, ?_, ?_, below_set1 hb2 h1.hm, h1.hp, h1.hm, h1.hB⟩
  · rw [List.map_set]
    exact hP.keep (hex.keep hBm (by decide)) (hex.keep hBm (by decide))
  · rcases List.mem_or_eq_of_mem_set hq with hq | rfl
    · exact ⟨hs2.now (hs.now (h1.now q hq).1), Nat.le_succ_of_le (h1.now q hq).2⟩
    · exact ⟨hs2.now (hs.now (hN.stay g1)), hxn⟩
  · have hm := (h1.mp.keep hs.keepL).keep hs2.keepL
    rw [List.map_set]
    refine ⟨?_, ?_, ?_, hm.cb, hm.ca⟩
    · rw [List.getElem?_set_self (by rw [List.length_map]; exact hlt)]
    · rw [List.take_set_of_le (Nat.le_refl _)]
      exact hm.behind
    · rw [List.drop_set_of_lt (Nat.lt_succ_self _)]
      exact hm.ahead
  · have := hBm.set1 (i := 1) x.val
    simpa using this
end
/-- A move: its kind, its act, its number. -/
structure PM where
  kd : Nat
  q : TA
  x : Int
def pmv (r : PM) : List Value := [.int .u8 (r.kd : Int), .bool r.q.d, .slice r.q.A r.q.n r.q.c, .int .u64 (r.q.v : Int), .int .i64 r.x]
theorem pmv_len (r : PM) : (pmv r).length = 5 := rfl
def PM.ok (w : World) (r : PM) : Prop := r.q.ok w ∧ r.kd < 256 ∧ (Lit.int .i64 r.x).wf = true
def PMsAt (w : World) (A : Option Addr) (n : Nat) (rows : List PM) : Prop := Rw w 5 A n (rows.flatMap pmv) ∧ ∀ r ∈ rows, r.ok w
theorem PMsAt.below {w w' : World} {A : Option Addr} {n : Nat} {rows : List PM} (h : PMsAt w A n rows) (hb : Below w.heap.size w w') : PMsAt w' A n rows := ⟨h.1.below hb, fun r hr => ⟨(h.2 r hr).1.below hb, (h.2 r hr).2⟩⟩
theorem PMsAt.at_ {w : World} {A : Option Addr} {n i : Nat} {rows : List PM} (h : PMsAt w A n rows) (hi : i < n) :
    ∃ b o r, A = some ⟨b, o, none⟩ ∧ b < w.heap.size ∧ rows[i]? = some r ∧ r.ok w ∧ w.cell? ⟨b, o + i * 5, none⟩ = some (.int .u8 (r.kd : Int)) ∧ w.cell? ⟨b, o + i * 5 + 1, none⟩ = some (.bool r.q.d) ∧ w.cell? ⟨b, o + i * 5 + 2, none⟩ = some (.slice r.q.A r.q.n r.q.c) ∧ w.cell? ⟨b, o + i * 5 + 3, none⟩ = some (.int .u64 (r.q.v : Int)) ∧ w.cell? ⟨b, o + i * 5 + 4, none⟩ = some (.int .i64 r.x) := by
  obtain ⟨b, o, r, hA, hb, hr, hc⟩ := h.1.elem pmv_len hi (by omega)
  exact ⟨b, o, r, hA, hb, hr, h.2 r (List.mem_of_getElem? hr), hc 0 _ rfl, by rw [Nat.add_assoc]; exact hc 1 _ rfl, by rw [Nat.add_assoc]; exact hc 2 _ rfl, by rw [Nat.add_assoc]; exact hc 3 _ rfl, by rw [Nat.add_assoc]; exact hc 4 _ rfl⟩
end Go.Proofs.YtghnpflaafdcdaaGreat
set_option linter.unusedSimpArgs false
set_option linter.unusedVariables false
namespace Go.Proofs.YtghnpflaafdcdaaGreat
open Go.RowKit
theorem ents_mem_iff {rows : List ER} {e : Ent} : e ∈ ents rows ↔ ∃ r ∈ rows, r.e = e := by
  unfold ents
  rw [List.mem_map]
/-- What Get tells, by points. -/
theorem ref_get_e {w : World} {A B : Option Addr} {n c k d : Nat} {rows : List ER} {p : List Nat} (h : EntsAt w A n rows) (hS : SortR k rows) (hk : ∀ r ∈ rows, r.n = k) (hp : Pt w B k p) (hk40 : k ≤ 40) (hn : n ≤ 70368744177664) :
    Calls Tryz.prog 28 #[.slice A n c, .slice B k d] w fun e w' => e = .returned (.tuple #[.int .u64 (((getE (ents rows) p).getD 0 : Nat) : Int), .bool (getE (ents rows) p).isSome]) ∧ w = w' := by
  refine (ref_get A B n c k d rows p w h hk hp hk40 hn).mono ?_
  rintro e w' ⟨⟨v, ok, rfl, hok, h0, h1⟩, rfl⟩
  refine ⟨?_, rfl⟩
  have hz : Zp k p := hp.zp
  cases hb : ok with
  | false =>
    have hv := h0 hb
    have hg : getE (ents rows) p = none := by
      refine getE_none.2 fun u hu => ?_
      obtain ⟨r, hr, he⟩ := ents_mem_iff.1 hu
      have := ((has_spec hS hz).2).2 ⟨r, hr, congrArg Prod.fst he⟩
      rw [← hok, hb] at this
      cases this
    rw [hg, hv]
    rfl
  | true =>
    obtain ⟨r, hr, hrv⟩ := h1 hb
    have hh : hasR rows p = true := by rw [← hok, hb]
    have hm := has_val (es := ents rows) hS rfl hz hh hr
    rw [getE_of hS.ents hm, hrv]
    rfl
/-- All points of two lists. -/
def PtsOut (w : World) (k n m : Nat) (ra rb : List ER) (e : Ending) (w' : World) : Prop :=
  ∃ (A' : Option Addr) (n' c' : Nat) (rp : List ER), e = .returned (.slice A' n' c') ∧ EntsAt w' A' n' rp ∧ n' ≤ c' ∧ n' ≤ n + m ∧ SortR k rp ∧ (∀ r ∈ rp, r.n = k) ∧ (∀ p, (∃ r ∈ rp, r.p = p) ↔ (∃ r ∈ ra, r.p = p) ∨ (∃ r ∈ rb, r.p = p)) ∧ (∀ r ∈ rp, ∃ q ∈ ra ++ rb, q.A = r.A ∧ q.c = r.c ∧ q.p = r.p) ∧ Below w.heap.size w w'
set_option maxHeartbeats 8000000 in
set_option maxRecDepth 100000 in
theorem ref_points {w : World} {A B : Option Addr} {n m c d k : Nat} {ra rb : List ER} (hA : EntsAt w A n ra) (hnc : n ≤ c) (hS : SortR k ra) (hka : ∀ r ∈ ra, r.n = k) (hB : EntsAt w B m rb) (hkb : ∀ r ∈ rb, r.n = k) (hk : k ≤ 40) (hn : n ≤ 1000) (hm : m ≤ 1000) :
    Calls Tryz.prog 35 #[.slice A n c, .slice B m d] w (PtsOut w k n m ra rb) := by
  have HA := hide (And.intro hA (And.intro hnc (And.intro hS hka)))
  have HB := hide hB
  have HKB := hide hkb
  clear hA hnc hS hka hB hkb
  go_enter Tryz.func35, Tryz.ntmps35
  go_wp2
  go_loopw [0, 5] (fun x0 x5 wr => ∃ (j : Nat) (A' : Option Addr) (n' c' : Nat) (rp : List ER), x0 = .slice A' n' c' ∧ x5 = .int .i64 (j : Int) ∧ j ≤ m ∧ EntsAt wr A' n' rp ∧ n' ≤ c' ∧ n' ≤ n + j ∧ SortR k rp ∧ (∀ r ∈ rp, r.n = k) ∧ (∀ p, (∃ r ∈ rp, r.p = p) ↔ (∃ r ∈ ra, r.p = p) ∨ (∃ r ∈ rb.take j, r.p = p)) ∧ (∀ r ∈ rp, ∃ q ∈ ra ++ rb, q.A = r.A ∧ q.c = r.c ∧ q.p = r.p) ∧ Below w.heap.size w wr) (fun _ x5 _ => m - (intOf x5).toNat)
  case atStart => exact ⟨0, A, n, c, ra, rfl, rfl, Nat.zero_le _, HA.out.1, HA.out.2.1, Nat.le_refl _, HA.out.2.2.1, HA.out.2.2.2, fun p => by simp, fun r hr => ⟨r, List.mem_append_left _ hr, rfl, rfl, rfl⟩, Below.refl _ _⟩
  case round =>
    obtain ⟨j, A', n', c', rp, rfl, rfl, hj, hE, hnc', hnn, hS, hkk, hpt, hpp, hb⟩ := hrel
    have HPP := hide hpp
    clear hpp
    rename World => wz
    have HE := hide (And.intro hE (And.intro hnc' (And.intro hS hkk)))
    have HPT := hide hpt
    have HBL := hide hb
    by_cases hjm : j < m
    · obtain ⟨b, o, r, rfl, hbl, hr, hrok, x0, x1⟩ := (HB.out.below hb).at_ hjm
      have hrn := HKB.out r (List.mem_of_getElem? hr)
      obtain ⟨hp, hcc, hcm, _⟩ := hrok
      rw [hrn] at hp hcc x0
      have HR := hide hr
      have HZ := hide hp.zp
      have HPU := hide (show Calls Tryz.prog 30 #[.slice A' n' c', .slice r.A k r.c, .int .u64 0] wz fun e w' => ∃ A'' n'' c'', e = .returned (.slice A'' n'' c'') ∧ EntsAt w' A'' n'' (putR rp ⟨r.A, k, r.c, r.p, 0⟩) ∧ n'' ≤ c'' ∧ n'' ≤ n' + 1 ∧ Below wz.heap.size wz w' from ref_put A' r.A n' c' k r.c 0 rp r.p wz hE hnc' hkk hp hcc hcm hk (by omega) (by omega))
      clear hE hnc' hS hkk hpt hb hbl hr hp hcc hcm hrn x1
      go_wp2_with fail
      refine HPU.out.mono ?_
      rintro e w3 ⟨A3, n3, c3, rfl, hE3, hnc3, hn3, hb3⟩
      have HE3 := hide hE3
      have HN3 := hide hnc3
      have HB3 := hide (below_then HBL.out hb3)
      clear hE3 hnc3 hb3 HPU
      go_wp2
      go_roundw
      case rel =>
        obtain ⟨s1, s2⟩ := put_spec (q := ⟨r.A, k, r.c, r.p, 0⟩) HE.out.2.2.1 HZ.out
        refine ⟨j + 1, A3, n3, c3, _, rfl, by go_num, by omega, HE3.out, HN3.out, by omega, s1, fun q hq => ?_, fun p => ?_, fun q hq => ?_, HB3.out⟩
        · rcases (s2 q).1 hq with rfl | h
          · rfl
          · exact HE.out.2.2.2 q h.1
        · have ht : rb.take (j + 1) = rb.take j ++ [r] := by
            rw [List.take_add_one, HR.out]
            rfl
          rw [ht]
          constructor
          · rintro ⟨q, hq, rfl⟩
            rcases (s2 q).1 hq with rfl | h
            · exact .inr ⟨r, by simp, rfl⟩
            · rcases (HPT.out q.p).1 ⟨q, h.1, rfl⟩ with h | ⟨x, hx, hxp⟩
              · exact .inl h
              · exact .inr ⟨x, List.mem_append_left _ hx, hxp⟩
          · intro h
            by_cases hpr : r.p = p
            · subst hpr
              exact ⟨_, (s2 _).2 (.inl rfl), rfl⟩
            · have h2 : (∃ r ∈ ra, r.p = p) ∨ (∃ r ∈ rb.take j, r.p = p) := by
                rcases h with h | ⟨x, hx, hxp⟩
                · exact .inl h
                · rcases List.mem_append.1 hx with hx | hx
                  · exact .inr ⟨x, hx, hxp⟩
                  · rw [List.mem_singleton] at hx
                    subst hx
                    exact absurd hxp hpr
              obtain ⟨q, hq, hqp⟩ := (HPT.out p).2 h2
              exact ⟨q, (s2 q).2 (.inr ⟨hq, fun e => hpr (e.symm.trans hqp)⟩), hqp⟩
        · rcases (s2 q).1 hq with rfl | h
          · exact ⟨r, List.mem_append_right _ (List.mem_of_getElem? HR.out), rfl, rfl, rfl⟩
          · exact HPP.out q h.1
      case measure => simp [intOf]; omega
    · obtain rfl : j = m := by omega
      have HF := hide (show PtsOut w k n j ra rb (.returned (.slice A' n' c')) wz from by
        refine ⟨A', n', c', rp, rfl, HE.out.1, HE.out.2.1, hnn, HE.out.2.2.1, HE.out.2.2.2, fun p => ?_, HPP.out, HBL.out⟩
        have h := HPT.out p
        have hl : rb.take j = rb := List.take_of_length_le (by rw [HB.out.len]; omega)
        rw [hl] at h
        exact h)
      clear hE hnc' hS hkk hpt hb
      go_wp2
      go_ret
      exact HF.out
end Go.Proofs.YtghnpflaafdcdaaGreat
set_option linter.unusedSimpArgs false
set_option linter.unusedVariables false
namespace Go.Proofs.YtghnpflaafdcdaaGreat
open Go.RowKit
/-- A point's change in memory. -/
def chR (A : Option Addr) (k d : Nat) (ea eb : List Ent) (p : List Nat) : CR := ⟨A, k, d, p, (getE ea p).isSome, (getE eb p).isSome, (getE ea p).getD 0, (getE eb p).getD 0⟩
set_option maxHeartbeats 8000000 in
set_option maxRecDepth 100000 in
theorem ref_change {w : World} {A B P : Option Addr} {n m c d k pc : Nat} {ra rb : List ER} {p : List Nat} (hA : EntsAt w A n ra) (hS : SortR k ra) (hka : ∀ r ∈ ra, r.n = k) (hB : EntsAt w B m rb) (hSb : SortR k rb) (hkb : ∀ r ∈ rb, r.n = k) (hp : Pt w P k p) (hk : k ≤ 40) (hn : n ≤ 1000) (hm : m ≤ 1000) :
    Calls Tryz.prog 36 #[.slice A n c, .slice B m d, .slice P k pc] w fun e w' => e = .returned (.tuple #[.agg (chv (chR P k pc (ents ra) (ents rb) p)).toArray, .bool (decide (getE (ents ra) p ≠ getE (ents rb) p))]) ∧ Below w.heap.size w w' := by
  have hal := (Below.refl w.heap.size w).alloc (Nat.le_refl _) (.cells #[.slice none 0 0, .bool false, .bool false, .int .u64 0, .int .u64 0] 73)
  have hN := Blk.new w 73 #[.slice none 0 0, .bool false, .bool false, .int .u64 0, .int .u64 0]
  have HGA := hide (ref_get_e (d := pc) (c := c) (hA.below hal) hS hka (hp.below hal) hk (by omega))
  have HGB := hide (ref_get_e (d := pc) (c := d) (hB.below hal) hSb hkb (hp.below hal) hk (by omega))
  generalize hea : ents ra = ea at *
  generalize heb : ents rb = eb at *
  generalize hoa : getE ea p = oa at *
  generalize hob : getE eb p = ob at *
  have e4 := Blk.new w 73 #[.slice P k pc, .bool oa.isSome, .bool ob.isSome, .int .u64 ((oa.getD 0 : Nat) : Int), .int .u64 ((ob.getD 0 : Nat) : Int)]
  have b4 := (Below.refl w.heap.size w).alloc (Nat.le_refl _) (.cells #[.slice P k pc, .bool oa.isSome, .bool ob.isSome, .int .u64 ((oa.getD 0 : Nat) : Int), .int .u64 ((ob.getD 0 : Nat) : Int)] 73)
  have g0 := e4.cell 0
  have g1 := e4.cell 1
  have g2 := e4.cell 2
  have g3 := e4.cell 3
  have g4 := e4.cell 4
  simp at g0 g1 g2 g3 g4
  have HB4 := hide b4
  have HV := hide (show chv (chR P k pc ea eb p) = [.slice P k pc, .bool oa.isSome, .bool ob.isSome, .int .u64 ((oa.getD 0 : Nat) : Int), .int .u64 ((ob.getD 0 : Nat) : Int)] from by
    unfold chv chR
    simp only [hoa, hob])
  clear hA hS hka hB hSb hkb hp hN hal e4 b4 hea heb hoa hob
  rw [HV.out]
  cases oa with
  | none =>
    cases ob with
    | none =>
      simp only [Option.isSome_none, Option.isSome_some, Option.getD_none, Option.getD_some, Int.natCast_zero, Int.cast_ofNat_Int] at *
      go_enter Tryz.func36, Tryz.ntmps36
      go_wp2_with fail
      refine HGA.out.mono ?_
      rintro e w1 ⟨rfl, rfl⟩
      go_wp2_with fail
      refine HGB.out.mono ?_
      rintro e w1 ⟨rfl, rfl⟩
      go_wp2
      (try simp only [Exit.inBlock, Exit.then])
      refine bodyPost_ret (v := .tuple #[.agg #[.slice P k pc, .bool false, .bool false, .int .u64 0, .int .u64 0], .bool false]) (by simp [results, Tryz.results36, go_sem, g0, g1, g2, g3, g4]) rfl ⟨?_, HB4.out⟩
      rfl
    | some y =>
      simp only [Option.isSome_none, Option.isSome_some, Option.getD_none, Option.getD_some, Int.natCast_zero, Int.cast_ofNat_Int] at *
      go_enter Tryz.func36, Tryz.ntmps36
      go_wp2_with fail
      refine HGA.out.mono ?_
      rintro e w1 ⟨rfl, rfl⟩
      go_wp2_with fail
      refine HGB.out.mono ?_
      rintro e w1 ⟨rfl, rfl⟩
      go_wp2
      (try simp only [Exit.inBlock, Exit.then])
      refine bodyPost_ret (v := .tuple #[.agg #[.slice P k pc, .bool false, .bool true, .int .u64 0, .int .u64 ((y : Nat) : Int)], .bool true]) (by simp [results, Tryz.results36, go_sem, g0, g1, g2, g3, g4]) rfl ⟨?_, HB4.out⟩
      rfl
  | some x =>
    cases ob with
    | none =>
      simp only [Option.isSome_none, Option.isSome_some, Option.getD_none, Option.getD_some, Int.natCast_zero, Int.cast_ofNat_Int] at *
      go_enter Tryz.func36, Tryz.ntmps36
      go_wp2_with fail
      refine HGA.out.mono ?_
      rintro e w1 ⟨rfl, rfl⟩
      go_wp2_with fail
      refine HGB.out.mono ?_
      rintro e w1 ⟨rfl, rfl⟩
      go_wp2
      (try simp only [Exit.inBlock, Exit.then])
      refine bodyPost_ret (v := .tuple #[.agg #[.slice P k pc, .bool true, .bool false, .int .u64 ((x : Nat) : Int), .int .u64 0], .bool true]) (by simp [results, Tryz.results36, go_sem, g0, g1, g2, g3, g4]) rfl ⟨?_, HB4.out⟩
      rfl
    | some y =>
      simp only [Option.isSome_none, Option.isSome_some, Option.getD_none, Option.getD_some, Int.natCast_zero, Int.cast_ofNat_Int] at *
      by_cases hxy : x = y
      · have f1 : ((x : Int) != (y : Int)) = false := by simp; omega
        have HR := hide (show decide (some x ≠ some y) = false by simp [hxy])
        clear hxy
        go_enter Tryz.func36, Tryz.ntmps36
        go_wp2_with fail
        refine HGA.out.mono ?_
        rintro e w1 ⟨rfl, rfl⟩
        go_wp2_with fail
        refine HGB.out.mono ?_
        rintro e w1 ⟨rfl, rfl⟩
        go_wp2
        (try simp only [Exit.inBlock, Exit.then])
        refine bodyPost_ret (v := .tuple #[.agg #[.slice P k pc, .bool true, .bool true, .int .u64 ((x : Nat) : Int), .int .u64 ((y : Nat) : Int)], .bool false]) (by simp [results, Tryz.results36, go_sem, g0, g1, g2, g3, g4]) rfl ⟨?_, HB4.out⟩
        rw [HR.out]
      · have f1 : ((x : Int) != (y : Int)) = true := by simp; omega
        have HR := hide (show decide (some x ≠ some y) = true by simp [hxy])
        clear hxy
        go_enter Tryz.func36, Tryz.ntmps36
        go_wp2_with fail
        refine HGA.out.mono ?_
        rintro e w1 ⟨rfl, rfl⟩
        go_wp2_with fail
        refine HGB.out.mono ?_
        rintro e w1 ⟨rfl, rfl⟩
        go_wp2
        (try simp only [Exit.inBlock, Exit.then])
        refine bodyPost_ret (v := .tuple #[.agg #[.slice P k pc, .bool true, .bool true, .int .u64 ((x : Nat) : Int), .int .u64 ((y : Nat) : Int)], .bool true]) (by simp [results, Tryz.results36, go_sem, g0, g1, g2, g3, g4]) rfl ⟨?_, HB4.out⟩
        rw [HR.out]
end Go.Proofs.YtghnpflaafdcdaaGreat
set_option linter.unusedSimpArgs false
set_option linter.unusedVariables false
namespace Go.Proofs.YtghnpflaafdcdaaGreat
open Go.RowKit
/-- What the reference's Changes gives. -/
def RcOut (w : World) (k : Nat) (ea eb : List Ent) (e : Ending) (w' : World) : Prop :=
  ∃ (A : Option Addr) (c : Nat) (rows : List CR), e = .returned (.slice A rows.length c) ∧ Chgs ea eb (ces rows) ∧ ChgsAt w' A rows.length rows ∧ rows.length ≤ 2000 ∧ (∀ r ∈ rows, r.n = k) ∧ Below w.heap.size w w'
theorem take_snocC {l : List ER} {j : Nat} {r : ER} (h : l[j]? = some r) : l.take (j + 1) = l.take j ++ [r] := by
  rw [List.take_add_one, h]
  rfl
theorem filterMap_snocC {α β : Type} (f : α → Option β) (l : List α) (x : α) : (l ++ [x]).filterMap f = l.filterMap f ++ (f x).toList := by
  rw [List.filterMap_append]
  rfl
theorem getE_ltC {A : List Ent} (h : ∀ x ∈ A, x.2 < 2 ^ 64) (p : List Nat) : (getE A p).getD 0 < 2 ^ 64 := by
  cases hg : getE A p with
  | none => exact Nat.two_pow_pos 64
  | some v => exact h (p, v) (getE_mem hg)
def chgR (ea eb : List Ent) (r : ER) : Option CE := chgP ea eb r.p
theorem chv_1 (q : CR) : ∀ u ∈ chv q, u.oneCell' = true := by
  intro u hu
  simp only [chv, List.mem_cons, List.not_mem_nil, or_false] at hu
  rcases hu with rfl | rfl | rfl | rfl | rfl <;> rfl
theorem new1c (w3 : World) (q : CR) : Rw ((w3.alloc (.cells #[.slice q.A q.n q.c, .bool q.had, .bool q.has, .int .u64 (q.old : Int), .int .u64 (q.new : Int)] 73)).alloc (.cells #[.slice q.A q.n q.c, .bool q.had, .bool q.has, .int .u64 (q.old : Int), .int .u64 (q.new : Int)] 73)) 5 (some ⟨w3.heap.size + 1, 0, none⟩) 1 (chv q) := by
  have := Rw.new1 (w3.alloc (.cells #[.slice q.A q.n q.c, .bool q.had, .bool q.has, .int .u64 (q.old : Int), .int .u64 (q.new : Int)] 73)) 73 #[.slice q.A q.n q.c, .bool q.had, .bool q.has, .int .u64 (q.old : Int), .int .u64 (q.new : Int)] (sz := 5) rfl
  simp at this
  exact this
set_option maxHeartbeats 8000000 in
set_option maxRecDepth 100000 in
theorem ref_changes {w : World} {A B : Option Addr} {n m c d k : Nat} {ra rb : List ER} (hA : EntsAt w A n ra) (hnc : n ≤ c) (hS : SortR k ra) (hka : ∀ r ∈ ra, r.n = k) (hB : EntsAt w B m rb) (hSb : SortR k rb) (hkb : ∀ r ∈ rb, r.n = k) (hk : k ≤ 40) (hn : n ≤ 1000) (hm : m ≤ 1000) :
    Calls Tryz.prog 20 #[.slice A n c, .slice B m d] w (RcOut w k (ents ra) (ents rb)) := by
  have hal := (Below.refl w.heap.size w).alloc (Nat.le_refl _) (.cells #[] 73)
  have HAL := hide hal
  have HE0' := hide (Blk.new w 73 #[])
  have HOW := hide (own_empty w 73 5)
  have HP := hide (ref_points (c := c) (d := d) (hA.below hal) hnc hS hka (hB.below hal) hkb hk hn hm)
  have HCH := hide (fun W (hW : Below w.heap.size w W) P pc p (hp : Pt W P k p) => ref_change (c := c) (d := d) (pc := pc) (P := P) (p := p) (hA.below hW) hS hka (hB.below hW) hSb hkb hp hk hn hm)
  have HPW := hide (show ∀ q ∈ ra ++ rb, Pt w q.A k q.p ∧ k ≤ q.c ∧ q.c ≤ maxLen from fun q hq => by
    rcases List.mem_append.1 hq with hq | hq
    · obtain ⟨g1, g2, g3, _⟩ := hA.2 q hq
      rw [hka q hq] at g1 g2
      exact ⟨g1, g2, g3⟩
    · obtain ⟨g1, g2, g3, _⟩ := hB.2 q hq
      rw [hkb q hq] at g1 g2
      exact ⟨g1, g2, g3⟩)
  have HVA := hide (show (∀ x ∈ ents ra, x.2 < 2 ^ 64) ∧ (∀ x ∈ ents rb, x.2 < 2 ^ 64) from ⟨fun x hx => by
    obtain ⟨r, hr, rfl⟩ := ents_mem_iff.1 hx
    exact (hA.2 r hr).2.2.2, fun x hx => by
    obtain ⟨r, hr, rfl⟩ := ents_mem_iff.1 hx
    exact (hB.2 r hr).2.2.2⟩)
  generalize hea : ents ra = ea at *
  generalize heb : ents rb = eb at *
  have HEA := hide hea
  have HEB := hide heb
  clear hA hnc hS hka hB hSb hkb hal hea heb
  go_enter Tryz.func20, Tryz.ntmps20
  go_wp2_with fail
  refine HP.out.mono ?_
  rintro e w2 ⟨A2, n2, c2, rp, rfl, hE2, hnc2, hn2, hS2, hkk2, hpt2, hpp2, hb2⟩
  have HRW2 := hide hE2.1
  have HLN2 := hide hE2.len
  have hpw2 : ∀ q ∈ rp, Pt w q.A k q.p ∧ k ≤ q.c ∧ q.c ≤ maxLen := fun q hq => by
    obtain ⟨x, hx, e1, e2, e3⟩ := hpp2 q hq
    have := HPW.out x hx
    rw [e1, e2, e3] at this
    exact this
  have HR2 := hide (And.intro hS2 (And.intro hkk2 (And.intro hpt2 hpw2)))
  have HB2 := hide (below_then HAL.out hb2)
  have HE0 := hide (HE0'.out.below hb2)
  have HOW2 := hide (own_below HOW.out hb2)
  have hn2b : n2 ≤ 2000 := by omega
  clear hE2 hnc2 hS2 hkk2 hpt2 hpp2 hpw2 hb2 HP HE0' HOW
  go_wp2
  go_loopw [5, 7] (fun x5 x7 wr => ∃ (j : Nat) (A5 : Option Addr) (c5 : Nat) (rows : List CR), x5 = .slice A5 rows.length c5 ∧ x7 = .int .i64 (j : Int) ∧ j ≤ n2 ∧ rows.length ≤ j ∧ wr.ownsRow w.heap.size 73 5 (.slice A5 rows.length c5) rows.length (rows.flatMap chv) ∧ NewB w.heap.size w2.heap.size (.slice A5 rows.length c5) ∧ (∀ x ∈ rows, x.ok w ∧ x.n = k) ∧ ces rows = (rp.take j).filterMap (chgR ea eb) ∧ Rw wr 2 A2 n2 (rp.flatMap entv) ∧ w2.heap.size ≤ wr.heap.size ∧ Below w.heap.size w wr) (fun _ x7 _ => n2 - (intOf x7).toNat)
  case atStart => exact ⟨0, _, 0, [], rfl, rfl, Nat.zero_le _, Nat.zero_le _, HOW2.out, fun g hg => .inl (by simpa [Value.ownBlock] using hg.symm), fun x hx => (by cases hx), rfl, HRW2.out, Nat.le_refl _, HB2.out⟩
  case round =>
    obtain ⟨j, A5, c5, rows, rfl, rfl, hj, hrl, ho, hnb, hrows, hce, hrw, hw2, hb⟩ := hrel
    rename World => wz
    have HO := hide ho
    have HNB := hide hnb
    have HROWS := hide hrows
    have HCE := hide hce
    have HRW := hide hrw
    have HW2 := hide hw2
    have HBz := hide hb
    by_cases hjn : j < n2
    · obtain ⟨b, o, r, rfl, hbl, hr, hc⟩ := hrw.elem entv_len hjn (by omega)
      have x0 : wz.cell? ⟨b, o + j * 2, none⟩ = some (.slice r.A r.n r.c) := hc 0 _ rfl
      have hrm := List.mem_of_getElem? hr
      have hrn := HR2.out.2.1 r hrm
      rw [hrn] at x0
      have HR := hide hr
      have hrp := HR2.out.2.2.2 r hrm
      have hch := HCH.out wz hb r.A r.c r.p (hrp.1.below hb)
      obtain ⟨q, hq⟩ : ∃ q, q = chR r.A k r.c ea eb r.p := ⟨_, rfl⟩
      rw [← hq] at hch
      have hqce : q.ce = chgAt ea eb r.p := by rw [hq]; rfl
      have hqo : q.ok w ∧ q.n = k := by rw [hq]; exact ⟨⟨hrp.1, hrp.2.1, hrp.2.2, getE_ltC HVA.out.1 _, getE_ltC HVA.out.2 _⟩, rfl⟩
      have HQ := hide (And.intro hqce hqo)
      clear hbl hr hc hrm hrn hrp ho hnb hrows hce hrw hb hw2 hq hqce hqo
      by_cases hd : getE ea r.p = getE eb r.p
      · rw [show decide (getE ea r.p ≠ getE eb r.p) = false by simp [hd]] at hch
        have HC := hide (show Calls Tryz.prog 36 #[.slice A n c, .slice B m d, .slice r.A k r.c] wz fun e w' => e = .returned (.tuple #[.agg #[.slice q.A q.n q.c, .bool q.had, .bool q.has, .int .u64 (q.old : Int), .int .u64 (q.new : Int)], .bool false]) ∧ Below wz.heap.size wz w' from hch)
        have HN := hide (show chgR ea eb r = none by unfold chgR chgP; rw [if_pos hd])
        clear hch hd
        go_wp2_with fail
        refine HC.out.mono ?_
        rintro e w3 ⟨rfl, hb3⟩
        have hb4 := below_then hb3 ((Below.refl w3.heap.size w3).alloc (Nat.le_refl _) (.cells #[.slice q.A q.n q.c, .bool q.had, .bool q.has, .int .u64 (q.old : Int), .int .u64 (q.new : Int)] 73))
        have HO4 := hide (own_below HO.out hb4)
        have HRW4 := hide (HRW.out.below hb4)
        have HB4 := hide (below_then HBz.out hb4)
        have HW4 := hide (Nat.le_trans HW2.out hb4.size)
        clear hb3 hb4 HC
        go_wp2
        go_roundw
        case rel => exact ⟨j + 1, A5, c5, rows, rfl, by go_num, by omega, by omega, HO4.out, HNB.out, HROWS.out, by rw [take_snocC HR.out, filterMap_snocC, HN.out, HCE.out]; simp, HRW4.out, HW4.out, HB4.out⟩
        case measure => simp [intOf]; omega
      · rw [show decide (getE ea r.p ≠ getE eb r.p) = true by simp [hd]] at hch
        have HC := hide (show Calls Tryz.prog 36 #[.slice A n c, .slice B m d, .slice r.A k r.c] wz fun e w' => e = .returned (.tuple #[.agg #[.slice q.A q.n q.c, .bool q.had, .bool q.has, .int .u64 (q.old : Int), .int .u64 (q.new : Int)], .bool true]) ∧ Below wz.heap.size wz w' from hch)
        have HN := hide (show chgR ea eb r = some q.ce by unfold chgR chgP; rw [if_neg hd, HQ.out.1])
        clear hch hd
        go_wp2_with fail
        refine HC.out.mono ?_
        rintro e w3 ⟨rfl, hb3⟩
        have hal4 := (Below.refl w3.heap.size w3).alloc (Nat.le_refl _) (.cells #[.slice q.A q.n q.c, .bool q.had, .bool q.has, .int .u64 (q.old : Int), .int .u64 (q.new : Int)] 73)
        have hal5 := below_alloc hal4 (Nat.le_refl _) (.cells #[.slice q.A q.n q.c, .bool q.had, .bool q.has, .int .u64 (q.old : Int), .int .u64 (q.new : Int)] 73)
        have hb5 := below_then hb3 hal5
        have HO5 := hide (own_below HO.out hb5)
        have HRW5 := hide (HRW.out.below hb5)
        have HB5 := hide (below_then HBz.out hb5)
        have HW5 := hide (Nat.le_trans HW2.out hb5.size)
        clear hb3 hal4 hal5 hb5 HC
        go_wp2_with (first
          | (at_builtin
             refine app_bn _ rfl (.tmp 32) (.tmp 34) _ rfl w.heap.size 73 _ 5 48 Tryz.underlying50 info_c rfl (by omega) _ rows.length _ rfl HO5.out (some ⟨w3.heap.size + 1, 0, none⟩) 1 1 (chv q) rfl w HB5.out (Nat.le_refl _) (new1c w3 q) (chv_1 q) (by unfold maxLen; omega) (by omega) ?_
             intro v6 w6 ho6 hb6 hg6 hv6
             obtain ⟨A6, c6, rfl, -, -⟩ := Rw.of_own ho6
             have HG6 := hide hg6
             have HV6 := hide hv6
             have HO6 := hide ho6
             have HB6 := hide hb6
             clear ho6 hb6 hg6 hv6)
          | fail)
        go_wp2
        go_roundw
        case rel =>
          refine ⟨j + 1, A6, c6, rows ++ [q], by simp, by go_num, by omega, by simp; omega, by simpa using HO6.out, by have := HNB.out.step HV6.out HW5.out; simpa using this, fun x hx => ?_, ?_, rw_beside (w1 := w) HRW5.out HRW2.out (by omega) HNB.out HG6.out HE0.out, Nat.le_trans HW5.out HG6.out.size, HB6.out⟩
          · rcases List.mem_append.1 hx with hx | hx
            · exact HROWS.out x hx
            · rw [List.mem_singleton] at hx
              subst hx
              exact HQ.out.2
          · rw [take_snocC HR.out, filterMap_snocC, HN.out, ces_append, HCE.out]
            rfl
        case measure => simp [intOf]; omega
    · obtain rfl : j = n2 := by omega
      have HF := hide (show RcOut w k ea eb (.returned (.slice A5 rows.length c5)) wz from by
        refine ⟨A5, c5, rows, rfl, ?_, ChgsAt.of_own HO.out (fun r hr => (HROWS.out r hr).1.below hb), by omega, fun r hr => (HROWS.out r hr).2, HBz.out⟩
        have hl : rp.take j = rp := List.take_of_length_le (by rw [HLN2.out]; omega)
        rw [HCE.out, hl]
        have h := chgs_pts (A := ea) (B := eb) (P := rp.map ER.p) ?_ ?_
        · rw [List.filterMap_map] at h
          exact h
        · rw [List.pairwise_map]
          exact HR2.out.1.2
        · intro p hp
          rw [List.mem_map]
          refine (HR2.out.2.2.1 p).2 ?_
          rcases ne_some hp with h | h
          · obtain ⟨v, hv⟩ := Option.ne_none_iff_exists'.1 h
            have := getE_mem hv
            rw [← HEA.out] at this
            obtain ⟨r, hr, hre⟩ := ents_mem_iff.1 this
            exact .inl ⟨r, hr, congrArg Prod.fst hre⟩
          · obtain ⟨v, hv⟩ := Option.ne_none_iff_exists'.1 h
            have := getE_mem hv
            rw [← HEB.out] at this
            obtain ⟨r, hr, hre⟩ := ents_mem_iff.1 this
            exact .inr ⟨r, hr, congrArg Prod.fst hre⟩)
      clear ho hnb hrows hce hrw hb
      go_wp2
      go_ret
      exact HF.out
end Go.Proofs.YtghnpflaafdcdaaGreat
