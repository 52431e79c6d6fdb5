/- The document's slots (chapter 5): Put. -/
import Derived.Test.YtkknfnjojamgjaaRefB
set_option linter.unusedSimpArgs false
set_option linter.unusedVariables false
namespace Go.Proofs.Ytkknfnjojamgjaa
open Go.RowKit
theorem stands_ins {k : Nat} {L : Th} {a : Nat} {i : Nat} {b : Bool} {x : Value} (hO : OkTh k L) (h : Stands (L.filter fun t => decide ((t.1 : Int) ≠ (a : Int))) (a : Int) i b) :
    insTh L a x = (L.filter fun t => decide ((t.1 : Int) ≠ (a : Int))).take i ++ [(a, x)] ++ (L.filter fun t => decide ((t.1 : Int) ≠ (a : Int))).drop i := by
  have hne : ∀ t ∈ (L.filter fun t => decide ((t.1 : Int) ≠ (a : Int))), t.1 ≠ a := by
    intro t ht
    have := (List.mem_filter.1 ht).2
    simp only [decide_eq_true_eq] at this
    omega
  have e1 : L.filter (fun t => decide (t.1 < a)) = ((L.filter fun t => decide ((t.1 : Int) ≠ (a : Int))).filter (fun t => decide (t.1 < a))) := by
    rw [List.filter_filter]
    apply List.filter_congr
    intro t _
    rw [Bool.eq_iff_iff]
    simp
    omega
  have e2 : L.filter (fun t => decide (a < t.1)) = ((L.filter fun t => decide ((t.1 : Int) ≠ (a : Int))).filter (fun t => decide (a < t.1))) := by
    rw [List.filter_filter]
    apply List.filter_congr
    intro t _
    rw [Bool.eq_iff_iff]
    simp
    omega
  unfold insTh
  rw [e1, e2]
  generalize (L.filter fun t => decide ((t.1 : Int) ≠ (a : Int))) = M at *
  have f1 : M.filter (fun t => decide (t.1 < a)) = M.take i := by
    conv => lhs; rw [← List.take_append_drop i M]
    rw [List.filter_append]
    have g1 : (M.take i).filter (fun t => decide (t.1 < a)) = M.take i := by
      rw [List.filter_eq_self]
      intro t ht
      obtain ⟨j, hj, ht⟩ := mem_take_idx ht
      have := h.2.1 j t ht hj
      simp only [decide_eq_true_eq]
      omega
    have g2 : (M.drop i).filter (fun t => decide (t.1 < a)) = [] := by
      rw [List.filter_eq_nil_iff]
      intro t ht
      obtain ⟨j, hj, ht⟩ := mem_drop_idx ht
      have := h.2.2.1 j t ht hj
      simp only [decide_eq_true_eq]
      omega
    rw [g1, g2, List.append_nil]
  have f2 : M.filter (fun t => decide (a < t.1)) = M.drop i := by
    conv => lhs; rw [← List.take_append_drop i M]
    rw [List.filter_append]
    have g1 : (M.take i).filter (fun t => decide (a < t.1)) = [] := by
      rw [List.filter_eq_nil_iff]
      intro t ht
      obtain ⟨j, hj, ht⟩ := mem_take_idx ht
      have := h.2.1 j t ht hj
      simp only [decide_eq_true_eq]
      omega
    have g2 : (M.drop i).filter (fun t => decide (a < t.1)) = M.drop i := by
      rw [List.filter_eq_self]
      intro t ht
      have hn := hne t (List.mem_of_mem_drop ht)
      obtain ⟨j, hj, ht⟩ := mem_drop_idx ht
      have := h.2.2.1 j t ht hj
      simp only [decide_eq_true_eq]
      omega
    rw [g1, g2, List.nil_append]
  rw [f1, f2]
theorem put_end {k a i : Nat} {b : Bool} {y : Int} {L M : Th} {w : World} {n3 n5 : Nat} {F1 F2 : Option Addr} {f1 f2 : Nat} (hk : k ≤ 16) (hO : OkTh k L) (hX : ∀ t ∈ L, ∃ x, t.2 = Value.int .u64 x) (hO1 : OkTh k M) (hX1 : ∀ t ∈ M, ∃ x, t.2 = Value.int .u64 x)
    (hM : (L.filter fun t => decide ((t.1 : Int) ≠ (a : Int))) = M) (hS : Stands M (a : Int) i b) (ha : a < 2 ^ k)
    (oA : w.ownsRow n3 3 1 (.slice F1 (M.length + 1) f1) (M.length + 1) ([] ++ (M.map fun t => Value.int .i64 (t.1 : Int)).take (i * 1) ++ [.int .i64 (a : Int)] ++ (M.map fun t => Value.int .i64 (t.1 : Int)).drop (i * 1)))
    (oB : w.ownsRow n5 28 1 (.slice F2 (M.length + 1) f2) (M.length + 1) ([] ++ (M.map fun t => t.2).take (i * 1) ++ [.int .u64 y] ++ (M.map fun t => t.2).drop (i * 1))) :
    RefAt w (.agg #[.int .i64 (k : Nat), .slice F1 (M.length + 1) f1, .slice F2 (M.length + 1) f2]) k (insTh L a (.int .u64 y)) := by
  subst hM
  have e := stands_ins (x := .int .u64 y) hO hS
  have hi := hS.1
  have hL : (insTh L a (.int .u64 y)).length = (L.filter fun t => decide ((t.1 : Int) ≠ (a : Int))).length + 1 := by
    rw [e]
    simp only [List.length_append, List.length_take, List.length_drop, List.length_singleton]
    omega
  obtain ⟨qA, rA⟩ := own_rw oA
  obtain ⟨qB, rB⟩ := own_rw oB
  refine ⟨F1, f1, F2, f2, by rw [hL], hk, insTh_ok _ hO ha, ?_, by rw [hL]; exact qA, by rw [hL]; exact qB, ?_, ?_, by rw [hL]; exact own_ty oA, by rw [hL]; exact own_ty oB⟩
  · intro t ht
    rw [e] at ht
    simp only [List.mem_append, List.mem_singleton] at ht
    rcases ht with (ht | rfl) | ht
    · exact hX1 t (List.mem_of_mem_take ht)
    · exact ⟨_, rfl⟩
    · exact hX1 t (List.mem_of_mem_drop ht)
  · rw [hL, e]
    simpa using rA
  · rw [hL, e]
    simpa using rB
set_option maxHeartbeats 2000000 in
set_option maxRecDepth 100000 in
theorem r5_put (v : Value) (k : Nat) (L : Th) (a : Nat) (y : Int) (w : World) (h : RefAt w v k L) (ha : a < 2 ^ k) :
    Calls Try.prog 22 #[v, .int .i64 (a : Int), .int .u64 y] w fun e w' => ∃ v', e = .returned v' ∧ RefAt w' v' k (insTh L a (.int .u64 y)) ∧ Below w.heap.size w w' := by
  have H := hide h
  obtain ⟨A, c, B, d, rfl, hk, hO, hX, hlc, hld, -⟩ := h
  have b0 := below_alloc (below_alloc (Below.refl w.heap.size w) (Nat.le_refl _) (.cells #[.int .i64 (k : Nat), .slice A L.length c, .slice B L.length d] 32)) (Nat.le_refl _) (.cells #[.int .i64 0, .slice none 0 0, .slice none 0 0] 32)
  have B0 := (Blk.new w 32 #[.int .i64 (k : Nat), .slice A L.length c, .slice B L.length d]).alloc (.cells #[.int .i64 0, .slice none 0 0, .slice none 0 0] 32)
  have C := hide (r5_del _ _ _ (a : Int) _ (H.out.below b0))
  have hl := hide hO
  clear hO H
  go_enter Try.func22, Try.ntmps22
  go_wp2_with fail
  refine C.out.mono ?_
  rintro e w1 ⟨v1, rfl, hR, hb1⟩
  have b1 := below_then b0 hb1
  have B1 := B0.below hb1
  have B2 := (Blk.new (w.alloc (.cells #[.int .i64 (k : Nat), .slice A L.length c, .slice B L.length d] 32)) 32 #[.int .i64 0, .slice none 0 0, .slice none 0 0]).below hb1
  have hsz : (w.alloc (.cells #[.int .i64 (k : Nat), .slice A L.length c, .slice B L.length d] 32)).heap.size = w.heap.size + 1 := by simp
  rw [hsz] at B2
  have hw1 : w.heap.size + 2 ≤ w1.heap.size := by have := hb1.size; simp at this; omega
  clear hb1 hsz C B0 b0
  generalize hM : (L.filter fun t => decide ((t.1 : Int) ≠ (a : Int))) = M at *
  have HM := hide hM
  have H1 := hide hR
  obtain ⟨A1, c1, D1, d1, rfl, -, hO1, hX1, hlc1, hld1, hA1, hD1, -⟩ := hR
  have c0 := B1.cell 0
  have c1' := B1.cell 1
  have c2 := B1.cell 2
  have f0 := B1.frozen 0
  have f1 := B1.frozen 1
  have f2 := B1.frozen 2
  simp at c0 c1' c2
  clear hM
  have hl1 := hide hO1
  clear hO1
  go_wp2_with fail
  have H2 := H1.out.set3 B1 (x := .int .i64 (k : Nat)) (y := .slice A1 M.length c1) (z := .slice D1 M.length d1)
  have E2 := B1.set3 (x := .int .i64 (k : Nat)) (y := .slice A1 M.length c1) (z := .slice D1 M.length d1)
  have R2 : Blk (((w1.setCell ⟨w.heap.size, 0, none⟩ (.int .i64 (k : Nat))).setCell ⟨w.heap.size, 1, none⟩ (.slice A1 M.length c1)).setCell ⟨w.heap.size, 2, none⟩ (.slice D1 M.length d1)) (w.heap.size + 1) 32 #[.int .i64 0, .slice none 0 0, .slice none 0 0] := ((B2.set_ _ _ _ (by omega)).set_ _ _ _ (by omega)).set_ _ _ _ (by omega)
  have b2 := below_set3 b1 (show w.heap.size ≤ w.heap.size by omega) (x := .int .i64 (k : Nat)) (y := .slice A1 M.length c1) (z := .slice D1 M.length d1)
  have hw2 : w.heap.size + 2 ≤ (((w1.setCell ⟨w.heap.size, 0, none⟩ (.int .i64 (k : Nat))).setCell ⟨w.heap.size, 1, none⟩ (.slice A1 M.length c1)).setCell ⟨w.heap.size, 2, none⟩ (.slice D1 M.length d1)).heap.size := by simpa [World.setCell] using hw1
  clear B1 B2 b1 c0 c1' c2 f0 f1 f2 hA1 hD1 H1 hw1
  generalize ((w1.setCell ⟨w.heap.size, 0, none⟩ (.int .i64 (k : Nat))).setCell ⟨w.heap.size, 1, none⟩ (.slice A1 M.length c1)).setCell ⟨w.heap.size, 2, none⟩ (.slice D1 M.length d1) = w2 at *
  refine (r5_place _ _ _ _ _ H2).mono ?_
  rintro e w3 ⟨i, b, rfl, hS, hb3⟩
  have b3 := below_then b2 hb3
  have E3 := E2.below hb3
  have R3 := R2.below hb3
  have H3 := H2.below hb3
  have hw3 := Nat.le_trans hw2 hb3.size
  clear hb3 H2 E2 R2 b2
  obtain ⟨A2, c4, D2, d4, hv4, -, -, -, -, -, hA2, hD2, -⟩ := H3
  have hl16 : M.length ≤ 65536 := by have := len_le_of_ok hl1.out; have := pow16 hk; omega
  have HS := hide hS
  have hiM : i ≤ M.length := hS.1
  clear hS
  injection hv4 with hv4
  simp at hv4
  obtain ⟨⟨rfl, rfl⟩, rfl, rfl⟩ := hv4
  have c0 := E3.cell 0
  have c1' := E3.cell 1
  have c2 := E3.cell 2
  simp at c0 c1' c2
  have r1 := fun W => run_slice_to (P := Try.prog) (w := W) Try.underlying29 (sz := 1) (fun _ => rfl) A1 M.length c1 i (by omega)
  have r2 := fun W => run_slice_lo (P := Try.prog) (w := W) Try.underlying29 (sz := 1) (fun _ => rfl) A1 M.length c1 i (by omega)
  have r3 := fun W => run_slice_to (P := Try.prog) (w := W) Try.underlying30 (sz := 1) (fun _ => rfl) D1 M.length d1 i (by omega)
  have r4 := fun W => run_slice_lo (P := Try.prog) (w := W) Try.underlying30 (sz := 1) (fun _ => rfl) D1 M.length d1 i (by omega)
  have bA := (Below.refl w3.heap.size w3).alloc (Nat.le_refl _) (.cells #[] 3)
  have a1 := Blk.alloc_cell (o := .cells #[] 3) c1'
  have Hr3 := hide r3
  have Hr4 := hide r4
  have Hr2 := hide r2
  clear r2 r3 r4
  go_wp2_with (first
    | (at_builtin
       refine app_b _ rfl (.tmp 20) (.tmp 24) _ rfl w3.heap.size 3 _ 1 8 Try.underlying29 info_i rfl (by omega) _ 0 [] rfl (own_empty _ _ _) A1 i c1 ((M.map fun t => .int .i64 (t.1 : Int)).take (i * 1)) rfl w3 bA (Nat.le_refl _) ((hA2.below bA).take_ hiM) ?h2 (by unfold maxLen; omega) (by omega) ?_
       case h2 =>
         intro u hu
         exact one_ints M u (List.mem_of_mem_take hu)
       intro v4 w4 ho4 hb4 _)
    | (at_builtin
       refine app_b _ rfl (.tmp 25) (.tmp 27) _ rfl w3.heap.size 3 _ 1 8 Try.underlying29 info_i rfl (by omega) _ (0 + i) _ rfl (ho4.alloc _) (some ⟨w4.heap.size, 0, none⟩) 1 1 [.int .i64 (a : Int)] rfl w3 (below_alloc hb4 (Nat.le_refl _) _) (Nat.le_refl _) (Rw.new1 w4 3 #[.int .i64 (a : Int)] rfl) ?h2 (by unfold maxLen; omega) (by omega) ?_
       case h2 =>
         intro u hu
         rw [List.mem_singleton] at hu
         rw [hu]
         rfl
       intro v5 w5 ho5 hb5 _
       have B5 := E3.below hb5
       have R5 := R3.below hb5
       have k2 := B5.cell 2
       simp at k2
       have bD := (Below.refl w5.heap.size w5).alloc (Nat.le_refl _) (.cells #[] 28)
       have a2 := Blk.alloc_cell (o := .cells #[] 28) k2
       have HO5 := hide ho5
       have r3 := Hr3.out
       clear ho4 hb4 a1 c1' c2 ho5)
    | (at_builtin
       refine app_b _ rfl (.tmp 29) (.tmp 33) _ rfl w5.heap.size 28 _ 1 8 Try.underlying30 info_u rfl (by omega) _ 0 [] rfl (own_empty _ _ _) D1 i d1 ((M.map fun t => t.2).take (i * 1)) rfl w5 bD (Nat.le_refl _) (((hD2.below hb5).below bD).take_ hiM) ?h2 (by unfold maxLen; omega) (by omega) ?_
       case h2 =>
         intro u hu
         exact one_xs hX1 u (List.mem_of_mem_take hu)
       intro v6 w6 ho6 hb6 _)
    | (at_builtin
       refine app_b _ rfl (.tmp 34) (.tmp 36) _ rfl w5.heap.size 28 _ 1 8 Try.underlying30 info_u rfl (by omega) _ (0 + i) _ rfl (ho6.alloc _) (some ⟨w6.heap.size, 0, none⟩) 1 1 [.int .u64 y] rfl w5 (below_alloc hb6 (Nat.le_refl _) _) (Nat.le_refl _) (Rw.new1 w6 28 #[.int .u64 y] rfl) ?h2 (by unfold maxLen; omega) (by omega) ?_
       case h2 =>
         intro u hu
         rw [List.mem_singleton] at hu
         rw [hu]
         rfl
       intro v7 w7 ho7 hb7 _
       have HO7 := hide ho7
       clear ho6 hb6 a2 k2 ho7 r1 r3))
  have r2 := Hr2.out
  have r4 := Hr4.out
  have hx5 := own_below HO5.out hb7
  have hx7 := HO7.out
  have hb37 := hb5.trans (hb7.mono hb5.size)
  have B7 := E3.below hb37
  have c0 := B7.cell 0
  have c1' := B7.cell 1
  have c2 := B7.cell 2
  simp at c0 c1' c2
  have hw7 := hb37.size
  have hA3 := hA2.cut hiM hlc1
  have hD3 := hD2.cut hiM hld1
  have hyA : w7.drew.ownsRow w3.heap.size 3 1 v5 (0 + i + 1) ([] ++ (M.map fun t => .int .i64 (t.1 : Int)).take (i * 1) ++ [.int .i64 (a : Int)]) := hx5
  have hyB : w7.drew.ownsRow w5.heap.size 28 1 v7 (0 + i + 1) ([] ++ (M.map fun t => t.2).take (i * 1) ++ [.int .u64 y]) := hx7
  have hbD : Below w3.heap.size w3 w7.drew := hb37.drew
  have hw53 := hb5.size
  clear bA bD hx5 hx7 hA2 hD2
  have hn2 : 0 + i + 1 + (M.length - i) = M.length + 1 := by omega
  have q0 := E3.cell 0
  have q1 := E3.cell 1
  have q2 := E3.cell 2
  simp at q0 q1 q2
  have HN2 := hide hn2
  clear hn2
  go_region_held3 (fun w' => w'.cell? ⟨w.heap.size, 0, none⟩ = some (.int .i64 (k : Nat)) ∧ w'.cell? ⟨w.heap.size, 1, none⟩ = some (.slice A1 M.length c1) ∧ w'.cell? ⟨w.heap.size, 2, none⟩ = some (.slice D1 M.length d1))
    (first
      | go_keep
      | exact hk8
      | exact hk9
      | exact hk10
      | exact hk11)
    (first
      | (refine step_app _ (by rfl) (.tmp 40) (.tmp 44) _ (by rfl) w3.heap.size 3 _ 1 8 Try.underlying29 info_i rfl (by omega) _ (0 + i + 1) _ (by rfl) hyA (cutA A1 c1 1 i) (M.length - i) (c1 - i) ((M.map fun t => .int .i64 (t.1 : Int)).drop (i * 1)) (by rfl) w3 hbD (Nat.le_refl _) (hA3.below hbD) ?h2 (by unfold maxLen; omega) (by omega) ?_
         case h2 =>
           intro u hu
           exact one_ints M u (List.mem_of_mem_drop hu)
         intro v8 w8 ho8 hb8 hg8
         rw [HN2.out] at ho8
         obtain ⟨F1, f1, rfl, -, -⟩ := Rw.of_own ho8
         have hyB8 := hyB.kept hg8 (own_apart hyB hyA (by decide))
         have hk8 : w8.cell? ⟨w.heap.size, 0, none⟩ = some (.int .i64 (k : Nat)) ∧ w8.cell? ⟨w.heap.size, 1, none⟩ = some (.slice A1 M.length c1) ∧ w8.cell? ⟨w.heap.size, 2, none⟩ = some (.slice D1 M.length d1) := ⟨(hb8.cell (p := ⟨w.heap.size, 0, none⟩) (by simp; omega)).trans q0, (hb8.cell (p := ⟨w.heap.size, 1, none⟩) (by simp; omega)).trans q1, (hb8.cell (p := ⟨w.heap.size, 2, none⟩) (by simp; omega)).trans q2⟩)
      | (refine step_app _ (by rfl) (.tmp 46) (.tmp 50) _ (by rfl) w5.heap.size 28 _ 1 8 Try.underlying30 info_u rfl (by omega) _ (0 + i + 1) _ (by rfl) hyB8 (cutA D1 d1 1 i) (M.length - i) (d1 - i) ((M.map fun t => t.2).drop (i * 1)) (by rfl) w8 (Below.refl _ w8) (by have := hg8.size; have := hb7.size; simp at *; omega) (hD3.below hb8) ?h2 (by unfold maxLen; omega) (by omega) ?_
         case h2 =>
           intro u hu
           exact one_xs hX1 u (List.mem_of_mem_drop hu)
         intro v9 w9 ho9 hb9 hg9
         rw [HN2.out] at ho9
         obtain ⟨F2, f2, rfl, -, -⟩ := Rw.of_own ho9
         have hz9 := ho8.kept hg9 (own_apart ho8 hyB8 (by decide))
         have hb39 := hb8.trans (hb9.mono (by omega))
         have RR := R3.below hb39
         have s0 := RR.cell 0
         have s1 := RR.cell 1
         have s2 := RR.cell 2
         have t0 := RR.frozen 0
         have t1 := RR.frozen 1
         have t2 := RR.frozen 2
         simp at s0 s1 s2
         have hk9 : w9.cell? ⟨w.heap.size, 0, none⟩ = some (.int .i64 (k : Nat)) ∧ w9.cell? ⟨w.heap.size, 1, none⟩ = some (.slice A1 M.length c1) ∧ w9.cell? ⟨w.heap.size, 2, none⟩ = some (.slice D1 M.length d1) := ⟨(hb39.cell (p := ⟨w.heap.size, 0, none⟩) (by simp; omega)).trans q0, (hb39.cell (p := ⟨w.heap.size, 1, none⟩) (by simp; omega)).trans q1, (hb39.cell (p := ⟨w.heap.size, 2, none⟩) (by simp; omega)).trans q2⟩)
      | (refine step_app _ (by rfl) (.tmp 46) (.tmp 50) _ (by rfl) w5.heap.size 28 _ 1 8 Try.underlying30 info_u rfl (by omega) _ (0 + i + 1) _ (by rfl) hyB (cutA D1 d1 1 i) (M.length - i) (d1 - i) ((M.map fun t => t.2).drop (i * 1)) (by rfl) w7.drew (Below.refl _ w7.drew) (hb7.size) (hD3.below hbD) ?h2 (by unfold maxLen; omega) (by omega) ?_
         case h2 =>
           intro u hu
           exact one_xs hX1 u (List.mem_of_mem_drop hu)
         intro v10 w10 ho10 hb10 hg10
         rw [HN2.out] at ho10
         obtain ⟨F2, f2, rfl, -, -⟩ := Rw.of_own ho10
         have hb310 := hbD.trans (hb10.mono (by omega))
         have hyA10 := hyA.kept hg10 (own_apart hyA hyB (by decide))
         have hk10 : w10.cell? ⟨w.heap.size, 0, none⟩ = some (.int .i64 (k : Nat)) ∧ w10.cell? ⟨w.heap.size, 1, none⟩ = some (.slice A1 M.length c1) ∧ w10.cell? ⟨w.heap.size, 2, none⟩ = some (.slice D1 M.length d1) := ⟨(hb310.cell (p := ⟨w.heap.size, 0, none⟩) (by simp; omega)).trans q0, (hb310.cell (p := ⟨w.heap.size, 1, none⟩) (by simp; omega)).trans q1, (hb310.cell (p := ⟨w.heap.size, 2, none⟩) (by simp; omega)).trans q2⟩)
      | (refine step_app _ (by rfl) (.tmp 40) (.tmp 44) _ (by rfl) w3.heap.size 3 _ 1 8 Try.underlying29 info_i rfl (by omega) _ (0 + i + 1) _ (by rfl) hyA10 (cutA A1 c1 1 i) (M.length - i) (c1 - i) ((M.map fun t => .int .i64 (t.1 : Int)).drop (i * 1)) (by rfl) w3 hb310 (Nat.le_refl _) (hA3.below hb310) ?h2 (by unfold maxLen; omega) (by omega) ?_
         case h2 =>
           intro u hu
           exact one_ints M u (List.mem_of_mem_drop hu)
         intro v11 w11 ho11 hb11 hg11
         rw [HN2.out] at ho11
         obtain ⟨F1, f1, rfl, -, -⟩ := Rw.of_own ho11
         have RR := R3.below hb11
         have s0 := RR.cell 0
         have s1 := RR.cell 1
         have s2 := RR.cell 2
         have t0 := RR.frozen 0
         have t1 := RR.frozen 1
         have t2 := RR.frozen 2
         simp at s0 s1 s2
         have hz11 := ho10.kept hg11 (own_apart ho10 hyA10 (by decide))
         have hk11 : w11.cell? ⟨w.heap.size, 0, none⟩ = some (.int .i64 (k : Nat)) ∧ w11.cell? ⟨w.heap.size, 1, none⟩ = some (.slice A1 M.length c1) ∧ w11.cell? ⟨w.heap.size, 2, none⟩ = some (.slice D1 M.length d1) := ⟨(hb11.cell (p := ⟨w.heap.size, 0, none⟩) (by simp; omega)).trans q0, (hb11.cell (p := ⟨w.heap.size, 1, none⟩) (by simp; omega)).trans q1, (hb11.cell (p := ⟨w.heap.size, 2, none⟩) (by simp; omega)).trans q2⟩))
  · have E9 := RR.set3 (x := .int .i64 (k : Nat)) (y := .slice F1 (M.length + 1) f1) (z := .slice F2 (M.length + 1) f2)
    have b9 := below_set3 (b3.trans (hb39.mono (by omega))) (show w.heap.size ≤ w.heap.size + 1 by omega) (x := .int .i64 (k : Nat)) (y := .slice F1 (M.length + 1) f1) (z := .slice F2 (M.length + 1) f2)
    have oA := own_set3 hz9 (show w.heap.size + 1 < w3.heap.size by omega) (x := .int .i64 (k : Nat)) (y := .slice F1 (M.length + 1) f1) (z := .slice F2 (M.length + 1) f2)
    have oB := own_set3 ho9 (show w.heap.size + 1 < w5.heap.size by omega) (x := .int .i64 (k : Nat)) (y := .slice F1 (M.length + 1) f1) (z := .slice F2 (M.length + 1) f2)
    generalize ((w9.setCell ⟨w.heap.size + 1, 0, none⟩ (.int .i64 (k : Nat))).setCell ⟨w.heap.size + 1, 1, none⟩ (.slice F1 (M.length + 1) f1)).setCell ⟨w.heap.size + 1, 2, none⟩ (.slice F2 (M.length + 1) f2) = wz at *
    have g0 := E9.cell 0
    have g1 := E9.cell 1
    have g2 := E9.cell 2
    simp at g0 g1 g2
    have HO := hide (And.intro oA oB)
    clear oA oB s0 s1 s2 t0 t1 t2
    go_wp2
    refine bodyPost_ret (v := .agg #[.int .i64 (k : Nat), .slice F1 (M.length + 1) f1, .slice F2 (M.length + 1) f2]) (by simp [results, Try.results22, go_sem, g0, g1, g2]) rfl ⟨_, rfl, ?_, b9⟩
    exact put_end hk hl.out hX hl1.out hX1 HM.out HS.out ha HO.out.1 HO.out.2
end Go.Proofs.Ytkknfnjojamgjaa
