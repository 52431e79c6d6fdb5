/- pantileref06: Heavy, All; pantilelaw06.Leaves. -/
import Derived.Test.YtkknfnjojamgjaaPutR
import Derived.Test.YtkknfnjojamgjaaLaw6e
import Derived.Test.YtkknfnjojamgjaaNdB
set_option linter.unusedSimpArgs false
set_option linter.unusedVariables false
namespace Go.Proofs.Ytkknfnjojamgjaa
open Go.RowKit
set_option maxHeartbeats 1000000 in
set_option maxRecDepth 100000 in
theorem ref_heavy_far (A : Option Addr) (n c most : Nat) (w : World) (h : most < n) :
    Calls Try.prog 33 #[.slice A n c, .int .i64 (most : Int)] w fun e w' => e = .returned (.bool true) ∧ w = w' := by
  go_enter Try.func33, Try.ntmps33
  go_wp2
  go_ret
  exact ⟨rfl, rfl⟩
set_option maxHeartbeats 1000000 in
set_option maxRecDepth 100000 in
theorem ref_heavy (A : Option Addr) (n c most : Nat) (rows : List ER) (w : World) (h : EntsAt w A n rows) (hn : n ≤ most) (hm : most ≤ 100) :
    Calls Try.prog 33 #[.slice A n c, .int .i64 (most : Int)] w fun e w' => (e = .returned (.bool true) ∨ (e = .returned (.bool false) ∧ ∀ r ∈ rows, r.n ≤ 40)) ∧ w = w' := by
  have HE := hide h
  clear h
  have hnm : ¬ most < n := by omega
  go_enter Try.func33, Try.ntmps33
  go_wp2
  go_loop [5] (fun x => ∃ (j : Nat), x = .int .i64 (j : Int) ∧ j ≤ n ∧ ∀ (i : Nat) (r : ER), i < j → rows[i]? = some r → r.n ≤ 40) (fun x => n - (intOf x).toNat)
  case atStart => exact ⟨0, rfl, Nat.zero_le _, fun i r hi => by omega⟩
  case round =>
    obtain ⟨j, rfl, hj, hlt⟩ := hrel
    have HLT := hide hlt
    clear hlt
    by_cases hjn : j < n
    · obtain ⟨b, o, r, rfl, hbl, hr, hok, k0, -⟩ := HE.out.at_ hjn
      have HR := hide hr
      clear hr hok
      by_cases h40 : 40 < r.n
      · have e1 : decide ((40 : Int) < (r.n : Int)) = true := by simp; omega
        go_wp2
        go_ret
        exact ⟨.inl rfl, rfl⟩
      · have H40 := hide h40
        go_wp2
        go_round
        case rel =>
          refine ⟨j + 1, by go_num, by omega, fun i s hi hs => ?_⟩
          rcases Nat.lt_or_ge i j with h1 | h1
          · exact HLT.out i s h1 hs
          · have h2 := HR.out
            rw [show j = i by omega] at h2
            rw [h2] at hs
            injection hs with hs
            rw [← hs]
            have := H40.out
            omega
        case measure => simp [intOf]; omega
    · obtain rfl : j = n := by omega
      go_wp2
      go_ret
      refine ⟨.inr ⟨rfl, fun r hr => ?_⟩, rfl⟩
      obtain ⟨i, hi⟩ := List.getElem?_of_mem hr
      exact HLT.out i r (by have := (List.getElem?_eq_some_iff.1 hi).1; have := HE.out.len; omega) hi
/-- An entry's node, its point a row of its own. -/
def LeafAt (w : World) (k g : Nat) (p : List Nat) (v : Nat) : Prop := ∃ A c, Blk w g 139 (nodeCells (-1) A k c v none ⟨1, v, v, v⟩) ∧ w.ownsRow 0 28 1 (.slice A k c) k (u64s p) ∧ k ≤ c ∧ Zp k p ∧ v < 2 ^ 64
theorem LeafAt.node {w : World} {k g : Nat} {p : List Nat} {v : Nat} (h : LeafAt w k g p v) : NodeOf w k g (-1) p [(p, v)] := by
  obtain ⟨A, c, h1, h2, h3, h4, h5⟩ := h
  exact .leaf h5 ⟨h4.1, (own_rw h2).2, h4.2⟩ h3 h1
theorem LeafAt.stay {w w' : World} {k g : Nat} {p : List Nat} {v : Nat} (h : LeafAt w k g p v) (hb : Below w.heap.size w w') : LeafAt w' k g p v := by
  obtain ⟨A, c, h1, h2, h3, h4, h5⟩ := h
  exact ⟨A, c, h1.below hb, own_below h2 hb, h3, h4, h5⟩
theorem LeafAt.grown {w w' : World} {k g base sz n : Nat} {p : List Nat} {v : Nat} {u : Value} {xs : List Value} (h : LeafAt w k g p v) (ho : w.ownsRow base 54 sz u n xs) (hg : w.grownBy w' u.ownBlock) : LeafAt w' k g p v := by
  obtain ⟨A, c, h1, h2, h3, h4, h5⟩ := h
  exact ⟨A, c, h1.grown ho (by decide) hg, own_grown h2 ho (by decide) hg, h3, h4, h5⟩
theorem info_n : (Try.prog.info? 54).map (fun i => (i.zero, i.size, i.bytes)) = some (some (.pointer none), 1, 8) := by kernel_rfl
def ptrs (gs : List Nat) : List Value := gs.map fun g => Value.pointer (some ⟨g, 0, none⟩)
set_option maxHeartbeats 4000000 in
set_option maxRecDepth 100000 in
theorem leaves (A : Option Addr) (n c : Nat) (rows : List ER) (w : World) (h : EntsAt w A n rows) (hn : n ≤ 100) (h40 : ∀ r ∈ rows, r.n ≤ 40) :
    Calls Try.prog 34 #[.slice A n c] w fun e w' => ((e = .returned (.tuple #[.slice none 0 0, .bool false]) ∧ ∃ r ∈ rows, rightB r.n = false) ∨
      (∃ C f gs, e = .returned (.tuple #[.slice C n f, .bool true]) ∧ (∀ r ∈ rows, rightB r.n = true) ∧ gs.length = n ∧ w'.ownsRow w.heap.size 54 1 (.slice C n f) n (ptrs gs) ∧ (∀ (i : Nat) (r : ER) (g : Nat), rows[i]? = some r → gs[i]? = some g → LeafAt w' r.n g r.p r.v))) ∧ Below w.heap.size w w' := by
  have HE := hide h
  have H40 := hide h40
  have b1 := (Below.refl w.heap.size w).alloc (Nat.le_refl _) (.cells #[] 54)
  have HO := hide (own_empty w 54 1)
  clear h h40
  go_enter Try.func34, Try.ntmps34
  go_wp2
  go_loopw [4, 5] (fun x4 x5 wr => ∃ (j : Nat) (gs : List Nat), x5 = .int .i64 (j : Int) ∧ j ≤ n ∧ gs.length = j ∧ wr.ownsRow w.heap.size 54 1 x4 j (ptrs gs) ∧ (∀ (i : Nat) (r : ER), i < j → rows[i]? = some r → rightB r.n = true) ∧ (∀ (i : Nat) (r : ER) (g : Nat), rows[i]? = some r → gs[i]? = some g → LeafAt wr r.n g r.p r.v) ∧ Below w.heap.size w wr) (fun _ x _ => n - (intOf x).toNat)
  case atStart => exact ⟨0, [], rfl, Nat.zero_le _, rfl, HO.out, (fun i r hi => by omega), (fun i r g _ hg => by simp at hg), b1⟩
  case round =>
    obtain ⟨j, gs, rfl, hj, hgl, hO, hR, hLf, hb⟩ := hrel
    have HR := hide hR
    have HLf := hide hLf
    have HB := hide hb
    have HGL := hide hgl
    clear hR hLf hgl
    by_cases hjn : j < n
    · obtain ⟨b, o, r, rfl, hbl, hr, hok, k0, k1⟩ := (HE.out.below hb).at_ hjn
      have HRR := hide hr
      have HOK := hide hok
      have hO' := hide hO
      have hrm := List.mem_of_getElem? hr
      have h40r := H40.out r hrm
      rename World => wz
      cases hrb : rightB r.n with
      | false =>
        have HRB := hide hrb
        clear hr hok hO hrm hrb
        go_wp2_with fail
        go_region_held3 (fun w' => w'.cell? ⟨b, o + j * 2, none⟩ = some (.slice r.A r.n r.c) ∧ w'.cell? ⟨b, o + j * 2 + 1, none⟩ = some (.int .u64 (r.v : Int)))
          (first
            | go_keep)
          (first
            | (go_at_call 46
               refine (nd_leaf_bad r.A r.n r.c (r.v : Int) wz.drew HRB.out).mono ?_
               rintro e w3 ⟨rfl, rfl⟩))
        go_wp2
        go_ret2
        exact ⟨.inl ⟨rfl, r, List.mem_of_getElem? HRR.out, HRB.out⟩, HB.out.drew⟩
      | true =>
        have hr16 : 1 ≤ r.n ∧ r.n ≤ 16 := by unfold rightB at hrb; simp at hrb; omega
        have HRB := hide (And.intro hrb hr16)
        clear hr hok hO hrm hrb hr16
        go_wp2_with fail
        go_region_held3 (fun w' => w'.cell? ⟨b, o + j * 2, none⟩ = some (.slice r.A r.n r.c) ∧ w'.cell? ⟨b, o + j * 2 + 1, none⟩ = some (.int .u64 (r.v : Int)))
          (first
            | go_keep
            | exact hk3)
          (first
            | (go_at_call 46
               refine (nd_leaf_own r.A r.n r.c r.p r.v wz.drew (HOK.out.1.below (Below.refl _ wz).drew) HRB.out.2.1 HRB.out.2.2).mono ?_
               rintro e w3 ⟨g, A2, c2, rfl, hBg, hc2, hog, hgs, hb3⟩
               have hd3 : Below wz.heap.size wz w3 := (Below.refl _ wz).drew.trans hb3
               have hk3 := And.intro ((hd3.cell (p := ⟨b, o + j * 2, none⟩) hbl).trans k0) ((hd3.cell (p := ⟨b, o + j * 2 + 1, none⟩) hbl).trans k1)
               have HLG := hide (show LeafAt w3 r.n g r.p r.v from ⟨A2, c2, hBg, own_lower hog (Nat.zero_le _), hc2, HOK.out.1.zp, HOK.out.2.2.2⟩)
               clear hBg hog))
        have hb4 := below_alloc (below_then HB.out hd3) (Nat.le_refl _) (.cells #[.pointer (some ⟨g, 0, none⟩)] 54)
        have HO3 := hide (own_below hO'.out hd3)
        clear k0 k1 hk3
        go_wp2_with (first
          | (at_builtin
             refine app_b _ rfl (.tmp 31) (.tmp 33) _ rfl w.heap.size 54 _ 1 8 Try.underlying51 info_n rfl (by omega) _ j _ rfl (HO3.out.alloc _) (some ⟨w3.heap.size, 0, none⟩) 1 1 [.pointer (some ⟨g, 0, none⟩)] rfl w hb4 (Nat.le_refl _) (Rw.new1 w3 54 #[.pointer (some ⟨g, 0, none⟩)] rfl) ?h2 (by unfold maxLen; omega) (by omega) ?_
             case h2 =>
               intro u hu
               rw [List.mem_singleton] at hu
               rw [hu]
               rfl
             intro v5 w5 ho5 hb5 hg5
             have HG5 := hide hg5
             have HO5 := hide ho5
             have HB5 := hide hb5
             clear ho5 hb5 hg5)
          | fail)
        go_roundw
        case rel =>
          have hal := (Below.refl w3.heap.size w3).alloc (Nat.le_refl _) (.cells #[.pointer (some ⟨g, 0, none⟩)] 54)
          refine ⟨j + 1, gs ++ [g], by go_num, by omega, by simp [HGL.out], ?_, fun i s hi hs => ?_, fun i s g' hs hg' => ?_, HB5.out⟩
          · have : ptrs (gs ++ [g]) = ptrs gs ++ [.pointer (some ⟨g, 0, none⟩)] := by unfold ptrs; simp
            rw [this]
            exact HO5.out
          · rcases Nat.lt_or_ge i j with h1 | h1
            · exact HR.out i s h1 hs
            · have h2 := HRR.out
              rw [show j = i by omega] at h2
              rw [h2] at hs
              injection hs with hs
              rw [← hs]
              exact HRB.out.1
          · rcases Nat.lt_or_ge i j with h1 | h1
            · rw [List.getElem?_append_left (by rw [HGL.out]; exact h1)] at hg'
              exact (((HLf.out i s g' hs hg').stay hd3).stay hal).grown (HO3.out.alloc _) HG5.out
            · have h3 : i = j := by
                have := (List.getElem?_eq_some_iff.1 hg').1
                simp [HGL.out] at this
                omega
              rw [h3, List.getElem?_append_right (by rw [HGL.out]; omega), HGL.out] at hg'
              simp at hg'
              rw [h3, HRR.out] at hs
              injection hs with hs
              rw [← hs, ← hg']
              exact (HLG.out.stay hal).grown (HO3.out.alloc _) HG5.out
        case measure => simp [intOf]; omega
    · have hj' : j = n := by omega
      rw [hj'] at hO
      obtain ⟨C, f, rfl, -, -⟩ := Rw.of_own hO
      have HO2 := hide hO
      have HJ := hide hj'
      have e9 : decide ((j : Int) < (n : Int)) = false := by simp; omega
      clear hO hj' hb
      go_wp2
      go_ret2
      refine ⟨.inr ⟨C, f, gs, rfl, fun r hr => ?_, by rw [HGL.out, HJ.out], HO2.out, HLf.out⟩, HB.out⟩
      obtain ⟨i, hi⟩ := List.getElem?_of_mem hr
      exact HR.out i r (by have := (List.getElem?_eq_some_iff.1 hi).1; have := HE.out.len; have := HJ.out; omega) hi
end Go.Proofs.Ytkknfnjojamgjaa
