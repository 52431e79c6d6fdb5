/- slices.BinarySearchFunc with Put's comparison, at *pantile/node.Node. -/
import Derived.Test.YtkknfnjojamgjaaSlAskN
set_option linter.unusedSimpArgs false
set_option linter.unusedVariables false
namespace Go.Proofs.Ytkknfnjojamgjaa
open Go.RowKit
set_option maxHeartbeats 1000000 in
set_option maxRecDepth 100000 in
theorem put1_n (a : Nat) (y) (b : Bool) (addr : Nat) (w : World) (h1 : a ≤ 70000) (h2 : addr ≤ 70000) :
    Calls Try.prog 131 #[.agg #[.int .i64 (a : Int), .pointer y, .bool b], .int .i64 (addr : Int)] w fun e w' => e = .returned (.int .i64 ((a : Int) - addr)) ∧ Below w.heap.size w w' := by
  go_enter Try.func131, Try.ntmps131
  go_wp2
  go_ret
  exact ⟨rfl, below_alloc (Below.refl _ _) (Nat.le_refl _) _⟩
set_option maxHeartbeats 1000000 in
set_option maxRecDepth 100000 in
theorem bsearch_n (A : Option Addr) (n c : Nat) (L : Th) (k : Nat) (addr : Nat) (w : World) (hR : Rw w 3 A n (clv (mkC L))) (hX : IsX_n (mkC L)) (hO : OkTh k L) (hk : k ≤ 16) (hn : n ≤ 65536) (ha : addr ≤ 65536) :
    Calls Try.prog 130 #[.slice A n c, .int .i64 (addr : Int), .func (.func 131) #[] #[]] w fun e w' => ∃ at_ ok, e = .returned (.tuple #[.int .i64 (at_ : Nat), .bool ok]) ∧ Found (mkC L) addr at_ ok ∧ Below w.heap.size w w' := by
  have hlen : L.length = n := by have := hR.1; rw [clv_length, mkC_length] at this; omega
  have HL := hide hlen
  clear hlen
  have hS := mkC_rising hO
  go_enter Try.func130, Try.ntmps130
  go_wp2
  go_loopw [9, 10] (fun x y wr => ∃ (lo hi : Nat), x = .int .i64 lo ∧ y = .int .i64 hi ∧ lo ≤ hi ∧ hi ≤ n ∧ (∀ (i : Nat) (c : Cl), (mkC L)[i]? = some c → i < lo → (c.a : Int) < addr) ∧ (∀ (i : Nat) (c : Cl), (mkC L)[i]? = some c → hi ≤ i → (addr : Int) ≤ (c.a : Int)) ∧ Below w.heap.size w wr) (fun x y _ => (intOf y - intOf x).toNat)
  case atStart => exact ⟨0, n, rfl, rfl, Nat.zero_le _, Nat.le_refl _, fun _ _ _ h => absurd h (by omega), fun i c h hle => absurd (List.getElem?_eq_some_iff.1 h).1 (by rw [mkC_length]; have := HL.out; omega), Below.refl _ _⟩
  case round =>
    obtain ⟨lo, hi, rfl, rfl, hlo, hhi, hl, hh, hb⟩ := hrel
    have Hl := hide hl
    have Hh := hide hh
    clear hl hh
    by_cases hlt : lo < hi
    · obtain ⟨b, o, d, rfl, hbl, hd, k0, k1, k2⟩ := (hR.below hb).cl (i := (lo + hi) / 2) (by omega)
      obtain ⟨y, hy⟩ := hX d (List.mem_of_getElem? hd)
      rw [hy] at k1
      have hd' := hd
      rw [mkC_get] at hd'
      obtain ⟨t, ht, he⟩ := Option.map_eq_some_iff.1 hd'
      have hda : d.a ≤ 65536 := by
        have h1 := hO.2 t (List.mem_of_getElem? ht)
        have h2 := pow16 hk
        rw [← he]
        show t.1 ≤ 65536
        omega
      have HD := hide hd
      clear hd hy hd' ht he
      rcases (show (d.a : Int) < (addr : Int) ∨ (addr : Int) ≤ (d.a : Int) by omega) with hc | hc
      · go_wp2_with fail
        refine (put1_n d.a y d.h addr _ (by omega) (by omega)).mono ?_
        rintro e w1 ⟨rfl, hb1⟩
        have hb2 := below_then hb hb1
        clear hb1
        go_wp2
        go_roundw
        case rel => exact ⟨(lo + hi) / 2 + 1, hi, by go_num, rfl, by omega, hhi, below_step hS HD.out hc, Hh.out, hb2⟩
        case measure => simp [intOf]; omega
      · go_wp2_with fail
        refine (put1_n d.a y d.h addr _ (by omega) (by omega)).mono ?_
        rintro e w1 ⟨rfl, hb1⟩
        have hb2 := below_then hb hb1
        clear hb1
        go_wp2
        go_roundw
        case rel =>
          refine ⟨lo, (lo + hi) / 2, rfl, by go_num, by omega, by omega, Hl.out, fun i c hi' hle => ?_, hb2⟩
          rcases Nat.lt_or_ge ((lo + hi) / 2) i with h3 | h3
          · have := hS _ i d c HD.out hi' h3; omega
          · have : i = (lo + hi) / 2 := by omega
            subst this
            have hD := HD.out
            rw [hD] at hi'
            injection hi' with hi'
            subst hi'
            exact hc
        case measure => simp [intOf]; omega
    · have he : lo = hi := by omega
      have hF : ∀ ok, ok = (match (mkC L)[lo]? with | some c => decide ((c.a : Int) = addr) && c.h | none => false) → Found (mkC L) addr lo ok := fun ok hok => ⟨by rw [mkC_length]; have := HL.out; omega, Hl.out, fun i c h1 h2 => Hh.out i c h1 (by omega), hok⟩
      have HF := hide hF
      clear hF he
      by_cases hn2 : lo < n
      · obtain ⟨b, o, d, rfl, hbl, hd, k0, k1, k2⟩ := (hR.below hb).cl hn2
        obtain ⟨y, hy⟩ := hX d (List.mem_of_getElem? hd)
        rw [hy] at k1
        have hd' := hd
        rw [mkC_get] at hd'
        obtain ⟨t, ht, he⟩ := Option.map_eq_some_iff.1 hd'
        have hdh : d.h = true := by rw [← he]
        have hda : d.a ≤ 65536 := by
          have h1 := hO.2 t (List.mem_of_getElem? ht)
          have h2 := pow16 hk
          rw [← he]
          show t.1 ≤ 65536
          omega
        have HD := hide hd
        have HH := hide hdh
        clear hd hy hd' ht he hdh
        by_cases hc : (d.a : Int) = addr
        · have e1 : (((d.a : Int) - addr) == 0) = true := by simp; omega
          have HC := hide hc
          clear hc
          go_wp2_with fail
          refine (put1_n d.a y d.h addr _ (by omega) (by omega)).mono ?_
          rintro e w1 ⟨rfl, hb1⟩
          have hb2 := below_then hb hb1
          clear hb1
          go_wp2
          go_ret2
          exact ⟨lo, true, rfl, HF.out true (by rw [HD.out]; simp [HC.out, HH.out]), hb2⟩
        · have e1 : (((d.a : Int) - addr) == 0) = false := by simp; omega
          have HC := hide hc
          clear hc
          go_wp2_with fail
          refine (put1_n d.a y d.h addr _ (by omega) (by omega)).mono ?_
          rintro e w1 ⟨rfl, hb1⟩
          have hb2 := below_then hb hb1
          clear hb1
          go_wp2
          go_ret2
          exact ⟨lo, false, rfl, HF.out false (by rw [HD.out]; simp [HC.out]), hb2⟩
      · go_wp2
        go_ret2
        exact ⟨lo, false, rfl, HF.out false (by rw [List.getElem?_eq_none (by rw [mkC_length]; have := HL.out; omega)]), hb⟩
end Go.Proofs.Ytkknfnjojamgjaa
