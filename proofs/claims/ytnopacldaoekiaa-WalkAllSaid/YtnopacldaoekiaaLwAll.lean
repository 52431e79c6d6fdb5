/- pantilelaw08.WalkAll: behind any acts all entries, the first one, the last one, and those beside any point, are what the chapter says: the walk. -/
import Derived.Test.YtnopacldaoekiaaLwC
set_option linter.unusedSimpArgs false
set_option linter.unusedVariables false
namespace Go.Proofs.Ytnopacldaoekiaa
open Go.RowKit
set_option maxHeartbeats 16000000 in
set_option maxRecDepth 100000 in
theorem walk_alls (w : World) (k0 : Int) (_ : (Lit.int .i64 k0).wf = true) (AL : Option Addr) (nl cl : Nat) (al : List TA) (hl : ActsAt w AL nl al ∧ nl ≤ cl ∧ cl ≤ maxLen) (PA : Option Addr) (pn pc : Nat) (p : List Nat) (hp : Pt w PA pn p ∧ pn ≤ pc ∧ pc ≤ maxLen) :
    Calls Try.prog 4 #[.int .i64 k0, .slice AL nl cl, .slice PA pn pc] w fun e w' => e = .returned (.bool true) ∧ Below w.heap.size w w' := by
  have HEL := hide hl.1
  have HPP := hide hp.1
  clear hl hp
  go_enter Try.func4, Try.ntmps4
  go_wp2_with fail
  refine (awake8 w).mono ?_
  rintro e w1 ⟨rfl, hb1⟩
  have HB1 := hide hb1
  have HH := hide (heavy7 AL nl cl 50 al w1 (HEL.out.below hb1) (by omega))
  simp only [Int.cast_ofNat_Int] at HH
  clear hb1
  go_wp2_with fail
  refine HH.out.mono ?_
  rintro e w3 ⟨rfl | ⟨rfl, hnl⟩, hb3⟩
  · have HB3 := hide (below_then HB1.out hb3)
    clear hb3 HH
    go_wp2
    go_ret
    exact ⟨rfl, HB3.out⟩
  have HB3 := hide (below_then HB1.out hb3)
  clear hb3 HH
  by_cases h1 : k0 < 1
  · have e1 : decide (k0 < 1) = true := by simpa using h1
    clear h1
    go_wp2
    go_ret
    exact ⟨rfl, HB3.out⟩
  have e1 : decide (k0 < 1) = false := by simpa using h1
  by_cases h2 : 16 < k0
  · have e2 : decide ((16 : Int) < k0) = true := by simpa using h2
    clear h1 h2
    go_wp2
    go_ret
    exact ⟨rfl, HB3.out⟩
  have e2 : decide ((16 : Int) < k0) = false := by simpa using h2
  by_cases h3 : (40 : Int) < (pn : Int)
  · have e3 : decide ((40 : Int) < (pn : Int)) = true := by simpa using h3
    clear h1 h2 h3
    go_wp2
    go_ret
    exact ⟨rfl, HB3.out⟩
  have e3 : decide ((40 : Int) < (pn : Int)) = false := by simpa using h3
  obtain ⟨k, rfl⟩ : ∃ k : Nat, k0 = (k : Int) := ⟨k0.toNat, by omega⟩
  have hk1 : 1 ≤ k := by omega
  have hk16 : k ≤ 16 := by omega
  have HG := hide (grown7 (c := cl) hk1 hk16 (HEL.out.below HB3.out) (by omega))
  clear h1 h2 h3
  go_wp2_with fail
  refine HG.out.mono ?_
  rintro e w4 ⟨t, A4, n4, c4, rfl, ⟨rows, es, hT4, hE4, hnc4, hS4, hkk4, hes4⟩, hn4, hb4⟩
  have hc4 := below_then HB3.out hb4
  obtain ⟨top, hTB, hTop, hTes, -, -⟩ := hT4.top
  have hlen : es.length = n4 := by rw [← hes4]; unfold ents; rw [List.length_map]; exact hE4.len
  have HR := hide (tr_root_top hTB)
  have HA := hide (walk_all_top hTop hk16 (by rw [hTes]; omega))
  rw [hTes] at HA
  have HB4 := hide hc4
  have HTB := hide hTB
  have HTOP := hide hTop
  have HES := hide hTes
  have HE4 := hide hE4
  have HS4 := hide hS4
  have HKK := hide hkk4
  have HEN := hide hes4
  have HLEN := hide hlen
  have hn4b : n4 ≤ 50 := by omega
  clear hT4 hE4 hnc4 hS4 hkk4 hes4 hb4 hc4 hTB hTop hTes hlen HG
  go_wp2_with fail
  refine HR.out.mono ?_
  rintro e w5 ⟨rfl, rfl⟩
  go_wp2_with fail
  refine HA.out.mono ?_
  rintro e w5 h5
  obtain ⟨A5, c5, rows5, rfl, hes5, hE5, hc5, hkk5, hb5⟩ := h5.at_
  have hsm := same_entries (c := c5) (d := c4) hE5 (HE4.out.below hb5) (fun r hr => (by have := hkk5 r hr; omega)) (fun r hr => (by have := HKK.out r hr; omega)) (by have h1 := congrArg List.length hes5; have h2 := HLEN.out; unfold ents at h1; rw [List.length_map] at h1; omega) (by omega)
  rw [hes5, HEN.out, show decide (es = es) = true by simp] at hsm
  have HSM := hide hsm
  have HB := hide hb5
  clear hes5 hE5 hc5 hkk5 hb5 hsm HA
  go_wp2_with fail
  refine HSM.out.mono ?_
  rintro e w6 ⟨rfl, hb6⟩
  replace HB := hide (below_then HB.out hb6)
  clear hb6 HSM
  replace HR := hide (tr_root_top (Blk.below HTB.out HB.out))
  go_wp2_with fail
  refine HR.out.mono ?_
  rintro e w7 ⟨rfl, rfl⟩
  have HC := hide (walk_from_none hk16 (HTOP.out.stay HB.out))
  rw [HES.out] at HC
  go_wp2_with fail
  refine HC.out.mono ?_
  rintro e w8 ⟨r1, ok1, rfl, hi, hb⟩
  have hal := (Below.refl w8.heap.size w8).alloc (Nat.le_refl _) (.cells #[.slice r1.A r1.n r1.c, .int .u64 (r1.v : Int)] 27)
  have hb2 := below_then hb hal
  replace HB := hide (below_then HB.out hb2)
  have HI1 := hide (hi.below hal)
  have HL1 := hide (Blk.new w8 27 #[.slice r1.A r1.n r1.c, .int .u64 (r1.v : Int)])
  clear hi hb hal hb2 HC
  replace HR := hide (tr_root_top (Blk.below HTB.out HB.out))
  go_wp2_with fail
  refine HR.out.mono ?_
  rintro e w7 ⟨rfl, rfl⟩
  have HC := hide (walk_upto_none hk16 (HTOP.out.stay HB.out))
  rw [HES.out] at HC
  go_wp2_with fail
  refine HC.out.mono ?_
  rintro e w9 ⟨r2, ok2, rfl, hi, hb⟩
  have hal := (Below.refl w9.heap.size w9).alloc (Nat.le_refl _) (.cells #[.slice r2.A r2.n r2.c, .int .u64 (r2.v : Int)] 27)
  have hb2 := below_then hb hal
  replace HB := hide (below_then HB.out hb2)
  have HI2 := hide (hi.below hal)
  replace HL1 := hide (HL1.out.below hb2)
  replace HI1 := hide (HI1.out.below hb2)
  have HL2 := hide (Blk.new w9 27 #[.slice r2.A r2.n r2.c, .int .u64 (r2.v : Int)])
  clear hi hb hal hb2 HC
  by_cases hpk : pn = k
  case neg =>
    have e4 : ((pn : Int) != (k : Int)) = true := by simp; omega
    replace HR := hide (tr_root_top (Blk.below HTB.out HB.out))
    go_wp2_with fail
    refine HR.out.mono ?_
    rintro e w7 ⟨rfl, rfl⟩
    have HC := hide (walk_from_top_dim (HTOP.out.stay HB.out) PA pn pc hpk)
    go_wp2_with fail
    refine HC.out.mono ?_
    rintro e w10 ⟨r3, ok3, rfl, hi, hb⟩
    obtain ⟨rfl, rfl⟩ : r3 = ⟨none, 0, 0, [], 0⟩ ∧ ok3 = false := by
      obtain ⟨h1, ⟨_, _, h2⟩ | ⟨h2, h3, _⟩⟩ := hi
      · cases h2
      · exact ⟨h3, h2⟩
    have hal := (Below.refl w10.heap.size w10).alloc (Nat.le_refl _) (.cells #[.slice none 0 0, .int .u64 0] 27)
    have hb2 := below_then hb hal
    replace HB := hide (below_then HB.out hb2)
    replace HL1 := hide (HL1.out.below hb2)
    replace HI1 := hide (HI1.out.below hb2)
    replace HL2 := hide (HL2.out.below hb2)
    replace HI2 := hide (HI2.out.below hb2)
    have HL3 := hide (Blk.new w10 27 #[.slice none 0 0, .int .u64 0])
    clear hi hb hal hb2 HC
    replace HR := hide (tr_root_top (Blk.below HTB.out HB.out))
    go_wp2_with fail
    refine HR.out.mono ?_
    rintro e w7 ⟨rfl, rfl⟩
    have HC := hide (walk_upto_top_dim (HTOP.out.stay HB.out) PA pn pc hpk)
    go_wp2_with fail
    refine HC.out.mono ?_
    rintro e w11 ⟨r4, ok4, rfl, hi, hb⟩
    obtain ⟨rfl, rfl⟩ : r4 = ⟨none, 0, 0, [], 0⟩ ∧ ok4 = false := by
      obtain ⟨h1, ⟨_, _, h2⟩ | ⟨h2, h3, _⟩⟩ := hi
      · cases h2
      · exact ⟨h3, h2⟩
    have hal := (Below.refl w11.heap.size w11).alloc (Nat.le_refl _) (.cells #[.slice none 0 0, .int .u64 0] 27)
    have hb2 := below_then hb hal
    replace HB := hide (below_then HB.out hb2)
    replace HL1 := hide (HL1.out.below hb2)
    replace HI1 := hide (HI1.out.below hb2)
    replace HL2 := hide (HL2.out.below hb2)
    replace HI2 := hide (HI2.out.below hb2)
    replace HL3 := hide (HL3.out.below hb2)
    have HL4 := hide (Blk.new w11 27 #[.slice none 0 0, .int .u64 0])
    clear hi hb hal hb2 HC
    have y10 := HL1.out.cell 0
    have y11 := HL1.out.cell 1
    simp at y10 y11
    have y20 := HL2.out.cell 0
    have y21 := HL2.out.cell 1
    simp at y20 y21
    have HAT := hide (at8 (c := c4) (i := 0) (HE4.out.below HB.out) HKK.out hk16 HI1.out (by rw [HEN.out]; simp [List.head?_eq_getElem?]))
    go_wp2_with fail
    refine HAT.out.mono ?_
    rintro e w12 ⟨rfl, hb⟩
    replace HB := hide (below_then HB.out hb)
    replace HL1 := hide (HL1.out.below hb)
    replace HI1 := hide (HI1.out.below hb)
    replace HL2 := hide (HL2.out.below hb)
    replace HI2 := hide (HI2.out.below hb)
    replace HL3 := hide (HL3.out.below hb)
    replace HL4 := hide (HL4.out.below hb)
    clear y10 y11 y20 y21 hb HAT
    have y20 := HL2.out.cell 0
    have y21 := HL2.out.cell 1
    simp at y20 y21
    have hat := at8 (c := c4) (i := ((es.length : Nat) : Int) - 1) (HE4.out.below HB.out) HKK.out hk16 HI2.out (by rw [HEN.out]; exact last_at (B := []) (by simp))
    rw [HLEN.out] at hat
    have HAT := hide hat
    have hn4i : (n4 : Int) ≤ 50 := by omega
    clear hat
    go_wp2_with fail
    refine HAT.out.mono ?_
    rintro e w13 ⟨rfl, hb⟩
    replace HB := hide (below_then HB.out hb)
    replace HL1 := hide (HL1.out.below hb)
    replace HI1 := hide (HI1.out.below hb)
    replace HL2 := hide (HL2.out.below hb)
    replace HI2 := hide (HI2.out.below hb)
    replace HL3 := hide (HL3.out.below hb)
    replace HL4 := hide (HL4.out.below hb)
    clear y20 y21 hb HAT
    have y30 := HL3.out.cell 0
    have y31 := HL3.out.cell 1
    simp at y30 y31
    have y40 := HL4.out.cell 0
    have y41 := HL4.out.cell 1
    simp at y40 y41
    go_wp2
    go_ret
    exact ⟨rfl, below_then HB4.out HB.out⟩
  case pos =>
    subst hpk
    have e4 : ((pn : Int) != (pn : Int)) = false := by simp
    replace HR := hide (tr_root_top (Blk.below HTB.out HB.out))
    go_wp2_with fail
    refine HR.out.mono ?_
    rintro e w7 ⟨rfl, rfl⟩
    have HC := hide (walk_from_top (pc := pc) (HTOP.out.stay HB.out) hk1 hk16 (HPP.out.below (below_then HB4.out HB.out)))
    rw [HES.out] at HC
    go_wp2_with fail
    refine HC.out.mono ?_
    rintro e w10 ⟨L3, R3, hcut, r3, ok3, rfl, hi, hb⟩
    have HCUT3 := hide hcut
    have hal := (Below.refl w10.heap.size w10).alloc (Nat.le_refl _) (.cells #[.slice r3.A r3.n r3.c, .int .u64 (r3.v : Int)] 27)
    have hb2 := below_then hb hal
    replace HB := hide (below_then HB.out hb2)
    have HI3 := hide (hi.below hal)
    replace HL1 := hide (HL1.out.below hb2)
    replace HI1 := hide (HI1.out.below hb2)
    replace HL2 := hide (HL2.out.below hb2)
    replace HI2 := hide (HI2.out.below hb2)
    have HL3 := hide (Blk.new w10 27 #[.slice r3.A r3.n r3.c, .int .u64 (r3.v : Int)])
    clear hi hb hal hb2 HC hcut
    replace HR := hide (tr_root_top (Blk.below HTB.out HB.out))
    go_wp2_with fail
    refine HR.out.mono ?_
    rintro e w7 ⟨rfl, rfl⟩
    have HC := hide (walk_upto_top (pc := pc) (HTOP.out.stay HB.out) hk1 hk16 (HPP.out.below (below_then HB4.out HB.out)))
    rw [HES.out] at HC
    go_wp2_with fail
    refine HC.out.mono ?_
    rintro e w11 ⟨L4, R4, hcut, r4, ok4, rfl, hi, hb⟩
    have HCUT4 := hide hcut
    have hal := (Below.refl w11.heap.size w11).alloc (Nat.le_refl _) (.cells #[.slice r4.A r4.n r4.c, .int .u64 (r4.v : Int)] 27)
    have hb2 := below_then hb hal
    replace HB := hide (below_then HB.out hb2)
    have HI4 := hide (hi.below hal)
    replace HL1 := hide (HL1.out.below hb2)
    replace HI1 := hide (HI1.out.below hb2)
    replace HL2 := hide (HL2.out.below hb2)
    replace HI2 := hide (HI2.out.below hb2)
    replace HL3 := hide (HL3.out.below hb2)
    replace HI3 := hide (HI3.out.below hb2)
    have HL4 := hide (Blk.new w11 27 #[.slice r4.A r4.n r4.c, .int .u64 (r4.v : Int)])
    clear hi hb hal hb2 HC hcut
    have y10 := HL1.out.cell 0
    have y11 := HL1.out.cell 1
    simp at y10 y11
    have y20 := HL2.out.cell 0
    have y21 := HL2.out.cell 1
    simp at y20 y21
    have HAT := hide (at8 (c := c4) (i := 0) (HE4.out.below HB.out) HKK.out hk16 HI1.out (by rw [HEN.out]; simp [List.head?_eq_getElem?]))
    go_wp2_with fail
    refine HAT.out.mono ?_
    rintro e w12 ⟨rfl, hb⟩
    replace HB := hide (below_then HB.out hb)
    replace HL1 := hide (HL1.out.below hb)
    replace HI1 := hide (HI1.out.below hb)
    replace HL2 := hide (HL2.out.below hb)
    replace HI2 := hide (HI2.out.below hb)
    replace HL3 := hide (HL3.out.below hb)
    replace HI3 := hide (HI3.out.below hb)
    replace HL4 := hide (HL4.out.below hb)
    replace HI4 := hide (HI4.out.below hb)
    clear y10 y11 y20 y21 hb HAT
    have y20 := HL2.out.cell 0
    have y21 := HL2.out.cell 1
    simp at y20 y21
    have hat := at8 (c := c4) (i := ((es.length : Nat) : Int) - 1) (HE4.out.below HB.out) HKK.out hk16 HI2.out (by rw [HEN.out]; exact last_at (B := []) (by simp))
    rw [HLEN.out] at hat
    have HAT := hide hat
    have hn4i : (n4 : Int) ≤ 50 := by omega
    clear hat
    go_wp2_with fail
    refine HAT.out.mono ?_
    rintro e w13 ⟨rfl, hb⟩
    replace HB := hide (below_then HB.out hb)
    replace HL1 := hide (HL1.out.below hb)
    replace HI1 := hide (HI1.out.below hb)
    replace HL2 := hide (HL2.out.below hb)
    replace HI2 := hide (HI2.out.below hb)
    replace HL3 := hide (HL3.out.below hb)
    replace HI3 := hide (HI3.out.below hb)
    replace HL4 := hide (HL4.out.below hb)
    replace HI4 := hide (HI4.out.below hb)
    clear y20 y21 hb HAT
    have y30 := HL3.out.cell 0
    have y31 := HL3.out.cell 1
    simp at y30 y31
    have y40 := HL4.out.cell 0
    have y41 := HL4.out.cell 1
    simp at y40 y41
    have q3 := HL3.out.lt
    have q4 := HL4.out.lt
    go_wp2_with fail
    have HRF := hide (fun (X : World) (hX : Below w13.heap.size w13 X) => ref_from_cut (c := c4) (d := pc) (L := L3) (R := R3) (HE4.out.below (below_then HB.out hX)) HKK.out (HPP.out.below (below_then HB4.out (below_then HB.out hX))) (by omega) (by omega) HS4.out (by rw [HEN.out]; exact HCUT3.out))
    have HRU := hide (fun (X : World) (hX : Below w13.heap.size w13 X) => ref_upto_cut (c := c4) (d := pc) (L := L4) (R := R4) (HE4.out.below (below_then HB.out hX)) HKK.out (HPP.out.below (below_then HB4.out (below_then HB.out hX))) (by omega) (by omega) HS4.out (by rw [HEN.out]; exact HCUT4.out))
    have HA3 := hide (fun (X : World) (hX : Below w13.heap.size w13 X) => at8 (c := c4) (i := ((L3.length : Nat) : Int)) (HE4.out.below (below_then HB.out hX)) HKK.out hk16 (HI3.out.below hX) (by rw [HEN.out]; exact head_at HCUT3.out.eq))
    have HA4 := hide (fun (X : World) (hX : Below w13.heap.size w13 X) => at8 (c := c4) (i := ((L4.length : Nat) : Int) - 1) (HE4.out.below (below_then HB.out hX)) HKK.out hk16 (HI4.out.below hX) (by rw [HEN.out]; exact last_at HCUT4.out.eq))
    have hkA : (w13.drew.cell? ⟨w10.heap.size, 0, none⟩ = some (.slice r3.A r3.n r3.c) ∧ w13.drew.cell? ⟨w10.heap.size, 1, none⟩ = some (.int .u64 (r3.v : Int)) ∧ w13.drew.cell? ⟨w11.heap.size, 0, none⟩ = some (.slice r4.A r4.n r4.c) ∧ w13.drew.cell? ⟨w11.heap.size, 1, none⟩ = some (.int .u64 (r4.v : Int))) := ⟨y30, y31, y40, y41⟩
    go_region_held3 (fun w' => w'.cell? ⟨w10.heap.size, 0, none⟩ = some (.slice r3.A r3.n r3.c) ∧ w'.cell? ⟨w10.heap.size, 1, none⟩ = some (.int .u64 (r3.v : Int)) ∧ w'.cell? ⟨w11.heap.size, 0, none⟩ = some (.slice r4.A r4.n r4.c) ∧ w'.cell? ⟨w11.heap.size, 1, none⟩ = some (.int .u64 (r4.v : Int)))
      (first
        | go_keep
        | exact hkA
        | exact hk5
        | exact hk6)
      (first
        | (go_at_call 33
           refine (HRF.out w13.drew (Below.refl _ w13).drew).mono ?_
           rintro e w5 ⟨rfl, rfl⟩)
        | (go_at_call 32
           fail_if_success (have hxx := hd5)
           refine (HA3.out w13.drew (Below.refl _ w13).drew).mono ?_
           rintro e w15 ⟨rfl, hb5⟩
           have hd5 : Below w13.heap.size w13 w15 := (Below.refl _ w13).drew.trans hb5
           have hk5 := And.intro ((hd5.cell (p := ⟨w10.heap.size, 0, none⟩) q3).trans y30) (And.intro ((hd5.cell (p := ⟨w10.heap.size, 1, none⟩) q3).trans y31) (And.intro ((hd5.cell (p := ⟨w11.heap.size, 0, none⟩) q4).trans y40) ((hd5.cell (p := ⟨w11.heap.size, 1, none⟩) q4).trans y41))))
        | (go_at_call 34
           refine (HRU.out w15 hd5).mono ?_
           rintro e w5 ⟨rfl, rfl⟩)
        | (go_at_call 32
           refine (HA4.out w15 hd5).mono ?_
           rintro e w16 ⟨rfl, hb6⟩
           have hd6 : Below w13.heap.size w13 w16 := below_then hd5 hb6
           have hk6 := And.intro ((hd6.cell (p := ⟨w10.heap.size, 0, none⟩) q3).trans y30) (And.intro ((hd6.cell (p := ⟨w10.heap.size, 1, none⟩) q3).trans y31) (And.intro ((hd6.cell (p := ⟨w11.heap.size, 0, none⟩) q4).trans y40) ((hd6.cell (p := ⟨w11.heap.size, 1, none⟩) q4).trans y41)))))
    go_wp2
    go_ret
    exact ⟨rfl, below_then HB4.out (below_then HB.out hd6)⟩
end Go.Proofs.Ytnopacldaoekiaa
