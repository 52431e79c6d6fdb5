/- pantilelaw07.TreeGets: behind any acts any point's value, and its path, are what the chapter says, or there is its error. -/
import Derived.Test.YtkknfnjojamgjaaTr29
set_option linter.unusedSimpArgs false
set_option linter.unusedVariables false
namespace Go.Proofs.Ytkknfnjojamgjaa
open Go.RowKit
theorem w64_succ {i : Nat} (h : i ≤ 65) : Value.int .i64 (wrap64 ((i : Int) + 1)) = .int .i64 ((i + 1 : Nat) : Int) := by
  have : wrap64 ((i : Int) + 1) = ((i + 1 : Nat) : Int) := by unfold wrap64; omega
  rw [this]
theorem idxp {i i' gl : Nat} (hn : i = i' + 1) (hi : i < gl) (hj : gl ≤ 65) : (i : Int) - 1 = (i' : Int) ∧ i' < gl ∧ (0 : Int) ≤ (i' : Int) ∧ (i' : Int) < (gl : Int) ∧ (0 : Int) ≤ (i : Int) ∧ (i : Int) < (gl : Int) ∧ (0 : Int) < (i : Int) ∧ ((i : Int) == 0) = false ∧ decide ((0 : Int) < (i : Int)) = true ∧ 0 < i ∧ IntKind.i64.wrap (i' : Int) = (i' : Int) ∧ wrap64 (i' : Int) = (i' : Int) :=
  ⟨by omega, by omega, by omega, by omega, by omega, by omega, by omega, by simp; omega, by simp; omega, by omega, by rw [IntKind.wrap_i64]; omega, by unfold wrap64; omega⟩
set_option maxHeartbeats 8000000 in
set_option maxRecDepth 100000 in
theorem tree_gets (w : World) (k0 : Int) (_ : (Lit.int .i64 k0).wf = true) (AL : Option Addr) (nl cl : Nat) (al : List TA) (hl : ActsAt w AL nl al ∧ nl ≤ cl ∧ cl ≤ maxLen) (RA : Option Addr) (rn rc : Nat) (p : List Nat) (hp : Pt w RA rn p ∧ rn ≤ rc ∧ rc ≤ maxLen) :
    Calls Try.prog 13 #[.int .i64 k0, .slice AL nl cl, .slice RA rn rc] w fun e w' => e = .returned (.bool true) ∧ Below w.heap.size w w' := by
  have HEL := hide hl.1
  have HP := hide hp.1
  clear hl hp
  go_enter Try.func13, Try.ntmps13
  go_wp2_with fail
  refine (awake7 w).mono ?_
  rintro e w0 ⟨rfl, hb0⟩
  have HB0 := hide hb0
  have HH := hide (heavy7 AL nl cl 40 al w0 (HEL.out.below hb0) (by omega))
  simp only [Int.cast_ofNat_Int] at HH
  clear hb0
  go_wp2_with fail
  refine HH.out.mono ?_
  rintro e w3 ⟨rfl | ⟨rfl, hnl⟩, hb3⟩
  · have HB3 := hide (below_then HB0.out hb3)
    clear hb3 HH
    go_wp2
    go_ret
    exact ⟨rfl, HB3.out⟩
  have hc3 := below_then HB0.out hb3
  have HB3 := hide hc3
  clear hb3 HH
  by_cases h1 : k0 < 1
  · have e1 : decide (k0 < 1) = true := by simp; omega
    clear h1 hc3
    go_wp2
    go_ret
    exact ⟨rfl, HB3.out⟩
  have e1 : decide (k0 < 1) = false := by simp; omega
  by_cases h2 : 16 < k0
  · have e2 : decide ((16 : Int) < k0) = true := by simp; omega
    clear h1 h2 hc3
    go_wp2
    go_ret
    exact ⟨rfl, HB3.out⟩
  have e2 : decide ((16 : Int) < k0) = false := by simp; omega
  obtain ⟨k, rfl⟩ : ∃ k : Nat, k0 = (k : Int) := ⟨k0.toNat, by omega⟩
  have hk1 : 1 ≤ k := by omega
  have hk16 : k ≤ 16 := by omega
  by_cases hr : 40 < rn
  · have e3 : decide ((40 : Int) < (rn : Int)) = true := by simp; omega
    clear h1 h2 hc3 hr
    go_wp2
    go_ret
    exact ⟨rfl, HB3.out⟩
  have e3 : decide ((40 : Int) < (rn : Int)) = false := by simp; omega
  have HG := hide (grown7 (c := cl) hk1 hk16 (HEL.out.below hc3) (by omega))
  clear h1 h2 hc3 hr
  go_wp2_with fail
  refine HG.out.mono ?_
  rintro e w4 ⟨t, A4, n4, c4, rfl, ⟨rows, es, hT4, hE4, hnc4, hS4, hkk4, hes4⟩, hn4, hb4⟩
  have hc4 := below_then HB3.out hb4
  have HB4 := hide hc4
  obtain ⟨top, hTB, hTop, hTes, -, -⟩ := hT4.top
  have HT4 := hide hT4
  have HTB := hide hTB
  have HTOP := hide hTop
  have HTES := hide hTes
  have HE4 := hide hE4
  have HNC := hide hnc4
  have HS4 := hide hS4
  have HKK := hide hkk4
  have HES := hide hes4
  by_cases hrk : rn = k
  · have hrk' : k = rn := hrk.symm
    subst hrk
    have HP4 := hide (HP.out.below hc4)
    have HZ := hide HP.out.zp
    have HGT := hide (tr_get (c := rc) hT4 HP4.out)
    clear hT4 hTB hTop hTes hE4 hnc4 hS4 hkk4 hes4 hb4 hc4 HG hrk'
    go_wp2_with fail
    refine HGT.out.mono ?_
    rintro e w5 ⟨hcs, hb5⟩
    have HCS := hide hcs
    have HB5 := hide hb5
    obtain ⟨v, ok, hx⟩ : ∃ (v : Nat) (ok : Bool), e = .returned (.tuple #[.int .u64 (v : Int), .bool ok, .int .i64 0]) := by
      rcases hcs with ⟨v, h, _⟩ | ⟨h, _⟩
      · exact ⟨v, true, h⟩
      · exact ⟨0, false, h⟩
    subst hx
    have HPT := hide (tr_Path (c := rc) (Blk.below HTB.out hb5) (HTOP.out.stay hb5) hk1 hk16 (HP4.out.below hb5))
    have HGR := hide (fun (X : World) (hX : Below w4.heap.size w4 X) => ref_get A4 RA n4 c4 rn rc rows p X (HE4.out.below hX) HKK.out (HP4.out.below hX) (by omega) (by omega))
    clear hcs hb5 HGT
    go_wp2_with fail
    refine HPT.out.mono ?_
    rintro e w6 ⟨fs, bot, gs, below, B6, d6, hWy, hFs, hfl, hEnd, rfl, hO6, hb6⟩
    have hc46 := below_then HB5.out hb6
    have HGR6 := hide (HGR.out w6 hc46)
    have HWY := hide hWy
    have HFS := hide hFs
    have HEND := hide hEnd
    have HO6 := hide hO6
    have HB46 := hide hc46
    have HLN := hide (hEnd.len HZ.out)
    have HRP := hide (ref_path (w := w5) (w0 := w4) (W := w6) (s0 := ⟨A4, n4, c4⟩) (rc := rc) hk1 hk16 hWy hFs hfl hEnd hc46 ⟨rows, HE4.out, HNC.out, by show n4 ≤ _; omega, HKK.out, by rw [HTES.out]; exact HES.out⟩ HP4.out)
    obtain ⟨gl, hgl⟩ : ∃ gl, gl = gs.length := ⟨_, rfl⟩
    have HGL := hide hgl
    have HB56 := hide hb6
    have hgl65 : gl ≤ 65 := by have := HLN.out; omega
    rw [← hgl]
    rw [← hgl] at hO6
    clear hWy hFs hEnd hO6 hb6 hc46 HGR HPT hgl
    go_wp2_with fail
    refine HGR6.out.mono ?_
    rintro e w7 ⟨⟨v7, ok7, rfl, hok7, h70, h71⟩, rfl⟩
    have hvv : v7 = v ∧ ok7 = ok := by
      rcases HCS.out with ⟨v', h, hin⟩ | ⟨h, hno⟩
      · have hv' : v = v' ∧ ok = true := by
          injection h with h
          injection h with h
          simp at h
          exact ⟨by omega, h.2⟩
        obtain ⟨rfl, rfl⟩ := hv'
        have hh : hasR rows p = true := (has_iff HS4.out HES.out HZ.out).2 ⟨v, hin⟩
        rw [hh] at hok7
        obtain ⟨r, hr1, hr2⟩ := h71 hok7
        have := has_val HS4.out HES.out HZ.out hh hr1
        rw [hr2] at this
        exact ⟨uniq_val HT4.out.sorted.1 this hin, hok7⟩
      · have hv' : v = 0 ∧ ok = false := by
          injection h with h
          injection h with h
          simp at h
          exact ⟨by omega, h.2⟩
        obtain ⟨rfl, rfl⟩ := hv'
        have hh : ok7 = false := by
          rw [hok7]
          cases hh : hasR rows p with
          | false => rfl
          | true =>
            obtain ⟨v, hv⟩ := (has_iff HS4.out HES.out HZ.out).1 hh
            exact absurd hv (hno v)
        exact ⟨h70 hh, hh⟩
    obtain ⟨rfl, rfl⟩ := hvv
    clear hok7 h70 h71 HGR6
    go_wp2_with fail
    refine HRP.out.mono ?_
    rintro e w8 ⟨B8, d8, sls, rfl, hO8, hl8, hok8, hb8⟩
    have hsl : sls.length = gl := by rw [hl8, HGL.out]; exact HLN.out.1.symm
    rw [hsl] at hO8 ⊢
    have HO8 := hide hO8
    have HOK8 := hide hok8
    have HL8 := hide hl8
    have HSLE := hide hsl
    have HB68 := hide hb8
    have HO68 := hide (own_below HO6.out hb8)
    have HB48 := hide (below_then HB46.out hb8)
    have e7 : decide ((65 : Int) < (gl : Int)) = false := by simp; omega
    rw [← HGL.out] at HO68
    clear hO8 hok8 hl8 hsl hb8 HRP
    have eok : (ok7 != ok7) = false := by cases ok7 <;> rfl
    go_wp2
    go_loopw [18] (fun x18 wr => ∃ (i : Nat), x18 = .int .i64 (i : Int) ∧ i ≤ gl ∧ Below w8.heap.size w8 wr) (fun x _ => gl - (intOf x).toNat)
    case atStart => exact ⟨0, rfl, Nat.zero_le _, Below.refl _ _⟩
    case round =>
      obtain ⟨i, rfl, hi, hbr⟩ := hrel
      have HBR := hide hbr
      rename World => wr
      by_cases hig : i < gl
      · have HRW := hide (own_rw HO68.out).2
        obtain ⟨b, o, hBe, hbl, u, hu, c0⟩ := (HRW.out.below hbr).one hig
        obtain ⟨g, hg⟩ : ∃ g, gs[i]? = some g := ⟨gs[i]'(by have := HGL.out; omega), List.getElem?_eq_getElem _⟩
        unfold ptrs at hu
        rw [List.getElem?_map, hg] at hu
        simp at hu
        rw [← hu] at c0
        subst hBe
        obtain ⟨b8, o8, hBe8, hbl8, u8, hu8, c8⟩ := ((own_rw HO8.out).2.below hbr).one hig
        obtain ⟨⟨sA, sn, sc⟩, hs⟩ : ∃ s, sls[i]? = some s := ⟨sls[i]'(by have := HSLE.out; omega), List.getElem?_eq_getElem _⟩
        rw [List.getElem?_map, hs] at hu8
        simp at hu8
        rw [← hu8] at c8
        subst hBe8
        simp only [EV.val] at c8
        obtain ⟨pes, hpe⟩ : ∃ pes, (pathEs p fs bot)[i]? = some pes := ⟨(pathEs p fs bot)[i]'(by have := HLN.out.1; have := HGL.out; omega), List.getElem?_eq_getElem _⟩
        obtain ⟨rws, hE8, hnc8, hn8, hkk8, hes8⟩ := HOK8.out i _ pes hs hpe
        simp only at hE8 hnc8 hn8
        obtain ⟨lv, pre, hNd⟩ := HEND.out.node HFS.out HZ.out hg hpe
        have hw4r := below_then HB48.out hbr
        have h5r := below_then HB56.out (below_then HB68.out hbr)
        have hisx : ∀ X : World, Below wr.heap.size wr X → Calls Try.prog 39 #[.pointer (some ⟨g, 0, none⟩), .slice sA sn sc] X fun e w' => e = .returned (.bool true) ∧ Below X.heap.size X w' := by
          intro X hX
          have h9 := is_node hNd hk1 hk16 X sA sc rws (below_then h5r hX)
          rw [hE8.len] at h9
          exact h9 (hE8.below (below_then hw4r hX)) hnc8 (Nat.le_trans hn8 (by omega)) hkk8 hes8
        have HISX := hide hisx
        clear hisx
        have HW4R := hide hw4r
        have H5R := hide h5r
        have HG := hide hg
        have C0 := hide c0
        have hi0 : (0 : Int) ≤ (i : Int) := by omega
        have hig' : (i : Int) < (gl : Int) := by omega
        clear hbr hu hu8 hs hpe hE8 hnc8 hn8 hkk8 hes8 hNd hw4r h5r hg
        go_wp2_with fail
        go_region_held3 (fun w' => w'.cell? ⟨b, o + i, none⟩ = some (.pointer (some ⟨g, 0, none⟩)) ∧ w'.cell? ⟨b8, o8 + i, none⟩ = some (.slice sA sn sc))
          (first
            | go_keep
            | exact hk9)
          (first
            | (go_at_call 39
               refine (HISX.out wr.drew (Below.refl _ wr).drew).mono ?_
               rintro e wy ⟨rfl, hb9⟩
               have hd9 : Below wr.heap.size wr wy := (Below.refl _ wr).drew.trans hb9
               have hk9 := And.intro ((hd9.cell (p := ⟨b, o + i, none⟩) hbl).trans c0) ((hd9.cell (p := ⟨b8, o8 + i, none⟩) hbl8).trans c8)
               have HD9 := hide hd9
               clear hb9))
        have H5Y := hide (below_then H5R.out HD9.out)
        have HW4Y := hide (below_then HW4R.out HD9.out)
        have hbly : b < wy.heap.size := Nat.lt_of_lt_of_le hbl HD9.out.size
        have c1 := (HD9.out.cell (p := ⟨b, o + i, none⟩) hbl).trans C0.out
        clear c0 c8 hk9 hd9 HISX
        replace hbl := hbly
        clear hbly
        rcases Nat.eq_zero_or_pos i with h0 | h0
        · subst h0
          obtain ⟨nt, hnt⟩ := HEND.out.first HWY.out HG.out
          have htr : ∀ X : World, Below wy.heap.size wy X → TreeBlk X t rn (some ⟨g, 0, none⟩) := by
            intro X hX
            have h9 := Blk.below HTB.out (below_then HW4Y.out hX)
            rw [hnt] at h9
            exact h9
          have HTR := hide htr
          clear htr
          have c0 : wy.cell? ⟨b, o, none⟩ = some (.pointer (some ⟨g, 0, none⟩)) := c1
          have hpq := ptr_same_neq ⟨g, 0, none⟩
          clear c1 hi0 hnt
          go_wp2_with fail
          refine wp_region_held_drew (S := (fun w' => w'.cell? ⟨b, o, none⟩ = some (.pointer (some ⟨g, 0, none⟩)))) (by kernel_rfl) (show wy.drew.cell? ⟨b, o, none⟩ = _ from c0) (fun hHeld => ?_)
          refine wpAnyH_take (i := 0) (oi := { dst := some 134, op := _, type := _, pos := _, after := _, guard := _ }) (v := ?_) rfl (by kernel_rfl) (by kernel_rfl) (by kernel_rfl) (fun _ _ _ h => h) (Or.inl ⟨by rfl, ?_⟩) (by assumption) ?_
          rotate_left 1
          · intro wS hSw
            try dsimp only at hSw
            go_simp
            all_goals with_reducible rfl
          try simp only [Act.put, List.setIfInBounds_toArray, List.set_cons_zero, List.set_cons_succ]
          refine wpAnyH_take (i := 1) (oi := { dst := some 135, op := _, type := _, pos := _, after := _, guard := _ }) (v := ?_) rfl (by kernel_rfl) (by kernel_rfl) (by kernel_rfl) (fun _ _ _ h => h) (Or.inl ⟨by rfl, ?_⟩) (by assumption) ?_
          rotate_left 1
          · intro wS hSw
            try dsimp only at hSw
            go_simp
            all_goals with_reducible rfl
          try simp only [Act.put, List.setIfInBounds_toArray, List.set_cons_zero, List.set_cons_succ]
          refine wpAnyH_take (i := 2) (oi := { dst := some 136, op := _, type := _, pos := _, after := _, guard := _ }) (v := ?_) rfl (by kernel_rfl) (by kernel_rfl) (by kernel_rfl) (fun _ _ _ h => h) (Or.inl ⟨by rfl, ?_⟩) (by assumption) ?_
          rotate_left 1
          · intro wS hSw
            try dsimp only at hSw
            go_simp
            all_goals with_reducible rfl
          try simp only [Act.put, List.setIfInBounds_toArray, List.set_cons_zero, List.set_cons_succ]
          refine wpAnyH_take (i := 3) (oi := { dst := some 137, op := _, type := _, pos := _, after := _, guard := _ }) (v := ?_) rfl (by kernel_rfl) (by kernel_rfl) (by kernel_rfl) (fun _ _ _ h => h) (Or.inl ⟨by rfl, ?_⟩) (by assumption) ?_
          rotate_left 1
          · intro wS hSw
            try dsimp only at hSw
            go_simp
            all_goals with_reducible rfl
          try simp only [Act.put, List.setIfInBounds_toArray, List.set_cons_zero, List.set_cons_succ]
          refine wpAnyH_take (i := 4) (oi := { dst := some 138, op := _, type := _, pos := _, after := _, guard := _ }) (v := ?_) rfl (by kernel_rfl) (by kernel_rfl) (by kernel_rfl) (fun _ _ _ h => h) (Or.inl ⟨by rfl, ?_⟩) (by assumption) ?_
          rotate_left 1
          · intro wS hSw
            try dsimp only at hSw
            go_simp
            all_goals with_reducible rfl
          try simp only [Act.put, List.setIfInBounds_toArray, List.set_cons_zero, List.set_cons_succ]
          refine wpAnyH_take (i := 5) (oi := { dst := some 139, op := _, type := _, pos := _, after := _, guard := _ }) (v := ?_) rfl (by kernel_rfl) (by kernel_rfl) (by kernel_rfl) (fun _ _ _ h => h) (Or.inl ⟨by rfl, ?_⟩) (by assumption) ?_
          rotate_left 1
          · intro wS hSw
            try dsimp only at hSw
            go_simp
            all_goals with_reducible rfl
          try simp only [Act.put, List.setIfInBounds_toArray, List.set_cons_zero, List.set_cons_succ]
          refine wpAnyH_take (i := 6) (oi := { dst := some 140, op := _, type := _, pos := _, after := _, guard := _ }) (v := ?_) rfl (by kernel_rfl) (by kernel_rfl) (by kernel_rfl) (fun _ _ _ h => h) (Or.inl ⟨by rfl, ?_⟩) (by assumption) ?_
          rotate_left 1
          · intro wS hSw
            try dsimp only at hSw
            go_simp
            all_goals with_reducible rfl
          try simp only [Act.put, List.setIfInBounds_toArray, List.set_cons_zero, List.set_cons_succ]
          refine wpAnyH_ready (rs := [7]) (by kernel_rfl) (by simp) ?_
          refine AllReadyH.cons (o := { dst := some 141, op := _, type := _, pos := _, after := _, guard := _ }) rfl (fun K hK => ?_) AllReadyH.nil
          go_simp
          go_at_call 67
          refine (tr_root (HTR.out wy.drew (Below.refl _ wy).drew)).mono ?_
          rintro e w6 ⟨rfl, rfl⟩
          try go_wp2_with fail
          refine hK.out _ _ ?_ (fun hHeld => ?_)
          · exact (show wy.drew.cell? ⟨b, o, none⟩ = _ from c0)
          clear hK K
          try simp only [Act.put, List.setIfInBounds_toArray, List.set_cons_zero, List.set_cons_succ]
          refine wpAnyH_take (i := 8) (oi := { dst := some 142, op := _, type := _, pos := _, after := _, guard := _ }) (v := ?_) rfl (by kernel_rfl) (by kernel_rfl) (by kernel_rfl) (fun _ _ _ h => h) (Or.inl ⟨by rfl, ?_⟩) (by assumption) ?_
          rotate_left 1
          · intro wS hSw
            try dsimp only at hSw
            go_simp
            all_goals with_reducible rfl
          try simp only [Act.put, List.setIfInBounds_toArray, List.set_cons_zero, List.set_cons_succ]
          refine wpAnyH_take (i := 9) (oi := { dst := some 143, op := _, type := _, pos := _, after := _, guard := _ }) (v := ?_) rfl (by kernel_rfl) (by kernel_rfl) (by kernel_rfl) (fun _ _ _ h => h) (Or.inl ⟨by rfl, ?_⟩) (by assumption) ?_
          rotate_left 1
          · intro wS hSw
            try dsimp only at hSw
            go_simp
            all_goals with_reducible rfl
          try simp only [Act.put, List.setIfInBounds_toArray, List.set_cons_zero, List.set_cons_succ]
          refine wpAnyH_take (i := 10) (oi := { dst := some 144, op := _, type := _, pos := _, after := _, guard := _ }) (v := ?_) rfl (by kernel_rfl) (by kernel_rfl) (by kernel_rfl) (fun _ _ _ h => h) (Or.inl ⟨by rfl, ?_⟩) (by assumption) ?_
          rotate_left 1
          · intro wS hSw
            try dsimp only at hSw
            go_simp
            all_goals with_reducible rfl
          try simp only [Act.put, List.setIfInBounds_toArray, List.set_cons_zero, List.set_cons_succ]
          refine wpAnyH_take (i := 11) (oi := { dst := some 145, op := _, type := _, pos := _, after := _, guard := _ }) (v := ?_) rfl (by kernel_rfl) (by kernel_rfl) (by kernel_rfl) (fun _ _ _ h => h) (Or.inl ⟨by rfl, ?_⟩) (by assumption) ?_
          rotate_left 1
          · intro wS hSw
            try dsimp only at hSw
            go_simp
            all_goals with_reducible rfl
          try simp only [Act.put, List.setIfInBounds_toArray, List.set_cons_zero, List.set_cons_succ]
          refine wpAnyH_take (i := 12) (oi := { dst := some 146, op := _, type := _, pos := _, after := _, guard := _ }) (v := ?_) rfl (by kernel_rfl) (by kernel_rfl) (by kernel_rfl) (fun _ _ _ h => h) (Or.inl ⟨by rfl, ?_⟩) (by assumption) ?_
          rotate_left 1
          · intro wS hSw
            try dsimp only at hSw
            go_simp
            all_goals with_reducible rfl
          try simp only [Act.put, List.setIfInBounds_toArray, List.set_cons_zero, List.set_cons_succ]
          refine wpAnyH_take (i := 13) (oi := { dst := some 147, op := _, type := _, pos := _, after := _, guard := _ }) (v := ?_) rfl (by kernel_rfl) (by kernel_rfl) (by kernel_rfl) (fun _ _ _ h => h) (Or.inl ⟨by rfl, ?_⟩) (by assumption) ?_
          rotate_left 1
          · intro wS hSw
            try dsimp only at hSw
            go_simp
            all_goals with_reducible rfl
          try simp only [Act.put, List.setIfInBounds_toArray, List.set_cons_zero, List.set_cons_succ]
          refine wpAnyH_take (i := 14) (oi := { dst := some 148, op := _, type := _, pos := _, after := _, guard := _ }) (v := undef) rfl (by kernel_rfl) (by kernel_rfl) (by kernel_rfl) (fun _ _ _ h => h) (Or.inr ⟨by rfl, rfl⟩) (by assumption) ?_
          try simp only [Act.put, List.setIfInBounds_toArray, List.set_cons_zero, List.set_cons_succ]
          refine wpAnyH_take (i := 15) (oi := { dst := some 149, op := _, type := _, pos := _, after := _, guard := _ }) (v := undef) rfl (by kernel_rfl) (by kernel_rfl) (by kernel_rfl) (fun _ _ _ h => h) (Or.inr ⟨by rfl, rfl⟩) (by assumption) ?_
          try simp only [Act.put, List.setIfInBounds_toArray, List.set_cons_zero, List.set_cons_succ]
          refine wpAnyH_take (i := 16) (oi := { dst := some 150, op := _, type := _, pos := _, after := _, guard := _ }) (v := undef) rfl (by kernel_rfl) (by kernel_rfl) (by kernel_rfl) (fun _ _ _ h => h) (Or.inr ⟨by rfl, rfl⟩) (by assumption) ?_
          try simp only [Act.put, List.setIfInBounds_toArray, List.set_cons_zero, List.set_cons_succ]
          refine wpAnyH_take (i := 17) (oi := { dst := some 151, op := _, type := _, pos := _, after := _, guard := _ }) (v := undef) rfl (by kernel_rfl) (by kernel_rfl) (by kernel_rfl) (fun _ _ _ h => h) (Or.inr ⟨by rfl, rfl⟩) (by assumption) ?_
          try simp only [Act.put, List.setIfInBounds_toArray, List.set_cons_zero, List.set_cons_succ]
          refine wpAnyH_take (i := 18) (oi := { dst := some 152, op := _, type := _, pos := _, after := _, guard := _ }) (v := undef) rfl (by kernel_rfl) (by kernel_rfl) (by kernel_rfl) (fun _ _ _ h => h) (Or.inr ⟨by rfl, rfl⟩) (by assumption) ?_
          try simp only [Act.put, List.setIfInBounds_toArray, List.set_cons_zero, List.set_cons_succ]
          refine wpAnyH_take (i := 19) (oi := { dst := some 153, op := _, type := _, pos := _, after := _, guard := _ }) (v := undef) rfl (by kernel_rfl) (by kernel_rfl) (by kernel_rfl) (fun _ _ _ h => h) (Or.inr ⟨by rfl, rfl⟩) (by assumption) ?_
          try simp only [Act.put, List.setIfInBounds_toArray, List.set_cons_zero, List.set_cons_succ]
          refine wpAnyH_take (i := 20) (oi := { dst := some 154, op := _, type := _, pos := _, after := _, guard := _ }) (v := undef) rfl (by kernel_rfl) (by kernel_rfl) (by kernel_rfl) (fun _ _ _ h => h) (Or.inr ⟨by rfl, rfl⟩) (by assumption) ?_
          try simp only [Act.put, List.setIfInBounds_toArray, List.set_cons_zero, List.set_cons_succ]
          refine wpAnyH_take (i := 21) (oi := { dst := some 155, op := _, type := _, pos := _, after := _, guard := _ }) (v := undef) rfl (by kernel_rfl) (by kernel_rfl) (by kernel_rfl) (fun _ _ _ h => h) (Or.inr ⟨by rfl, rfl⟩) (by assumption) ?_
          try simp only [Act.put, List.setIfInBounds_toArray, List.set_cons_zero, List.set_cons_succ]
          refine wpAnyH_take (i := 22) (oi := { dst := some 156, op := _, type := _, pos := _, after := _, guard := _ }) (v := undef) rfl (by kernel_rfl) (by kernel_rfl) (by kernel_rfl) (fun _ _ _ h => h) (Or.inr ⟨by rfl, rfl⟩) (by assumption) ?_
          try simp only [Act.put, List.setIfInBounds_toArray, List.set_cons_zero, List.set_cons_succ]
          refine wpAnyH_take (i := 23) (oi := { dst := some 157, op := _, type := _, pos := _, after := _, guard := _ }) (v := undef) rfl (by kernel_rfl) (by kernel_rfl) (by kernel_rfl) (fun _ _ _ h => h) (Or.inr ⟨by rfl, rfl⟩) (by assumption) ?_
          try simp only [Act.put, List.setIfInBounds_toArray, List.set_cons_zero, List.set_cons_succ]
          refine wpAnyH_take (i := 24) (oi := { dst := some 158, op := _, type := _, pos := _, after := _, guard := _ }) (v := undef) rfl (by kernel_rfl) (by kernel_rfl) (by kernel_rfl) (fun _ _ _ h => h) (Or.inr ⟨by rfl, rfl⟩) (by assumption) ?_
          try simp only [Act.put, List.setIfInBounds_toArray, List.set_cons_zero, List.set_cons_succ]
          refine wpAnyH_take (i := 25) (oi := { dst := some 159, op := _, type := _, pos := _, after := _, guard := _ }) (v := undef) rfl (by kernel_rfl) (by kernel_rfl) (by kernel_rfl) (fun _ _ _ h => h) (Or.inr ⟨by rfl, rfl⟩) (by assumption) ?_
          try simp only [Act.put, List.setIfInBounds_toArray, List.set_cons_zero, List.set_cons_succ]
          refine wpAnyH_take (i := 26) (oi := { dst := some 160, op := _, type := _, pos := _, after := _, guard := _ }) (v := undef) rfl (by kernel_rfl) (by kernel_rfl) (by kernel_rfl) (fun _ _ _ h => h) (Or.inr ⟨by rfl, rfl⟩) (by assumption) ?_
          try simp only [Act.put, List.setIfInBounds_toArray, List.set_cons_zero, List.set_cons_succ]
          refine wpAnyH_take (i := 27) (oi := { dst := some 161, op := _, type := _, pos := _, after := _, guard := _ }) (v := undef) rfl (by kernel_rfl) (by kernel_rfl) (by kernel_rfl) (fun _ _ _ h => h) (Or.inr ⟨by rfl, rfl⟩) (by assumption) ?_
          try simp only [Act.put, List.setIfInBounds_toArray, List.set_cons_zero, List.set_cons_succ]
          refine wpAnyH_take (i := 28) (oi := { dst := some 162, op := _, type := _, pos := _, after := _, guard := _ }) (v := undef) rfl (by kernel_rfl) (by kernel_rfl) (by kernel_rfl) (fun _ _ _ h => h) (Or.inr ⟨by rfl, rfl⟩) (by assumption) ?_
          try simp only [Act.put, List.setIfInBounds_toArray, List.set_cons_zero, List.set_cons_succ]
          refine wpAnyH_take (i := 29) (oi := { dst := some 163, op := _, type := _, pos := _, after := _, guard := _ }) (v := undef) rfl (by kernel_rfl) (by kernel_rfl) (by kernel_rfl) (fun _ _ _ h => h) (Or.inr ⟨by rfl, rfl⟩) (by assumption) ?_
          try simp only [Act.put, List.setIfInBounds_toArray, List.set_cons_zero, List.set_cons_succ]
          refine wpAnyH_take (i := 30) (oi := { dst := some 164, op := _, type := _, pos := _, after := _, guard := _ }) (v := undef) rfl (by kernel_rfl) (by kernel_rfl) (by kernel_rfl) (fun _ _ _ h => h) (Or.inr ⟨by rfl, rfl⟩) (by assumption) ?_
          try simp only [Act.put, List.setIfInBounds_toArray, List.set_cons_zero, List.set_cons_succ]
          refine wpAnyH_take (i := 31) (oi := { dst := some 165, op := _, type := _, pos := _, after := _, guard := _ }) (v := undef) rfl (by kernel_rfl) (by kernel_rfl) (by kernel_rfl) (fun _ _ _ h => h) (Or.inr ⟨by rfl, rfl⟩) (by assumption) ?_
          try simp only [Act.put, List.setIfInBounds_toArray, List.set_cons_zero, List.set_cons_succ]
          refine wpAnyH_take (i := 32) (oi := { dst := some 166, op := _, type := _, pos := _, after := _, guard := _ }) (v := undef) rfl (by kernel_rfl) (by kernel_rfl) (by kernel_rfl) (fun _ _ _ h => h) (Or.inr ⟨by rfl, rfl⟩) (by assumption) ?_
          try simp only [Act.put, List.setIfInBounds_toArray, List.set_cons_zero, List.set_cons_succ]
          refine wpAnyH_take (i := 33) (oi := { dst := some 167, op := _, type := _, pos := _, after := _, guard := _ }) (v := ?_) rfl (by kernel_rfl) (by kernel_rfl) (by kernel_rfl) (fun _ _ _ h => h) (Or.inl ⟨by rfl, ?_⟩) (by assumption) ?_
          rotate_left 1
          · intro wS hSw
            try dsimp only at hSw
            go_simp
            all_goals with_reducible rfl
          try simp only [Act.put, List.setIfInBounds_toArray, List.set_cons_zero, List.set_cons_succ]
          refine wpAnyH_take (i := 34) (oi := { dst := some 168, op := _, type := _, pos := _, after := _, guard := _ }) (v := ?_) rfl (by kernel_rfl) (by kernel_rfl) (by kernel_rfl) (fun _ _ _ h => h) (Or.inl ⟨by rfl, ?_⟩) (by assumption) ?_
          rotate_left 1
          · intro wS hSw
            try dsimp only at hSw
            go_simp
            all_goals with_reducible rfl
          try simp only [Act.put, List.setIfInBounds_toArray, List.set_cons_zero, List.set_cons_succ]
          refine wpAnyH_done (by kernel_rfl) ?_ _
          go_wp2
          go_roundw
          case rel => exact ⟨1, by go_num, by omega, (below_then HBR.out HD9.out).drew⟩
          case measure => simp [intOf]; omega
        · obtain ⟨i', hi'⟩ : ∃ i', i = i' + 1 := ⟨i - 1, by omega⟩
          have hg' := HG.out
          rw [hi'] at hg'
          obtain ⟨f, hf, hgf, nt, hka⟩ := HEND.out.kid HWY.out hg'
          have c2 : wy.cell? ⟨b, o + i', none⟩ = some (.pointer (some ⟨f.g, 0, none⟩)) := by
            obtain ⟨b', o', hBe, hbl', u, hu, c2⟩ := ((HRW.out.below HBR.out).below HD9.out).one (i := i') (by omega)
            injection hBe with hBe
            injection hBe with hB1 hB2
            subst hB1 hB2
            unfold ptrs at hu
            rw [List.getElem?_map, hgf] at hu
            simp at hu
            rw [← hu] at c2
            exact c2
          have hFk := HFS.out f (List.mem_of_getElem? hf)
          have hflv : f.lv < 64 := hFk.fk.lv
          have HFK := hide (fun (X : World) (hX : Below wy.heap.size wy X) => hFk.stay (below_then H5Y.out hX))
          have HPY := hide (HP4.out.below HW4Y.out)
          have hkid : ∀ X : World, Below wy.heap.size wy X → Calls Try.prog 44 #[.pointer (some ⟨f.g, 0, none⟩), .int .i64 (addrOf p f.lv : Int)] X fun e w' => e = .returned (.pointer (some ⟨g, 0, none⟩)) ∧ Below X.heap.size X w' := by
            intro X hX
            obtain ⟨A', c', gs', hp', hS', hB'⟩ := (HFK.out X hX).head
            have h9 := nd_kid hB' hS' (addrOf p f.lv : Int)
            rw [kid_ptr (HFK.out X hX), hka] at h9
            exact h9
          have HKID := hide hkid
          clear hkid
          obtain ⟨e2, q1, q2, q3, q4, q5, q6, q7, q8, q9, q10, q11⟩ := idxp hi' hig hgl65
          have hpq := ptr_same_neq ⟨g, 0, none⟩
          clear hg' hf hgf hka hFk h0 hi'
          go_wp2_with fail
          refine wp_region_held_drew (S := (fun w' => w'.cell? ⟨b, o + i, none⟩ = some (.pointer (some ⟨g, 0, none⟩)) ∧ w'.cell? ⟨b, o + i', none⟩ = some (.pointer (some ⟨f.g, 0, none⟩)))) (by kernel_rfl) (And.intro (show wy.drew.cell? ⟨b, o + i, none⟩ = _ from c1) (show wy.drew.cell? ⟨b, o + i', none⟩ = _ from c2)) (fun hHeld => ?_)
          refine wpAnyH_take (i := 0) (oi := { dst := some 134, op := _, type := _, pos := _, after := _, guard := _ }) (v := ?_) rfl (by kernel_rfl) (by kernel_rfl) (by kernel_rfl) (fun _ _ _ h => h) (Or.inl ⟨by rfl, ?_⟩) (by assumption) ?_
          rotate_left 1
          · intro wS hSw
            try dsimp only at hSw
            go_simp
            all_goals with_reducible rfl
          try simp only [Act.put, List.setIfInBounds_toArray, List.set_cons_zero, List.set_cons_succ]
          refine wpAnyH_take (i := 1) (oi := { dst := some 135, op := _, type := _, pos := _, after := _, guard := _ }) (v := ?_) rfl (by kernel_rfl) (by kernel_rfl) (by kernel_rfl) (fun _ _ _ h => h) (Or.inl ⟨by rfl, ?_⟩) (by assumption) ?_
          rotate_left 1
          · intro wS hSw
            try dsimp only at hSw
            go_simp
            all_goals with_reducible rfl
          try simp only [Act.put, List.setIfInBounds_toArray, List.set_cons_zero, List.set_cons_succ]
          refine wpAnyH_take (i := 2) (oi := { dst := some 136, op := _, type := _, pos := _, after := _, guard := _ }) (v := ?_) rfl (by kernel_rfl) (by kernel_rfl) (by kernel_rfl) (fun _ _ _ h => h) (Or.inl ⟨by rfl, ?_⟩) (by assumption) ?_
          rotate_left 1
          · intro wS hSw
            try dsimp only at hSw
            go_simp
            all_goals with_reducible rfl
          try simp only [Act.put, List.setIfInBounds_toArray, List.set_cons_zero, List.set_cons_succ]
          refine wpAnyH_take (i := 3) (oi := { dst := some 137, op := _, type := _, pos := _, after := _, guard := _ }) (v := undef) rfl (by kernel_rfl) (by kernel_rfl) (by kernel_rfl) (fun _ _ _ h => h) (Or.inr ⟨by rfl, rfl⟩) (by assumption) ?_
          try simp only [Act.put, List.setIfInBounds_toArray, List.set_cons_zero, List.set_cons_succ]
          refine wpAnyH_take (i := 4) (oi := { dst := some 138, op := _, type := _, pos := _, after := _, guard := _ }) (v := undef) rfl (by kernel_rfl) (by kernel_rfl) (by kernel_rfl) (fun _ _ _ h => h) (Or.inr ⟨by rfl, rfl⟩) (by assumption) ?_
          try simp only [Act.put, List.setIfInBounds_toArray, List.set_cons_zero, List.set_cons_succ]
          refine wpAnyH_take (i := 5) (oi := { dst := some 139, op := _, type := _, pos := _, after := _, guard := _ }) (v := undef) rfl (by kernel_rfl) (by kernel_rfl) (by kernel_rfl) (fun _ _ _ h => h) (Or.inr ⟨by rfl, rfl⟩) (by assumption) ?_
          try simp only [Act.put, List.setIfInBounds_toArray, List.set_cons_zero, List.set_cons_succ]
          refine wpAnyH_take (i := 6) (oi := { dst := some 140, op := _, type := _, pos := _, after := _, guard := _ }) (v := undef) rfl (by kernel_rfl) (by kernel_rfl) (by kernel_rfl) (fun _ _ _ h => h) (Or.inr ⟨by rfl, rfl⟩) (by assumption) ?_
          try simp only [Act.put, List.setIfInBounds_toArray, List.set_cons_zero, List.set_cons_succ]
          refine wpAnyH_take (i := 7) (oi := { dst := some 141, op := _, type := _, pos := _, after := _, guard := _ }) (v := undef) rfl (by kernel_rfl) (by kernel_rfl) (by kernel_rfl) (fun _ _ _ h => h) (Or.inr ⟨by rfl, rfl⟩) (by assumption) ?_
          try simp only [Act.put, List.setIfInBounds_toArray, List.set_cons_zero, List.set_cons_succ]
          refine wpAnyH_take (i := 8) (oi := { dst := some 142, op := _, type := _, pos := _, after := _, guard := _ }) (v := undef) rfl (by kernel_rfl) (by kernel_rfl) (by kernel_rfl) (fun _ _ _ h => h) (Or.inr ⟨by rfl, rfl⟩) (by assumption) ?_
          try simp only [Act.put, List.setIfInBounds_toArray, List.set_cons_zero, List.set_cons_succ]
          refine wpAnyH_take (i := 9) (oi := { dst := some 143, op := _, type := _, pos := _, after := _, guard := _ }) (v := ?_) rfl (by kernel_rfl) (by kernel_rfl) (by kernel_rfl) (fun _ _ _ h => h) (Or.inl ⟨by rfl, ?_⟩) (by assumption) ?_
          rotate_left 1
          · intro wS hSw
            try dsimp only at hSw
            go_simp
            all_goals with_reducible rfl
          try simp only [Act.put, List.setIfInBounds_toArray, List.set_cons_zero, List.set_cons_succ]
          refine wpAnyH_take (i := 10) (oi := { dst := some 144, op := _, type := _, pos := _, after := _, guard := _ }) (v := ?_) rfl (by kernel_rfl) (by kernel_rfl) (by kernel_rfl) (fun _ _ _ h => h) (Or.inl ⟨by rfl, ?_⟩) (by assumption) ?_
          rotate_left 1
          · intro wS hSw
            try dsimp only at hSw
            go_simp
            all_goals with_reducible rfl
          try simp only [Act.put, List.setIfInBounds_toArray, List.set_cons_zero, List.set_cons_succ]
          refine wpAnyH_take (i := 11) (oi := { dst := some 145, op := _, type := _, pos := _, after := _, guard := _ }) (v := ?_) rfl (by kernel_rfl) (by kernel_rfl) (by kernel_rfl) (fun _ _ _ h => h) (Or.inl ⟨by rfl, ?_⟩) (by assumption) ?_
          rotate_left 1
          · intro wS hSw
            try dsimp only at hSw
            go_simp
            all_goals with_reducible rfl
          try simp only [Act.put, List.setIfInBounds_toArray, List.set_cons_zero, List.set_cons_succ]
          refine wpAnyH_take (i := 12) (oi := { dst := some 146, op := _, type := _, pos := _, after := _, guard := _ }) (v := ?_) rfl (by kernel_rfl) (by kernel_rfl) (by kernel_rfl) (fun _ _ _ h => h) (Or.inl ⟨by rfl, ?_⟩) (by assumption) ?_
          rotate_left 1
          · intro wS hSw
            try dsimp only at hSw
            go_simp
            all_goals with_reducible rfl
          try simp only [Act.put, List.setIfInBounds_toArray, List.set_cons_zero, List.set_cons_succ]
          refine wpAnyH_take (i := 13) (oi := { dst := some 147, op := _, type := _, pos := _, after := _, guard := _ }) (v := ?_) rfl (by kernel_rfl) (by kernel_rfl) (by kernel_rfl) (fun _ _ _ h => h) (Or.inl ⟨by rfl, ?_⟩) (by assumption) ?_
          rotate_left 1
          · intro wS hSw
            try dsimp only at hSw
            go_simp
            all_goals with_reducible rfl
          try simp only [Act.put, List.setIfInBounds_toArray, List.set_cons_zero, List.set_cons_succ]
          refine wpAnyH_take (i := 14) (oi := { dst := some 148, op := _, type := _, pos := _, after := _, guard := _ }) (v := ?_) rfl (by kernel_rfl) (by kernel_rfl) (by kernel_rfl) (fun _ _ _ h => h) (Or.inl ⟨by rfl, ?_⟩) (by assumption) ?_
          rotate_left 1
          · intro wS hSw
            try dsimp only at hSw
            go_simp
            all_goals with_reducible rfl
          try simp only [Act.put, List.setIfInBounds_toArray, List.set_cons_zero, List.set_cons_succ]
          refine wpAnyH_take (i := 15) (oi := { dst := some 149, op := _, type := _, pos := _, after := _, guard := _ }) (v := ?_) rfl (by kernel_rfl) (by kernel_rfl) (by kernel_rfl) (fun _ _ _ h => h) (Or.inl ⟨by rfl, ?_⟩) (by assumption) ?_
          rotate_left 1
          · intro wS hSw
            try dsimp only at hSw
            go_simp
            all_goals with_reducible rfl
          try simp only [Act.put, List.setIfInBounds_toArray, List.set_cons_zero, List.set_cons_succ]
          refine wpAnyH_take (i := 16) (oi := { dst := some 150, op := _, type := _, pos := _, after := _, guard := _ }) (v := ?_) rfl (by kernel_rfl) (by kernel_rfl) (by kernel_rfl) (fun _ _ _ h => h) (Or.inl ⟨by rfl, ?_⟩) (by assumption) ?_
          rotate_left 1
          · intro wS hSw
            try dsimp only at hSw
            go_simp
            all_goals with_reducible rfl
          try simp only [Act.put, List.setIfInBounds_toArray, List.set_cons_zero, List.set_cons_succ]
          refine wpAnyH_take (i := 17) (oi := { dst := some 151, op := _, type := _, pos := _, after := _, guard := _ }) (v := ?_) rfl (by kernel_rfl) (by kernel_rfl) (by kernel_rfl) (fun _ _ _ h => h) (Or.inl ⟨by rfl, ?_⟩) (by assumption) ?_
          rotate_left 1
          · intro wS hSw
            try dsimp only at hSw
            go_simp
            all_goals with_reducible rfl
          try simp only [Act.put, List.setIfInBounds_toArray, List.set_cons_zero, List.set_cons_succ]
          refine wpAnyH_take (i := 18) (oi := { dst := some 152, op := _, type := _, pos := _, after := _, guard := _ }) (v := ?_) rfl (by kernel_rfl) (by kernel_rfl) (by kernel_rfl) (fun _ _ _ h => h) (Or.inl ⟨by rfl, ?_⟩) (by assumption) ?_
          rotate_left 1
          · intro wS hSw
            try dsimp only at hSw
            go_simp
            all_goals with_reducible rfl
          try simp only [Act.put, List.setIfInBounds_toArray, List.set_cons_zero, List.set_cons_succ]
          refine wpAnyH_take (i := 19) (oi := { dst := some 153, op := _, type := _, pos := _, after := _, guard := _ }) (v := ?_) rfl (by kernel_rfl) (by kernel_rfl) (by kernel_rfl) (fun _ _ _ h => h) (Or.inl ⟨by rfl, ?_⟩) (by assumption) ?_
          rotate_left 1
          · intro wS hSw
            try dsimp only at hSw
            go_simp
            all_goals with_reducible rfl
          try simp only [Act.put, List.setIfInBounds_toArray, List.set_cons_zero, List.set_cons_succ]
          refine wpAnyH_take (i := 20) (oi := { dst := some 154, op := _, type := _, pos := _, after := _, guard := _ }) (v := ?_) rfl (by kernel_rfl) (by kernel_rfl) (by kernel_rfl) (fun _ _ _ h => h) (Or.inl ⟨by rfl, ?_⟩) (by assumption) ?_
          rotate_left 1
          · intro wS hSw
            try dsimp only at hSw
            go_simp
            all_goals with_reducible rfl
          try simp only [Act.put, List.setIfInBounds_toArray, List.set_cons_zero, List.set_cons_succ]
          refine wpAnyH_take (i := 21) (oi := { dst := some 155, op := _, type := _, pos := _, after := _, guard := _ }) (v := ?_) rfl (by kernel_rfl) (by kernel_rfl) (by kernel_rfl) (fun _ _ _ h => h) (Or.inl ⟨by rfl, ?_⟩) (by assumption) ?_
          rotate_left 1
          · intro wS hSw
            try dsimp only at hSw
            go_simp
            all_goals with_reducible rfl
          try simp only [Act.put, List.setIfInBounds_toArray, List.set_cons_zero, List.set_cons_succ]
          refine wpAnyH_take (i := 22) (oi := { dst := some 156, op := _, type := _, pos := _, after := _, guard := _ }) (v := ?_) rfl (by kernel_rfl) (by kernel_rfl) (by kernel_rfl) (fun _ _ _ h => h) (Or.inl ⟨by rfl, ?_⟩) (by assumption) ?_
          rotate_left 1
          · intro wS hSw
            try dsimp only at hSw
            go_simp
            all_goals with_reducible rfl
          try simp only [Act.put, List.setIfInBounds_toArray, List.set_cons_zero, List.set_cons_succ]
          refine wpAnyH_take (i := 23) (oi := { dst := some 157, op := _, type := _, pos := _, after := _, guard := _ }) (v := ?_) rfl (by kernel_rfl) (by kernel_rfl) (by kernel_rfl) (fun _ _ _ h => h) (Or.inl ⟨by rfl, ?_⟩) (by assumption) ?_
          rotate_left 1
          · intro wS hSw
            try dsimp only at hSw
            go_simp
            all_goals with_reducible rfl
          try simp only [Act.put, List.setIfInBounds_toArray, List.set_cons_zero, List.set_cons_succ]
          refine wpAnyH_take (i := 24) (oi := { dst := some 158, op := _, type := _, pos := _, after := _, guard := _ }) (v := ?_) rfl (by kernel_rfl) (by kernel_rfl) (by kernel_rfl) (fun _ _ _ h => h) (Or.inl ⟨by rfl, ?_⟩) (by assumption) ?_
          rotate_left 1
          · intro wS hSw
            try dsimp only at hSw
            go_simp
            all_goals with_reducible rfl
          try simp only [Act.put, List.setIfInBounds_toArray, List.set_cons_zero, List.set_cons_succ]
          refine wpAnyH_take (i := 25) (oi := { dst := some 159, op := _, type := _, pos := _, after := _, guard := _ }) (v := ?_) rfl (by kernel_rfl) (by kernel_rfl) (by kernel_rfl) (fun _ _ _ h => h) (Or.inl ⟨by rfl, ?_⟩) (by assumption) ?_
          rotate_left 1
          · intro wS hSw
            try dsimp only at hSw
            go_simp
            all_goals with_reducible rfl
          try simp only [Act.put, List.setIfInBounds_toArray, List.set_cons_zero, List.set_cons_succ]
          refine wpAnyH_take (i := 26) (oi := { dst := some 160, op := _, type := _, pos := _, after := _, guard := _ }) (v := ?_) rfl (by kernel_rfl) (by kernel_rfl) (by kernel_rfl) (fun _ _ _ h => h) (Or.inl ⟨by rfl, ?_⟩) (by assumption) ?_
          rotate_left 1
          · intro wS hSw
            try dsimp only at hSw
            go_simp
            all_goals with_reducible rfl
          try simp only [Act.put, List.setIfInBounds_toArray, List.set_cons_zero, List.set_cons_succ]
          refine wpAnyH_take (i := 27) (oi := { dst := some 161, op := _, type := _, pos := _, after := _, guard := _ }) (v := ?_) rfl (by kernel_rfl) (by kernel_rfl) (by kernel_rfl) (fun _ _ _ h => h) (Or.inl ⟨by rfl, ?_⟩) (by assumption) ?_
          rotate_left 1
          · intro wS hSw
            try dsimp only at hSw
            go_simp
            all_goals with_reducible rfl
          try simp only [Act.put, List.setIfInBounds_toArray, List.set_cons_zero, List.set_cons_succ]
          refine wpAnyH_take (i := 28) (oi := { dst := some 162, op := _, type := _, pos := _, after := _, guard := _ }) (v := ?_) rfl (by kernel_rfl) (by kernel_rfl) (by kernel_rfl) (fun _ _ _ h => h) (Or.inl ⟨by rfl, ?_⟩) (by assumption) ?_
          rotate_left 1
          · intro wS hSw
            try dsimp only at hSw
            go_simp
            all_goals with_reducible rfl
          try simp only [Act.put, List.setIfInBounds_toArray, List.set_cons_zero, List.set_cons_succ]
          refine wpAnyH_ready (rs := [29]) (by kernel_rfl) (by simp) ?_
          refine AllReadyH.cons (o := { dst := some 163, op := _, type := _, pos := _, after := _, guard := _ }) rfl (fun K hK => ?_) AllReadyH.nil
          go_simp
          go_at_call 42
          refine (nd_level ((HFK.out wy.drew (Below.refl _ wy).drew).node)).mono ?_
          rintro e w6 ⟨rfl, rfl⟩
          try go_wp2_with fail
          refine hK.out _ _ ?_ (fun hHeld => ?_)
          · exact (And.intro (show wy.drew.cell? ⟨b, o + i, none⟩ = _ from c1) (show wy.drew.cell? ⟨b, o + i', none⟩ = _ from c2))
          clear hK K
          try simp only [Act.put, List.setIfInBounds_toArray, List.set_cons_zero, List.set_cons_succ]
          refine wpAnyH_ready (rs := [30]) (by kernel_rfl) (by simp) ?_
          refine AllReadyH.cons (o := { dst := some 164, op := _, type := _, pos := _, after := _, guard := _ }) rfl (fun K hK => ?_) AllReadyH.nil
          go_simp
          go_at_call 45
          refine (ref_addr RA rn rc f.lv p wy.drew (HPY.out.below (Below.refl _ wy).drew) (by omega) hflv).mono ?_
          rintro e w6 ⟨rfl, rfl⟩
          try go_wp2_with fail
          refine hK.out _ _ ?_ (fun hHeld => ?_)
          · exact (And.intro (show wy.drew.cell? ⟨b, o + i, none⟩ = _ from c1) (show wy.drew.cell? ⟨b, o + i', none⟩ = _ from c2))
          clear hK K
          try simp only [Act.put, List.setIfInBounds_toArray, List.set_cons_zero, List.set_cons_succ]
          refine wpAnyH_ready (rs := [31]) (by kernel_rfl) (by simp) ?_
          refine AllReadyH.cons (o := { dst := some 165, op := _, type := _, pos := _, after := _, guard := _ }) rfl (fun K hK => ?_) AllReadyH.nil
          go_simp
          go_at_call 44
          refine (HKID.out wy.drew (Below.refl _ wy).drew).mono ?_
          rintro e w7 ⟨rfl, hb7⟩
          have hd7 : Below wy.heap.size wy w7 := (Below.refl _ wy).drew.trans hb7
          have hk7 := And.intro ((hd7.cell (p := ⟨b, o + i, none⟩) hbl).trans c1) ((hd7.cell (p := ⟨b, o + i', none⟩) hbl).trans c2)
          try go_wp2_with fail
          refine hK.out _ _ ?_ (fun hHeld => ?_)
          · exact hk7
          clear hK K
          try simp only [Act.put, List.setIfInBounds_toArray, List.set_cons_zero, List.set_cons_succ]
          refine wpAnyH_take (i := 32) (oi := { dst := some 166, op := _, type := _, pos := _, after := _, guard := _ }) (v := ?_) rfl (by kernel_rfl) (by kernel_rfl) (by kernel_rfl) (fun _ _ _ h => h) (Or.inl ⟨by rfl, ?_⟩) (by assumption) ?_
          rotate_left 1
          · intro wS hSw
            try dsimp only at hSw
            go_simp
            all_goals with_reducible rfl
          try simp only [Act.put, List.setIfInBounds_toArray, List.set_cons_zero, List.set_cons_succ]
          refine wpAnyH_take (i := 33) (oi := { dst := some 167, op := _, type := _, pos := _, after := _, guard := _ }) (v := ?_) rfl (by kernel_rfl) (by kernel_rfl) (by kernel_rfl) (fun _ _ _ h => h) (Or.inl ⟨by rfl, ?_⟩) (by assumption) ?_
          rotate_left 1
          · intro wS hSw
            try dsimp only at hSw
            go_simp
            all_goals with_reducible rfl
          try simp only [Act.put, List.setIfInBounds_toArray, List.set_cons_zero, List.set_cons_succ]
          refine wpAnyH_take (i := 34) (oi := { dst := some 168, op := _, type := _, pos := _, after := _, guard := _ }) (v := ?_) rfl (by kernel_rfl) (by kernel_rfl) (by kernel_rfl) (fun _ _ _ h => h) (Or.inl ⟨by rfl, ?_⟩) (by assumption) ?_
          rotate_left 1
          · intro wS hSw
            try dsimp only at hSw
            go_simp
            all_goals with_reducible rfl
          try simp only [Act.put, List.setIfInBounds_toArray, List.set_cons_zero, List.set_cons_succ]
          refine wpAnyH_done (by kernel_rfl) ?_ _
          go_wp2
          go_roundw
          case rel =>
            clear e2 q1 q2 q3 q4 q5 q6 q7 q8 q9 q10 q11
            exact ⟨i + 1, w64_succ (by omega), by omega, below_then HBR.out (below_then HD9.out hd7)⟩
          case measure =>
            clear e2 q1 q2 q3 q4 q5 q6 q7 q8 q9 q10 q11
            rw [w64_succ (i := i) (by omega)]
            simp [intOf]; omega
      · have e9 : decide ((i : Int) < (gl : Int)) = false := by simp; omega
        clear hbr
        go_wp2
        go_ret
        exact ⟨rfl, below_then HB4.out (below_then HB48.out HBR.out)⟩
  · have HGD := hide (tr_get_dim hTB RA rn rc hrk)
    have HPD := hide (tr_Path_dim hTB RA rn rc hrk)
    have e4 : ((rn : Int) != (k : Int)) = true := by simp; omega
    clear hT4 hTB hTop hTes hE4 hnc4 hS4 hkk4 hes4 hb4 hc4 HG hrk
    go_wp2_with fail
    refine HGD.out.mono ?_
    rintro e w5 ⟨rfl, rfl⟩
    go_wp2_with fail
    refine HPD.out.mono ?_
    rintro e w5 ⟨rfl, rfl⟩
    go_wp2
    go_ret
    exact ⟨rfl, HB4.out⟩
end Go.Proofs.Ytkknfnjojamgjaa
