/- pantilelaw10.RankJoins: two trees as one: the walk. -/
import Derived.Test.YtnopacldaoekiaaRkJ
import Derived.Test.YtnopacldaoekiaaLwR
set_option linter.unusedSimpArgs false
set_option linter.unusedVariables false
namespace Go.Proofs.Ytnopacldaoekiaa
open Go.RowKit
section
variable {P : Program}
/-- append into an own row, at a guarded operation that is wanted. -/
theorem app_bg (w : World) {ops : Array Oper} {rest : List Oper} {o : Oper} {a : Act} {Q : Exit → Act → World → Prop} (hgd : Region.wanted o (yielded ops a.tmps) = true) (s x : Operand) (t : TypeId)
    (ho : o.op = .call { callee := .builtin .append, args := #[s, x], argTypes := #[t, t] })
    (base : Nat) (e : TypeId) (z : Value) (size bytes : Nat) (ht : P.underlying t = some (.slice e)) (hinfo : (P.info? e).map (fun i => (i.zero, i.size, i.bytes)) = some (some z, size, bytes)) (hzs : z.cells.size = size) (hsz : 0 < size)
    (v : Value) (n : Nat) (xs : List Value) (hs : a.eval s = v) (hown : w.ownsRow base e size v n xs)
    (A : Option Addr) (m c : Nat) (news : List Value) (hx : a.eval x = .slice A m c) (w0 : World) (hb : Below base w0 w) (hbase : base ≤ w0.heap.size) (hr : Rw w size A m news) (h1 : ∀ u ∈ news, u.oneCell' = true)
    (h63 : n + m ≤ maxLen) (hbytes : (n + m) * bytes ≤ 140737488355328)
    (h : ∀ v' w', w'.ownsRow base e size v' (n + m) (xs ++ news) → Below base w0 w' → w.grownBy w' v.ownBlock → wpList P ops Q rest (a.put o.dst v') w') : wpList P ops Q (o :: rest) a w := by
  obtain ⟨i, hi, hz, hsize, hby⟩ := info_parts hinfo
  refine wpList_step fun K hK => ?_
  rw [if_pos hgd]
  exact wp_append_any w s x t ho base e i z size bytes ht hi hz hsize hby hzs hsz v n xs hs hown A m c news hx hr h1 h63 hbytes (Nat.le_trans hbase hb.size) fun v' w' g1 g2 _ => hK _ _ (h v' w' g1 (below_own hb g2 (Nat.le_trans hbase hb.size) (own_base hown)) g2)
end
theorem entv_one' (rows : List ER) : ∀ u ∈ rows.flatMap entv, u.oneCell' = true := by
  intro u hu
  obtain ⟨r, _, hu⟩ := List.mem_flatMap.1 hu
  simp [entv] at hu
  rcases hu with rfl | rfl <;> rfl
theorem ents_len (rows : List ER) : (ents rows).length = rows.length := by
  unfold ents
  rw [List.length_map]
set_option maxHeartbeats 16000000 in
set_option maxRecDepth 100000 in
theorem rank_joins (w : World) (k0 : Int) (_ : (Lit.int .i64 k0).wf = true) (o0 : Int) (_ : (Lit.int .i64 o0).wf = true) (AL : Option Addr) (nl cl : Nat) (al : List TA) (hl : ActsAt w AL nl al ∧ nl ≤ cl ∧ cl ≤ maxLen) (AM : Option Addr) (nm cm : Nat) (am : List TA) (hm : ActsAt w AM nm am ∧ nm ≤ cm ∧ cm ≤ maxLen) :
    Calls Try.prog 9 #[.int .i64 k0, .int .i64 o0, .slice AL nl cl, .slice AM nm cm] w fun e w' => e = .returned (.bool true) ∧ Below w.heap.size w w' := by
  have HEL := hide hl.1
  have HEM := hide hm.1
  clear hl hm
  go_enter Try.func9, Try.ntmps9
  go_wp2_with fail
  refine (awake10 w).mono ?_
  rintro e w1 ⟨rfl, hb1⟩
  have HB1 := hide hb1
  clear hb1
  have HHa := hide (heavy7 AL nl cl 30 al _ (HEL.out.below HB1.out) (by omega))
  simp only [Int.cast_ofNat_Int] at HHa
  go_wp2_with fail
  refine HHa.out.mono ?_
  rintro e wa ⟨rfl | ⟨rfl, hna⟩, hb3⟩
  · have HB3 := hide (below_then HB1.out hb3)
    clear hb3 HHa
    go_wp2
    go_ret
    exact ⟨rfl, HB3.out⟩
  have HB2 := hide (below_then HB1.out hb3)
  clear hb3 HHa
  have HHb := hide (heavy7 AM nm cm 30 am _ (HEM.out.below HB2.out) (by omega))
  simp only [Int.cast_ofNat_Int] at HHb
  go_wp2_with fail
  refine HHb.out.mono ?_
  rintro e wb ⟨rfl | ⟨rfl, hnb⟩, hb3⟩
  · have HB3 := hide (below_then HB2.out hb3)
    clear hb3 HHb
    go_wp2
    go_ret
    exact ⟨rfl, HB3.out⟩
  have HB3 := hide (below_then HB2.out hb3)
  clear hb3 HHb
  by_cases h1 : k0 < 1
  · have e1 : decide (k0 < 1) = true := by simpa using h1
    go_wp2
    go_ret
    exact ⟨rfl, HB3.out⟩
  have e1 : decide (k0 < 1) = false := by simpa using h1
  by_cases h2 : (16 : Int) < k0
  · have e2 : decide ((16 : Int) < k0) = true := by simpa using h2
    go_wp2
    go_ret
    exact ⟨rfl, HB3.out⟩
  have e2 : decide ((16 : Int) < k0) = false := by simpa using h2
  by_cases h3 : o0 < 1
  · have e3 : decide (o0 < 1) = true := by simpa using h3
    go_wp2
    go_ret
    exact ⟨rfl, HB3.out⟩
  have e3 : decide (o0 < 1) = false := by simpa using h3
  by_cases h4 : (16 : Int) < o0
  · have e4 : decide ((16 : Int) < o0) = true := by simpa using h4
    go_wp2
    go_ret
    exact ⟨rfl, HB3.out⟩
  have e4 : decide ((16 : Int) < o0) = false := by simpa using h4
  obtain ⟨k, rfl⟩ : ∃ k : Nat, k0 = (k : Int) := ⟨k0.toNat, by omega⟩
  obtain ⟨k', rfl⟩ : ∃ k' : Nat, o0 = (k' : Int) := ⟨o0.toNat, by omega⟩
  have hk1 : 1 ≤ k := by omega
  have hk16 : k ≤ 16 := by omega
  have hk1' : 1 ≤ k' := by omega
  have hk16' : k' ≤ 16 := by omega
  have HG := hide (grown7 (c := cl) hk1 hk16 (HEL.out.below HB3.out) (by omega))
  clear h1 h2 h3 h4
  go_wp2_with fail
  refine HG.out.mono ?_
  rintro e w4 ⟨t, A4, n4, c4, rfl, ⟨ra, ea, hT4, hE4, hnc4, hS4, hkk4, hes4⟩, hn4, hb4⟩
  have HB4 := hide (below_then HB3.out hb4)
  have HG' := hide (grown7 (c := cm) hk1' hk16' (HEM.out.below HB4.out) (by omega))
  have HT4 := hide hT4
  have HE4 := hide hE4
  have HR4 := hide (And.intro hnc4 (And.intro hkk4 hes4))
  have hn4b : n4 ≤ 30 := by omega
  clear hT4 hE4 hnc4 hS4 hkk4 hes4 hb4 HG
  go_wp2_with fail
  refine HG'.out.mono ?_
  rintro e w5 ⟨u, A5, n5, c5, rfl, ⟨rb, eb, hT5, hE5, hnc5, hS5, hkk5, hes5⟩, hn5, hb5⟩
  have HT4 := hide (HT4.out.stay hb5)
  have HE4 := hide (HE4.out.below hb5)
  have HB5 := hide (below_then HB4.out hb5)
  have HT5 := hide hT5
  have HE5 := hide hE5
  have HR5 := hide (And.intro hnc5 (And.intro hkk5 hes5))
  have hn5b : n5 ≤ 30 := by omega
  clear hT5 hE5 hnc5 hS5 hkk5 hes5 hb5 HG'
  have HNL := hide (fun W => rk_join_nil_l W (.pointer (some ⟨u, 0, none⟩)) (.inr ⟨u, rfl⟩))
  have HNR := hide (fun W => rk_join_nil_r W t)
  by_cases hkk : k = k'
  case neg =>
    obtain ⟨r1, hr1⟩ := HT4.out.blk
    obtain ⟨r2, hr2⟩ := HT5.out.blk
    have HJD := hide (rk_join_dim hr1 hr2 hkk)
    have e5 : ((k : Int) != (k' : Int)) = true := by simp; omega
    clear hr1 hr2 hkk
    go_wp2_with fail
    refine HJD.out.mono ?_
    rintro e w6 ⟨rfl, rfl⟩
    go_wp2_with fail
    refine (HNL.out _).mono ?_
    rintro e w6 ⟨rfl, rfl⟩
    go_wp2_with fail
    refine (HNR.out _).mono ?_
    rintro e w6 ⟨rfl, rfl⟩
    go_wp2
    go_ret
    exact ⟨rfl, HB5.out⟩
  subst hkk
  have e5 : ((k : Int) != (k : Int)) = false := by simp
  have HJ := hide (rk_join HT4.out HT5.out)
  have HLA := hide (show ea.length = n4 by rw [← HR4.out.2.2, ents_len]; exact HE4.out.len)
  have HLB := hide (show eb.length = n5 by rw [← HR5.out.2.2, ents_len]; exact HE5.out.len)
  go_wp2_with fail
  refine HJ.out.mono ?_
  rintro e w6 ⟨hcase, hb6⟩
  have HT6 := hide (HT4.out.stay hb6)
  have HE6 := hide (HE4.out.below hb6)
  have HT7 := hide (HT5.out.stay hb6)
  have HE7 := hide (HE5.out.below hb6)
  have HB6 := hide (below_then HB5.out hb6)
  clear hb6 HJ HT4 HE4 HT5 HE5
  rcases hcase with ⟨hcl, rfl⟩ | ⟨hcl, tj, rfl, hTJ⟩
  · have hne4 : 0 < n4 := by
      obtain ⟨x, y, hx, hy, hc⟩ := hcl
      rw [← HLA.out]
      cases ea with
      | nil => simp at hx
      | cons _ _ => simp
    have hne5 : 0 < n5 := by
      obtain ⟨x, y, hx, hy, hc⟩ := hcl
      rw [← HLB.out]
      cases eb with
      | nil => simp at hy
      | cons _ _ => simp
    obtain ⟨N, rfl⟩ : ∃ N, n4 = N + 1 := ⟨n4 - 1, by omega⟩
    obtain ⟨b, o, r, rfl, hbl, hr, hrok, x0, x1⟩ := HE6.out.at_ (i := N) (by omega)
    obtain ⟨b', o', r', rfl, hbl', hr', hrok', y0, y1⟩ := HE7.out.at_ (i := 0) (by omega)
    simp only [Nat.zero_mul, Nat.add_zero] at y0 y1
    have hrn := HR4.out.2.1 r (List.mem_of_getElem? hr)
    have hrn' := HR5.out.2.1 r' (List.mem_of_getElem? hr')
    have hla : ea.getLast? = some r.e := by
      rw [List.getLast?_eq_getElem?, HLA.out, ← HR4.out.2.2, Nat.add_sub_cancel]
      unfold ents
      rw [List.getElem?_map, hr]
      rfl
    have hhb : eb.head? = some r'.e := by
      rw [List.head?_eq_getElem?, ← HR5.out.2.2]
      unfold ents
      rw [List.getElem?_map, hr']
      rfl
    have hp := hrok.1
    have hp' := hrok'.1
    rw [hrn] at hp x0
    rw [hrn'] at hp' y0
    have HCM := hide (ref_cmp r.A r'.A k r.c r'.c r.p r'.p w6.drew (hp.below (Below.refl _ _).drew) (hp'.below (Below.refl _ _).drew) (by omega))
    have hN0 : (0 : Int) ≤ (N : Int) := by omega
    have hN1 : (N : Int) < (N : Int) + 1 := by omega
    have hi1 : IntKind.i64.wrap ((N : Int) + 1 - 1) = (N : Int) := by rw [Int.add_sub_cancel]; exact wrap_i64_sm (by omega) (by omega)
    have hi2 : IntKind.i64.wrap (N : Int) = (N : Int) := wrap_i64_sm (by omega) (by omega)
    have ha4 : (0 : Int) < (N : Int) + 1 := by omega
    have ha5 : (0 : Int) < (n5 : Int) := by omega
    have hb5 : 0 < n5 := by omega
    have e6 : decide ((0 : Int) ≤ cmp r.p r'.p) = true := by
      obtain ⟨x, y, hx, hy, hc⟩ := hcl
      rw [hla] at hx
      rw [hhb] at hy
      injection hx with hx
      injection hy with hy
      subst hx hy
      exact decide_eq_true hc
    clear hcl hr hrok hr' hrok' hrn hrn' hla hhb hp hp' x1 y1
    go_wp2_with fail
    refine (HNL.out _).mono ?_
    rintro e w7 ⟨rfl, rfl⟩
    go_wp2_with fail
    refine (HNR.out _).mono ?_
    rintro e w7 ⟨rfl, rfl⟩
    go_wp2_with fail
    go_region_held3 (fun w' => w'.cell? ⟨b, o + N * 2, none⟩ = some (.slice r.A k r.c) ∧ w'.cell? ⟨b', o', none⟩ = some (.slice r'.A k r'.c))
      (first
        | go_keep)
      (first
        | (go_at_call 42
           refine HCM.out.mono ?_
           rintro e w8 ⟨rfl, rfl⟩))
    go_wp2
    go_ret
    exact ⟨rfl, HB6.out.drew⟩
  · have HTJ := hide hTJ
    clear hTJ
    rcases Nat.eq_zero_or_pos n4 with h40 | h40
    · subst h40
      go_wp2_with fail
      refine (HNL.out _).mono ?_
      rintro e w7 ⟨rfl, rfl⟩
      go_wp2_with fail
      refine (HNR.out _).mono ?_
      rintro e w7 ⟨rfl, rfl⟩
      go_wp2_with fail
      refine wp_region_held_drew (S := (fun _ => True)) (by kernel_rfl) trivial (fun hHeld => ?_)
      refine wpAnyH_take (i := 0) (oi := { dst := some 104, op := _, type := _, pos := _, after := _, guard := _ }) (v := ?_) rfl (by kernel_rfl) (by kernel_rfl) (by kernel_rfl) (fun _ _ _ h => h) (Or.inl ⟨by rfl, ?_⟩) (by assumption) ?_
      rotate_left 1
      · intro wS hSw
        try dsimp only at hSw
        go_simp
        all_goals with_reducible rfl
      try simp only [Act.put, List.setIfInBounds_toArray, List.set_cons_zero, List.set_cons_succ]
      refine wpAnyH_take (i := 1) (oi := { dst := some 105, op := _, type := _, pos := _, after := _, guard := _ }) (v := ?_) rfl (by kernel_rfl) (by kernel_rfl) (by kernel_rfl) (fun _ _ _ h => h) (Or.inl ⟨by rfl, ?_⟩) (by assumption) ?_
      rotate_left 1
      · intro wS hSw
        try dsimp only at hSw
        go_simp
        all_goals with_reducible rfl
      try simp only [Act.put, List.setIfInBounds_toArray, List.set_cons_zero, List.set_cons_succ]
      refine wpAnyH_take (i := 2) (oi := { dst := some 106, op := _, type := _, pos := _, after := _, guard := _ }) (v := ?_) rfl (by kernel_rfl) (by kernel_rfl) (by kernel_rfl) (fun _ _ _ h => h) (Or.inl ⟨by rfl, ?_⟩) (by assumption) ?_
      rotate_left 1
      · intro wS hSw
        try dsimp only at hSw
        go_simp
        all_goals with_reducible rfl
      try simp only [Act.put, List.setIfInBounds_toArray, List.set_cons_zero, List.set_cons_succ]
      refine wpAnyH_take (i := 3) (oi := { dst := some 107, op := _, type := _, pos := _, after := _, guard := _ }) (v := ?_) rfl (by kernel_rfl) (by kernel_rfl) (by kernel_rfl) (fun _ _ _ h => h) (Or.inl ⟨by rfl, ?_⟩) (by assumption) ?_
      rotate_left 1
      · intro wS hSw
        try dsimp only at hSw
        go_simp
        all_goals with_reducible rfl
      try simp only [Act.put, List.setIfInBounds_toArray, List.set_cons_zero, List.set_cons_succ]
      refine wpAnyH_take (i := 4) (oi := { dst := some 108, op := _, type := _, pos := _, after := _, guard := _ }) (v := undef) rfl (by kernel_rfl) (by kernel_rfl) (by kernel_rfl) (fun _ _ _ h => h) (Or.inr ⟨by rfl, rfl⟩) (by assumption) ?_
      try simp only [Act.put, List.setIfInBounds_toArray, List.set_cons_zero, List.set_cons_succ]
      refine wpAnyH_take (i := 5) (oi := { dst := some 109, op := _, type := _, pos := _, after := _, guard := _ }) (v := undef) rfl (by kernel_rfl) (by kernel_rfl) (by kernel_rfl) (fun _ _ _ h => h) (Or.inr ⟨by rfl, rfl⟩) (by assumption) ?_
      try simp only [Act.put, List.setIfInBounds_toArray, List.set_cons_zero, List.set_cons_succ]
      refine wpAnyH_take (i := 6) (oi := { dst := some 110, op := _, type := _, pos := _, after := _, guard := _ }) (v := undef) rfl (by kernel_rfl) (by kernel_rfl) (by kernel_rfl) (fun _ _ _ h => h) (Or.inr ⟨by rfl, rfl⟩) (by assumption) ?_
      try simp only [Act.put, List.setIfInBounds_toArray, List.set_cons_zero, List.set_cons_succ]
      refine wpAnyH_take (i := 7) (oi := { dst := some 111, op := _, type := _, pos := _, after := _, guard := _ }) (v := ?_) rfl (by kernel_rfl) (by kernel_rfl) (by kernel_rfl) (fun _ _ _ h => h) (Or.inl ⟨by rfl, ?_⟩) (by assumption) ?_
      rotate_left 1
      · intro wS hSw
        try dsimp only at hSw
        go_simp
        all_goals with_reducible rfl
      try simp only [Act.put, List.setIfInBounds_toArray, List.set_cons_zero, List.set_cons_succ]
      refine wpAnyH_take (i := 8) (oi := { dst := some 112, op := _, type := _, pos := _, after := _, guard := _ }) (v := ?_) rfl (by kernel_rfl) (by kernel_rfl) (by kernel_rfl) (fun _ _ _ h => h) (Or.inl ⟨by rfl, ?_⟩) (by assumption) ?_
      rotate_left 1
      · intro wS hSw
        try dsimp only at hSw
        go_simp
        all_goals with_reducible rfl
      try simp only [Act.put, List.setIfInBounds_toArray, List.set_cons_zero, List.set_cons_succ]
      refine wpAnyH_take (i := 9) (oi := { dst := some 113, op := _, type := _, pos := _, after := _, guard := _ }) (v := undef) rfl (by kernel_rfl) (by kernel_rfl) (by kernel_rfl) (fun _ _ _ h => h) (Or.inr ⟨by rfl, rfl⟩) (by assumption) ?_
      try simp only [Act.put, List.setIfInBounds_toArray, List.set_cons_zero, List.set_cons_succ]
      refine wpAnyH_take (i := 10) (oi := { dst := some 114, op := _, type := _, pos := _, after := _, guard := _ }) (v := undef) rfl (by kernel_rfl) (by kernel_rfl) (by kernel_rfl) (fun _ _ _ h => h) (Or.inr ⟨by rfl, rfl⟩) (by assumption) ?_
      try simp only [Act.put, List.setIfInBounds_toArray, List.set_cons_zero, List.set_cons_succ]
      refine wpAnyH_take (i := 11) (oi := { dst := some 115, op := _, type := _, pos := _, after := _, guard := _ }) (v := undef) rfl (by kernel_rfl) (by kernel_rfl) (by kernel_rfl) (fun _ _ _ h => h) (Or.inr ⟨by rfl, rfl⟩) (by assumption) ?_
      try simp only [Act.put, List.setIfInBounds_toArray, List.set_cons_zero, List.set_cons_succ]
      refine wpAnyH_take (i := 12) (oi := { dst := some 116, op := _, type := _, pos := _, after := _, guard := _ }) (v := undef) rfl (by kernel_rfl) (by kernel_rfl) (by kernel_rfl) (fun _ _ _ h => h) (Or.inr ⟨by rfl, rfl⟩) (by assumption) ?_
      try simp only [Act.put, List.setIfInBounds_toArray, List.set_cons_zero, List.set_cons_succ]
      refine wpAnyH_take (i := 13) (oi := { dst := some 117, op := _, type := _, pos := _, after := _, guard := _ }) (v := undef) rfl (by kernel_rfl) (by kernel_rfl) (by kernel_rfl) (fun _ _ _ h => h) (Or.inr ⟨by rfl, rfl⟩) (by assumption) ?_
      try simp only [Act.put, List.setIfInBounds_toArray, List.set_cons_zero, List.set_cons_succ]
      refine wpAnyH_take (i := 14) (oi := { dst := some 118, op := _, type := _, pos := _, after := _, guard := _ }) (v := undef) rfl (by kernel_rfl) (by kernel_rfl) (by kernel_rfl) (fun _ _ _ h => h) (Or.inr ⟨by rfl, rfl⟩) (by assumption) ?_
      try simp only [Act.put, List.setIfInBounds_toArray, List.set_cons_zero, List.set_cons_succ]
      refine wpAnyH_take (i := 15) (oi := { dst := some 119, op := _, type := _, pos := _, after := _, guard := _ }) (v := undef) rfl (by kernel_rfl) (by kernel_rfl) (by kernel_rfl) (fun _ _ _ h => h) (Or.inr ⟨by rfl, rfl⟩) (by assumption) ?_
      try simp only [Act.put, List.setIfInBounds_toArray, List.set_cons_zero, List.set_cons_succ]
      refine wpAnyH_take (i := 16) (oi := { dst := some 120, op := _, type := _, pos := _, after := _, guard := _ }) (v := undef) rfl (by kernel_rfl) (by kernel_rfl) (by kernel_rfl) (fun _ _ _ h => h) (Or.inr ⟨by rfl, rfl⟩) (by assumption) ?_
      try simp only [Act.put, List.setIfInBounds_toArray, List.set_cons_zero, List.set_cons_succ]
      refine wpAnyH_take (i := 17) (oi := { dst := some 121, op := _, type := _, pos := _, after := _, guard := _ }) (v := undef) rfl (by kernel_rfl) (by kernel_rfl) (by kernel_rfl) (fun _ _ _ h => h) (Or.inr ⟨by rfl, rfl⟩) (by assumption) ?_
      try simp only [Act.put, List.setIfInBounds_toArray, List.set_cons_zero, List.set_cons_succ]
      refine wpAnyH_take (i := 18) (oi := { dst := some 122, op := _, type := _, pos := _, after := _, guard := _ }) (v := undef) rfl (by kernel_rfl) (by kernel_rfl) (by kernel_rfl) (fun _ _ _ h => h) (Or.inr ⟨by rfl, rfl⟩) (by assumption) ?_
      try simp only [Act.put, List.setIfInBounds_toArray, List.set_cons_zero, List.set_cons_succ]
      refine wpAnyH_take (i := 19) (oi := { dst := some 123, op := _, type := _, pos := _, after := _, guard := _ }) (v := undef) rfl (by kernel_rfl) (by kernel_rfl) (by kernel_rfl) (fun _ _ _ h => h) (Or.inr ⟨by rfl, rfl⟩) (by assumption) ?_
      try simp only [Act.put, List.setIfInBounds_toArray, List.set_cons_zero, List.set_cons_succ]
      refine wpAnyH_take (i := 20) (oi := { dst := some 124, op := _, type := _, pos := _, after := _, guard := _ }) (v := undef) rfl (by kernel_rfl) (by kernel_rfl) (by kernel_rfl) (fun _ _ _ h => h) (Or.inr ⟨by rfl, rfl⟩) (by assumption) ?_
      try simp only [Act.put, List.setIfInBounds_toArray, List.set_cons_zero, List.set_cons_succ]
      refine wpAnyH_take (i := 21) (oi := { dst := some 125, op := _, type := _, pos := _, after := _, guard := _ }) (v := undef) rfl (by kernel_rfl) (by kernel_rfl) (by kernel_rfl) (fun _ _ _ h => h) (Or.inr ⟨by rfl, rfl⟩) (by assumption) ?_
      try simp only [Act.put, List.setIfInBounds_toArray, List.set_cons_zero, List.set_cons_succ]
      refine wpAnyH_take (i := 22) (oi := { dst := some 126, op := _, type := _, pos := _, after := _, guard := _ }) (v := ?_) rfl (by kernel_rfl) (by kernel_rfl) (by kernel_rfl) (fun _ _ _ h => h) (Or.inl ⟨by rfl, ?_⟩) (by assumption) ?_
      rotate_left 1
      · intro wS hSw
        try dsimp only at hSw
        go_simp
        all_goals with_reducible rfl
      try simp only [Act.put, List.setIfInBounds_toArray, List.set_cons_zero, List.set_cons_succ]
      refine wpAnyH_done (by kernel_rfl) ?_ _
      have HT6 := hide (HT6.out.stay (Below.refl _ w6).drew)
      have HE6 := hide (HE6.out.below (Below.refl _ w6).drew)
      have HT7 := hide (HT7.out.stay (Below.refl _ w6).drew)
      have HE7 := hide (HE7.out.below (Below.refl _ w6).drew)
      have HTJ := hide (HTJ.out.stay (Below.refl _ w6).drew)
      have HB6 := hide (HB6.out.drew)
      generalize w6.drew = wq at *
      have HQA := hide ((Below.refl wq.heap.size wq).alloc (Nat.le_refl _) (.cells #[] 27))
      have HQE := hide (HE6.out.1.below HQA.out)
      go_wp2_with (first
        | (at_builtin
           refine app_bg _ (by kernel_rfl) (.tmp 140) (.tmp 141) _ rfl wq.heap.size 27 _ 2 32 Try.underlying35 info_e rfl (by omega) _ (0 + 0) _ rfl HO8.out A5 n5 c5 (rb.flatMap entv) rfl wq HB8.out (Nat.le_refl _) HQF.out (entv_one' rb) (by unfold maxLen; omega) (by omega) ?_
           intro v9 w9 ho9 hb9 hg9
           simp only [Nat.zero_add, Nat.add_zero, List.nil_append] at ho9
           have HO9 := hide ho9
           have HB9 := hide hb9
           obtain ⟨A9, c9, rfl, -, -⟩ := Rw.of_own HO9.out
           clear ho9 hb9 hg9)
        | (at_builtin
           refine app_bg _ (by kernel_rfl) (.tmp 138) (.tmp 139) _ rfl wq.heap.size 27 _ 2 32 Try.underlying35 info_e rfl (by omega) _ 0 [] rfl (own_empty _ _ _) A4 0 c4 (ra.flatMap entv) rfl wq HQA.out (Nat.le_refl _) HQE.out (entv_one' ra) (by unfold maxLen; omega) (by omega) ?_
           intro v8 w8 ho8 hb8 hg8
           have HO8 := hide ho8
           have HB8 := hide hb8
           have HQF := hide (HE7.out.1.below hb8)
           clear ho8 hb8 hg8)
        | fail)
      have hrw9 := own_rw HO9.out
      have hE9 : EntsAt w9 A9 (n5) (ra ++ rb) := ⟨by rw [List.flatMap_append]; exact hrw9.2, fun q hq => by
        rcases List.mem_append.1 hq with hq | hq
        · exact (HE6.out.2 q hq).below HB9.out
        · exact (HE7.out.2 q hq).below HB9.out⟩
      have HIS := hide (is_tree (HTJ.out.stay HB9.out) hE9 hrw9.1 (by omega) (fun q hq => by
        rcases List.mem_append.1 hq with hq | hq
        · exact HR4.out.2.1 q hq
        · exact HR5.out.2.1 q hq) (by
        have h1 := HR4.out.2.2
        have h2 := HR5.out.2.2
        unfold ents at h1 h2 ⊢
        rw [List.map_append, h1, h2]))
      clear hrw9 hE9
      go_wp2_with fail
      refine HIS.out.mono ?_
      rintro e w10 ⟨rfl, hb10⟩
      have HB10 := hide (below_then HB9.out hb10)
      have HISA := hide (is_tree (c := c4) (HT6.out.stay HB10.out) (HE6.out.below HB10.out) HR4.out.1 (by omega) HR4.out.2.1 HR4.out.2.2)
      clear hb10 HIS
      go_wp2_with fail
      refine HISA.out.mono ?_
      rintro e w11 ⟨rfl, hb11⟩
      have HB11 := hide (below_then HB10.out hb11)
      have HISB := hide (is_tree (c := c5) (HT7.out.stay HB11.out) (HE7.out.below HB11.out) HR5.out.1 (by omega) HR5.out.2.1 HR5.out.2.2)
      clear hb11 HISA
      go_wp2_with fail
      refine HISB.out.mono ?_
      rintro e w12 ⟨rfl, hb12⟩
      have HB12 := hide (below_then HB6.out (below_then HB11.out hb12))
      clear hb12 HISB
      go_wp2
      go_ret
      exact ⟨rfl, HB12.out⟩
    rcases Nat.eq_zero_or_pos n5 with h50 | h50
    · subst h50
      have ha4 : (0 : Int) < (n4 : Int) := by omega
      have hb4 : 0 < n4 := by omega
      go_wp2_with fail
      refine (HNL.out _).mono ?_
      rintro e w7 ⟨rfl, rfl⟩
      go_wp2_with fail
      refine (HNR.out _).mono ?_
      rintro e w7 ⟨rfl, rfl⟩
      go_wp2_with fail
      refine wp_region_held_drew (S := (fun _ => True)) (by kernel_rfl) trivial (fun hHeld => ?_)
      refine wpAnyH_take (i := 0) (oi := { dst := some 104, op := _, type := _, pos := _, after := _, guard := _ }) (v := ?_) rfl (by kernel_rfl) (by kernel_rfl) (by kernel_rfl) (fun _ _ _ h => h) (Or.inl ⟨by rfl, ?_⟩) (by assumption) ?_
      rotate_left 1
      · intro wS hSw
        try dsimp only at hSw
        go_simp
        all_goals with_reducible rfl
      try simp only [Act.put, List.setIfInBounds_toArray, List.set_cons_zero, List.set_cons_succ]
      refine wpAnyH_take (i := 1) (oi := { dst := some 105, op := _, type := _, pos := _, after := _, guard := _ }) (v := ?_) rfl (by kernel_rfl) (by kernel_rfl) (by kernel_rfl) (fun _ _ _ h => h) (Or.inl ⟨by rfl, ?_⟩) (by assumption) ?_
      rotate_left 1
      · intro wS hSw
        try dsimp only at hSw
        go_simp
        all_goals with_reducible rfl
      try simp only [Act.put, List.setIfInBounds_toArray, List.set_cons_zero, List.set_cons_succ]
      refine wpAnyH_take (i := 2) (oi := { dst := some 106, op := _, type := _, pos := _, after := _, guard := _ }) (v := ?_) rfl (by kernel_rfl) (by kernel_rfl) (by kernel_rfl) (fun _ _ _ h => h) (Or.inl ⟨by rfl, ?_⟩) (by assumption) ?_
      rotate_left 1
      · intro wS hSw
        try dsimp only at hSw
        go_simp
        all_goals with_reducible rfl
      try simp only [Act.put, List.setIfInBounds_toArray, List.set_cons_zero, List.set_cons_succ]
      refine wpAnyH_take (i := 3) (oi := { dst := some 107, op := _, type := _, pos := _, after := _, guard := _ }) (v := ?_) rfl (by kernel_rfl) (by kernel_rfl) (by kernel_rfl) (fun _ _ _ h => h) (Or.inl ⟨by rfl, ?_⟩) (by assumption) ?_
      rotate_left 1
      · intro wS hSw
        try dsimp only at hSw
        go_simp
        all_goals with_reducible rfl
      try simp only [Act.put, List.setIfInBounds_toArray, List.set_cons_zero, List.set_cons_succ]
      refine wpAnyH_take (i := 4) (oi := { dst := some 108, op := _, type := _, pos := _, after := _, guard := _ }) (v := ?_) rfl (by kernel_rfl) (by kernel_rfl) (by kernel_rfl) (fun _ _ _ h => h) (Or.inl ⟨by rfl, ?_⟩) (by assumption) ?_
      rotate_left 1
      · intro wS hSw
        try dsimp only at hSw
        go_simp
        all_goals with_reducible rfl
      try simp only [Act.put, List.setIfInBounds_toArray, List.set_cons_zero, List.set_cons_succ]
      refine wpAnyH_take (i := 5) (oi := { dst := some 109, op := _, type := _, pos := _, after := _, guard := _ }) (v := ?_) rfl (by kernel_rfl) (by kernel_rfl) (by kernel_rfl) (fun _ _ _ h => h) (Or.inl ⟨by rfl, ?_⟩) (by assumption) ?_
      rotate_left 1
      · intro wS hSw
        try dsimp only at hSw
        go_simp
        all_goals with_reducible rfl
      try simp only [Act.put, List.setIfInBounds_toArray, List.set_cons_zero, List.set_cons_succ]
      refine wpAnyH_take (i := 6) (oi := { dst := some 110, op := _, type := _, pos := _, after := _, guard := _ }) (v := ?_) rfl (by kernel_rfl) (by kernel_rfl) (by kernel_rfl) (fun _ _ _ h => h) (Or.inl ⟨by rfl, ?_⟩) (by assumption) ?_
      rotate_left 1
      · intro wS hSw
        try dsimp only at hSw
        go_simp
        all_goals with_reducible rfl
      try simp only [Act.put, List.setIfInBounds_toArray, List.set_cons_zero, List.set_cons_succ]
      refine wpAnyH_take (i := 7) (oi := { dst := some 111, op := _, type := _, pos := _, after := _, guard := _ }) (v := ?_) rfl (by kernel_rfl) (by kernel_rfl) (by kernel_rfl) (fun _ _ _ h => h) (Or.inl ⟨by rfl, ?_⟩) (by assumption) ?_
      rotate_left 1
      · intro wS hSw
        try dsimp only at hSw
        go_simp
        all_goals with_reducible rfl
      try simp only [Act.put, List.setIfInBounds_toArray, List.set_cons_zero, List.set_cons_succ]
      refine wpAnyH_take (i := 8) (oi := { dst := some 112, op := _, type := _, pos := _, after := _, guard := _ }) (v := ?_) rfl (by kernel_rfl) (by kernel_rfl) (by kernel_rfl) (fun _ _ _ h => h) (Or.inl ⟨by rfl, ?_⟩) (by assumption) ?_
      rotate_left 1
      · intro wS hSw
        try dsimp only at hSw
        go_simp
        all_goals with_reducible rfl
      try simp only [Act.put, List.setIfInBounds_toArray, List.set_cons_zero, List.set_cons_succ]
      refine wpAnyH_take (i := 9) (oi := { dst := some 113, op := _, type := _, pos := _, after := _, guard := _ }) (v := undef) rfl (by kernel_rfl) (by kernel_rfl) (by kernel_rfl) (fun _ _ _ h => h) (Or.inr ⟨by rfl, rfl⟩) (by assumption) ?_
      try simp only [Act.put, List.setIfInBounds_toArray, List.set_cons_zero, List.set_cons_succ]
      refine wpAnyH_take (i := 10) (oi := { dst := some 114, op := _, type := _, pos := _, after := _, guard := _ }) (v := undef) rfl (by kernel_rfl) (by kernel_rfl) (by kernel_rfl) (fun _ _ _ h => h) (Or.inr ⟨by rfl, rfl⟩) (by assumption) ?_
      try simp only [Act.put, List.setIfInBounds_toArray, List.set_cons_zero, List.set_cons_succ]
      refine wpAnyH_take (i := 11) (oi := { dst := some 115, op := _, type := _, pos := _, after := _, guard := _ }) (v := undef) rfl (by kernel_rfl) (by kernel_rfl) (by kernel_rfl) (fun _ _ _ h => h) (Or.inr ⟨by rfl, rfl⟩) (by assumption) ?_
      try simp only [Act.put, List.setIfInBounds_toArray, List.set_cons_zero, List.set_cons_succ]
      refine wpAnyH_take (i := 12) (oi := { dst := some 116, op := _, type := _, pos := _, after := _, guard := _ }) (v := undef) rfl (by kernel_rfl) (by kernel_rfl) (by kernel_rfl) (fun _ _ _ h => h) (Or.inr ⟨by rfl, rfl⟩) (by assumption) ?_
      try simp only [Act.put, List.setIfInBounds_toArray, List.set_cons_zero, List.set_cons_succ]
      refine wpAnyH_take (i := 13) (oi := { dst := some 117, op := _, type := _, pos := _, after := _, guard := _ }) (v := undef) rfl (by kernel_rfl) (by kernel_rfl) (by kernel_rfl) (fun _ _ _ h => h) (Or.inr ⟨by rfl, rfl⟩) (by assumption) ?_
      try simp only [Act.put, List.setIfInBounds_toArray, List.set_cons_zero, List.set_cons_succ]
      refine wpAnyH_take (i := 14) (oi := { dst := some 118, op := _, type := _, pos := _, after := _, guard := _ }) (v := undef) rfl (by kernel_rfl) (by kernel_rfl) (by kernel_rfl) (fun _ _ _ h => h) (Or.inr ⟨by rfl, rfl⟩) (by assumption) ?_
      try simp only [Act.put, List.setIfInBounds_toArray, List.set_cons_zero, List.set_cons_succ]
      refine wpAnyH_take (i := 15) (oi := { dst := some 119, op := _, type := _, pos := _, after := _, guard := _ }) (v := undef) rfl (by kernel_rfl) (by kernel_rfl) (by kernel_rfl) (fun _ _ _ h => h) (Or.inr ⟨by rfl, rfl⟩) (by assumption) ?_
      try simp only [Act.put, List.setIfInBounds_toArray, List.set_cons_zero, List.set_cons_succ]
      refine wpAnyH_take (i := 16) (oi := { dst := some 120, op := _, type := _, pos := _, after := _, guard := _ }) (v := undef) rfl (by kernel_rfl) (by kernel_rfl) (by kernel_rfl) (fun _ _ _ h => h) (Or.inr ⟨by rfl, rfl⟩) (by assumption) ?_
      try simp only [Act.put, List.setIfInBounds_toArray, List.set_cons_zero, List.set_cons_succ]
      refine wpAnyH_take (i := 17) (oi := { dst := some 121, op := _, type := _, pos := _, after := _, guard := _ }) (v := undef) rfl (by kernel_rfl) (by kernel_rfl) (by kernel_rfl) (fun _ _ _ h => h) (Or.inr ⟨by rfl, rfl⟩) (by assumption) ?_
      try simp only [Act.put, List.setIfInBounds_toArray, List.set_cons_zero, List.set_cons_succ]
      refine wpAnyH_take (i := 18) (oi := { dst := some 122, op := _, type := _, pos := _, after := _, guard := _ }) (v := undef) rfl (by kernel_rfl) (by kernel_rfl) (by kernel_rfl) (fun _ _ _ h => h) (Or.inr ⟨by rfl, rfl⟩) (by assumption) ?_
      try simp only [Act.put, List.setIfInBounds_toArray, List.set_cons_zero, List.set_cons_succ]
      refine wpAnyH_take (i := 19) (oi := { dst := some 123, op := _, type := _, pos := _, after := _, guard := _ }) (v := undef) rfl (by kernel_rfl) (by kernel_rfl) (by kernel_rfl) (fun _ _ _ h => h) (Or.inr ⟨by rfl, rfl⟩) (by assumption) ?_
      try simp only [Act.put, List.setIfInBounds_toArray, List.set_cons_zero, List.set_cons_succ]
      refine wpAnyH_take (i := 20) (oi := { dst := some 124, op := _, type := _, pos := _, after := _, guard := _ }) (v := undef) rfl (by kernel_rfl) (by kernel_rfl) (by kernel_rfl) (fun _ _ _ h => h) (Or.inr ⟨by rfl, rfl⟩) (by assumption) ?_
      try simp only [Act.put, List.setIfInBounds_toArray, List.set_cons_zero, List.set_cons_succ]
      refine wpAnyH_take (i := 21) (oi := { dst := some 125, op := _, type := _, pos := _, after := _, guard := _ }) (v := undef) rfl (by kernel_rfl) (by kernel_rfl) (by kernel_rfl) (fun _ _ _ h => h) (Or.inr ⟨by rfl, rfl⟩) (by assumption) ?_
      try simp only [Act.put, List.setIfInBounds_toArray, List.set_cons_zero, List.set_cons_succ]
      refine wpAnyH_take (i := 22) (oi := { dst := some 126, op := _, type := _, pos := _, after := _, guard := _ }) (v := ?_) rfl (by kernel_rfl) (by kernel_rfl) (by kernel_rfl) (fun _ _ _ h => h) (Or.inl ⟨by rfl, ?_⟩) (by assumption) ?_
      rotate_left 1
      · intro wS hSw
        try dsimp only at hSw
        go_simp
        all_goals with_reducible rfl
      try simp only [Act.put, List.setIfInBounds_toArray, List.set_cons_zero, List.set_cons_succ]
      refine wpAnyH_done (by kernel_rfl) ?_ _
      have HT6 := hide (HT6.out.stay (Below.refl _ w6).drew)
      have HE6 := hide (HE6.out.below (Below.refl _ w6).drew)
      have HT7 := hide (HT7.out.stay (Below.refl _ w6).drew)
      have HE7 := hide (HE7.out.below (Below.refl _ w6).drew)
      have HTJ := hide (HTJ.out.stay (Below.refl _ w6).drew)
      have HB6 := hide (HB6.out.drew)
      generalize w6.drew = wq at *
      have HQA := hide ((Below.refl wq.heap.size wq).alloc (Nat.le_refl _) (.cells #[] 27))
      have HQE := hide (HE6.out.1.below HQA.out)
      go_wp2_with (first
        | (at_builtin
           refine app_bg _ (by kernel_rfl) (.tmp 140) (.tmp 141) _ rfl wq.heap.size 27 _ 2 32 Try.underlying35 info_e rfl (by omega) _ (0 + n4) _ rfl HO8.out A5 0 c5 (rb.flatMap entv) rfl wq HB8.out (Nat.le_refl _) HQF.out (entv_one' rb) (by unfold maxLen; omega) (by omega) ?_
           intro v9 w9 ho9 hb9 hg9
           simp only [Nat.zero_add, Nat.add_zero, List.nil_append] at ho9
           have HO9 := hide ho9
           have HB9 := hide hb9
           obtain ⟨A9, c9, rfl, -, -⟩ := Rw.of_own HO9.out
           clear ho9 hb9 hg9)
        | (at_builtin
           refine app_bg _ (by kernel_rfl) (.tmp 138) (.tmp 139) _ rfl wq.heap.size 27 _ 2 32 Try.underlying35 info_e rfl (by omega) _ 0 [] rfl (own_empty _ _ _) A4 n4 c4 (ra.flatMap entv) rfl wq HQA.out (Nat.le_refl _) HQE.out (entv_one' ra) (by unfold maxLen; omega) (by omega) ?_
           intro v8 w8 ho8 hb8 hg8
           have HO8 := hide ho8
           have HB8 := hide hb8
           have HQF := hide (HE7.out.1.below hb8)
           clear ho8 hb8 hg8)
        | fail)
      have hrw9 := own_rw HO9.out
      have hE9 : EntsAt w9 A9 (n4) (ra ++ rb) := ⟨by rw [List.flatMap_append]; exact hrw9.2, fun q hq => by
        rcases List.mem_append.1 hq with hq | hq
        · exact (HE6.out.2 q hq).below HB9.out
        · exact (HE7.out.2 q hq).below HB9.out⟩
      have HIS := hide (is_tree (HTJ.out.stay HB9.out) hE9 hrw9.1 (by omega) (fun q hq => by
        rcases List.mem_append.1 hq with hq | hq
        · exact HR4.out.2.1 q hq
        · exact HR5.out.2.1 q hq) (by
        have h1 := HR4.out.2.2
        have h2 := HR5.out.2.2
        unfold ents at h1 h2 ⊢
        rw [List.map_append, h1, h2]))
      clear hrw9 hE9
      go_wp2_with fail
      refine HIS.out.mono ?_
      rintro e w10 ⟨rfl, hb10⟩
      have HB10 := hide (below_then HB9.out hb10)
      have HISA := hide (is_tree (c := c4) (HT6.out.stay HB10.out) (HE6.out.below HB10.out) HR4.out.1 (by omega) HR4.out.2.1 HR4.out.2.2)
      clear hb10 HIS
      go_wp2_with fail
      refine HISA.out.mono ?_
      rintro e w11 ⟨rfl, hb11⟩
      have HB11 := hide (below_then HB10.out hb11)
      have HISB := hide (is_tree (c := c5) (HT7.out.stay HB11.out) (HE7.out.below HB11.out) HR5.out.1 (by omega) HR5.out.2.1 HR5.out.2.2)
      clear hb11 HISA
      go_wp2_with fail
      refine HISB.out.mono ?_
      rintro e w12 ⟨rfl, hb12⟩
      have HB12 := hide (below_then HB6.out (below_then HB11.out hb12))
      clear hb12 HISB
      go_wp2
      go_ret
      exact ⟨rfl, HB12.out⟩
    obtain ⟨N, rfl⟩ : ∃ N, n4 = N + 1 := ⟨n4 - 1, by omega⟩
    obtain ⟨b, o, r, rfl, hbl, hr, hrok, x0, x1⟩ := HE6.out.at_ (i := N) (by omega)
    obtain ⟨b', o', r', rfl, hbl', hr', hrok', y0, y1⟩ := HE7.out.at_ (i := 0) (by omega)
    simp only [Nat.zero_mul, Nat.add_zero] at y0 y1
    have hrn := HR4.out.2.1 r (List.mem_of_getElem? hr)
    have hrn' := HR5.out.2.1 r' (List.mem_of_getElem? hr')
    have hla : ea.getLast? = some r.e := by
      rw [List.getLast?_eq_getElem?, HLA.out, ← HR4.out.2.2, Nat.add_sub_cancel]
      unfold ents
      rw [List.getElem?_map, hr]
      rfl
    have hhb : eb.head? = some r'.e := by
      rw [List.head?_eq_getElem?, ← HR5.out.2.2]
      unfold ents
      rw [List.getElem?_map, hr']
      rfl
    have hp := hrok.1
    have hp' := hrok'.1
    rw [hrn] at hp x0
    rw [hrn'] at hp' y0
    have HCM := hide (ref_cmp r.A r'.A k r.c r'.c r.p r'.p w6.drew (hp.below (Below.refl _ _).drew) (hp'.below (Below.refl _ _).drew) (by omega))
    have hN0 : (0 : Int) ≤ (N : Int) := by omega
    have hN1 : (N : Int) < (N : Int) + 1 := by omega
    have hi1 : IntKind.i64.wrap ((N : Int) + 1 - 1) = (N : Int) := by rw [Int.add_sub_cancel]; exact wrap_i64_sm (by omega) (by omega)
    have hi2 : IntKind.i64.wrap (N : Int) = (N : Int) := wrap_i64_sm (by omega) (by omega)
    have ha4 : (0 : Int) < (N : Int) + 1 := by omega
    have ha5 : (0 : Int) < (n5 : Int) := by omega
    have hb5 : 0 < n5 := by omega
    have e6 : decide ((0 : Int) ≤ cmp r.p r'.p) = false := by
      simp only [decide_eq_false_iff_not]
      exact fun h => hcl ⟨_, _, hla, hhb, h⟩
    clear hcl hr hrok hr' hrok' hrn hrn' hla hhb hp hp' x1 y1
    go_wp2_with fail
    refine (HNL.out _).mono ?_
    rintro e w7 ⟨rfl, rfl⟩
    go_wp2_with fail
    refine (HNR.out _).mono ?_
    rintro e w7 ⟨rfl, rfl⟩
    go_wp2_with fail
    go_region_held3 (fun w' => w'.cell? ⟨b, o + N * 2, none⟩ = some (.slice r.A k r.c) ∧ w'.cell? ⟨b', o', none⟩ = some (.slice r'.A k r'.c))
      (first
        | go_keep)
      (first
        | (go_at_call 42
           refine HCM.out.mono ?_
           rintro e w8 ⟨rfl, rfl⟩))
    have HT6 := hide (HT6.out.stay (Below.refl _ w6).drew)
    have HE6 := hide (HE6.out.below (Below.refl _ w6).drew)
    have HT7 := hide (HT7.out.stay (Below.refl _ w6).drew)
    have HE7 := hide (HE7.out.below (Below.refl _ w6).drew)
    have HTJ := hide (HTJ.out.stay (Below.refl _ w6).drew)
    have HB6 := hide (HB6.out.drew)
    generalize w6.drew = wq at *
    have HQA := hide ((Below.refl wq.heap.size wq).alloc (Nat.le_refl _) (.cells #[] 27))
    have HQE := hide (HE6.out.1.below HQA.out)
    go_wp2_with (first
      | (at_builtin
         refine app_bg _ (by kernel_rfl) (.tmp 140) (.tmp 141) _ rfl wq.heap.size 27 _ 2 32 Try.underlying35 info_e rfl (by omega) _ (0 + (N + 1)) _ rfl HO8.out (some ⟨b', o', none⟩) n5 c5 (rb.flatMap entv) rfl wq HB8.out (Nat.le_refl _) HQF.out (entv_one' rb) (by unfold maxLen; omega) (by omega) ?_
         intro v9 w9 ho9 hb9 hg9
         simp only [Nat.zero_add, Nat.add_zero, List.nil_append] at ho9
         have HO9 := hide ho9
         have HB9 := hide hb9
         obtain ⟨A9, c9, rfl, -, -⟩ := Rw.of_own HO9.out
         clear ho9 hb9 hg9)
      | (at_builtin
         refine app_bg _ (by kernel_rfl) (.tmp 138) (.tmp 139) _ rfl wq.heap.size 27 _ 2 32 Try.underlying35 info_e rfl (by omega) _ 0 [] rfl (own_empty _ _ _) (some ⟨b, o, none⟩) (N + 1) c4 (ra.flatMap entv) rfl wq HQA.out (Nat.le_refl _) HQE.out (entv_one' ra) (by unfold maxLen; omega) (by omega) ?_
         intro v8 w8 ho8 hb8 hg8
         have HO8 := hide ho8
         have HB8 := hide hb8
         have HQF := hide (HE7.out.1.below hb8)
         clear ho8 hb8 hg8)
      | fail)
    have hrw9 := own_rw HO9.out
    have hE9 : EntsAt w9 A9 (N + 1 + n5) (ra ++ rb) := ⟨by rw [List.flatMap_append]; exact hrw9.2, fun q hq => by
      rcases List.mem_append.1 hq with hq | hq
      · exact (HE6.out.2 q hq).below HB9.out
      · exact (HE7.out.2 q hq).below HB9.out⟩
    have HIS := hide (is_tree (HTJ.out.stay HB9.out) hE9 hrw9.1 (by omega) (fun q hq => by
      rcases List.mem_append.1 hq with hq | hq
      · exact HR4.out.2.1 q hq
      · exact HR5.out.2.1 q hq) (by
      have h1 := HR4.out.2.2
      have h2 := HR5.out.2.2
      unfold ents at h1 h2 ⊢
      rw [List.map_append, h1, h2]))
    clear hrw9 hE9
    go_wp2_with fail
    refine HIS.out.mono ?_
    rintro e w10 ⟨rfl, hb10⟩
    have HB10 := hide (below_then HB9.out hb10)
    have HISA := hide (is_tree (c := c4) (HT6.out.stay HB10.out) (HE6.out.below HB10.out) HR4.out.1 (by omega) HR4.out.2.1 HR4.out.2.2)
    clear hb10 HIS
    go_wp2_with fail
    refine HISA.out.mono ?_
    rintro e w11 ⟨rfl, hb11⟩
    have HB11 := hide (below_then HB10.out hb11)
    have HISB := hide (is_tree (c := c5) (HT7.out.stay HB11.out) (HE7.out.below HB11.out) HR5.out.1 (by omega) HR5.out.2.1 HR5.out.2.2)
    clear hb11 HISA
    go_wp2_with fail
    refine HISB.out.mono ?_
    rintro e w12 ⟨rfl, hb12⟩
    have HB12 := hide (below_then HB6.out (below_then HB11.out hb12))
    clear hb12 HISB
    go_wp2
    go_ret
    exact ⟨rfl, HB12.out⟩
end Go.Proofs.Ytnopacldaoekiaa
