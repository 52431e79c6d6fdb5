/- pantilelaw07.TreeShares: one more act leaves all nodes beside the point's path the very same ones: the walk. -/
import Derived.Test.YtkknfnjojamgjaaShA
import Derived.Test.YtkknfnjojamgjaaFr
set_option linter.unusedSimpArgs false
set_option linter.unusedVariables false
namespace Go.Proofs.Ytkknfnjojamgjaa
open Go.RowKit
theorem below_drew1 {w w' : World} (h : Below (w.drewN 1).heap.size (w.drewN 1) w') : Below w.heap.size w w' := (Below.refl _ w).drew.trans h
theorem PathEnd.no_leaf {w : World} {k : Nat} {p : List Nat} {fs : List PF} {bot below : Option (Nat × NT)} {gs : List Nat} (h : PathEnd w k p fs bot gs below) (hF : ∀ f ∈ fs, Fork w k f.g f.lv f.pre f.ks) {i g : Nat} {q : List Nat} {es : List Ent} (hi : i < fs.length) (hg : gs[i]? = some g) (hl : NodeOf w k g (-1) q es) : False := by
  have hf : fs[i]? = some fs[i] := List.getElem?_eq_getElem hi
  have h1 : gs[i]? = some (fs[i]).g := by
    cases h with
    | none => simp [List.getElem?_map, hf]
    | leaf g v hn => rw [List.getElem?_append_left (by simpa using hi)]; simp [hf]
    | miss x hn hm => simp [List.getElem?_map, hf]
  rw [hg] at h1
  injection h1 with h1
  obtain ⟨A, c, gs', -, -, hB⟩ := (hF _ (List.mem_of_getElem? hf)).head
  obtain ⟨A', c', v', kids', hB', -⟩ := hl.head
  rw [h1] at hB'
  obtain ⟨-, hc⟩ := hB.eq_ hB'
  unfold nodeCells at hc
  have h0 := congrArg (fun a => a[0]?) hc
  simp at h0
theorem PathEnd.at_lt {w : World} {k : Nat} {p : List Nat} {fs : List PF} {bot below : Option (Nat × NT)} {gs : List Nat} (h : PathEnd w k p fs bot gs below) {i : Nat} {f : PF} (hf : fs[i]? = some f) : gs[i]? = some f.g := by
  have hi := (List.getElem?_eq_some_iff.1 hf).1
  cases h with
  | none => simp [List.getElem?_map, hf]
  | leaf g v hn => rw [List.getElem?_append_left (by simpa using hi)]; simp [hf]
  | miss x hn hm => simp [List.getElem?_map, hf]
set_option maxHeartbeats 16000000 in
set_option maxRecDepth 100000 in
theorem tree_shares (w : World) (k0 : Int) (_ : (Lit.int .i64 k0).wf = true) (AL : Option Addr) (nl cl : Nat) (al : List TA) (hl : ActsAt w AL nl al ∧ nl ≤ cl ∧ cl ≤ maxLen) (r : TA) (hr : r.ok w) :
    Calls Try.prog 14 #[.int .i64 k0, .slice AL nl cl, .agg #[.bool r.d, .slice r.A r.n r.c, .int .u64 (r.v : Int)]] w fun e w' => e = .returned (.bool true) ∧ Below w.heap.size w w' := by
  have b1 := (Below.refl w.heap.size w).alloc (Nat.le_refl _) (.cells #[.bool r.d, .slice r.A r.n r.c, .int .u64 (r.v : Int)] 94)
  have hA := Blk.new w 94 #[.bool r.d, .slice r.A r.n r.c, .int .u64 (r.v : Int)]
  have HEL := hide hl.1
  have HR := hide hr
  have HB1 := hide b1
  clear hl hr b1
  go_enter Try.func14, Try.ntmps14
  go_upto_region 1 with fail
  generalize w.alloc (.cells #[.bool r.d, .slice r.A r.n r.c, .int .u64 (r.v : Int)] 94) = w1 at *
  have HA := hide hA
  have hq5 := hA.lt
  clear hA
  go_wp2_with fail
  refine (awake7 w1).mono ?_
  rintro e w2 ⟨rfl, hb2⟩
  have hc2 := below_then HB1.out hb2
  have HH := hide (heavy7 AL nl cl 40 al w2 (HEL.out.below hc2) (by omega))
  simp only [Int.cast_ofNat_Int] at HH
  have HB2 := hide hc2
  have HA2 := hide (HA.out.below hb2)
  clear hb2 hc2
  go_wp2_with fail
  refine HH.out.mono ?_
  rintro e w3 ⟨rfl | ⟨rfl, hnl⟩, hb3⟩
  · have HB3 := hide (below_then HB2.out hb3)
    clear hb3 HH
    go_wp2
    go_ret
    exact ⟨rfl, HB3.out⟩
  have hc3 := below_then HB2.out hb3
  have HB3 := hide hc3
  have hA3 := HA2.out.below hb3
  have y1 := hA3.cell 1
  simp at y1
  have HA3 := hide hA3
  clear hb3 HH hA3
  by_cases h1 : k0 < 1
  · have e1 : decide (k0 < 1) = true := by simp; omega
    clear h1 hc3
    go_wp2
    go_ret
    exact ⟨rfl, HB3.out⟩
  have e1 : decide (k0 < 1) = false := by simp; omega
  by_cases h2 : 16 < k0
  · have e2 : decide ((16 : Int) < k0) = true := by simp; omega
    clear h1 h2 hc3
    go_wp2
    go_ret
    exact ⟨rfl, HB3.out⟩
  have e2 : decide ((16 : Int) < k0) = false := by simp; omega
  obtain ⟨k, rfl⟩ : ∃ k : Nat, k0 = (k : Int) := ⟨k0.toNat, by omega⟩
  have hk1 : 1 ≤ k := by omega
  have hk16 : k ≤ 16 := by omega
  by_cases hrk : r.n = k
  case neg =>
    have e3 : ((r.n : Int) != (k : Int)) = true := by simp; omega
    clear h1 h2 hc3 hrk
    go_wp2
    go_ret
    exact ⟨rfl, HB3.out⟩
  have e3 : ((r.n : Int) != (k : Int)) = false := by simp; omega
  have HG := hide (grown7 (c := cl) hk1 hk16 (HEL.out.below hc3) (by omega))
  have HRK := hide hrk
  clear h1 h2 hc3 hrk
  go_wp2_with fail
  refine HG.out.mono ?_
  rintro e w4 ⟨t, A4, n4, c4, rfl, ⟨rows, es, hT4, hE4, hnc4, hS4, hkk4, hes4⟩, hn4, hb4⟩
  have hc4 := below_then HB3.out hb4
  obtain ⟨top, hTB, hTop, hTes, -, -⟩ := hT4.top
  have hr4 := HR.out.below hc4
  have hp4 := hr4.1
  rw [HRK.out] at hp4
  obtain ⟨fs, bot, gs, below, hW, hF, hfl, hEnd⟩ := way_any hTop hp4.zp
  have HDN := hide (done_sh hT4 hTB hTes hE4 hnc4 hS4 hkk4 hes4 (by omega) hr4 HRK.out hW hF hfl hEnd)
  have hA4 := HA3.out.below hb4
  have y0 := hA4.cell 0
  have y1 := hA4.cell 1
  have y2 := hA4.cell 2
  simp at y0 y1 y2
  have HA4 := hide hA4
  have HB4 := hide hc4
  have HP4 := hide hp4
  have HZ := hide hp4.zp
  have HTB := hide hTB
  have HW := hide hW
  have HF := hide hF
  have HEND := hide hEnd
  have HLEN := hide (hEnd.len hp4.zp)
  clear hT4 hE4 hnc4 hS4 hkk4 hes4 hb4 hc4 hTB hTop hTes hr4 hp4 hW hF hEnd hA4 HG
  go_wp2_with fail
  refine HDN.out.mono ?_
  rintro e w5 ⟨t', A5, n5, c5, rfl, hN5, hn5, hb5, hsh⟩
  have HB45 := hide hb5
  have hA5 := HA4.out.below hb5
  have y0 := hA5.cell 0
  have y1 := hA5.cell 1
  have y2 := hA5.cell 2
  simp at y0 y1 y2
  have HA5 := hide hA5
  have HSH := hide hsh
  obtain ⟨root5, hTB5⟩ : ∃ root, TreeBlk w5 t' k root := by
    obtain ⟨rows, es, h, _⟩ := hN5
    exact h.blk
  have HTB5 := hide hTB5
  have HPA := hide (tr_Path_on (c := r.c) (Blk.below HTB.out hb5) hk1 hk16 (HP4.out.below hb5) HW.out (fun f hf => (HF.out f hf).stay hb5) hfl (HEND.out.stay hb5))
  have hrkk := HRK.out
  rw [hrkk] at y1
  clear hb5 hA5 hsh hN5 hTB5 HDN hrkk
  go_wp2_with fail
  refine HPA.out.mono ?_
  rintro e w6 ⟨B6, d6, rfl, hO6, hb6⟩
  have HB56 := hide hb6
  have HO6 := hide hO6
  have hA6 := HA5.out.below hb6
  have y0 := hA6.cell 0
  have y1 := hA6.cell 1
  have y2 := hA6.cell 2
  simp at y0 y1 y2
  have hrkk := HRK.out
  rw [hrkk] at y1
  have HA6 := hide hA6
  obtain ⟨gl, hgl⟩ : ∃ gl, gl = gs.length := ⟨_, rfl⟩
  have HGL := hide hgl
  rw [← hgl]
  have hB46 := below_then HB45.out hb6
  have HB46 := hide hB46
  by_cases htt : t' = t
  · subst htt
    have HPB := hide (tr_Path_on (c := r.c) (Blk.below HTB.out hB46) hk1 hk16 (HP4.out.below hB46) HW.out (fun f hf => (HF.out f hf).stay hB46) hfl (HEND.out.stay hB46))
    have hpq := tptr_same ⟨t', 0, none⟩
    rw [← hgl] at HPB
    clear hb6 hO6 hA6 hB46 HPA hgl hrkk
    go_wp2_with fail
    refine HPB.out.mono ?_
    rintro e w7 ⟨B7, d7, rfl, -, hb7⟩
    have HBF := hide (below_then HB4.out (below_then HB46.out hb7))
    clear hb7
    go_wp2
    go_ret
    exact ⟨rfl, HBF.out⟩
  · obtain ⟨top2, fs2, bot2, gs2, below2, hAf, hTw, hEI⟩ := after_act HZ.out HW.out HEND.out (fun f hf => (HF.out f hf).fk) htt (HSH.out.resolve_left htt)
    have hf2l := hAf.len2
    have HPB := hide (tr_Path_on (c := r.c) (hAf.stay hb6).tree hk1 hk16 (HP4.out.below hB46) (hAf.stay hb6).way (hAf.stay hb6).forks hf2l (hAf.stay hb6).end_)
    have HAF := hide hAf
    have HTW := hide hTw
    have HEI := hide hEI
    have HLEN2 := hide (hAf.end_.len HZ.out)
    have HTT := hide htt
    obtain ⟨gl2, hgl2⟩ : ∃ gl2, gl2 = gs2.length := ⟨_, rfl⟩
    have HGL2 := hide hgl2
    rw [← hgl2] at HPB
    clear hb6 hO6 hA6 hB46 HPA hgl hgl2 hAf hTw hEI htt hrkk
    go_wp2_with fail
    refine HPB.out.mono ?_
    rintro e w7 ⟨B7, d7, rfl, hO7, hb7⟩
    have HB67 := hide hb7
    have HB47 := hide (below_then HB46.out hb7)
    have HO7 := hide hO7
    have HO67 := hide (own_below HO6.out hb7)
    have HA7 := hide (HA6.out.below hb7)
    have hpq := tptr_run (Blk.below HTB5.out (below_then HB56.out hb7)) (Blk.below HTB.out (below_then HB46.out hb7))
    rw [show decide (t' = t) = false by simpa using HTT.out] at hpq
    clear hb7 hO7
    have hgl65 : gl ≤ 65 := by have := HLEN.out; have := HGL.out; omega
    have hgl265 : gl2 ≤ 65 := by have := HLEN2.out; have := HGL2.out; omega
    clear y0 y1 y2
    go_wp2
    go_loopw [17] (fun x17 wr => ∃ (i : Nat), x17 = .int .i64 (i : Int) ∧ i ≤ gl ∧ i ≤ gl2 ∧ Below w7.heap.size w7 wr) (fun x _ => gl - (intOf x).toNat)
    case atStart => exact ⟨0, rfl, Nat.zero_le _, Nat.zero_le _, Below.refl _ _⟩
    case round =>
      obtain ⟨i, rfl, hi, hi2, hbr⟩ := hrel
      have HBZ := hide hbr
      rename World => wr
      by_cases hig : i < gl
      · by_cases hig2 : i < gl2
        · obtain ⟨b6, o6, hB6e, hbl6, u6', hu6, c6⟩ := ((own_rw HO67.out).2.below hbr).one (i := i) (by have := HGL.out; omega)
          obtain ⟨g, hg⟩ : ∃ g, gs[i]? = some g := ⟨gs[i]'(by have := HGL.out; omega), List.getElem?_eq_getElem _⟩
          unfold ptrs at hu6
          rw [List.getElem?_map, hg] at hu6
          simp at hu6
          rw [← hu6] at c6
          subst hB6e
          obtain ⟨b7, o7, hB7e, hbl7, u7', hu7, c7⟩ := ((own_rw HO7.out).2.below hbr).one (i := i) (by have := HGL2.out; omega)
          obtain ⟨g2, hg2⟩ : ∃ g2, gs2[i]? = some g2 := ⟨gs2[i]'(by have := HGL2.out; omega), List.getElem?_eq_getElem _⟩
          unfold ptrs at hu7
          rw [List.getElem?_map, hg2] at hu7
          simp at hu7
          rw [← hu7] at c7
          subst hB7e
          have hi0 : (0 : Int) ≤ (i : Int) := by omega
          have hig' : (i : Int) < (gl : Int) := by omega
          have hig2' : (i : Int) < (gl2 : Int) := by omega
          have y1 := (HA7.out.below hbr).cell 1
          simp at y1
          rw [HRK.out] at y1
          have H4R := hide (below_then HB47.out hbr)
          have H5R := hide (below_then HB56.out (below_then HB67.out hbr))
          have HG1 := hide hg
          have HG2 := hide hg2
          have hq8 : w.heap.size < wr.heap.size := (HA7.out.below hbr).lt
          clear hbr hu6 hu7 hg hg2
          go_wp2_with fail
          go_quiet (fail)
          have HD8 := hide (below_drewN (Below.refl wr.heap.size wr) nq)
          rcases HEND.out.at_or HG1.out with ⟨f, hf, hgf⟩ | ⟨v0, hlf⟩
          · have hbq := below_then HBZ.out HD8.out
            have H4Q := hide (below_then H4R.out HD8.out)
            have H5Q := hide (below_then H5R.out HD8.out)
            have HBQ := hide hbq
            have hA8 := HA7.out.below hbq
            have y1 := hA8.cell 1
            simp at y1
            rw [HRK.out] at y1
            have hq9 := hA8.lt
            have hFk := (HF.out f (List.mem_of_getElem? hf)).stay H4Q.out
            have HFK := hide hFk
            have hflv : f.lv < 64 := hFk.fk.lv
            have HLX := hide (nd_level hFk.node)
            have HP8 := hide (HP4.out.below H4Q.out)
            have HFI := hide hf
            subst hgf
            have em : decide ((f.lv : Int) < 0) = false := by simp
            clear hA8 hbq hFk hf hbl6 hbl7 hq8
            go_wp2_with fail
            refine HLX.out.mono ?_
            rintro e w9 ⟨rfl, rfl⟩
            rcases HAF.out.end_.at_or HG2.out with ⟨f2, hf2, hgf2⟩ | ⟨v0, hlf⟩
            · have hFk2 := (HAF.out.forks f2 (List.mem_of_getElem? hf2)).stay H5Q.out
              obtain ⟨tw1, tw2⟩ := HTW.out i f f2 HFI.out hf2
              have HLY := nd_level hFk2.node
              rw [tw1] at HLY
              have HLY := hide HLY
              have HSY := hide (fun (X : World) (hX : Below (wr.drewN nq).heap.size (wr.drewN nq) X) => shared_yes (HFK.out.stay hX) (hFk2.stay hX) hk16 (addrOf r.p f.lv) tw2)
              have hlyd : ∀ X : World, Below (wr.drewN nq).heap.size (wr.drewN nq) X → Calls Try.prog 42 #[.pointer (some ⟨f2.g, 0, none⟩)] X fun e w' => e = .returned (.int .i64 (f.lv : Int)) ∧ X = w' := by
                intro X hX
                have h9 := nd_level (hFk2.stay hX).node
                rw [tw1] at h9
                exact h9
              have HLYD := hide hlyd
              clear hlyd
              have HLXD := hide (fun (X : World) (hX : Below (wr.drewN nq).heap.size (wr.drewN nq) X) => nd_level (HFK.out.stay hX).node)
              subst hgf2
              clear hFk2 tw1 tw2 hf2
              go_wp2_with fail
              refine HLY.out.mono ?_
              rintro e w9 ⟨rfl, rfl⟩
              go_wp2_with fail
              refine wp_region_held_drew (S := (fun w' => w'.cell? ⟨w.heap.size, 1, none⟩ = some (.slice r.A k r.c))) (by kernel_rfl) (show (wr.drewN nq).drew.cell? ⟨w.heap.size, 1, none⟩ = _ from y1) (fun hHeld => ?_)
              refine wpAnyH_take (i := 0) (oi := { dst := some 114, op := _, type := _, pos := _, after := _, guard := _ }) (v := ?_) rfl (by kernel_rfl) (by kernel_rfl) (by kernel_rfl) (fun _ _ _ h => h) (Or.inl ⟨by rfl, ?_⟩) (by assumption) ?_
              rotate_left 1
              · intro wS hSw
                try dsimp only at hSw
                go_simp
                all_goals with_reducible rfl
              try simp only [Act.put, List.setIfInBounds_toArray, List.set_cons_zero, List.set_cons_succ]
              refine wpAnyH_take (i := 2) (oi := { dst := some 116, op := _, type := _, pos := _, after := _, guard := _ }) (v := ?_) rfl (by kernel_rfl) (by kernel_rfl) (by kernel_rfl) (fun _ _ _ h => h) (Or.inl ⟨by rfl, ?_⟩) (by assumption) ?_
              rotate_left 1
              · intro wS hSw
                try dsimp only at hSw
                go_simp
                all_goals with_reducible rfl
              try simp only [Act.put, List.setIfInBounds_toArray, List.set_cons_zero, List.set_cons_succ]
              refine wpAnyH_ready (rs := [1]) (by kernel_rfl) (by simp) ?_
              refine AllReadyH.cons (o := { dst := some 115, op := _, type := _, pos := _, after := _, guard := _ }) rfl (fun K hK => ?_) AllReadyH.nil
              go_simp
              go_at_call 42
              refine (HLXD.out (wr.drewN nq).drew (Below.refl _ _).drew).mono ?_
              rintro e w9 ⟨rfl, rfl⟩
              try go_wp2_with fail
              refine hK.out _ _ ?_ (fun hHeld => ?_)
              · exact (show (wr.drewN nq).drew.cell? ⟨w.heap.size, 1, none⟩ = _ from y1)
              clear hK K
              try simp only [Act.put, List.setIfInBounds_toArray, List.set_cons_zero, List.set_cons_succ]
              refine wpAnyH_ready (rs := [3]) (by kernel_rfl) (by simp) ?_
              refine AllReadyH.cons (o := { dst := some 117, op := _, type := _, pos := _, after := _, guard := _ }) rfl (fun K hK => ?_) AllReadyH.nil
              go_simp
              go_at_call 42
              refine (HLYD.out (wr.drewN nq).drew (Below.refl _ _).drew).mono ?_
              rintro e w9 ⟨rfl, rfl⟩
              try go_wp2_with fail
              refine hK.out _ _ ?_ (fun hHeld => ?_)
              · exact (show (wr.drewN nq).drew.cell? ⟨w.heap.size, 1, none⟩ = _ from y1)
              clear hK K
              try simp only [Act.put, List.setIfInBounds_toArray, List.set_cons_zero, List.set_cons_succ]
              refine wpAnyH_take (i := 4) (oi := { dst := some 118, op := _, type := _, pos := _, after := _, guard := _ }) (v := ?_) rfl (by kernel_rfl) (by kernel_rfl) (by kernel_rfl) (fun _ _ _ h => h) (Or.inl ⟨by rfl, ?_⟩) (by assumption) ?_
              rotate_left 1
              · intro wS hSw
                try dsimp only at hSw
                go_simp
                all_goals with_reducible rfl
              try simp only [Act.put, List.setIfInBounds_toArray, List.set_cons_zero, List.set_cons_succ]
              refine wpAnyH_take (i := 5) (oi := { dst := some 119, op := _, type := _, pos := _, after := _, guard := _ }) (v := ?_) rfl (by kernel_rfl) (by kernel_rfl) (by kernel_rfl) (fun _ _ _ h => h) (Or.inl ⟨by rfl, ?_⟩) (by assumption) ?_
              rotate_left 1
              · intro wS hSw
                try dsimp only at hSw
                go_simp
                all_goals with_reducible rfl
              try simp only [Act.put, List.setIfInBounds_toArray, List.set_cons_zero, List.set_cons_succ]
              refine wpAnyH_take (i := 6) (oi := { dst := some 120, op := _, type := _, pos := _, after := _, guard := _ }) (v := ?_) rfl (by kernel_rfl) (by kernel_rfl) (by kernel_rfl) (fun _ _ _ h => h) (Or.inl ⟨by rfl, ?_⟩) (by assumption) ?_
              rotate_left 1
              · intro wS hSw
                try dsimp only at hSw
                go_simp
                all_goals with_reducible rfl
              try simp only [Act.put, List.setIfInBounds_toArray, List.set_cons_zero, List.set_cons_succ]
              refine wpAnyH_take (i := 7) (oi := { dst := some 121, op := _, type := _, pos := _, after := _, guard := _ }) (v := ?_) rfl (by kernel_rfl) (by kernel_rfl) (by kernel_rfl) (fun _ _ _ h => h) (Or.inl ⟨by rfl, ?_⟩) (by assumption) ?_
              rotate_left 1
              · intro wS hSw
                try dsimp only at hSw
                go_simp
                all_goals with_reducible rfl
              try simp only [Act.put, List.setIfInBounds_toArray, List.set_cons_zero, List.set_cons_succ]
              refine wpAnyH_take (i := 8) (oi := { dst := some 122, op := _, type := _, pos := _, after := _, guard := _ }) (v := ?_) rfl (by kernel_rfl) (by kernel_rfl) (by kernel_rfl) (fun _ _ _ h => h) (Or.inl ⟨by rfl, ?_⟩) (by assumption) ?_
              rotate_left 1
              · intro wS hSw
                try dsimp only at hSw
                go_simp
                all_goals with_reducible rfl
              try simp only [Act.put, List.setIfInBounds_toArray, List.set_cons_zero, List.set_cons_succ]
              refine wpAnyH_take (i := 9) (oi := { dst := some 123, op := _, type := _, pos := _, after := _, guard := _ }) (v := ?_) rfl (by kernel_rfl) (by kernel_rfl) (by kernel_rfl) (fun _ _ _ h => h) (Or.inl ⟨by rfl, ?_⟩) (by assumption) ?_
              rotate_left 1
              · intro wS hSw
                try dsimp only at hSw
                go_simp
                all_goals with_reducible rfl
              try simp only [Act.put, List.setIfInBounds_toArray, List.set_cons_zero, List.set_cons_succ]
              refine wpAnyH_take (i := 10) (oi := { dst := some 124, op := _, type := _, pos := _, after := _, guard := _ }) (v := ?_) rfl (by kernel_rfl) (by kernel_rfl) (by kernel_rfl) (fun _ _ _ h => h) (Or.inl ⟨by rfl, ?_⟩) (by assumption) ?_
              rotate_left 1
              · intro wS hSw
                try dsimp only at hSw
                go_simp
                all_goals with_reducible rfl
              try simp only [Act.put, List.setIfInBounds_toArray, List.set_cons_zero, List.set_cons_succ]
              refine wpAnyH_ready (rs := [11]) (by kernel_rfl) (by simp) ?_
              refine AllReadyH.cons (o := { dst := some 125, op := _, type := _, pos := _, after := _, guard := _ }) rfl (fun K hK => ?_) AllReadyH.nil
              go_simp
              go_at_call 42
              refine (HLXD.out (wr.drewN nq).drew (Below.refl _ _).drew).mono ?_
              rintro e w9 ⟨rfl, rfl⟩
              try go_wp2_with fail
              refine hK.out _ _ ?_ (fun hHeld => ?_)
              · exact (show (wr.drewN nq).drew.cell? ⟨w.heap.size, 1, none⟩ = _ from y1)
              clear hK K
              try simp only [Act.put, List.setIfInBounds_toArray, List.set_cons_zero, List.set_cons_succ]
              refine wpAnyH_ready (rs := [12]) (by kernel_rfl) (by simp) ?_
              refine AllReadyH.cons (o := { dst := some 126, op := _, type := _, pos := _, after := _, guard := _ }) rfl (fun K hK => ?_) AllReadyH.nil
              go_simp
              go_at_call 45
              refine (ref_addr r.A k r.c f.lv r.p (wr.drewN nq).drew (HP8.out.below (Below.refl _ _).drew) (by omega) hflv).mono ?_
              rintro e w9 ⟨rfl, rfl⟩
              try go_wp2_with fail
              refine hK.out _ _ ?_ (fun hHeld => ?_)
              · exact (show (wr.drewN nq).drew.cell? ⟨w.heap.size, 1, none⟩ = _ from y1)
              clear hK K
              try simp only [Act.put, List.setIfInBounds_toArray, List.set_cons_zero, List.set_cons_succ]
              refine wpAnyH_ready (rs := [13]) (by kernel_rfl) (by simp) ?_
              refine AllReadyH.cons (o := { dst := some 127, op := _, type := _, pos := _, after := _, guard := _ }) rfl (fun K hK => ?_) AllReadyH.nil
              go_simp
              go_at_call 77
              refine (HSY.out (wr.drewN nq).drew (Below.refl _ _).drew).mono ?_
              rintro e w9 ⟨rfl, hb9⟩
              have hd9 : Below (wr.drewN nq).heap.size (wr.drewN nq) w9 := (Below.refl _ _).drew.trans hb9
              have hk9 := (hd9.cell (p := ⟨w.heap.size, 1, none⟩) hq9).trans y1
              have HD9 := hide hd9
              clear hb9
              try go_wp2_with fail
              refine hK.out _ _ ?_ (fun hHeld => ?_)
              · exact hk9
              clear hK K
              try simp only [Act.put, List.setIfInBounds_toArray, List.set_cons_zero, List.set_cons_succ]
              refine wpAnyH_take (i := 14) (oi := { dst := some 128, op := _, type := _, pos := _, after := _, guard := _ }) (v := ?_) rfl (by kernel_rfl) (by kernel_rfl) (by kernel_rfl) (fun _ _ _ h => h) (Or.inl ⟨by rfl, ?_⟩) (by assumption) ?_
              rotate_left 1
              · intro wS hSw
                try dsimp only at hSw
                go_simp
                all_goals with_reducible rfl
              try simp only [Act.put, List.setIfInBounds_toArray, List.set_cons_zero, List.set_cons_succ]
              refine wpAnyH_take (i := 15) (oi := { dst := some 129, op := _, type := _, pos := _, after := _, guard := _ }) (v := ?_) rfl (by kernel_rfl) (by kernel_rfl) (by kernel_rfl) (fun _ _ _ h => h) (Or.inl ⟨by rfl, ?_⟩) (by assumption) ?_
              rotate_left 1
              · intro wS hSw
                try dsimp only at hSw
                go_simp
                all_goals with_reducible rfl
              try simp only [Act.put, List.setIfInBounds_toArray, List.set_cons_zero, List.set_cons_succ]
              refine wpAnyH_done (by kernel_rfl) ?_ _
              go_wp2
              go_roundw
              case rel => exact ⟨i + 1, by go_num, by omega, by omega, below_then HBQ.out HD9.out⟩
              case measure => simp [intOf]; omega
            · have HNL : Hid (¬ i < fs2.length) := hide (fun hh => HAF.out.end_.no_leaf HAF.out.forks hh HG2.out hlf)
              have HLV := hide (nd_level (hlf.stay H5Q.out))
              clear hlf
              go_wp2_with fail
              refine HLV.out.mono ?_
              rintro e w9 ⟨rfl, rfl⟩
              go_upto_region 24 with fail
              replace HBZ := HBQ
              clear c6 c7 y1
              have hA8 := HA7.out.below HBZ.out
              have y0 := hA8.cell 0
              have y1 := hA8.cell 1
              simp at y0 y1
              rw [HRK.out] at y1
              rcases HEI.out with ⟨h1, h2⟩ | ⟨hd, h1, hg, y, f2, hb, hf, hg2, hz, nt, hk⟩ | ⟨hd, h1, hge, hg, fs0, f, rr, nt, hf, hr, hb⟩
              · have ea : ((gl2 : Int) == (gl : Int) + 2) = false := by simp; have := HGL.out; have := HGL2.out; omega
                have eb : ((gl2 : Int) + 2 == (gl : Int)) = false := by simp; have := HGL.out; have := HGL2.out; omega
                have ec : decide ((gl2 : Int) ≤ (gl : Int) + 1) = true := by simp; have := HGL.out; have := HGL2.out; omega
                have ed : decide ((gl : Int) ≤ (gl2 : Int) + 1) = true := by simp; have := HGL.out; have := HGL2.out; omega
                clear h1 h2 hA8
                cases hdd : r.d with
                | true =>
                  rw [hdd] at y0
                  clear hdd
                  go_wp2
                  go_ret
                  exact ⟨rfl, below_then HB4.out (below_then HB47.out HBZ.out)⟩
                | false =>
                  rw [hdd] at y0
                  clear hdd
                  go_wp2
                  go_ret
                  exact ⟨rfl, below_then HB4.out (below_then HB47.out HBZ.out)⟩
              · exfalso
                have q1 := HGL.out
                have q2 := HGL2.out
                have q3 := HLEN.out
                have q4 := HLEN2.out
                have q6 := HNL.out
                have q5 := congrArg List.length hg
                rw [List.length_map] at q5
                omega
              · exfalso
                have q1 := HGL.out
                have q2 := HGL2.out
                have q3 := HLEN.out
                have q4 := HLEN2.out
                have q6 := HNL.out
                have q5 := congrArg List.length hg
                rw [List.length_map] at q5
                omega
          · have HNL : Hid (¬ i < fs.length) := hide (fun hh => HEND.out.no_leaf HF.out hh HG1.out hlf)
            have HLV := hide (nd_level ((hlf.stay H4R.out).stay HD8.out))
            have HBW := hide (below_then HBZ.out HD8.out)
            clear hlf
            go_wp2_with fail
            refine HLV.out.mono ?_
            rintro e w9 ⟨rfl, rfl⟩
            go_upto_region 24 with fail
            replace HBZ := HBW
            clear c6 c7 y1
            have hA8 := HA7.out.below HBZ.out
            have y0 := hA8.cell 0
            have y1 := hA8.cell 1
            simp at y0 y1
            rw [HRK.out] at y1
            rcases HEI.out with ⟨h1, h2⟩ | ⟨hd, h1, hg, y, f2, hb, hf, hg2, hz, nt, hk⟩ | ⟨hd, h1, hge, hg, fs0, f, rr, nt, hf, hr, hb⟩
            · have ea : ((gl2 : Int) == (gl : Int) + 2) = false := by simp; have := HGL.out; have := HGL2.out; omega
              have eb : ((gl2 : Int) + 2 == (gl : Int)) = false := by simp; have := HGL.out; have := HGL2.out; omega
              have ec : decide ((gl2 : Int) ≤ (gl : Int) + 1) = true := by simp; have := HGL.out; have := HGL2.out; omega
              have ed : decide ((gl : Int) ≤ (gl2 : Int) + 1) = true := by simp; have := HGL.out; have := HGL2.out; omega
              clear h1 h2 hA8
              cases hdd : r.d with
              | true =>
                rw [hdd] at y0
                clear hdd
                go_wp2
                go_ret
                exact ⟨rfl, below_then HB4.out (below_then HB47.out HBZ.out)⟩
              | false =>
                rw [hdd] at y0
                clear hdd
                go_wp2
                go_ret
                exact ⟨rfl, below_then HB4.out (below_then HB47.out HBZ.out)⟩
            · exfalso
              have q1 := HGL.out
              have q2 := HGL2.out
              have q3 := HLEN.out
              have q4 := HLEN2.out
              have q6 := HNL.out
              have q5 := congrArg List.length hg
              rw [List.length_map] at q5
              omega
            · exfalso
              have q1 := HGL.out
              have q2 := HGL2.out
              have q3 := HLEN.out
              have q4 := HLEN2.out
              have q6 := HNL.out
              have q5 := congrArg List.length hg
              rw [List.length_map] at q5
              omega
        · have e8 : decide ((i : Int) < (gl2 : Int)) = false := by simp; omega
          clear hbr
          go_upto_region 24 with fail
          have hA8 := HA7.out.below HBZ.out
          have y0 := hA8.cell 0
          have y1 := hA8.cell 1
          simp at y0 y1
          rw [HRK.out] at y1
          rcases HEI.out with ⟨h1, h2⟩ | ⟨hd, h1, hg, y, f2, hb, hf, hg2, hz, nt, hk⟩ | ⟨hd, h1, hge, hg, fs0, f, rr, nt, hf, hr, hb⟩
          · have ea : ((gl2 : Int) == (gl : Int) + 2) = false := by simp; have := HGL.out; have := HGL2.out; omega
            have eb : ((gl2 : Int) + 2 == (gl : Int)) = false := by simp; have := HGL.out; have := HGL2.out; omega
            have ec : decide ((gl2 : Int) ≤ (gl : Int) + 1) = true := by simp; have := HGL.out; have := HGL2.out; omega
            have ed : decide ((gl : Int) ≤ (gl2 : Int) + 1) = true := by simp; have := HGL.out; have := HGL2.out; omega
            clear h1 h2 hA8
            cases hdd : r.d with
            | true =>
              rw [hdd] at y0
              clear hdd
              go_wp2
              go_ret
              exact ⟨rfl, below_then HB4.out (below_then HB47.out HBZ.out)⟩
            | false =>
              rw [hdd] at y0
              clear hdd
              go_wp2
              go_ret
              exact ⟨rfl, below_then HB4.out (below_then HB47.out HBZ.out)⟩
          · exfalso
            have q1 := HGL.out
            have q2 := HGL2.out
            have q3 := HLEN.out
            have q4 := HLEN2.out
            omega
          · first
              | (exfalso; have q1 := HGL.out; have q2 := HGL2.out; omega)
              | (have hfm : f ∈ fs := by rw [hf]; simp
                 have hgl : gl = fs0.length + 2 := by
                   have q1 := HGL.out
                   have q3 : fs.length = fs0.length + 1 := by rw [hf]; simp
                   omega
                 have hgf : gs[fs0.length]? = some f.g := HEND.out.at_lt (by rw [hf]; simp)
                 have e27 : ((gl2 : Int) + 2 == (gl : Int)) = true := by simp; have := HGL.out; have := HGL2.out; omega
                 rw [hd] at y0
                 obtain ⟨b7, o7, hB7e, hbl7, u7', hu7, c7⟩ := ((own_rw HO67.out).2.below HBZ.out).one (i := fs0.length) (by have := HGL.out; omega)
                 unfold ptrs at hu7
                 rw [List.getElem?_map, hgf] at hu7
                 simp at hu7
                 rw [← hu7] at c7
                 first
                   | subst hB7e
                   | (injection hB7e with hB7e
                      injection hB7e with hq1 hq2
                      subst hq1 hq2)
                 obtain ⟨m, hm⟩ : ∃ m, m = fs0.length := ⟨_, rfl⟩
                 rw [← hm] at c7 hgl
                 obtain ⟨i1, i2, i3, i4, i5, i6, i7, i8⟩ := idx2 (n := gl) (j := m) hgl (by omega)
                 have hFw := (HF.out f hfm).stay (below_then HB47.out HBZ.out)
                 have HFR := hide (fun (W : World) (hW : Below w7.heap.size w7 W) => (HF.out f hfm).stay (below_then HB47.out hW))
                 have hflv : f.lv < 64 := hFw.lv
                 obtain ⟨q0, hq0a, hrr, hks⟩ := two_kids hFw.sorted hFw.two hr
                 have hRA := (own_rw HO7.out).2
                 rw [hg] at hRA
                 have hn2 : gl2 = fs2.length := by rw [HGL2.out, hg]; simp
                 have HHU := hide (fun (W : World) (hW : Below w7.heap.size w7 W) => hung_on (c := r.c) (d := d7) (n := gl2) (Blk.below HAF.out.tree (below_then HB56.out (below_then HB67.out hW))) hk16 (HP4.out.below (below_then HB47.out hW)) HAF.out.way (fun f hf => (HAF.out.forks f hf).stay (below_then HB56.out (below_then HB67.out hW))) HAF.out.len2 hn2 (hRA.below hW))
                 have HBT := hide hb
                 have ha16 : ((addrOf r.p f.lv : Nat) : Int) ≤ 65535 := by
                   have := pow_le_16 (addr_lt_pow HZ.out f.lv) hk16
                   omega
                 have ha0 : (0 : Int) ≤ ((addrOf r.p f.lv : Nat) : Int) := by omega
                 clear hfm hgl hgf hu7 hm i2 i5 i6 i8 hr hRA hn2 hb hf hg hge h1 hd hA8
                 rcases hks with hks | hks
                 · have hN0 := nd_from_0 hFw
                   rw [kAt_some (q := q0) (by rw [hks]; rfl), kPt_some (q := q0) (by rw [hks]; rfl), hq0a] at hN0
                   have HN0 := hide hN0
                   have HKS := hide hks
                   have HQ0 := hide hq0a
                   clear hN0 hks hq0a hFw hrr
                   go_wp2_with fail
                   refine HN0.out.mono ?_
                   rintro e wn ⟨rfl, hbn⟩
                   have hb7n := below_then HBZ.out hbn
                   have hAn := HA7.out.below hb7n
                   have z0 := hAn.cell 0
                   have z1 := hAn.cell 1
                   simp at z0 z1
                   rw [HRK.out] at z1
                   have HB7n := hide hb7n
                   have HFn := hide (HFR.out wn hb7n)
                   have HPn := hide (HP4.out.below (below_then HB47.out hb7n))
                   clear hbn hb7n hAn y0 y1 c7 HN0
                   go_wp2_with fail
                   go_quiet ((first
                     | (go_at_call 42
                        have CC := fun N => nd_level (HFn.out.node.stay (below_drewN (Below.refl _ wn) N))
                        exact Calls.quiet_of_same (still_of (CC _)))
                     | (go_at_call 45
                        have CC := fun N => ref_addr r.A k r.c f.lv r.p (wn.drewN N) (HPn.out.below (below_drewN (Below.refl _ wn) N)) (by omega) hflv
                        exact Calls.quiet_of_same (still_of (CC _)))))
                   have hbq := below_drewN (Below.refl wn.heap.size wn) nq
                   have hN1 := nd_from_next (HFn.out.stay hbq) (j := 0) (q := q0) (by rw [HKS.out]; rfl)
                   rw [kAt_some (q := rr) (by rw [HKS.out]; rfl), kPt_some (q := rr) (by rw [HKS.out]; rfl), HQ0.out] at hN1
                   have HN1 := hide hN1
                   have HB7q := hide (below_then HB7n.out hbq)
                   clear hN1 hbq
                   go_wp2_with fail
                   refine HN1.out.mono ?_
                   rintro e wm ⟨rfl, hbm⟩
                   have hb7m := below_then HB7q.out hbm
                   have hAm := HA7.out.below hb7m
                   clear z0 z1
                   have z1 := hAm.cell 1
                   simp at z1
                   rw [HRK.out] at z1
                   have HB7m := hide hb7m
                   have hHU := HHU.out wm hb7m
                   rw [HBT.out] at hHU
                   have HHM := hide hHU
                   clear hbm hb7m hAm HN1 hHU
                   go_wp2_with fail
                   refine HHM.out.mono ?_
                   rintro e wz ⟨rfl, hbz⟩
                   unfold ptrOf
                   simp only [Option.map_some]
                   have hpp := ptr_same ⟨rr.blk, 0, none⟩
                   have HFIN := hide (below_then HB4.out (below_then HB47.out (below_then HB7m.out hbz)))
                   clear hbz
                   go_wp2
                   go_ret
                   exact ⟨rfl, HFIN.out⟩
                 · have hN0 := nd_from_0 hFw
                   rw [kAt_some (q := rr) (by rw [hks]; rfl), kPt_some (q := rr) (by rw [hks]; rfl)] at hN0
                   have HN0 := hide hN0
                   have e30 : ((rr.at_ : Int) == (addrOf r.p f.lv : Int)) = false := by simp; omega
                   clear hN0 hks hq0a hFw hrr
                   go_wp2_with fail
                   refine HN0.out.mono ?_
                   rintro e wn ⟨rfl, hbn⟩
                   have hb7n := below_then HBZ.out hbn
                   have hAn := HA7.out.below hb7n
                   have z0 := hAn.cell 0
                   have z1 := hAn.cell 1
                   simp at z0 z1
                   rw [HRK.out] at z1
                   have HB7n := hide hb7n
                   have HFn := hide (HFR.out wn hb7n)
                   have HPn := hide (HP4.out.below (below_then HB47.out hb7n))
                   clear hbn hb7n hAn y0 y1 c7 HN0
                   go_wp2_with fail
                   go_quiet ((first
                     | (go_at_call 42
                        have CC := fun N => nd_level (HFn.out.node.stay (below_drewN (Below.refl _ wn) N))
                        exact Calls.quiet_of_same (still_of (CC _)))
                     | (go_at_call 45
                        have CC := fun N => ref_addr r.A k r.c f.lv r.p (wn.drewN N) (HPn.out.below (below_drewN (Below.refl _ wn) N)) (by omega) hflv
                        exact Calls.quiet_of_same (still_of (CC _)))))
                   have hb7m := below_then HB7n.out (below_drewN (Below.refl wn.heap.size wn) nq)
                   have HB7m := hide hb7m
                   have hHU := HHU.out (wn.drewN nq) hb7m
                   rw [HBT.out] at hHU
                   have HHM := hide hHU
                   clear hb7m hHU
                   go_wp2_with fail
                   refine HHM.out.mono ?_
                   rintro e wz ⟨rfl, hbz⟩
                   unfold ptrOf
                   simp only [Option.map_some]
                   have hpp := ptr_same ⟨rr.blk, 0, none⟩
                   have HFIN := hide (below_then HB4.out (below_then HB47.out (below_then HB7m.out hbz)))
                   clear hbz
                   go_wp2
                   go_ret
                   exact ⟨rfl, HFIN.out⟩)
      · have e9 : decide ((i : Int) < (gl : Int)) = false := by simp; omega
        clear hbr
        go_upto_region 24 with fail
        have hA8 := HA7.out.below HBZ.out
        have y0 := hA8.cell 0
        have y1 := hA8.cell 1
        simp at y0 y1
        rw [HRK.out] at y1
        rcases HEI.out with ⟨h1, h2⟩ | ⟨hd, h1, hg, y, f2, hb, hf, hg2, hz, nt, hk⟩ | ⟨hd, h1, hge, hg, fs0, f, rr, nt, hf, hr, hb⟩
        · have ea : ((gl2 : Int) == (gl : Int) + 2) = false := by simp; have := HGL.out; have := HGL2.out; omega
          have eb : ((gl2 : Int) + 2 == (gl : Int)) = false := by simp; have := HGL.out; have := HGL2.out; omega
          have ec : decide ((gl2 : Int) ≤ (gl : Int) + 1) = true := by simp; have := HGL.out; have := HGL2.out; omega
          have ed : decide ((gl : Int) ≤ (gl2 : Int) + 1) = true := by simp; have := HGL.out; have := HGL2.out; omega
          clear h1 h2 hA8
          cases hdd : r.d with
          | true =>
            rw [hdd] at y0
            clear hdd
            go_wp2
            go_ret
            exact ⟨rfl, below_then HB4.out (below_then HB47.out HBZ.out)⟩
          | false =>
            rw [hdd] at y0
            clear hdd
            go_wp2
            go_ret
            exact ⟨rfl, below_then HB4.out (below_then HB47.out HBZ.out)⟩
        · first
            | (exfalso; have q1 := HGL.out; have q2 := HGL2.out; omega)
            | (have hgl : gl = fs.length := by rw [HGL.out, hg]; simp
               have hgs2 : gs2.length = gl2 := HGL2.out.symm
               have e24 : ((gl2 : Int) == (gl : Int) + 2) = true := by simp; have := HGL.out; omega
               rw [hd] at y0
               obtain ⟨b7, o7, hB7e, hbl7, u7', hu7, c7⟩ := ((own_rw HO7.out).2.below HBZ.out).one (i := gl) (by have := HGL.out; omega)
               unfold ptrs at hu7
               rw [List.getElem?_map, hgl, hg2] at hu7
               simp at hu7
               rw [← hu7] at c7
               first
                 | subst hB7e
                 | (injection hB7e with hB7e
                    injection hB7e with hq1 hq2
                    subst hq1 hq2)
               have HBQ := hide HBZ.out
               have H4Q := hide (below_then HB47.out HBZ.out)
               have H5Q := hide (below_then HB56.out (below_then HB67.out HBZ.out))
               have hRB := (own_rw HO67.out).2
               rw [← HGL.out, hg] at hRB
               have hHU := hung_on (c := r.c) (d := d6) ((Blk.below HTB.out H4Q.out).drewN 1) hk16 ((HP4.out.below H4Q.out).below (below_drewN (Below.refl _ _) 1)) HW.out (fun f hf => ((HF.out f hf).stay H4Q.out).stay (below_drewN (Below.refl _ _) 1)) hfl hgl ((hRB.below HBQ.out).below (below_drewN (Below.refl _ _) 1))
               rw [hb] at hHU
               have HHU := hide hHU
               have hYN := (HEND.out.bot_node hb).stay H4Q.out
               have hFk2 := (HAF.out.forks f2 (List.mem_of_getElem? hf)).stay H5Q.out
               have HYN := hide hYN
               have HFK2 := hide hFk2
               have hflv : f2.lv < 64 := hFk2.fk.lv
               have HZY := hide hz
               have HKA := hide hk
               have hq9 := hA8.lt
               have hgi0 : (0 : Int) ≤ (gl : Int) := by omega
               have hgi1 : (gl : Int) < (gl2 : Int) := by have := HGL.out; omega
               clear hHU hYN hFk2 hz hk hgl hgs2 hRB hu7 hf hg2 hb hg h1 hd hA8
               go_wp2_with fail
               have HWZ := HBQ.out
               refine wp_region_held_drew (S := (fun w' => w'.cell? ⟨b7, o7 + gl, none⟩ = some (.pointer (some ⟨f2.g, 0, none⟩)) ∧ w'.cell? ⟨w.heap.size, 1, none⟩ = some (.slice r.A k r.c))) (by kernel_rfl) (And.intro c7 y1) (fun hHeld => ?_)
               refine wpAnyH_take (i := 0) (oi := { dst := some 141, op := _, type := _, pos := _, after := _, guard := _ }) (v := ?_) rfl (by kernel_rfl) (by kernel_rfl) (by kernel_rfl) (fun _ _ _ h => h) (Or.inl ⟨by rfl, ?_⟩) (by assumption) ?_
               rotate_left 1
               · intro wS hSw
                 try dsimp only at hSw
                 go_simp
                 all_goals with_reducible rfl
               try simp only [Act.put, List.setIfInBounds_toArray, List.set_cons_zero, List.set_cons_succ]
               refine wpAnyH_take (i := 1) (oi := { dst := some 142, op := _, type := _, pos := _, after := _, guard := _ }) (v := ?_) rfl (by kernel_rfl) (by kernel_rfl) (by kernel_rfl) (fun _ _ _ h => h) (Or.inl ⟨by rfl, ?_⟩) (by assumption) ?_
               rotate_left 1
               · intro wS hSw
                 try dsimp only at hSw
                 go_simp
                 all_goals with_reducible rfl
               try simp only [Act.put, List.setIfInBounds_toArray, List.set_cons_zero, List.set_cons_succ]
               refine wpAnyH_take (i := 2) (oi := { dst := some 143, op := _, type := _, pos := _, after := _, guard := _ }) (v := ?_) rfl (by kernel_rfl) (by kernel_rfl) (by kernel_rfl) (fun _ _ _ h => h) (Or.inl ⟨by rfl, ?_⟩) (by assumption) ?_
               rotate_left 1
               · intro wS hSw
                 try dsimp only at hSw
                 go_simp
                 all_goals with_reducible rfl
               try simp only [Act.put, List.setIfInBounds_toArray, List.set_cons_zero, List.set_cons_succ]
               refine wpAnyH_take (i := 3) (oi := { dst := some 144, op := _, type := _, pos := _, after := _, guard := _ }) (v := ?_) rfl (by kernel_rfl) (by kernel_rfl) (by kernel_rfl) (fun _ _ _ h => h) (Or.inl ⟨by rfl, ?_⟩) (by assumption) ?_
               rotate_left 1
               · intro wS hSw
                 try dsimp only at hSw
                 go_simp
                 all_goals with_reducible rfl
               try simp only [Act.put, List.setIfInBounds_toArray, List.set_cons_zero, List.set_cons_succ]
               refine wpAnyH_take (i := 4) (oi := { dst := some 145, op := _, type := _, pos := _, after := _, guard := _ }) (v := ?_) rfl (by kernel_rfl) (by kernel_rfl) (by kernel_rfl) (fun _ _ _ h => h) (Or.inl ⟨by rfl, ?_⟩) (by assumption) ?_
               rotate_left 1
               · intro wS hSw
                 try dsimp only at hSw
                 go_simp
                 all_goals with_reducible rfl
               try simp only [Act.put, List.setIfInBounds_toArray, List.set_cons_zero, List.set_cons_succ]
               refine wpAnyH_take (i := 5) (oi := { dst := some 146, op := _, type := _, pos := _, after := _, guard := _ }) (v := ?_) rfl (by kernel_rfl) (by kernel_rfl) (by kernel_rfl) (fun _ _ _ h => h) (Or.inl ⟨by rfl, ?_⟩) (by assumption) ?_
               rotate_left 1
               · intro wS hSw
                 try dsimp only at hSw
                 go_simp
                 all_goals with_reducible rfl
               try simp only [Act.put, List.setIfInBounds_toArray, List.set_cons_zero, List.set_cons_succ]
               refine wpAnyH_take (i := 6) (oi := { dst := some 147, op := _, type := _, pos := _, after := _, guard := _ }) (v := ?_) rfl (by kernel_rfl) (by kernel_rfl) (by kernel_rfl) (fun _ _ _ h => h) (Or.inl ⟨by rfl, ?_⟩) (by assumption) ?_
               rotate_left 1
               · intro wS hSw
                 try dsimp only at hSw
                 go_simp
                 all_goals with_reducible rfl
               try simp only [Act.put, List.setIfInBounds_toArray, List.set_cons_zero, List.set_cons_succ]
               refine wpAnyH_take (i := 7) (oi := { dst := some 148, op := _, type := _, pos := _, after := _, guard := _ }) (v := ?_) rfl (by kernel_rfl) (by kernel_rfl) (by kernel_rfl) (fun _ _ _ h => h) (Or.inl ⟨by rfl, ?_⟩) (by assumption) ?_
               rotate_left 1
               · intro wS hSw
                 try dsimp only at hSw
                 go_simp
                 all_goals with_reducible rfl
               try simp only [Act.put, List.setIfInBounds_toArray, List.set_cons_zero, List.set_cons_succ]
               refine wpAnyH_take (i := 8) (oi := { dst := some 149, op := _, type := _, pos := _, after := _, guard := _ }) (v := ?_) rfl (by kernel_rfl) (by kernel_rfl) (by kernel_rfl) (fun _ _ _ h => h) (Or.inl ⟨by rfl, ?_⟩) (by assumption) ?_
               rotate_left 1
               · intro wS hSw
                 try dsimp only at hSw
                 go_simp
                 all_goals with_reducible rfl
               try simp only [Act.put, List.setIfInBounds_toArray, List.set_cons_zero, List.set_cons_succ]
               refine wpAnyH_ready (rs := [9]) (by kernel_rfl) (by simp) ?_
               refine AllReadyH.cons (o := { dst := some 150, op := _, type := _, pos := _, after := _, guard := _ }) rfl (fun K hK => ?_) AllReadyH.nil
               go_simp
               go_at_call 78
               refine HHU.out.mono ?_
               rintro e w9 ⟨rfl, hb9⟩
               unfold ptrOf
               simp only [Option.map_some]
               have hdh := below_drew1 hb9
               have hk9 := And.intro ((hdh.cell (p := ⟨b7, o7 + gl, none⟩) hbl7).trans c7) ((hdh.cell (p := ⟨w.heap.size, 1, none⟩) hq9).trans y1)
               have HDH := hide hdh
               clear hb9
               try go_wp2_with fail
               refine hK.out _ _ ?_ (fun hHeld => ?_)
               · exact hk9
               clear hK K
               try simp only [Act.put, List.setIfInBounds_toArray, List.set_cons_zero, List.set_cons_succ]
               refine wpAnyH_take (i := 10) (oi := { dst := some 20, op := _, type := _, pos := _, after := _, guard := _ }) (v := ?_) rfl (by kernel_rfl) (by kernel_rfl) (by kernel_rfl) (fun _ _ _ h => h) (Or.inl ⟨by rfl, ?_⟩) (by assumption) ?_
               rotate_left 1
               · intro wS hSw
                 try dsimp only at hSw
                 go_simp
                 all_goals with_reducible rfl
               try simp only [Act.put, List.setIfInBounds_toArray, List.set_cons_zero, List.set_cons_succ]
               refine wpAnyH_take (i := 11) (oi := { dst := some 21, op := _, type := _, pos := _, after := _, guard := _ }) (v := ?_) rfl (by kernel_rfl) (by kernel_rfl) (by kernel_rfl) (fun _ _ _ h => h) (Or.inl ⟨by rfl, ?_⟩) (by assumption) ?_
               rotate_left 1
               · intro wS hSw
                 try dsimp only at hSw
                 go_simp
                 all_goals with_reducible rfl
               try simp only [Act.put, List.setIfInBounds_toArray, List.set_cons_zero, List.set_cons_succ]
               refine wpAnyH_done (by kernel_rfl) ?_ _
               go_wp2_with fail
               refine (nd_prefix (HYN.out.stay HDH.out) hk16).mono ?_
               rintro e w11 ⟨v11, rfl, ho11, hb11⟩
               obtain ⟨B11, d11, rfl, -, hR11⟩ := Rw.of_own ho11
               have HB11 := hide hb11
               have HP11 : Hid (Pt w11 B11 k y.2.pre) := hide ⟨HZY.out.1, hR11, HZY.out.2⟩
               have HDX := hide (below_then HDH.out hb11)
               clear ho11 hR11 hb11
               go_wp2_with fail
               refine (nd_level ((HFK2.out.stay HDX.out).node)).mono ?_
               rintro e w12 ⟨rfl, rfl⟩
               go_wp2_with fail
               refine (ref_addr B11 k d11 f2.lv y.2.pre w11 HP11.out (by omega) hflv).mono ?_
               rintro e w12 ⟨rfl, rfl⟩
               have hkd : Calls Try.prog 44 #[.pointer (some ⟨f2.g, 0, none⟩), .int .i64 (addrOf y.2.pre f2.lv : Int)] w11 fun e w' => e = .returned (.pointer (some ⟨y.1, 0, none⟩)) ∧ Below w11.heap.size w11 w' := by
                 obtain ⟨A', c', gs', hp', hS', hB'⟩ := (HFK2.out.stay HDX.out).head
                 have h9 := nd_kid hB' hS' (addrOf y.2.pre f2.lv : Int)
                 rw [kid_ptr (HFK2.out.stay HDX.out), HKA.out] at h9
                 exact h9
               have HKD := hide hkd
               clear hkd
               have hpp := ptr_same ⟨y.1, 0, none⟩
               go_wp2_with fail
               refine HKD.out.mono ?_
               rintro e w13 ⟨rfl, hb13⟩
               have HFIN := hide (below_then HB4.out (below_then HB47.out (below_then HBQ.out (below_then HDX.out hb13))))
               clear hb13
               go_wp2
               go_ret
               exact ⟨rfl, HFIN.out⟩)
        · exfalso
          have q1 := HGL.out
          have q2 := HGL2.out
          have q3 := HLEN.out
          have q4 := HLEN2.out
          omega
end Go.Proofs.Ytkknfnjojamgjaa
