/- pantileref06.Kids: the lists of the kids. -/
import Derived.Test.YtkknfnjojamgjaaRef06b
set_option linter.unusedSimpArgs false
set_option linter.unusedVariables false
namespace Go.Proofs.Ytkknfnjojamgjaa
open Go.RowKit
theorem run_slice_mid {P : Program} {t e sz : Nat} (ht : P.underlying t = some (.slice e)) (hz : ∀ w, (sizeOf e).run P w = .ok sz w) (A : Option Addr) (n c i j : Nat) (hij : i ≤ j) (hj : j ≤ c) (w : World) :
    (Instr.slice t (.slice A n c) (some (.int .i64 (i : Int))) (some (.int .i64 (j : Int))) none).run P w = .ok (.slice (cutA A c sz i) (j - i) (c - i)) w := by
  have h0 : (0 : Int) ≤ (i : Int) := by omega
  have h1 : (i : Int) ≤ (j : Int) := by omega
  have h2 : (0 : Int) ≤ (j : Int) := by omega
  have h3 : (j : Int) ≤ (c : Int) := by omega
  simp [Instr.slice, run_underlying ht, Instr.sliceBounds, Instr.sliceBound, asIntOf, h0, h1, h2, h3, hz, cutA]
  rw [if_pos hj, if_pos hij]
theorem calls_args {P : Program} {f : FuncId} {args args' : Array Value} {w : World} {Q : Ending → World → Prop} (h : Calls P f args w Q) (e : args = args') : Calls P f args' w Q := e ▸ h
section
variable {α : Type}
def fl (G : List (List α)) (t : Nat) : Nat := (G.take t).flatten.length
theorem fl_zero (G : List (List α)) : fl G 0 = 0 := by simp [fl]
theorem seg_split {G : List (List α)} {t : Nat} {g : List α} (h : G[t]? = some g) : G = G.take t ++ g :: G.drop (t + 1) := by
  have ht := (List.getElem?_eq_some_iff.1 h).1
  have hg := (List.getElem?_eq_some_iff.1 h).2
  conv => lhs; rw [← List.take_append_drop t G, List.drop_eq_getElem_cons ht, hg]
theorem fl_succ {G : List (List α)} {t : Nat} {g : List α} (h : G[t]? = some g) : fl G (t + 1) = fl G t + g.length := by
  unfold fl
  rw [List.take_add_one, h]
  simp
theorem fl_all (G : List (List α)) {t : Nat} (h : G.length ≤ t) : fl G t = G.flatten.length := by
  unfold fl
  rw [List.take_of_length_le h]
theorem fl_get {G : List (List α)} {t : Nat} {g : List α} (h : G[t]? = some g) {d : Nat} (hd : d < g.length) : G.flatten[fl G t + d]? = g[d]? := by
  unfold fl
  conv => lhs; rw [seg_split h]
  rw [List.flatten_append, List.flatten_cons]
  rw [List.take_left' (by have := (List.getElem?_eq_some_iff.1 h).1; simp; omega)]
  rw [List.getElem?_append_right (by omega), Nat.add_sub_cancel_left, List.getElem?_append_left hd]
theorem fl_le {G : List (List α)} {t : Nat} {g : List α} (h : G[t]? = some g) : fl G t + g.length ≤ G.flatten.length := by
  have : G.flatten.length = (G.take t).flatten.length + (g.length + (G.drop (t + 1)).flatten.length) := by
    conv => lhs; rw [seg_split h]
    simp
  unfold fl
  omega
theorem fl_seg {G : List (List α)} {t : Nat} {g : List α} (h : G[t]? = some g) : (G.flatten.drop (fl G t)).take g.length = g := by
  have e : G.flatten = (G.take t).flatten ++ (g ++ (G.drop (t + 1)).flatten) := by
    conv => lhs; rw [seg_split h]
    rw [List.flatten_append, List.flatten_cons]
  unfold fl
  rw [e, List.drop_left' rfl, List.take_left' rfl]
end
/-- The slice of one kid's entries. -/
def segv (A : Option Addr) (c : Nat) (G : List (List ER)) (t : Nat) : Value := .slice (cutA A c 2 (fl G t)) ((G[t]?.getD []).length) (c - fl G t)
def segvs (A : Option Addr) (c : Nat) (G : List (List ER)) (m : Nat) : List Value := (List.range m).map (segv A c G)
theorem segvs_succ (A : Option Addr) (c : Nat) (G : List (List ER)) (m : Nat) : segvs A c G (m + 1) = segvs A c G m ++ [segv A c G m] := by
  unfold segvs
  rw [List.range_succ, List.map_append]
  rfl
/-- A kid's entries in memory. -/
theorem EntsAt.seg {w : World} {A : Option Addr} {n c t : Nat} {G : List (List ER)} {g : List ER} (h : EntsAt w A n G.flatten) (hnc : n ≤ c) (hg : G[t]? = some g) :
    segv A c G t = .slice (cutA A c 2 (fl G t)) g.length (c - fl G t) ∧ EntsAt w (cutA A c 2 (fl G t)) g.length g ∧ g.length ≤ c - fl G t := by
  have hl := h.len
  have hle := fl_le hg
  refine ⟨by unfold segv; rw [hg]; rfl, ⟨?_, fun r hr => h.2 r ?_⟩, by omega⟩
  · have h1 := h.1.cut (i := fl G t) (c := c) (by omega) hnc
    have h2 := h1.take_ (i := g.length) (by omega)
    rw [flat_drop, flat_take, fl_seg hg] at h2
    exact h2
  · exact List.mem_flatten.2 ⟨g, List.mem_of_getElem? hg, hr⟩
theorem info_es : (Try.prog.info? 49).map (fun i => (i.zero, i.size, i.bytes)) = some (some (.slice none 0 0), 1, 24) := by kernel_rfl
/-- These are the kids' lists at a level. -/
structure Parts (G : List (List ER)) (lv : Nat) : Prop where
  ne : ∀ g ∈ G, g ≠ []
  same : ∀ g ∈ G, ∀ r ∈ g, ∀ s ∈ g, addrOf r.p lv = addrOf s.p lv
  diff : G.Pairwise fun g h => ∀ r ∈ g, ∀ s ∈ h, addrOf r.p lv ≠ addrOf s.p lv
set_option maxHeartbeats 4000000 in
set_option maxRecDepth 100000 in
theorem ref_kids (A : Option Addr) (n c k lv : Nat) (G : List (List ER)) (w : World) (h : EntsAt w A n G.flatten) (hnc : n ≤ c) (hk : ∀ r ∈ G.flatten, r.n = k) (hk40 : k ≤ 40) (hn : n ≤ 65536) (hn1 : 1 ≤ n) (hlv : lv < 64) (hP : Parts G lv)
    (hL : ∀ W, Below w.heap.size w W → Calls Try.prog 136 #[.slice A n c] W fun e w' => e = .returned (.int .i64 (lv : Nat)) ∧ Below W.heap.size W w') :
    Calls Try.prog 101 #[.slice A n c] w fun e w' => ∃ C f, e = .returned (.slice C G.length f) ∧ w'.ownsRow w.heap.size 49 1 (.slice C G.length f) G.length (segvs A c G G.length) ∧ Below w.heap.size w w' := by
  have HE := hide h
  have HK := hide hk
  have HP := hide hP
  have hl := h.len
  have HNC := hide hnc
  have b1 := (Below.refl w.heap.size w).alloc (Nat.le_refl _) (.cells #[] 49)
  have HL := hide (hL _ b1)
  have HO := hide (own_empty w 49 1)
  have hG0 : 0 < G.length := by
    rcases Nat.eq_zero_or_pos G.length with h0 | h0
    · rw [List.eq_nil_of_length_eq_zero h0] at hl
      simp at hl; omega
    · exact h0
  have HLN := hide hl
  clear h hk hP hnc hL hl
  go_enter Try.func101, Try.ntmps101
  go_wp2_with fail
  refine HL.out.mono ?_
  rintro e w1 ⟨rfl, hb1⟩
  have hc1 := below_then b1 hb1
  have HO1 := hide (own_below HO.out hb1)
  clear hb1 HO HL
  go_wp2
  go_loopw [3, 5, 6] (fun x3 x5 x6 wr => ∃ (t d i : Nat), t ≤ G.length ∧ x5 = .int .i64 (fl G t : Nat) ∧ x6 = .int .i64 (i : Int) ∧ i = fl G t + d ∧ 1 ≤ d ∧ (∀ g, G[t]? = some g → d ≤ g.length) ∧ (t = G.length → d = 1) ∧ wr.ownsRow w.heap.size 49 1 x3 t (segvs A c G t) ∧ Below w.heap.size w wr) (fun _ _ x _ => n + 1 - (intOf x).toNat)
  case atStart =>
    refine ⟨0, 1, 1, Nat.zero_le _, by rw [fl_zero]; rfl, rfl, by rw [fl_zero], Nat.le_refl _, fun g hg => ?_, fun h => by omega, HO1.out, hc1⟩
    have := HP.out.ne g (List.mem_of_getElem? hg)
    exact List.length_pos_iff.2 this
  case round =>
    obtain ⟨t, d, i, ht, rfl, rfl, hi, hd1, hdg, hdt, hO, hb⟩ := hrel
    have HI := hide hi
    have HO := hide hO
    have HB := hide hb
    have HD := hide (And.intro hdg hdt)
    clear hO hdg hdt
    rcases Nat.lt_or_ge t G.length with htl | htl
    · obtain ⟨g, hg⟩ : ∃ g, G[t]? = some g := ⟨G[t], List.getElem?_eq_getElem htl⟩
      have hdl := HD.out.1 g hg
      have hfl := fl_le hg
      rw [HLN.out] at hfl
      have HG := hide hg
      have HFL := hide (fl_succ hg)
      have hfn : fl G t < n := by omega
      obtain ⟨b, o, r0, hA, hbl, hr0, hok0, k0, -⟩ := (HE.out.below hb).at_ hfn
      subst hA
      have hr0g : g[0]? = some r0 := by rw [← hr0]; exact (fl_get hg (by omega) (d := 0)).symm
      have hok0n := HK.out r0 (List.mem_of_getElem? hr0)
      have hp0 := hok0.1
      rw [hok0n] at hp0 k0
      have HP0 := hide hp0
      have hgt : t < 65536 := by
        have h1 : G.length ≤ G.flatten.length := by
          have : ∀ (H : List (List ER)), (∀ g ∈ H, g ≠ []) → H.length ≤ H.flatten.length := by
            intro H
            induction H with
            | nil => intro _; simp
            | cons g H ih =>
              intro hH
              have h1 := ih fun g' hg' => hH g' (List.mem_cons_of_mem _ hg')
              have h2 := List.length_pos_iff.2 (hH g List.mem_cons_self)
              rw [List.flatten_cons, List.length_append, List.length_cons]; omega
          exact this G HP.out.ne
        rw [HLN.out] at h1
        omega
      have hsame := HP.out.same g (List.mem_of_getElem? hg)
      have HSM := hide (fun r hr => hsame r hr r0 (List.mem_of_getElem? hr0g))
      have HR0 := hide hr0g
      clear hg hr0 hok0 hp0 hok0n hsame hr0g hi
      rcases Nat.lt_or_ge d g.length with hdl2 | hdl2
      · have hin : i < n := by have := HI.out; omega
        obtain ⟨b', o', r1, hA', hbl', hr1, hok1, k1, -⟩ := (HE.out.below hb).at_ hin
        injection hA' with hA'
        injection hA' with h1 h2
        subst h1 h2
        have hr1g : g[d]? = some r1 := by rw [← hr1, HI.out]; exact (fl_get HG.out hdl2).symm
        have hok1n := HK.out r1 (List.mem_of_getElem? hr1)
        have hp1 := hok1.1
        rw [hok1n] at hp1 k1
        have HP1 := hide hp1
        have HEQ := hide (HSM.out r1 (List.mem_of_getElem? hr1g))
        clear hr1 hok1 hp1 hok1n hr1g hbl' hb
        have q2 : ((i : Int) == (n : Int)) = false := by simp; omega
        have q3 : decide ((i : Int) ≤ (n : Int)) = true := by simp; omega
        have q4 : (0 : Int) ≤ (i : Int) := by omega
        have q5 : (i : Int) < (n : Int) := by omega
        go_wp2_with fail
        go_quiet ((first
          | (go_at_call 45
             have CC := fun N => ref_addr r1.A k r1.c lv r1.p (wr.drewN N) (HP1.out.below (below_drewN (Below.refl _ wr) N)) hk40 hlv
             rw [HEQ.out] at CC
             refine Calls.quiet_of_same (still_of (calls_args (CC _) ?_)); rfl)
          | (go_at_call 45
             have CC := fun N => ref_addr r0.A k r0.c lv r0.p (wr.drewN N) (HP0.out.below (below_drewN (Below.refl _ wr) N)) hk40 hlv
             refine Calls.quiet_of_same (still_of (calls_args (CC _) ?_)); rfl)))
        go_wp2
        go_roundw
        case rel =>
          refine ⟨t, d + 1, i + 1, ht, rfl, by go_num, by have := HI.out; omega, by omega, fun g' hg' => ?_, fun h => by omega, own_below HO.out (below_drewN (Below.refl _ wr) nq), below_drewN HB.out nq⟩
          have := HG.out
          rw [hg'] at this
          injection this with this
          subst this
          omega
        case measure => simp [intOf]; omega
      · have hdg : d = g.length := by omega
        rcases Nat.lt_or_ge (t + 1) G.length with ht1 | ht1
        · have hne2 : g ≠ [] := HP.out.ne g (List.mem_of_getElem? HG.out)
          obtain ⟨g2, hg2⟩ : ∃ g2, G[t + 1]? = some g2 := ⟨G[t + 1], List.getElem?_eq_getElem ht1⟩
          have hl2 : 0 < g2.length := List.length_pos_iff.2 (HP.out.ne g2 (List.mem_of_getElem? hg2))
          have hfl2 := fl_le hg2
          rw [HLN.out, HFL.out] at hfl2
          have hin : i < n := by have := HI.out; omega
          obtain ⟨b', o', r1, hA', hbl', hr1, hok1, k1, -⟩ := (HE.out.below hb).at_ hin
          injection hA' with hA'
          injection hA' with h1 h2
          subst h1 h2
          have hr1g : g2[0]? = some r1 := by
            have := fl_get hg2 hl2 (d := 0)
            rw [HFL.out, ← hdg, Nat.add_zero] at this
            rw [← hr1, HI.out]; exact this.symm
          have hok1n := HK.out r1 (List.mem_of_getElem? hr1)
          have hp1 := hok1.1
          rw [hok1n] at hp1 k1
          have HP1 := hide hp1
          have hdiff : addrOf r0.p lv ≠ addrOf r1.p lv := by
            have h1 := HP.out.diff
            rw [List.pairwise_iff_getElem] at h1
            have h2 := h1 t (t + 1) htl ht1 (by omega)
            have e1 : G[t] = g := (List.getElem?_eq_some_iff.1 HG.out).2
            have e2 : G[t + 1] = g2 := (List.getElem?_eq_some_iff.1 hg2).2
            rw [e1, e2] at h2
            exact h2 r0 (List.mem_of_getElem? HR0.out) r1 (List.mem_of_getElem? hr1g)
          clear hr1 hok1 hp1 hok1n hr1g hbl' hb hg2 hne2
          have q2 : ((i : Int) == (n : Int)) = false := by simp; omega
          have q3 : decide ((i : Int) ≤ (n : Int)) = true := by simp; omega
          have q4 : (0 : Int) ≤ (i : Int) := by omega
          have q5 : (i : Int) < (n : Int) := by omega
          have q6 : ((addrOf r1.p lv : Int) != (addrOf r0.p lv : Int)) = true := by simp; omega
          clear hdiff
          go_wp2_with fail
          go_quiet ((first
            | (go_at_call 45
               have CC := fun N => ref_addr r1.A k r1.c lv r1.p (wr.drewN N) (HP1.out.below (below_drewN (Below.refl _ wr) N)) hk40 hlv
               refine Calls.quiet_of_same (still_of (calls_args (CC _) ?_)); rfl)
            | (go_at_call 45
               have CC := fun N => ref_addr r0.A k r0.c lv r0.p (wr.drewN N) (HP0.out.below (below_drewN (Below.refl _ wr) N)) hk40 hlv
               refine Calls.quiet_of_same (still_of (calls_args (CC _) ?_)); rfl)))
          have hb2 : Below w.heap.size w (wr.drewN nq) := below_drewN HB.out nq
          have HO2 := hide (own_below HO.out (below_drewN (Below.refl _ wr) nq))
          go_upto_region 8 with fail
          generalize wr.drewN nq = w2 at *
          have r1 := fun W => run_slice_mid (P := Try.prog) (w := W) Try.underlying49 (sz := 2) Try.sizeOf59 (some ⟨b, o, none⟩) n c (fl G t) i (by have := HI.out; omega) (by have := HNC.out; have := HI.out; omega)
          rw [show i - fl G t = g.length by have := HI.out; omega] at r1
          have hsv : segv (some ⟨b, o, none⟩) c G t = .slice (cutA (some ⟨b, o, none⟩) c 2 (fl G t)) g.length (c - fl G t) := (EntsAt.seg HE.out HNC.out HG.out).1
          have HSV := hide hsv
          have hb3 := below_alloc hb2 (Nat.le_refl _) (.cells #[.slice (cutA (some ⟨b, o, none⟩) c 2 (fl G t)) g.length (c - fl G t)] 49)
          clear hsv
          go_wp2_with (first
            | (at_builtin
               refine app_b _ rfl (.tmp 37) (.tmp 42) _ rfl w.heap.size 49 _ 1 24 Try.underlying112 info_es rfl (by omega) _ t _ rfl (HO2.out.alloc _) (some ⟨w2.heap.size, 0, none⟩) 1 1 [.slice (cutA (some ⟨b, o, none⟩) c 2 (fl G t)) g.length (c - fl G t)] rfl w hb3 (Nat.le_refl _) (Rw.new1 w2 49 #[.slice (cutA (some ⟨b, o, none⟩) c 2 (fl G t)) g.length (c - fl G t)] rfl) ?h2 (by unfold maxLen; omega) (by omega) ?_
               case h2 =>
                 intro u hu
                 rw [List.mem_singleton] at hu
                 rw [hu]
                 rfl
               intro v5 w5 ho5 hb5 _
               have HO5 := hide ho5
               have HB5 := hide hb5
               clear ho5 hb5)
            | fail)
          go_roundw
          case rel =>
            have hf := HFL.out
            refine ⟨t + 1, 1, i + 1, by omega, ?_, by go_num, ?_, Nat.le_refl _, fun g' hg' => ?_, fun _ => rfl, ?_, HB5.out⟩
            · rw [hf, ← hdg, ← HI.out]
            · have := HI.out; omega
            · have := HP.out.ne g' (List.mem_of_getElem? hg')
              exact List.length_pos_iff.2 this
            · rw [segvs_succ, HSV.out]; exact HO5.out
          case measure => simp [intOf]; omega
        · have hdn : i = n := by
            have h0 := HI.out
            have h1 := HFL.out
            have h2 := fl_all G (show G.length ≤ t + 1 by omega)
            rw [HLN.out] at h2
            omega
          have q2 : ((i : Int) == (n : Int)) = true := by simp; omega
          have q3 : decide ((i : Int) ≤ (n : Int)) = true := by simp; omega
          have HDN := hide hdn
          have p3 : i ≤ n := by omega
          clear hb hdn
          go_wp2_with fail
          go_quiet (fail)
          have hb2 : Below w.heap.size w (wr.drewN nq) := below_drewN HB.out nq
          have HO2 := hide (own_below HO.out (below_drewN (Below.refl _ wr) nq))
          go_upto_region 8 with fail
          generalize wr.drewN nq = w2 at *
          have r1 := fun W => run_slice_mid (P := Try.prog) (w := W) Try.underlying49 (sz := 2) Try.sizeOf59 (some ⟨b, o, none⟩) n c (fl G t) i (by have := HI.out; omega) (by have := HNC.out; have := HI.out; omega)
          rw [show i - fl G t = g.length by have := HI.out; omega] at r1
          have hsv : segv (some ⟨b, o, none⟩) c G t = .slice (cutA (some ⟨b, o, none⟩) c 2 (fl G t)) g.length (c - fl G t) := (EntsAt.seg HE.out HNC.out HG.out).1
          have HSV := hide hsv
          have hb3 := below_alloc hb2 (Nat.le_refl _) (.cells #[.slice (cutA (some ⟨b, o, none⟩) c 2 (fl G t)) g.length (c - fl G t)] 49)
          clear hsv
          go_wp2_with (first
            | (at_builtin
               refine app_b _ rfl (.tmp 37) (.tmp 42) _ rfl w.heap.size 49 _ 1 24 Try.underlying112 info_es rfl (by omega) _ t _ rfl (HO2.out.alloc _) (some ⟨w2.heap.size, 0, none⟩) 1 1 [.slice (cutA (some ⟨b, o, none⟩) c 2 (fl G t)) g.length (c - fl G t)] rfl w hb3 (Nat.le_refl _) (Rw.new1 w2 49 #[.slice (cutA (some ⟨b, o, none⟩) c 2 (fl G t)) g.length (c - fl G t)] rfl) ?h2 (by unfold maxLen; omega) (by omega) ?_
               case h2 =>
                 intro u hu
                 rw [List.mem_singleton] at hu
                 rw [hu]
                 rfl
               intro v5 w5 ho5 hb5 _
               have HO5 := hide ho5
               have HB5 := hide hb5
               clear ho5 hb5)
            | fail)
          go_roundw
          case rel =>
            have hf := HFL.out
            refine ⟨t + 1, 1, i + 1, by omega, ?_, by go_num, ?_, Nat.le_refl _, fun g' hg' => ?_, fun _ => rfl, ?_, HB5.out⟩
            · rw [hf, ← hdg, ← HI.out]
            · have := HI.out; omega
            · have := HP.out.ne g' (List.mem_of_getElem? hg')
              exact List.length_pos_iff.2 this
            · rw [segvs_succ, HSV.out]; exact HO5.out
          case measure => simp [intOf]; omega
    · have hte : t = G.length := by omega
      have hf : fl G t = n := by rw [fl_all G (by omega)]; exact HLN.out
      have hd : d = 1 := HD.out.2 hte
      have hO := HO.out
      rw [hte] at hO
      obtain ⟨C, f, rfl, -, hR⟩ := Rw.of_own hO
      have HR := hide hO
      have q3 : decide ((i : Int) ≤ (n : Int)) = false := by simp; omega
      have p3 : ¬ i ≤ n := by omega
      have HX := hide (And.intro hte hd)
      clear hO hR hte hf hd hb
      go_wp2
      go_ret
      exact ⟨C, f, rfl, HR.out, HB.out⟩
end Go.Proofs.Ytkknfnjojamgjaa
