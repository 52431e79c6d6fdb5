/- diff: two nodes of one level and prefix. -/
import Derived.Test.YtfkpanpageeklaaDfD
import Derived.Test.YtfkpanpageeklaaStK
set_option linter.unusedSimpArgs false
set_option linter.unusedVariables false
namespace Go.Proofs.Ytfkpanpageeklaa
open Go.RowKit
theorem DfOut.keepC {d : Bool} {w0 w w1 : World} {k bo : Nat} {rows : List CR} {A B : List Ent} {e : Ending} (h : DfOut d w0 w k bo rows A B e w1) : KeepC w w1 := h.choose_spec.2.keep
def DfHyp (w0 : World) (k N : Nat) : Prop := ∀ (w : World) (bo : Nat) (rows : List CR) (ta tb : Option (Nat × NT)), (esOf ta).length + (esOf tb).length < N → TopOk w0 k ta → TopOk w0 k tb → (esOf ta).length ≤ 60000 → (esOf tb).length ≤ 60000 →
  ColC w0.heap.size w bo rows → Below w0.heap.size w0 w → rows.length + (esOf ta).length + (esOf tb).length ≤ 200000 →
  Calls Try.prog 37 #[.agg #[tellV bo], ptrOf ta, ptrOf tb] w (DfOut true w0 w k bo rows (esOf ta) (esOf tb))
set_option maxHeartbeats 8000000 in
set_option maxRecDepth 100000 in
theorem df_even_leaf {w0 w : World} {k ga gb bo va vb : Nat} {p : List Nat} {rows : List CR} (hk : k ≤ 16) (hA : NodeOf w0 k ga (-1) p [(p, va)]) (hB : NodeOf w0 k gb (-1) p [(p, vb)]) (hC : ColC w0.heap.size w bo rows) (hb : Below w0.heap.size w0 w) (hl : rows.length ≤ 200000) :
    Calls Try.prog 63 #[.agg #[tellV bo], .pointer (some ⟨ga, 0, none⟩), .pointer (some ⟨gb, 0, none⟩)] w (DfOut true w0 w k bo rows [(p, va)] [(p, vb)]) := by
  have hal := (Below.refl w.heap.size w).alloc (Nat.le_refl _) (.cells #[tellV bo] 74)
  have hS := Blk.new w 74 #[tellV bo]
  have HS := hide hS
  have HAL := hide hal
  have HB := hide hb
  have HC := hide hC
  have HZ := hide hA.info.1
  have hva : va < 2 ^ 64 := (hA.info.2.2.2.2.1 _ (List.mem_singleton.2 rfl)).2.1
  have hvb : vb < 2 ^ 64 := (hB.info.2.2.2.2.1 _ (List.mem_singleton.2 rfl)).2.1
  have HV := hide (And.intro hva hvb)
  rcases hA.cases' with ⟨A, c, v, _, hes, hv, hP, hc, hBk⟩ | ⟨m, ks, h0, _⟩
  case inr => omega
  rcases hB.cases' with ⟨A', c', v', _, hes', hv', hP', hc', hBk'⟩ | ⟨m, ks, h0, _⟩
  case inr => omega
  obtain rfl : v = va := by
    injection hes with h _
    injection h with _ h
    exact h.symm
  obtain rfl : v' = vb := by
    injection hes' with h _
    injection h with _ h
    exact h.symm
  have HEA := hide (fun W (hW : Below w0.heap.size w0 W) => nd_entry_leaf (hBk.below hW) (hP.below hW) hk)
  have HEB := hide (fun W (hW : Below w0.heap.size w0 W) => nd_entry_leaf (hBk'.below hW) (hP'.below hW) hk)
  clear hA hB hC hb hal hS hes hv hP hc hBk hes' hv' hP' hc' hBk' hva hvb
  unfold tellV at HS HAL ⊢
  go_enter Try.func63, Try.ntmps63
  go_wp2_with fail
  refine wp_scope_jumps 0 (fun _ _ => False) (fun _ _ => 0) rfl ?_ (fun _ _ h => h.elim)
  go_wp2_with fail
  refine (HEA.out _ (HB.out.trans (HAL.out.mono HB.out.size))).mono ?_
  rintro e w4 ⟨BB, d, rfl, ho4, hb4⟩
  have hn4 := Blk.new w4 63 #[.slice BB k d, .int .u64 (v : Int)]
  have hal4 := (Below.refl w4.heap.size w4).alloc (Nat.le_refl _) (.cells #[.slice BB k d, .int .u64 (v : Int)] 63)
  have HOK := hide ((ER.okT.of_own ho4 HZ.out HV.out.1).below hal4)
  have HS5 := hide (HS.out.below (below_then hb4 hal4))
  have HB5 := hide (below_then HAL.out (below_then hb4 hal4))
  have HN5 := hide hn4
  clear ho4 hb4 hn4 hal4
  go_wp2_with fail
  refine (HEB.out _ (HB.out.trans (HB5.out.mono HB.out.size))).mono ?_
  rintro e w6 ⟨CC, dd, rfl, ho6, hb6⟩
  have hn6 := Blk.new w6 63 #[.slice CC k dd, .int .u64 (v' : Int)]
  have hal6 := (Below.refl w6.heap.size w6).alloc (Nat.le_refl _) (.cells #[.slice CC k dd, .int .u64 (v' : Int)] 63)
  have hb67 := below_then hb6 hal6
  have HOK7 := hide (HOK.out.below hb67)
  have HB7 := hide (below_then HB5.out hb67)
  have s7 := HS5.out.below hb67
  have x7 := HN5.out.below hb67
  have l0 := s7.cell 0
  have x0 := x7.cell 0
  have x1 := x7.cell 1
  have y0 := hn6.cell 0
  have y1 := hn6.cell 1
  simp at l0 x0 x1 y0 y1
  have HC7 := hide (Col.below HC.out HB7.out)
  have HBB := hide (HB.out.trans (HB7.out.mono HB.out.size))
  clear ho6 hb6 hn6 hal6 hb67 s7 x7 HS HAL HS5 HN5 HOK
  by_cases hvv : v = v'
  · have e1 : ((v : Int) != (v' : Int)) = false := by simp; omega
    have HF := hide (fun W (h : W = w6.alloc (.cells #[.slice CC k dd, .int .u64 (v' : Int)] 63)) => show DfOut true w0 w k bo rows [(p, v)] [(p, v')] (.returned (.tuple #[])) W from by
      subst h
      refine ⟨[], rfl, ⟨?_, Nat.zero_le _, by rw [List.append_nil]; exact HC7.out, fun r hr => (by cases hr), KeepC.below HB7.out, HBB.out⟩⟩
      have h := Chgs.one (p := p) (v := v) (u := v')
      rw [if_pos hvv] at h
      exact h)
    clear hvv
    go_wp2
    simp only [Exit.jump]
    go_end0
    exact HF.out _ rfl
  · have e1 : ((v : Int) != (v' : Int)) = true := by simp; omega
    have HT := hide (df_tell ⟨BB, k, d, p, true, true, v, v'⟩ HC7.out HBB.out hl)
    have HNE := hide hvv
    clear hvv
    go_wp2_with fail
    refine HT.out.mono ?_
    rintro e w8 ⟨rfl, hC8, hK8, hB8⟩
    have HF := hide (show DfOut true w0 w k bo rows [(p, v)] [(p, v')] (.returned (.tuple #[])) w8 from by
      refine ⟨[⟨BB, k, d, p, true, true, v, v'⟩], rfl, ⟨?_, by simp, hC8, fun r hr => ?_, (KeepC.below HB7.out).trans hK8, hB8⟩⟩
      · have h := Chgs.one (p := p) (v := v) (u := v')
        rw [if_neg HNE.out] at h
        exact h
      · rw [List.mem_singleton] at hr
        subst hr
        obtain ⟨⟨h1, h2, h3, h4⟩, h5⟩ := HOK7.out
        exact ⟨CR.okT.keep ⟨⟨h1, h2, h3, HV.out.1, HV.out.2⟩, h5⟩ hK8.u64, rfl⟩)
    clear hC8 hK8 hB8
    go_wp2
    simp only [Exit.jump]
    go_end0
    exact HF.out
end Go.Proofs.Ytfkpanpageeklaa
