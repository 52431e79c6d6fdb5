/- pantileref06: Del, Put. -/
import Derived.Test.YtkknfnjojamgjaaRef06a
set_option linter.unusedSimpArgs false
set_option linter.unusedVariables false
namespace Go.Proofs.Ytkknfnjojamgjaa
open Go.RowKit
def delR (rows : List ER) (p : List Nat) : List ER := if hasR rows p then rows.take (plR rows p) ++ rows.drop (plR rows p + 1) else rows
def putR (rows : List ER) (r : ER) : List ER := (delR rows r.p).take (plR (delR rows r.p) r.p) ++ [r] ++ (delR rows r.p).drop (plR (delR rows r.p) r.p)
theorem info_e : (Try.prog.info? 59).map (fun i => (i.zero, i.size, i.bytes)) = some (some (.agg #[.slice none 0 0, .int .u64 0]), 2, 32) := by kernel_rfl
theorem flat_take (rows : List ER) (i : Nat) : (rows.flatMap entv).take (i * 2) = (rows.take i).flatMap entv := by
  induction rows generalizing i with
  | nil => simp
  | cons r rows ih =>
    cases i with
    | zero => simp
    | succ i =>
      rw [List.flatMap_cons, List.take_succ_cons, List.flatMap_cons, Nat.add_mul, Nat.add_comm (i * 2), List.take_append, ← ih i, List.take_of_length_le (by simp [entv])]
      simp [entv]
theorem flat_drop (rows : List ER) (i : Nat) : (rows.flatMap entv).drop (i * 2) = (rows.drop i).flatMap entv := by
  induction rows generalizing i with
  | nil => simp
  | cons r rows ih =>
    cases i with
    | zero => simp
    | succ i =>
      rw [List.flatMap_cons, List.drop_succ_cons, Nat.add_mul, Nat.add_comm (i * 2), List.drop_append, ← ih i]
      simp [entv]
theorem one_ents (rows : List ER) : ∀ u ∈ rows.flatMap entv, u.oneCell' = true := by
  intro u hu
  obtain ⟨r, _, hu⟩ := List.mem_flatMap.1 hu
  unfold entv at hu
  simp at hu
  rcases hu with rfl | rfl <;> rfl
theorem hasR_lt {rows : List ER} {p : List Nat} (h : hasR rows p = true) : plR rows p < rows.length := by
  unfold hasR at h
  split at h
  · rename_i r hr
    exact (List.getElem?_eq_some_iff.1 hr).1
  · cases h
theorem plR_le (rows : List ER) (p : List Nat) : plR rows p ≤ rows.length := List.findIdx_le_length
theorem mem_delR {rows : List ER} {p : List Nat} {r : ER} (h : r ∈ delR rows p) : r ∈ rows := by
  unfold delR at h
  split at h
  · rcases List.mem_append.1 h with h | h
    · exact List.mem_of_mem_take h
    · exact List.mem_of_mem_drop h
  · exact h
theorem mem_putR {rows : List ER} {q r : ER} (h : r ∈ putR rows q) : r = q ∨ r ∈ rows := by
  unfold putR at h
  rcases List.mem_append.1 h with h | h
  · rcases List.mem_append.1 h with h | h
    · exact .inr (mem_delR (List.mem_of_mem_take h))
    · exact .inl (by simpa using h)
  · exact .inr (mem_delR (List.mem_of_mem_drop h))
set_option maxHeartbeats 2000000 in
set_option maxRecDepth 100000 in
theorem ref_del (A B : Option Addr) (n c k d : Nat) (rows : List ER) (p : List Nat) (w : World) (h : EntsAt w A n rows) (hnc : n ≤ c) (hk : ∀ r ∈ rows, r.n = k) (hp : Pt w B k p) (hk40 : k ≤ 40) (hn : n ≤ 65536) :
    Calls Try.prog 115 #[.slice A n c, .slice B k d] w fun e w' => ∃ A' n' c', e = .returned (.slice A' n' c') ∧ EntsAt w' A' n' (delR rows p) ∧ n' ≤ c' ∧ n' ≤ n ∧ Below w.heap.size w w' := by
  have HC := hide (ref_place A B n c k d rows p w h hk hp hk40 (by omega))
  have HE := hide h
  have hl := h.len
  cases hh : hasR rows p with
  | false =>
    have HD := hide (show delR rows p = rows by unfold delR; rw [hh]; rfl)
    rw [hh] at HC
    have HNC := hide hnc
    clear hh h hk hp hl
    go_enter Try.func115, Try.ntmps115
    go_wp2_with fail
    refine HC.out.mono ?_
    rintro e w1 ⟨rfl, rfl⟩
    go_wp2
    go_ret
    refine ⟨A, n, c, rfl, ?_, HNC.out, Nat.le_refl _, Below.refl _ _⟩
    rw [HD.out]
    exact HE.out
  | true =>
    have hlt := hasR_lt hh
    rw [hl] at hlt
    have HD := hide (show delR rows p = rows.take (plR rows p) ++ rows.drop (plR rows p + 1) by unfold delR; rw [hh]; rfl)
    rw [hh] at HC
    generalize plR rows p = i at *
    have HNC := hide hnc
    have r1 := fun W => run_slice_to (P := Try.prog) (w := W) Try.underlying49 (sz := 2) Try.sizeOf59 A n c i (by omega)
    have r2 := fun W => run_slice_lo (P := Try.prog) (w := W) Try.underlying49 (sz := 2) Try.sizeOf59 A n c (i + 1) (by omega)
    simp only [Int.natCast_add, Int.cast_ofNat_Int] at r2
    have e5 : IntKind.i64.wrap ((i : Int) + 1) = (i : Int) + 1 := by rw [IntKind.wrap_i64]; omega
    have hb := ((Below.refl w.heap.size w).alloc (Nat.le_refl _) (.cells #[] 59)).drew
    have hE1 := HE.out.below hb
    have hT := hE1.1.take_ (i := i) (by omega)
    have hC := HE.out.1.cut (i := i + 1) (c := c) (by omega) hnc
    rw [flat_take] at hT
    rw [flat_drop] at hC
    have HT := hide hT
    have HCU := hide hC
    have HL := hide (And.intro hlt (And.intro hl hn))
    clear hh h hk hp hl hE1 hT hC hnc
    go_enter Try.func115, Try.ntmps115
    go_wp2_with fail
    refine HC.out.mono ?_
    rintro e w1 ⟨rfl, rfl⟩
    go_wp2
    go_region_held3 (fun _ => True)
      (first
        | go_keep
        | exact trivial)
      (first
        | (refine step_app _ (by rfl) (.tmp 16) (.tmp 19) _ (by rfl) w.heap.size 59 _ 2 32 Try.underlying49 info_e rfl (by omega) _ 0 [] (by rfl) (own_empty _ _ _) A i c ((rows.take i).flatMap entv) (by rfl) w hb (Nat.le_refl _) HT.out ?h2 (by have := HL.out; unfold maxLen; omega) (by have := HL.out; omega) ?_
           case h2 => exact one_ents _
           intro v2 w2 ho2 hb2 _
           have HO2 := hide ho2
           have HCC := hide (HCU.out.below hb2)
           clear ho2)
        | (refine step_app _ (by rfl) (.tmp 20) (.tmp 24) _ (by rfl) w.heap.size 59 _ 2 32 Try.underlying49 info_e rfl (by omega) _ (0 + i) _ (by rfl) HO2.out (cutA A c 2 (i + 1)) (n - (i + 1)) (c - (i + 1)) ((rows.drop (i + 1)).flatMap entv) (by rfl) w hb2 (Nat.le_refl _) HCC.out ?h2 (by have := HL.out; unfold maxLen; omega) (by have := HL.out; omega) ?_
           case h2 => exact one_ents _
           intro v3 w3 ho3 hb3 _))
    obtain ⟨A3, c3, rfl, hn3, hR3⟩ := Rw.of_own ho3
    have HB3 := hide hb3
    have hR := hide hR3
    clear ho3 hb3 hR3
    go_wp2
    go_ret
    obtain ⟨hlt, hl, hn⟩ := HL.out
    refine ⟨A3, 0 + i + (n - (i + 1)), c3, rfl, ⟨?_, fun r hr => (HE.out.2 r (mem_delR hr)).below HB3.out⟩, hn3, by omega, HB3.out⟩
    rw [HD.out, List.flatMap_append]
    have := hR.out
    rwa [List.nil_append] at this
set_option maxHeartbeats 2000000 in
set_option maxRecDepth 100000 in
theorem ref_put (A B : Option Addr) (n c k d v : Nat) (rows : List ER) (p : List Nat) (w : World) (h : EntsAt w A n rows) (hnc : n ≤ c) (hk : ∀ r ∈ rows, r.n = k) (hp : Pt w B k p) (hkd : k ≤ d) (hdm : d ≤ maxLen) (hk40 : k ≤ 40) (hn : n ≤ 65536) (hv : v < 2 ^ 64) :
    Calls Try.prog 98 #[.slice A n c, .slice B k d, .int .u64 (v : Int)] w fun e w' => ∃ A' n' c', e = .returned (.slice A' n' c') ∧ EntsAt w' A' n' (putR rows ⟨B, k, d, p, v⟩) ∧ n' ≤ c' ∧ n' ≤ n + 1 ∧ Below w.heap.size w w' := by
  have HD := hide (ref_del A B n c k d rows p w h hnc hk hp hk40 hn)
  have HP := hide hp
  have HK := hide (fun r hr => hk r (mem_delR (p := p) hr))
  have HNN := hide hn
  have HV := hide (And.intro hkd (And.intro hdm hv))
  clear h hnc hk hp hn hkd hdm hv
  go_enter Try.func98, Try.ntmps98
  go_wp2_with fail
  refine HD.out.mono ?_
  rintro e w1 ⟨A1, n1, c1, rfl, hE1, hnc1, hnn1, hb1⟩
  have hn16 : n1 ≤ 65537 := by have := HNN.out; omega
  have HC := hide (ref_place A1 B n1 c1 k d (delR rows p) p w1 hE1 HK.out (HP.out.below hb1) hk40 (by omega))
  have hl := hE1.len
  have hpl := plR_le (delR rows p) p
  rw [hl] at hpl
  have hput : putR rows ⟨B, k, d, p, v⟩ = (delR rows p).take (plR (delR rows p) p) ++ [⟨B, k, d, p, v⟩] ++ (delR rows p).drop (plR (delR rows p) p) := rfl
  have HPUT := hide hput
  have HE1 := hide hE1
  generalize delR rows p = dr at *
  generalize plR dr p = i at *
  generalize hasR dr p = hb at *
  have r1 := fun W => run_slice_to (P := Try.prog) (w := W) Try.underlying49 (sz := 2) Try.sizeOf59 A1 n1 c1 i (by omega)
  have r2 := fun W => run_slice_lo (P := Try.prog) (w := W) Try.underlying49 (sz := 2) Try.sizeOf59 A1 n1 c1 i (by omega)
  have b2 := (Below.refl w1.heap.size w1).alloc (Nat.le_refl _) (.cells #[] 59)
  have hE2 := hE1.below b2
  have hT := hE2.1.take_ (i := i) (by omega)
  have hC := hE1.1.cut (i := i) (c := c1) (by omega) hnc1
  rw [flat_take] at hT
  rw [flat_drop] at hC
  have HT := hide hT
  have HCU := hide hC
  have HL := hide (And.intro hpl (And.intro hl hn16))
  have HNC := hide hnc1
  have HNI := hide hnn1
  clear hE1 hl hpl hput hE2 hT hC hnc1 hnn1
  go_wp2_with fail
  refine HC.out.mono ?_
  rintro e w2 ⟨rfl, rfl⟩
  go_wp2_with (first
    | (at_builtin
       refine app_b _ rfl (.tmp 19) (.tmp 22) _ rfl w1.heap.size 59 _ 2 32 Try.underlying49 info_e rfl (by omega) _ 0 [] rfl (own_empty _ _ _) A1 i c1 ((dr.take i).flatMap entv) rfl w1 b2 (Nat.le_refl _) HT.out ?h2 (by have := HL.out; unfold maxLen; omega) (by have := HL.out; omega) ?_
       case h2 => exact one_ents _
       intro v3 w3 ho3 hb3 _
       have HB3 := hide hb3
       clear hb3)
    | (at_builtin
       refine app_b _ rfl (.tmp 23) (.tmp 27) _ rfl w1.heap.size 59 _ 2 32 Try.underlying49 info_e rfl (by omega) _ (0 + i) _ rfl (ho3.alloc _) (some ⟨w3.heap.size, 0, none⟩) 1 1 [.slice B k d, .int .u64 (v : Int)] rfl w1 (below_alloc HB3.out (Nat.le_refl _) _) (Nat.le_refl _) (Rw.new1 w3 59 #[.slice B k d, .int .u64 (v : Int)] (sz := 2) rfl) ?h2 (by have := HL.out; unfold maxLen; omega) (by have := HL.out; omega) ?_
       case h2 => exact one_ents [⟨B, k, d, p, v⟩]
       intro v4 w4 ho4 hb4 _
       have HB4 := hide hb4
       have HC4 := hide (HCU.out.below hb4)
       clear hb4 ho3)
    | (at_builtin
       refine app_b _ rfl (.tmp 29) (.tmp 32) _ rfl w1.heap.size 59 _ 2 32 Try.underlying49 info_e rfl (by omega) _ (0 + i + 1) _ rfl ho4 (cutA A1 c1 2 i) (n1 - i) (c1 - i) ((dr.drop i).flatMap entv) rfl w1 HB4.out (Nat.le_refl _) HC4.out ?h2 (by have := HL.out; unfold maxLen; omega) (by have := HL.out; omega) ?_
       case h2 => exact one_ents _
       intro v5 w5 ho5 hb5 _
       obtain ⟨A5, c5, rfl, hn5, hR5⟩ := Rw.of_own ho5
       simp only [Nat.zero_add] at hn5 hR5
       have HB5 := hide hb5
       have hR := hide hR5
       clear ho5 hb5 hR5 ho4)
    | fail)
  go_ret
  obtain ⟨hlt, hl, hn⟩ := HL.out
  have hbt := below_then hb1 HB5.out
  refine ⟨A5, i + 1 + (n1 - i), c5, rfl, ⟨?_, fun r hr => ?_⟩, hn5, by have := HNI.out; omega, hbt⟩
  · rw [HPUT.out, List.flatMap_append, List.flatMap_append]
    have := hR.out
    rw [List.nil_append] at this
    simpa [entv] using this
  · rw [HPUT.out] at hr
    rcases List.mem_append.1 hr with hr | hr
    · rcases List.mem_append.1 hr with hr | hr
      · exact (HE1.out.2 r (List.mem_of_mem_take hr)).below HB5.out
      · rw [List.mem_singleton] at hr
        subst hr
        exact ⟨HP.out.below hbt, HV.out.1, HV.out.2.1, HV.out.2.2⟩
    · exact (HE1.out.2 r (List.mem_of_mem_drop hr)).below HB5.out
end Go.Proofs.Ytkknfnjojamgjaa
