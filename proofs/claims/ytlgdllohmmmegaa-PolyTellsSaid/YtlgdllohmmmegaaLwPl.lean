/- pantilelaw28.PolyTells: around a point. -/
import Derived.Test.YtlgdllohmmmegaaPyV
import Derived.Test.YtlgdllohmmmegaaPyU
set_option linter.unusedSimpArgs false
set_option linter.unusedVariables false
namespace Go.Proofs.Ytlgdllohmmmegaa
open Go.RowKit
theorem py_Winds_any {w : World} {A B : Option Addr} {n c m d : Nat} {rows : List LP} {p : List Nat} (h : LpsAt w A n rows) (hn : n ≤ 1000000) (hp : Pt w B m p) :
    Calls Try.prog 11 #[.slice A n c, .slice B m d] w fun e w' => e = .returned (.tuple #[.int .i64 (if rightL (rows.map LP.p) && small p then windsL (rows.map LP.p) p else 0), .int .i64 (onCode (rows.map LP.p) p)]) ∧ Below w.heap.size w w' := by
  cases hr : rightL (rows.map LP.p) with
  | false => exact py_Winds_bad h hn hp (.inl hr)
  | true =>
    cases hs : small p with
    | false => exact py_Winds_bad h hn hp (.inr hs)
    | true =>
      have := py_Winds (c := c) (d := d) h hn hp hr hs
      rw [show onCode (rows.map LP.p) p = 0 by unfold onCode; rw [hr]; exact (num_fine hs).2]
      exact this
theorem lo_le {ps : List (List Nat)} {k : Nat} : ∀ {n j : Nat}, j < n → loT ps k n ≤ (ps.getD j []).getD k 0
  | n + 1, j, h => by
    show min (loT ps k n) ((ps.getD n []).getD k 0) ≤ _
    rcases Nat.lt_or_ge j n with h' | h'
    · exact Nat.le_trans (Nat.min_le_left _ _) (lo_le h')
    · obtain rfl : j = n := by omega
      exact Nat.min_le_right _ _
theorem hi_ge {ps : List (List Nat)} {k : Nat} : ∀ {n j : Nat}, j < n → (ps.getD j []).getD k 0 ≤ hiT ps k n
  | n + 1, j, h => by
    show _ ≤ max (hiT ps k n) ((ps.getD n []).getD k 0)
    rcases Nat.lt_or_ge j n with h' | h'
    · exact Nat.le_trans (hi_ge h') (Nat.le_max_left _ _)
    · obtain rfl : j = n := by omega
      exact Nat.le_max_right _ _
theorem lo_mem {ps : List (List Nat)} {k : Nat} : ∀ {n : Nat}, 1 ≤ n → ∃ j, j < n ∧ (ps.getD j []).getD k 0 = loT ps k n
  | 1, _ => ⟨0, by omega, by show _ = min ((ps.getD 0 []).getD k 0) ((ps.getD 0 []).getD k 0); rw [Nat.min_self]⟩
  | n + 2, _ => by
    obtain ⟨j, h1, h2⟩ := lo_mem (ps := ps) (k := k) (n := n + 1) (by omega)
    by_cases h : loT ps k (n + 1) ≤ (ps.getD (n + 1) []).getD k 0
    · exact ⟨j, by omega, h2.trans (Nat.min_eq_left h).symm⟩
    · exact ⟨n + 1, by omega, (Nat.min_eq_right (by omega)).symm⟩
theorem hi_mem {ps : List (List Nat)} {k : Nat} : ∀ {n : Nat}, 1 ≤ n → ∃ j, j < n ∧ (ps.getD j []).getD k 0 = hiT ps k n
  | 1, _ => ⟨0, by omega, by show _ = max ((ps.getD 0 []).getD k 0) ((ps.getD 0 []).getD k 0); rw [Nat.max_self]⟩
  | n + 2, _ => by
    obtain ⟨j, h1, h2⟩ := hi_mem (ps := ps) (k := k) (n := n + 1) (by omega)
    by_cases h : (ps.getD (n + 1) []).getD k 0 ≤ hiT ps k (n + 1)
    · exact ⟨j, by omega, h2.trans (Nat.max_eq_left h).symm⟩
    · exact ⟨n + 1, by omega, (Nat.max_eq_right (by omega)).symm⟩
/-- Is a bound met by one of the first j? -/
def met (ps : List (List Nat)) (k x : Nat) : Nat → Bool
  | 0 => false
  | j + 1 => met ps k x j || decide ((ps.getD j []).getD k 0 = x)
theorem met_next {ps : List (List Nat)} {k x j q : Nat} (h : (ps.getD j []).getD k 0 = q) : met ps k x (j + 1) = (met ps k x j || ((q : Int) == (x : Int))) := by
  show (met ps k x j || decide ((ps.getD j []).getD k 0 = x)) = _
  rw [h]
  congr 1
  rw [Bool.eq_iff_iff, decide_eq_true_eq, beq_iff_eq]
  omega
theorem met_of {ps : List (List Nat)} {k x : Nat} : ∀ {n j : Nat}, j < n → (ps.getD j []).getD k 0 = x → met ps k x n = true
  | n + 1, j, h, e => by
    show (met ps k x n || _) = true
    rcases Nat.lt_or_ge j n with h' | h'
    · rw [met_of h' e, Bool.true_or]
    · obtain rfl : j = n := by omega
      rw [decide_eq_true e, Bool.or_true]
theorem info_b : (Try.prog.info? 4).map (fun i => (i.zero, i.size, i.bytes)) = some (some (.bool false), 1, 1) := by kernel_rfl
theorem make_four (W : World) : (Instr.makeSlice 42 (.int .i64 4) (.int .i64 4)).run Try.prog W = .ok (.slice (some ⟨W.heap.size, 0, none⟩) 4 4) (W.alloc (.cells #[.bool false, .bool false, .bool false, .bool false] 4)) :=
  by
    have h := run_make_info (P := Try.prog) 42 4 (.bool false) 1 1 Try.underlying42 info_b 4 (by omega) (by omega) W
    rw [show madeCells (Value.bool false).cells (4 * 1) = #[.bool false, .bool false, .bool false, .bool false] from by kernel_rfl] at h
    exact h
/-- How far the four bounds have been met: the coordinates below i of one more point. -/
def metTo (i j k : Nat) : Nat := if k < i then j + 1 else j
def tAt (ps : List (List Nat)) (n i j : Nat) (G : Nat) (W : World) : Prop := Blk W G 4 #[.bool (met ps 0 (loT ps 0 n) (metTo i j 0)), .bool (met ps 1 (loT ps 1 n) (metTo i j 1)), .bool (met ps 0 (hiT ps 0 n) (metTo i j 0)), .bool (met ps 1 (hiT ps 1 n) (metTo i j 1))]
set_option maxHeartbeats 16000000 in
set_option maxRecDepth 100000 in
theorem poly_tells (w : World) (AL : Option Addr) (nl cl : Nat) (al : List LP) (hl : LpsAt w AL nl al ∧ nl ≤ cl ∧ cl ≤ maxLen) (AP : Option Addr) (np cp : Nat) (pp : List Nat) (hp : Pt w AP np pp ∧ np ≤ cp ∧ cp ≤ maxLen) :
    Calls Try.prog 4 #[.slice AL nl cl, .slice AP np cp] w fun e w' => e = .returned (.bool true) ∧ Below w.heap.size w w' := by
  have HLP := hide hl.1
  have HPP := hide hp.1
  have hlc := hl.2.1
  have hlm := hl.2.2
  have HPC := hide hp.2
  clear hl hp
  go_enter Try.func4, Try.ntmps4
  go_wp2_with fail
  refine (awake28 w).mono ?_
  rintro e w1 ⟨rfl, hb1⟩
  have HB1 := hide hb1
  have HHV := hide (ref28_heavy (c := cl) (m := 60) (HLP.out.below hb1) (by omega))
  simp only [Int.cast_ofNat_Int] at HHV
  clear hb1
  go_wp2_with fail
  refine HHV.out.mono ?_
  rintro e w2 ⟨rfl | ⟨rfl, hn, h40⟩, hb2⟩
  · have HB2 := hide (below_then HB1.out hb2)
    clear hb2 HHV
    go_wp2
    go_ret
    exact ⟨rfl, HB2.out⟩
  have HB2 := hide (below_then HB1.out hb2)
  clear hb2 HHV h40
  by_cases h40 : 40 < np
  · have e1 : decide ((40 : Int) < (np : Int)) = true := by simp; omega
    have e2 : decide (40 < np) = true := by simp; omega
    go_wp2
    go_ret
    exact ⟨rfl, HB2.out⟩
  have e1 : decide ((40 : Int) < (np : Int)) = false := by simp; omega
  have e2 : decide (40 < np) = false := by simp; omega
  have hn1 : nl ≤ 1000000 := by omega
  have HON := hide (fun W (hW : Below w.heap.size w W) => py_On (c := cl) (d := cp) (HLP.out.below hW) hn1 (HPP.out.below hW))
  have HWI := hide (fun W (hW : Below w.heap.size w W) => py_Winds_any (c := cl) (d := cp) (HLP.out.below hW) hn1 (HPP.out.below hW))
  have HRI := hide (fun W (hW : Below w.heap.size w W) => ref28_right (c := cl) (HLP.out.below hW))
  cases hr : rightL (al.map LP.p) with
  | false =>
    have HAR := hide (py_area_form (c := cl) (HLP.out.below HB2.out) hn1 hr)
    have HBX := hide (fun W (hW : Below w.heap.size w W) => py_Box_bad (c := cl) (HLP.out.below hW) hn1 hr)
    have hoc : onCode (al.map LP.p) pp = 9 := by unfold onCode; rw [hr]; rfl
    rw [hr, hoc] at HON HWI
    rw [hr] at HRI
    simp only [Bool.false_and, Bool.false_eq_true, if_false] at HON HWI
    clear hr hoc
    go_wp2_with fail
    refine HAR.out.mono ?_
    rintro e w3 ⟨rfl, hb⟩
    have HB3 := hide (below_then HB2.out hb)
    have HON := hide (HON.out _ HB3.out)
    clear hb HAR
    go_wp2_with fail
    refine HON.out.mono ?_
    rintro e w4 ⟨rfl, hb⟩
    have HB4 := hide (below_then HB3.out hb)
    have HWI := hide (HWI.out _ HB4.out)
    clear hb HON
    go_wp2_with fail
    refine HWI.out.mono ?_
    rintro e w5 ⟨rfl, hb⟩
    have HB5 := hide (below_then HB4.out hb)
    have HBX := hide (HBX.out _ HB5.out)
    clear hb HWI
    go_wp2_with fail
    refine HBX.out.mono ?_
    rintro e w6 ⟨rfl, hb⟩
    have HB6 := hide (below_then HB5.out hb)
    have HAL := hide (HB6.out.alloc HB6.out.size (.cells #[.slice none 0 0, .slice none 0 0] 38))
    have HRI := hide (HRI.out _ HAL.out)
    have hBX := Blk.new w6 38 #[.slice none 0 0, .slice none 0 0]
    clear hb HBX
    go_wp2_with fail
    refine HRI.out.mono ?_
    rintro e w7 ⟨rfl, hb⟩
    have hB7 := hBX.below hb
    have y0 := hB7.cell 0
    have HB7 := hide (below_then HAL.out hb)
    clear hb HRI hBX hB7
    go_wp2
    go_ret
    exact ⟨rfl, HB7.out⟩
  | true =>
    have hl60 : nl ≤ 60 := by
      have h3 := right_iff hr
      rw [List.length_map, HLP.out.len] at h3
      omega
    have hl3 : 3 ≤ nl := by
      have h3 := right_iff hr
      rw [List.length_map, HLP.out.len] at h3
      omega
    have HSM := hide (right_iff hr).2.2
    have HAR := hide (py_area (c := cl) (HLP.out.below HB2.out) hn1 hr)
    have HBX := hide (fun W (hW : Below w.heap.size w W) => py_Box (c := cl) (HLP.out.below hW) hn1 hr)
    have HRA := hide (fun W (hW : Below w.heap.size w W) => ref28_area (c := cl) (HLP.out.below hW) (by omega) (by omega) HSM.out)
    obtain ⟨isv, hisv⟩ : ∃ b, b = (small pp && onL (al.map LP.p) pp) := ⟨_, rfl⟩
    obtain ⟨nv, hnv⟩ : ∃ x : Int, x = (if small pp then windsL (al.map LP.p) pp else 0) := ⟨_, rfl⟩
    obtain ⟨cd, hcd⟩ : ∃ x : Int, x = numCode pp := ⟨_, rfl⟩
    have hoc : onCode (al.map LP.p) pp = cd := by unfold onCode; rw [hr, hcd]; rfl
    rw [hr, hoc] at HON HWI
    rw [hr] at HRI
    simp only [Bool.true_and] at HON HWI
    rw [← hnv] at HWI
    rw [← hisv] at HON
    have HIS := hide hisv
    have HNV := hide hnv
    have HCD := hide hcd
    clear hr hoc hisv hnv hcd
    obtain ⟨ar, har⟩ : ∃ x, x = areaL (al.map LP.p) := ⟨_, rfl⟩
    rw [← har] at HAR HRA
    clear har
    go_wp2_with fail
    refine HAR.out.mono ?_
    rintro e w3 ⟨rfl, hb⟩
    have HB3 := hide (below_then HB2.out hb)
    have HON := hide (HON.out _ HB3.out)
    clear hb HAR
    go_wp2_with fail
    refine HON.out.mono ?_
    rintro e w4 ⟨rfl, hb⟩
    have HB4 := hide (below_then HB3.out hb)
    have HWI := hide (HWI.out _ HB4.out)
    clear hb HON
    go_wp2_with fail
    refine HWI.out.mono ?_
    rintro e w5 ⟨rfl, hb⟩
    have HB5 := hide (below_then HB4.out hb)
    have HBX := hide (HBX.out _ HB5.out)
    clear hb HWI
    go_wp2_with fail
    refine HBX.out.mono ?_
    rintro e w6 ⟨g1, g2, c1, c2, rfl, ⟨hg1, hg2⟩, hcl, hb⟩
    have HB6 := hide (below_then HB5.out hb)
    have HAL := hide (HB6.out.alloc HB6.out.size (.cells #[.slice (some ⟨g1, 0, none⟩) 2 c1, .slice (some ⟨g2, 0, none⟩) 2 c2] 38))
    have HRI := hide (HRI.out _ HAL.out)
    have hBX := Blk.new w6 38 #[.slice (some ⟨g1, 0, none⟩) 2 c1, .slice (some ⟨g2, 0, none⟩) 2 c2]
    have HCL := hide hcl
    have HG1 := hide hg1
    have HG2 := hide hg2
    clear hb HBX hcl hg1 hg2
    go_wp2_with fail
    refine HRI.out.mono ?_
    rintro e w7 ⟨rfl, hb⟩
    have HBX7 := hide (hBX.below hb)
    have HB7 := hide (below_then HAL.out hb)
    have HRA := hide (HRA.out _ HB7.out)
    have HS7 := hide (show w6.heap.size + 1 ≤ w7.heap.size by have := hb.size; rw [World.size_alloc] at this; exact this)
    have HC7 := hide (fun (W : World) (hW : Below w7.heap.size w7 W) => show (∀ k, k < 2 → W.cell? ⟨g1, k, none⟩ = some (.int .u64 (loT (al.map LP.p) k nl : Int)) ∧ W.cell? ⟨g2, k, none⟩ = some (.int .u64 (hiT (al.map LP.p) k nl : Int))) ∧ W.cell? ⟨w6.heap.size, 0, none⟩ = some (.slice (some ⟨g1, 0, none⟩) 2 c1) ∧ W.cell? ⟨w6.heap.size, 1, none⟩ = some (.slice (some ⟨g2, 0, none⟩) 2 c2) from by
      have q := HBX7.out.below hW
      refine ⟨fun k hk => ?_, q.cell 0, q.cell 1⟩
      have e1 : ∀ g, g < w6.heap.size → W.cell? ⟨g, k, none⟩ = w6.cell? ⟨g, k, none⟩ := fun g hg => by
        have h1 := HS7.out
        rw [hW.cell (p := ⟨g, k, none⟩) (show g < w7.heap.size by omega), hb.cell (p := ⟨g, k, none⟩) (show g < _ by rw [World.size_alloc]; omega)]
        exact ((Below.refl w6.heap.size w6).alloc (Nat.le_refl _) _).cell (p := ⟨g, k, none⟩) hg
      rw [e1 g1 HG1.out, e1 g2 HG2.out]
      exact HCL.out k hk)
    clear hb HRI hBX
    go_wp2_with fail
    refine HRA.out.mono ?_
    rintro e w8 ⟨rfl, hb⟩
    have HB8 := hide (below_then HB7.out hb)
    obtain ⟨-, y0, y1⟩ := HC7.out _ hb
    have HC8 := hide (fun (W : World) (hW : Below w8.heap.size w8 W) => HC7.out W (below_then hb hW))
    clear hb HRA
    have hmk := make_four
    have HT0 := hide (show tAt (al.map LP.p) nl 0 0 w8.heap.size (w8.alloc (.cells #[.bool false, .bool false, .bool false, .bool false] 4)) from Blk.new _ _ _)
    have HBT := hide (show Below w8.heap.size w8 (w8.alloc (.cells #[.bool false, .bool false, .bool false, .bool false] 4)) from (Below.refl _ _).alloc (Nat.le_refl _) _)
    have HL8 := hide (HLP.out.below HB8.out)
    go_wp2
    clear hmk y0 y1
    go_loopw [14] (fun x wr => ∃ j : Nat, x = .int .i64 (j : Int) ∧ j ≤ nl ∧ tAt (al.map LP.p) nl 0 j w8.heap.size wr ∧ Below w8.heap.size w8 wr) (fun x _ => nl - (intOf x).toNat)
    case atStart => exact ⟨0, rfl, Nat.zero_le _, HT0.out, HBT.out⟩
    case round =>
      obtain ⟨j, rfl, hj, hta, hb⟩ := hrel
      rename World => wz
      have HBZ := hide hb
      have HTA := hide hta
      by_cases hjn : j < nl
      · obtain ⟨b, o, q, rfl, hbl, hq, hqo, x1⟩ := HL8.out.at_ hjn
        obtain ⟨qx, qy, hqp, hqx, hqy⟩ := small_iff (HSM.out q.p (List.mem_map.2 ⟨q, List.mem_of_getElem? hq, rfl⟩))
        have hq2 : q.n = 2 := by rw [← hqo.1.len, hqp]; rfl
        have hqpt := hqo.1
        rw [hqp] at hqpt
        obtain ⟨qb, qo, qx', qy', hqA, hqb, hqe, z0, z1⟩ := pt_two hqpt hq2
        injection hqe with e3 e4
        injection e4 with e4 _
        subst e3 e4
        rw [hq2, hqA] at x1
        have HPJ := hide (show (al.map LP.p).getD j [] = [qx, qy] by rw [List.getD_eq_getElem?_getD, List.getElem?_map, hq, ← hqp]; rfl)
        have HZ := hide (fun (W' : World) (hW : Below w8.heap.size w8 W') => show (W'.cell? ⟨b, o + j, none⟩ = some (.slice (some ⟨qb, qo, none⟩) 2 q.c) ∧ W'.cell? ⟨qb, qo, none⟩ = some (.int .u64 (qx : Int)) ∧ W'.cell? ⟨qb, qo + 1, none⟩ = some (.int .u64 (qy : Int))) ∧
            W'.cell? ⟨w6.heap.size, 0, none⟩ = some (.slice (some ⟨g1, 0, none⟩) 2 c1) ∧ W'.cell? ⟨w6.heap.size, 1, none⟩ = some (.slice (some ⟨g2, 0, none⟩) 2 c2) ∧ W'.cell? ⟨g1, 0, none⟩ = some (.int .u64 (loT (al.map LP.p) 0 nl : Int)) ∧ W'.cell? ⟨g1, 1, none⟩ = some (.int .u64 (loT (al.map LP.p) 1 nl : Int)) ∧ W'.cell? ⟨g2, 0, none⟩ = some (.int .u64 (hiT (al.map LP.p) 0 nl : Int)) ∧ W'.cell? ⟨g2, 1, none⟩ = some (.int .u64 (hiT (al.map LP.p) 1 nl : Int)) from by
          obtain ⟨p1, p2, p3⟩ := HC8.out W' hW
          exact ⟨⟨(hW.cell (p := ⟨b, o + j, none⟩) hbl).trans x1, (hW.cell (p := ⟨qb, qo, none⟩) hqb).trans z0, (hW.cell (p := ⟨qb, qo + 1, none⟩) hqb).trans z1⟩, p2, p3, (p1 0 (by omega)).1, (p1 1 (by omega)).1, (p1 0 (by omega)).2, (p1 1 (by omega)).2⟩)
        have HLX := hide (show loT (al.map LP.p) 0 nl ≤ qx ∧ qx ≤ hiT (al.map LP.p) 0 nl from ⟨by have := lo_le (ps := al.map LP.p) (k := 0) hjn; rw [HPJ.out] at this; exact this, by have := hi_ge (ps := al.map LP.p) (k := 0) hjn; rw [HPJ.out] at this; exact this⟩)
        have HLY := hide (show loT (al.map LP.p) 1 nl ≤ qy ∧ qy ≤ hiT (al.map LP.p) 1 nl from ⟨by have := lo_le (ps := al.map LP.p) (k := 1) hjn; rw [HPJ.out] at this; exact this, by have := hi_ge (ps := al.map LP.p) (k := 1) hjn; rw [HPJ.out] at this; exact this⟩)
        clear hb hta hq hqo hqp hqpt hqA z0 z1 x1 hqx hqy hq2 hbl hqb
        go_wp2
        go_loopw [15] (fun x wr => ∃ (i : Nat) (z : Int), x = .int .i64 z ∧ z = (i : Int) ∧ i ≤ 2 ∧ tAt (al.map LP.p) nl i j w8.heap.size wr ∧ Below w8.heap.size w8 wr) (fun x _ => 2 - (intOf x).toNat)
        case atStart => exact ⟨0, 0, rfl, rfl, Nat.zero_le _, HTA.out, HBZ.out⟩
        case round =>
          obtain ⟨i, z, rfl, hz, hi, hta, hb⟩ := hrel
          rename World => wy
          have HBY := hide hb
          have HTA := hide hta
          obtain ⟨⟨x0, x1, x2⟩, y0, y1, l0, l1, u0, u1⟩ := HZ.out wy hb
          clear hb hta
          rcases i with _ | _ | _ | i
          · obtain rfl : z = 0 := by omega
            clear hz
            go_wp2
            obtain ⟨lo, HLO⟩ : ∃ lo, Hid (lo = loT (al.map LP.p) 0 nl) := ⟨_, hide rfl⟩
            obtain ⟨hi, HHI⟩ : ∃ hi, Hid (hi = hiT (al.map LP.p) 0 nl) := ⟨_, hide rfl⟩
            have HLH := hide (show lo ≤ qx ∧ qx ≤ hi by rw [HLO.out, HHI.out]; exact HLX.out)
            obtain ⟨T0, T1, T2, T3, HTE, hbk⟩ : ∃ T0 T1 T2 T3, Hid (T0 = met (al.map LP.p) 0 (loT (al.map LP.p) 0 nl) (metTo 0 j 0) ∧ T1 = met (al.map LP.p) 1 (loT (al.map LP.p) 1 nl) (metTo 0 j 1) ∧ T2 = met (al.map LP.p) 0 (hiT (al.map LP.p) 0 nl) (metTo 0 j 0) ∧ T3 = met (al.map LP.p) 1 (hiT (al.map LP.p) 1 nl) (metTo 0 j 1)) ∧ Blk wy w8.heap.size 4 #[.bool T0, .bool T1, .bool T2, .bool T3] := ⟨_, _, _, _, hide ⟨rfl, rfl, rfl, rfl⟩, HTA.out⟩
            have HBK := hide hbk
            have tc : wy.cell? ⟨w8.heap.size, 0, none⟩ = some (.bool T0) := hbk.cell 0
            have tz : wy.frozen? ⟨w8.heap.size, 0, none⟩ = false := hbk.frozen 0
            clear hbk
            have HZi := hide (fun (W' : World) (hW : Below w8.heap.size w8 W') => show (fun w' => w'.cell? ⟨b, o + j, none⟩ = some (.slice (some ⟨qb, qo, none⟩) 2 q.c) ∧ w'.cell? ⟨qb, qo, none⟩ = some (.int .u64 (qx : Int)) ∧ w'.cell? ⟨w6.heap.size, 0, none⟩ = some (.slice (some ⟨g1, 0, none⟩) 2 c1) ∧ w'.cell? ⟨w6.heap.size, 1, none⟩ = some (.slice (some ⟨g2, 0, none⟩) 2 c2) ∧ w'.cell? ⟨g1, 0, none⟩ = some (.int .u64 (lo : Int)) ∧ w'.cell? ⟨g2, 0, none⟩ = some (.int .u64 (hi : Int))) W' from by
              obtain ⟨⟨a0, a1, a2⟩, b0, b1, d0, d1, e0, e1⟩ := HZ.out W' hW
              rw [HLO.out, HHI.out]
              exact ⟨a0, a1, b0, b1, d0, e0⟩)
            clear x0 x1 x2 y0 y1 l0 l1 u0 u1
            refine wp_region_held_drew (S := fun w' => w'.cell? ⟨b, o + j, none⟩ = some (.slice (some ⟨qb, qo, none⟩) 2 q.c) ∧ w'.cell? ⟨qb, qo, none⟩ = some (.int .u64 (qx : Int)) ∧ w'.cell? ⟨w6.heap.size, 0, none⟩ = some (.slice (some ⟨g1, 0, none⟩) 2 c1) ∧ w'.cell? ⟨w6.heap.size, 1, none⟩ = some (.slice (some ⟨g2, 0, none⟩) 2 c2) ∧ w'.cell? ⟨g1, 0, none⟩ = some (.int .u64 (lo : Int)) ∧ w'.cell? ⟨g2, 0, none⟩ = some (.int .u64 (hi : Int))) (by kernel_rfl) (HZi.out wy.drew HBY.out.drew) (fun hHeld => ?_)
            have n1 : ¬ (qx : Int) < (lo : Int) := by have := HLH.out; omega
            have n2 : ¬ (hi : Int) < (qx : Int) := by have := HLH.out; omega
            refine wpAnyH_take (i := 0) (oi := { dst := some 117, op := _, type := _, pos := _, after := _, guard := _ }) (v := ?_) rfl (by kernel_rfl) (by kernel_rfl) (by kernel_rfl) (fun _ _ _ h => h) (Or.inl ⟨by rfl, ?_⟩) (by assumption) ?_
            rotate_left 1
            · intro wS hSw
              try dsimp only at hSw
              go_simp
              all_goals with_reducible rfl
            try simp only [Act.put, List.setIfInBounds_toArray, List.set_cons_zero, List.set_cons_succ]
            refine wpAnyH_take (i := 1) (oi := { dst := some 118, op := _, type := _, pos := _, after := _, guard := _ }) (v := ?_) rfl (by kernel_rfl) (by kernel_rfl) (by kernel_rfl) (fun _ _ _ h => h) (Or.inl ⟨by rfl, ?_⟩) (by assumption) ?_
            rotate_left 1
            · intro wS hSw
              try dsimp only at hSw
              go_simp
              all_goals with_reducible rfl
            try simp only [Act.put, List.setIfInBounds_toArray, List.set_cons_zero, List.set_cons_succ]
            refine wpAnyH_take (i := 2) (oi := { dst := some 119, op := _, type := _, pos := _, after := _, guard := _ }) (v := ?_) rfl (by kernel_rfl) (by kernel_rfl) (by kernel_rfl) (fun _ _ _ h => h) (Or.inl ⟨by rfl, ?_⟩) (by assumption) ?_
            rotate_left 1
            · intro wS hSw
              try dsimp only at hSw
              go_simp
              all_goals with_reducible rfl
            try simp only [Act.put, List.setIfInBounds_toArray, List.set_cons_zero, List.set_cons_succ]
            refine wpAnyH_take (i := 3) (oi := { dst := some 120, op := _, type := _, pos := _, after := _, guard := _ }) (v := ?_) rfl (by kernel_rfl) (by kernel_rfl) (by kernel_rfl) (fun _ _ _ h => h) (Or.inl ⟨by rfl, ?_⟩) (by assumption) ?_
            rotate_left 1
            · intro wS hSw
              try dsimp only at hSw
              go_simp
              all_goals with_reducible rfl
            try simp only [Act.put, List.setIfInBounds_toArray, List.set_cons_zero, List.set_cons_succ]
            refine wpAnyH_take (i := 4) (oi := { dst := some 121, op := _, type := _, pos := _, after := _, guard := _ }) (v := ?_) rfl (by kernel_rfl) (by kernel_rfl) (by kernel_rfl) (fun _ _ _ h => h) (Or.inl ⟨by rfl, ?_⟩) (by assumption) ?_
            rotate_left 1
            · intro wS hSw
              try dsimp only at hSw
              go_simp
              all_goals with_reducible rfl
            try simp only [Act.put, List.setIfInBounds_toArray, List.set_cons_zero, List.set_cons_succ]
            refine wpAnyH_take (i := 5) (oi := { dst := some 122, op := _, type := _, pos := _, after := _, guard := _ }) (v := ?_) rfl (by kernel_rfl) (by kernel_rfl) (by kernel_rfl) (fun _ _ _ h => h) (Or.inl ⟨by rfl, ?_⟩) (by assumption) ?_
            rotate_left 1
            · intro wS hSw
              try dsimp only at hSw
              go_simp
              all_goals with_reducible rfl
            try simp only [Act.put, List.setIfInBounds_toArray, List.set_cons_zero, List.set_cons_succ]
            refine wpAnyH_take (i := 6) (oi := { dst := some 123, op := _, type := _, pos := _, after := _, guard := _ }) (v := ?_) rfl (by kernel_rfl) (by kernel_rfl) (by kernel_rfl) (fun _ _ _ h => h) (Or.inl ⟨by rfl, ?_⟩) (by assumption) ?_
            rotate_left 1
            · intro wS hSw
              try dsimp only at hSw
              go_simp
              all_goals with_reducible rfl
            try simp only [Act.put, List.setIfInBounds_toArray, List.set_cons_zero, List.set_cons_succ]
            refine wpAnyH_take (i := 7) (oi := { dst := some 124, op := _, type := _, pos := _, after := _, guard := _ }) (v := ?_) rfl (by kernel_rfl) (by kernel_rfl) (by kernel_rfl) (fun _ _ _ h => h) (Or.inl ⟨by rfl, ?_⟩) (by assumption) ?_
            rotate_left 1
            · intro wS hSw
              try dsimp only at hSw
              go_simp
              all_goals with_reducible rfl
            try simp only [Act.put, List.setIfInBounds_toArray, List.set_cons_zero, List.set_cons_succ]
            refine wpAnyH_take (i := 8) (oi := { dst := some 125, op := _, type := _, pos := _, after := _, guard := _ }) (v := ?_) rfl (by kernel_rfl) (by kernel_rfl) (by kernel_rfl) (fun _ _ _ h => h) (Or.inl ⟨by rfl, ?_⟩) (by assumption) ?_
            rotate_left 1
            · intro wS hSw
              try dsimp only at hSw
              go_simp
              all_goals with_reducible rfl
            try simp only [Act.put, List.setIfInBounds_toArray, List.set_cons_zero, List.set_cons_succ]
            refine wpAnyH_take (i := 9) (oi := { dst := some 126, op := _, type := _, pos := _, after := _, guard := _ }) (v := ?_) rfl (by kernel_rfl) (by kernel_rfl) (by kernel_rfl) (fun _ _ _ h => h) (Or.inl ⟨by rfl, ?_⟩) (by assumption) ?_
            rotate_left 1
            · intro wS hSw
              try dsimp only at hSw
              go_simp
              all_goals with_reducible rfl
            try simp only [Act.put, List.setIfInBounds_toArray, List.set_cons_zero, List.set_cons_succ]
            refine wpAnyH_take (i := 10) (oi := { dst := some 127, op := _, type := _, pos := _, after := _, guard := _ }) (v := ?_) rfl (by kernel_rfl) (by kernel_rfl) (by kernel_rfl) (fun _ _ _ h => h) (Or.inl ⟨by rfl, ?_⟩) (by assumption) ?_
            rotate_left 1
            · intro wS hSw
              try dsimp only at hSw
              go_simp
              all_goals with_reducible rfl
            try simp only [Act.put, List.setIfInBounds_toArray, List.set_cons_zero, List.set_cons_succ]
            refine wpAnyH_take (i := 11) (oi := { dst := some 128, op := _, type := _, pos := _, after := _, guard := _ }) (v := ?_) rfl (by kernel_rfl) (by kernel_rfl) (by kernel_rfl) (fun _ _ _ h => h) (Or.inl ⟨by rfl, ?_⟩) (by assumption) ?_
            rotate_left 1
            · intro wS hSw
              try dsimp only at hSw
              go_simp
              all_goals with_reducible rfl
            try simp only [Act.put, List.setIfInBounds_toArray, List.set_cons_zero, List.set_cons_succ]
            refine wpAnyH_take (i := 12) (oi := { dst := some 129, op := _, type := _, pos := _, after := _, guard := _ }) (v := ?_) rfl (by kernel_rfl) (by kernel_rfl) (by kernel_rfl) (fun _ _ _ h => h) (Or.inl ⟨by rfl, ?_⟩) (by assumption) ?_
            rotate_left 1
            · intro wS hSw
              try dsimp only at hSw
              go_simp
              all_goals with_reducible rfl
            try simp only [Act.put, List.setIfInBounds_toArray, List.set_cons_zero, List.set_cons_succ]
            refine wpAnyH_take (i := 13) (oi := { dst := some 130, op := _, type := _, pos := _, after := _, guard := _ }) (v := ?_) rfl (by kernel_rfl) (by kernel_rfl) (by kernel_rfl) (fun _ _ _ h => h) (Or.inl ⟨by rfl, ?_⟩) (by assumption) ?_
            rotate_left 1
            · intro wS hSw
              try dsimp only at hSw
              go_simp
              all_goals with_reducible rfl
            try simp only [Act.put, List.setIfInBounds_toArray, List.set_cons_zero, List.set_cons_succ]
            refine wpAnyH_take (i := 14) (oi := { dst := some 131, op := _, type := _, pos := _, after := _, guard := _ }) (v := ?_) rfl (by kernel_rfl) (by kernel_rfl) (by kernel_rfl) (fun _ _ _ h => h) (Or.inl ⟨by rfl, ?_⟩) (by assumption) ?_
            rotate_left 1
            · intro wS hSw
              try dsimp only at hSw
              go_simp
              all_goals with_reducible rfl
            try simp only [Act.put, List.setIfInBounds_toArray, List.set_cons_zero, List.set_cons_succ]
            refine wpAnyH_take (i := 15) (oi := { dst := some 132, op := _, type := _, pos := _, after := _, guard := _ }) (v := ?_) rfl (by kernel_rfl) (by kernel_rfl) (by kernel_rfl) (fun _ _ _ h => h) (Or.inl ⟨by rfl, ?_⟩) (by assumption) ?_
            rotate_left 1
            · intro wS hSw
              try dsimp only at hSw
              go_simp
              all_goals with_reducible rfl
            try simp only [Act.put, List.setIfInBounds_toArray, List.set_cons_zero, List.set_cons_succ]
            refine wpAnyH_take (i := 16) (oi := { dst := some 133, op := _, type := _, pos := _, after := _, guard := _ }) (v := ?_) rfl (by kernel_rfl) (by kernel_rfl) (by kernel_rfl) (fun _ _ _ h => h) (Or.inl ⟨by rfl, ?_⟩) (by assumption) ?_
            rotate_left 1
            · intro wS hSw
              try dsimp only at hSw
              go_simp
              all_goals with_reducible rfl
            try simp only [Act.put, List.setIfInBounds_toArray, List.set_cons_zero, List.set_cons_succ]
            refine wpAnyH_take (i := 17) (oi := { dst := some 134, op := _, type := _, pos := _, after := _, guard := _ }) (v := ?_) rfl (by kernel_rfl) (by kernel_rfl) (by kernel_rfl) (fun _ _ _ h => h) (Or.inl ⟨by rfl, ?_⟩) (by assumption) ?_
            rotate_left 1
            · intro wS hSw
              try dsimp only at hSw
              go_simp
              all_goals with_reducible rfl
            try simp only [Act.put, List.setIfInBounds_toArray, List.set_cons_zero, List.set_cons_succ]
            refine wpAnyH_take (i := 18) (oi := { dst := some 135, op := _, type := _, pos := _, after := _, guard := _ }) (v := ?_) rfl (by kernel_rfl) (by kernel_rfl) (by kernel_rfl) (fun _ _ _ h => h) (Or.inl ⟨by rfl, ?_⟩) (by assumption) ?_
            rotate_left 1
            · intro wS hSw
              try dsimp only at hSw
              go_simp
              all_goals with_reducible rfl
            try simp only [Act.put, List.setIfInBounds_toArray, List.set_cons_zero, List.set_cons_succ]
            refine wpAnyH_take (i := 19) (oi := { dst := some 136, op := _, type := _, pos := _, after := _, guard := _ }) (v := ?_) rfl (by kernel_rfl) (by kernel_rfl) (by kernel_rfl) (fun _ _ _ h => h) (Or.inl ⟨by rfl, ?_⟩) (by assumption) ?_
            rotate_left 1
            · intro wS hSw
              try dsimp only at hSw
              go_simp
              all_goals with_reducible rfl
            try simp only [Act.put, List.setIfInBounds_toArray, List.set_cons_zero, List.set_cons_succ]
            refine wpAnyH_take (i := 20) (oi := { dst := some 137, op := _, type := _, pos := _, after := _, guard := _ }) (v := ?_) rfl (by kernel_rfl) (by kernel_rfl) (by kernel_rfl) (fun _ _ _ h => h) (Or.inl ⟨by rfl, ?_⟩) (by assumption) ?_
            rotate_left 1
            · intro wS hSw
              try dsimp only at hSw
              go_simp
              all_goals with_reducible rfl
            try simp only [Act.put, List.setIfInBounds_toArray, List.set_cons_zero, List.set_cons_succ]
            refine wpAnyH_take (i := 21) (oi := { dst := some 138, op := _, type := _, pos := _, after := _, guard := _ }) (v := ?_) rfl (by kernel_rfl) (by kernel_rfl) (by kernel_rfl) (fun _ _ _ h => h) (Or.inl ⟨by rfl, ?_⟩) (by assumption) ?_
            rotate_left 1
            · intro wS hSw
              try dsimp only at hSw
              go_simp
              all_goals with_reducible rfl
            try simp only [Act.put, List.setIfInBounds_toArray, List.set_cons_zero, List.set_cons_succ]
            refine wpAnyH_take (i := 22) (oi := { dst := some 139, op := _, type := _, pos := _, after := _, guard := _ }) (v := ?_) rfl (by kernel_rfl) (by kernel_rfl) (by kernel_rfl) (fun _ _ _ h => h) (Or.inl ⟨by rfl, ?_⟩) (by assumption) ?_
            rotate_left 1
            · intro wS hSw
              try dsimp only at hSw
              go_simp
              all_goals with_reducible rfl
            try simp only [Act.put, List.setIfInBounds_toArray, List.set_cons_zero, List.set_cons_succ]
            refine wpAnyH_take (i := 23) (oi := { dst := some 140, op := _, type := _, pos := _, after := _, guard := _ }) (v := ?_) rfl (by kernel_rfl) (by kernel_rfl) (by kernel_rfl) (fun _ _ _ h => h) (Or.inl ⟨by rfl, ?_⟩) (by assumption) ?_
            rotate_left 1
            · intro wS hSw
              try dsimp only at hSw
              go_simp
              all_goals with_reducible rfl
            try simp only [Act.put, List.setIfInBounds_toArray, List.set_cons_zero, List.set_cons_succ]
            refine wpAnyH_take (i := 24) (oi := { dst := some 141, op := _, type := _, pos := _, after := _, guard := _ }) (v := ?_) rfl (by kernel_rfl) (by kernel_rfl) (by kernel_rfl) (fun _ _ _ h => h) (Or.inl ⟨by rfl, ?_⟩) (by assumption) ?_
            rotate_left 1
            · intro wS hSw
              try dsimp only at hSw
              go_simp
              all_goals with_reducible rfl
            try simp only [Act.put, List.setIfInBounds_toArray, List.set_cons_zero, List.set_cons_succ]
            refine wpAnyH_take (i := 25) (oi := { dst := some 142, op := _, type := _, pos := _, after := _, guard := _ }) (v := ?_) rfl (by kernel_rfl) (by kernel_rfl) (by kernel_rfl) (fun _ _ _ h => h) (Or.inl ⟨by rfl, ?_⟩) (by assumption) ?_
            rotate_left 1
            · intro wS hSw
              try dsimp only at hSw
              go_simp
              all_goals with_reducible rfl
            try simp only [Act.put, List.setIfInBounds_toArray, List.set_cons_zero, List.set_cons_succ]
            refine wpAnyH_take (i := 26) (oi := { dst := some 143, op := _, type := _, pos := _, after := _, guard := _ }) (v := ?_) rfl (by kernel_rfl) (by kernel_rfl) (by kernel_rfl) (fun _ _ _ h => h) (Or.inl ⟨by rfl, ?_⟩) (by assumption) ?_
            rotate_left 1
            · intro wS hSw
              try dsimp only at hSw
              go_simp
              all_goals with_reducible rfl
            try simp only [Act.put, List.setIfInBounds_toArray, List.set_cons_zero, List.set_cons_succ]
            refine wpAnyH_take (i := 27) (oi := { dst := some 144, op := _, type := _, pos := _, after := _, guard := _ }) (v := ?_) rfl (by kernel_rfl) (by kernel_rfl) (by kernel_rfl) (fun _ _ _ h => h) (Or.inl ⟨by rfl, ?_⟩) (by assumption) ?_
            rotate_left 1
            · intro wS hSw
              try dsimp only at hSw
              go_simp
              all_goals with_reducible rfl
            try simp only [Act.put, List.setIfInBounds_toArray, List.set_cons_zero, List.set_cons_succ]
            refine wpAnyH_done (by kernel_rfl) ?_ _
            clear n1 n2 hHeld
            go_wp2
            obtain ⟨z0, z1, z2, z3, z4, z5⟩ := HZi.out wy HBY.out
            cases T0 with
            | true =>
              refine wp_region_store 22 1000 (fun w' => w'.cell? ⟨b, o + j, none⟩ = some (.slice (some ⟨qb, qo, none⟩) 2 q.c) ∧ w'.cell? ⟨qb, qo, none⟩ = some (.int .u64 (qx : Int)) ∧ w'.cell? ⟨w6.heap.size, 0, none⟩ = some (.slice (some ⟨g1, 0, none⟩) 2 c1) ∧ w'.cell? ⟨g1, 0, none⟩ = some (.int .u64 (lo : Int))) (fun w' => w'.cell? ⟨w8.heap.size, 0, none⟩ = some (.bool true)) (fun _ => True) (by kernel_rfl) ⟨⟨z0, z1, z2, z4⟩, tc, trivial⟩ (fun hSta => ?_)
              refine wpStore_take (i := 0) (oi := { dst := some 145, op := _, type := _, pos := _, after := _, guard := _ }) (v := ?_) false false rfl (by kernel_rfl) (by kernel_rfl) (by kernel_rfl) (by kernel_rfl) (fun _ _ _ h => h) (Or.inl ⟨by rfl, ?_⟩) (by assumption) (fun hSta => ?_)
              rotate_left 1
              · intro wS hSw
                obtain ⟨⟨r1, r2, r3, r4⟩, s3, s4⟩ := hSw
                clear s3
                clear s4
                go_simp
                all_goals with_reducible rfl
              try simp only [Act.put, List.setIfInBounds_toArray, List.set_cons_zero, List.set_cons_succ]
              refine wpStore_take (i := 1) (oi := { dst := some 146, op := _, type := _, pos := _, after := _, guard := _ }) (v := ?_) false false rfl (by kernel_rfl) (by kernel_rfl) (by kernel_rfl) (by kernel_rfl) (fun _ _ _ h => h) (Or.inl ⟨by rfl, ?_⟩) (by assumption) (fun hSta => ?_)
              rotate_left 1
              · intro wS hSw
                obtain ⟨⟨r1, r2, r3, r4⟩, s3, s4⟩ := hSw
                clear s3
                clear s4
                go_simp
                all_goals with_reducible rfl
              try simp only [Act.put, List.setIfInBounds_toArray, List.set_cons_zero, List.set_cons_succ]
              refine wpStore_take (i := 2) (oi := { dst := some 147, op := _, type := _, pos := _, after := _, guard := _ }) (v := ?_) false false rfl (by kernel_rfl) (by kernel_rfl) (by kernel_rfl) (by kernel_rfl) (fun _ _ _ h => h) (Or.inl ⟨by rfl, ?_⟩) (by assumption) (fun hSta => ?_)
              rotate_left 1
              · intro wS hSw
                obtain ⟨⟨r1, r2, r3, r4⟩, s3, s4⟩ := hSw
                clear s3
                clear s4
                go_simp
                all_goals with_reducible rfl
              try simp only [Act.put, List.setIfInBounds_toArray, List.set_cons_zero, List.set_cons_succ]
              refine wpStore_take (i := 3) (oi := { dst := some 148, op := _, type := _, pos := _, after := _, guard := _ }) (v := ?_) false false rfl (by kernel_rfl) (by kernel_rfl) (by kernel_rfl) (by kernel_rfl) (fun _ _ _ h => h) (Or.inl ⟨by rfl, ?_⟩) (by assumption) (fun hSta => ?_)
              rotate_left 1
              · intro wS hSw
                obtain ⟨⟨r1, r2, r3, r4⟩, s3, s4⟩ := hSw
                clear s3
                clear s4
                go_simp
                all_goals with_reducible rfl
              try simp only [Act.put, List.setIfInBounds_toArray, List.set_cons_zero, List.set_cons_succ]
              refine wpStore_take (i := 4) (oi := { dst := some 149, op := _, type := _, pos := _, after := _, guard := _ }) (v := ?_) false false rfl (by kernel_rfl) (by kernel_rfl) (by kernel_rfl) (by kernel_rfl) (fun _ _ _ h => h) (Or.inl ⟨by rfl, ?_⟩) (by assumption) (fun hSta => ?_)
              rotate_left 1
              · intro wS hSw
                obtain ⟨⟨r1, r2, r3, r4⟩, s3, s4⟩ := hSw
                clear s3
                clear s4
                go_simp
                all_goals with_reducible rfl
              try simp only [Act.put, List.setIfInBounds_toArray, List.set_cons_zero, List.set_cons_succ]
              refine wpStore_take (i := 5) (oi := { dst := some 150, op := _, type := _, pos := _, after := _, guard := _ }) (v := ?_) true false rfl (by kernel_rfl) (by kernel_rfl) (by kernel_rfl) (by kernel_rfl) (fun _ _ _ h => h) (Or.inl ⟨by rfl, ?_⟩) (by assumption) (fun hSta => ?_)
              rotate_left 1
              · intro wS hSw
                obtain ⟨⟨r1, r2, r3, r4⟩, s3, s4⟩ := hSw
                have s3 := s3 rfl
                clear s4
                go_simp
                all_goals with_reducible rfl
              try simp only [Act.put, List.setIfInBounds_toArray, List.set_cons_zero, List.set_cons_succ]
              refine wpStore_take (i := 6) (oi := { dst := some 151, op := _, type := _, pos := _, after := _, guard := _ }) (v := ?_) false false rfl (by kernel_rfl) (by kernel_rfl) (by kernel_rfl) (by kernel_rfl) (fun _ _ _ h => h) (Or.inl ⟨by rfl, ?_⟩) (by assumption) (fun hSta => ?_)
              rotate_left 1
              · intro wS hSw
                obtain ⟨⟨r1, r2, r3, r4⟩, s3, s4⟩ := hSw
                clear s3
                clear s4
                go_simp
                all_goals with_reducible rfl
              try simp only [Act.put, List.setIfInBounds_toArray, List.set_cons_zero, List.set_cons_succ]
              refine wpStore_take (i := 7) (oi := { dst := some 152, op := _, type := _, pos := _, after := _, guard := _ }) (v := undef) false false rfl (by kernel_rfl) (by kernel_rfl) (by kernel_rfl) (by kernel_rfl) (fun _ _ _ h => h) (Or.inr ⟨by rfl, rfl⟩) (by assumption) (fun hSta => ?_)
              try simp only [Act.put, List.setIfInBounds_toArray, List.set_cons_zero, List.set_cons_succ]
              refine wpStore_take (i := 8) (oi := { dst := some 153, op := _, type := _, pos := _, after := _, guard := _ }) (v := undef) false false rfl (by kernel_rfl) (by kernel_rfl) (by kernel_rfl) (by kernel_rfl) (fun _ _ _ h => h) (Or.inr ⟨by rfl, rfl⟩) (by assumption) (fun hSta => ?_)
              try simp only [Act.put, List.setIfInBounds_toArray, List.set_cons_zero, List.set_cons_succ]
              refine wpStore_take (i := 9) (oi := { dst := some 154, op := _, type := _, pos := _, after := _, guard := _ }) (v := undef) false false rfl (by kernel_rfl) (by kernel_rfl) (by kernel_rfl) (by kernel_rfl) (fun _ _ _ h => h) (Or.inr ⟨by rfl, rfl⟩) (by assumption) (fun hSta => ?_)
              try simp only [Act.put, List.setIfInBounds_toArray, List.set_cons_zero, List.set_cons_succ]
              refine wpStore_take (i := 10) (oi := { dst := some 155, op := _, type := _, pos := _, after := _, guard := _ }) (v := undef) false false rfl (by kernel_rfl) (by kernel_rfl) (by kernel_rfl) (by kernel_rfl) (fun _ _ _ h => h) (Or.inr ⟨by rfl, rfl⟩) (by assumption) (fun hSta => ?_)
              try simp only [Act.put, List.setIfInBounds_toArray, List.set_cons_zero, List.set_cons_succ]
              refine wpStore_take (i := 11) (oi := { dst := some 156, op := _, type := _, pos := _, after := _, guard := _ }) (v := undef) false false rfl (by kernel_rfl) (by kernel_rfl) (by kernel_rfl) (by kernel_rfl) (fun _ _ _ h => h) (Or.inr ⟨by rfl, rfl⟩) (by assumption) (fun hSta => ?_)
              try simp only [Act.put, List.setIfInBounds_toArray, List.set_cons_zero, List.set_cons_succ]
              refine wpStore_take (i := 12) (oi := { dst := some 157, op := _, type := _, pos := _, after := _, guard := _ }) (v := undef) false false rfl (by kernel_rfl) (by kernel_rfl) (by kernel_rfl) (by kernel_rfl) (fun _ _ _ h => h) (Or.inr ⟨by rfl, rfl⟩) (by assumption) (fun hSta => ?_)
              try simp only [Act.put, List.setIfInBounds_toArray, List.set_cons_zero, List.set_cons_succ]
              refine wpStore_take (i := 13) (oi := { dst := some 158, op := _, type := _, pos := _, after := _, guard := _ }) (v := undef) false false rfl (by kernel_rfl) (by kernel_rfl) (by kernel_rfl) (by kernel_rfl) (fun _ _ _ h => h) (Or.inr ⟨by rfl, rfl⟩) (by assumption) (fun hSta => ?_)
              try simp only [Act.put, List.setIfInBounds_toArray, List.set_cons_zero, List.set_cons_succ]
              refine wpStore_take (i := 14) (oi := { dst := some 159, op := _, type := _, pos := _, after := _, guard := _ }) (v := undef) false false rfl (by kernel_rfl) (by kernel_rfl) (by kernel_rfl) (by kernel_rfl) (fun _ _ _ h => h) (Or.inr ⟨by rfl, rfl⟩) (by assumption) (fun hSta => ?_)
              try simp only [Act.put, List.setIfInBounds_toArray, List.set_cons_zero, List.set_cons_succ]
              refine wpStore_take (i := 15) (oi := { dst := some 160, op := _, type := _, pos := _, after := _, guard := _ }) (v := undef) false false rfl (by kernel_rfl) (by kernel_rfl) (by kernel_rfl) (by kernel_rfl) (fun _ _ _ h => h) (Or.inr ⟨by rfl, rfl⟩) (by assumption) (fun hSta => ?_)
              try simp only [Act.put, List.setIfInBounds_toArray, List.set_cons_zero, List.set_cons_succ]
              refine wpStore_take (i := 16) (oi := { dst := some 161, op := _, type := _, pos := _, after := _, guard := _ }) (v := undef) false false rfl (by kernel_rfl) (by kernel_rfl) (by kernel_rfl) (by kernel_rfl) (fun _ _ _ h => h) (Or.inr ⟨by rfl, rfl⟩) (by assumption) (fun hSta => ?_)
              try simp only [Act.put, List.setIfInBounds_toArray, List.set_cons_zero, List.set_cons_succ]
              refine wpStore_take (i := 17) (oi := { dst := some 162, op := _, type := _, pos := _, after := _, guard := _ }) (v := undef) false false rfl (by kernel_rfl) (by kernel_rfl) (by kernel_rfl) (by kernel_rfl) (fun _ _ _ h => h) (Or.inr ⟨by rfl, rfl⟩) (by assumption) (fun hSta => ?_)
              try simp only [Act.put, List.setIfInBounds_toArray, List.set_cons_zero, List.set_cons_succ]
              refine wpStore_take (i := 18) (oi := { dst := some 163, op := _, type := _, pos := _, after := _, guard := _ }) (v := undef) false false rfl (by kernel_rfl) (by kernel_rfl) (by kernel_rfl) (by kernel_rfl) (fun _ _ _ h => h) (Or.inr ⟨by rfl, rfl⟩) (by assumption) (fun hSta => ?_)
              try simp only [Act.put, List.setIfInBounds_toArray, List.set_cons_zero, List.set_cons_succ]
              refine wpStore_take (i := 19) (oi := { dst := some 164, op := _, type := _, pos := _, after := _, guard := _ }) (v := undef) false false rfl (by kernel_rfl) (by kernel_rfl) (by kernel_rfl) (by kernel_rfl) (fun _ _ _ h => h) (Or.inr ⟨by rfl, rfl⟩) (by assumption) (fun hSta => ?_)
              try simp only [Act.put, List.setIfInBounds_toArray, List.set_cons_zero, List.set_cons_succ]
              refine wpStore_take (i := 20) (oi := { dst := some 165, op := _, type := _, pos := _, after := _, guard := _ }) (v := ?_) false false rfl (by kernel_rfl) (by kernel_rfl) (by kernel_rfl) (by kernel_rfl) (fun _ _ _ h => h) (Or.inl ⟨by rfl, ?_⟩) (by assumption) (fun hSta => ?_)
              rotate_left 1
              · intro wS hSw
                obtain ⟨⟨r1, r2, r3, r4⟩, s3, s4⟩ := hSw
                clear s3
                clear s4
                go_simp
                all_goals with_reducible rfl
              try simp only [Act.put, List.setIfInBounds_toArray, List.set_cons_zero, List.set_cons_succ]
              refine wpStore_take (i := 21) (oi := { dst := some 166, op := _, type := _, pos := _, after := _, guard := _ }) (v := ?_) false false rfl (by kernel_rfl) (by kernel_rfl) (by kernel_rfl) (by kernel_rfl) (fun _ _ _ h => h) (Or.inl ⟨by rfl, ?_⟩) (by assumption) (fun hSta => ?_)
              rotate_left 1
              · intro wS hSw
                obtain ⟨⟨r1, r2, r3, r4⟩, s3, s4⟩ := hSw
                clear s3
                clear s4
                go_simp
                all_goals with_reducible rfl
              try simp only [Act.put, List.setIfInBounds_toArray, List.set_cons_zero, List.set_cons_succ]
              refine wpStore_one (i := 22) (o := { dst := none, op := _, type := _, pos := _, after := _, guard := _ }) (by kernel_rfl) rfl (fun K hK => ?_)
              go_simp
              have HB1 := hide (show Below w8.heap.size w8 (wy.setCell ⟨w8.heap.size, 0, none⟩ (.bool true)).drew.drew from (HBY.out.setCell (p := ⟨w8.heap.size, 0, none⟩) (Nat.le_refl _) (.bool true)).drew.drew)
              have HK1 := hide (show Blk (wy.setCell ⟨w8.heap.size, 0, none⟩ (.bool true)).drew.drew w8.heap.size 4 #[.bool true, .bool T1, .bool T2, .bool T3] from HBK.out.set1 (i := 0) (.bool true))
              obtain ⟨v0, v1, v2, v3, v4, v5⟩ := HZi.out _ HB1.out
              refine hK.out _ _ ⟨⟨v0, v1, v2, v4⟩, fun h => absurd h (by decide), fun _ => trivial⟩ (fun hSta => ?_)
              clear hK K
              try simp only [Act.put, List.setIfInBounds_toArray, List.set_cons_zero, List.set_cons_succ]
              refine wpStore_done (by kernel_rfl) ?_ _
              clear hSta tc tz
              generalize (wy.setCell ⟨w8.heap.size, 0, none⟩ (.bool true)).drew.drew = W1 at *
              clear v0 v1 v2 v3 v4 v5
              go_wp2
              obtain ⟨z0, z1, z2, z3, z4, z5⟩ := HZi.out W1 HB1.out
              have tc : W1.cell? ⟨w8.heap.size, 2, none⟩ = some (.bool T2) := HK1.out.cell 2
              have tz : W1.frozen? ⟨w8.heap.size, 2, none⟩ = false := HK1.out.frozen 2
              have hw : IntKind.i64.wrap (2 : Int) = 2 := by decide
              cases T2 with
              | true =>
                refine wp_region_store 24 1000 (fun w' => w'.cell? ⟨b, o + j, none⟩ = some (.slice (some ⟨qb, qo, none⟩) 2 q.c) ∧ w'.cell? ⟨qb, qo, none⟩ = some (.int .u64 (qx : Int)) ∧ w'.cell? ⟨w6.heap.size, 1, none⟩ = some (.slice (some ⟨g2, 0, none⟩) 2 c2) ∧ w'.cell? ⟨g2, 0, none⟩ = some (.int .u64 (hi : Int))) (fun w' => w'.cell? ⟨w8.heap.size, 2, none⟩ = some (.bool true)) (fun _ => True) (by kernel_rfl) ⟨⟨z0, z1, z3, z5⟩, tc, trivial⟩ (fun hSta => ?_)
                refine wpStore_take (i := 0) (oi := { dst := some 167, op := _, type := _, pos := _, after := _, guard := _ }) (v := ?_) false false rfl (by kernel_rfl) (by kernel_rfl) (by kernel_rfl) (by kernel_rfl) (fun _ _ _ h => h) (Or.inl ⟨by rfl, ?_⟩) (by assumption) (fun hSta => ?_)
                rotate_left 1
                · intro wS hSw
                  obtain ⟨⟨r1, r2, r3, r4⟩, s3, s4⟩ := hSw
                  clear s3
                  clear s4
                  go_simp
                  all_goals with_reducible rfl
                try simp only [Act.put, List.setIfInBounds_toArray, List.set_cons_zero, List.set_cons_succ]
                refine wpStore_take (i := 1) (oi := { dst := some 168, op := _, type := _, pos := _, after := _, guard := _ }) (v := ?_) false false rfl (by kernel_rfl) (by kernel_rfl) (by kernel_rfl) (by kernel_rfl) (fun _ _ _ h => h) (Or.inl ⟨by rfl, ?_⟩) (by assumption) (fun hSta => ?_)
                rotate_left 1
                · intro wS hSw
                  obtain ⟨⟨r1, r2, r3, r4⟩, s3, s4⟩ := hSw
                  clear s3
                  clear s4
                  go_simp
                  all_goals with_reducible rfl
                try simp only [Act.put, List.setIfInBounds_toArray, List.set_cons_zero, List.set_cons_succ]
                refine wpStore_take (i := 2) (oi := { dst := some 169, op := _, type := _, pos := _, after := _, guard := _ }) (v := ?_) false false rfl (by kernel_rfl) (by kernel_rfl) (by kernel_rfl) (by kernel_rfl) (fun _ _ _ h => h) (Or.inl ⟨by rfl, ?_⟩) (by assumption) (fun hSta => ?_)
                rotate_left 1
                · intro wS hSw
                  obtain ⟨⟨r1, r2, r3, r4⟩, s3, s4⟩ := hSw
                  clear s3
                  clear s4
                  go_simp
                  all_goals with_reducible rfl
                try simp only [Act.put, List.setIfInBounds_toArray, List.set_cons_zero, List.set_cons_succ]
                refine wpStore_take (i := 3) (oi := { dst := some 170, op := _, type := _, pos := _, after := _, guard := _ }) (v := ?_) false false rfl (by kernel_rfl) (by kernel_rfl) (by kernel_rfl) (by kernel_rfl) (fun _ _ _ h => h) (Or.inl ⟨by rfl, ?_⟩) (by assumption) (fun hSta => ?_)
                rotate_left 1
                · intro wS hSw
                  obtain ⟨⟨r1, r2, r3, r4⟩, s3, s4⟩ := hSw
                  clear s3
                  clear s4
                  go_simp
                  all_goals with_reducible rfl
                try simp only [Act.put, List.setIfInBounds_toArray, List.set_cons_zero, List.set_cons_succ]
                refine wpStore_take (i := 4) (oi := { dst := some 171, op := _, type := _, pos := _, after := _, guard := _ }) (v := ?_) false false rfl (by kernel_rfl) (by kernel_rfl) (by kernel_rfl) (by kernel_rfl) (fun _ _ _ h => h) (Or.inl ⟨by rfl, ?_⟩) (by assumption) (fun hSta => ?_)
                rotate_left 1
                · intro wS hSw
                  obtain ⟨⟨r1, r2, r3, r4⟩, s3, s4⟩ := hSw
                  clear s3
                  clear s4
                  go_simp
                  all_goals with_reducible rfl
                try simp only [Act.put, List.setIfInBounds_toArray, List.set_cons_zero, List.set_cons_succ]
                refine wpStore_take (i := 5) (oi := { dst := some 172, op := _, type := _, pos := _, after := _, guard := _ }) (v := ?_) false false rfl (by kernel_rfl) (by kernel_rfl) (by kernel_rfl) (by kernel_rfl) (fun _ _ _ h => h) (Or.inl ⟨by rfl, ?_⟩) (by assumption) (fun hSta => ?_)
                rotate_left 1
                · intro wS hSw
                  obtain ⟨⟨r1, r2, r3, r4⟩, s3, s4⟩ := hSw
                  clear s3
                  clear s4
                  go_simp
                  all_goals with_reducible rfl
                try simp only [Act.put, List.setIfInBounds_toArray, List.set_cons_zero, List.set_cons_succ]
                refine wpStore_take (i := 6) (oi := { dst := some 173, op := _, type := _, pos := _, after := _, guard := _ }) (v := ?_) false false rfl (by kernel_rfl) (by kernel_rfl) (by kernel_rfl) (by kernel_rfl) (fun _ _ _ h => h) (Or.inl ⟨by rfl, ?_⟩) (by assumption) (fun hSta => ?_)
                rotate_left 1
                · intro wS hSw
                  obtain ⟨⟨r1, r2, r3, r4⟩, s3, s4⟩ := hSw
                  clear s3
                  clear s4
                  go_simp
                  all_goals with_reducible rfl
                try simp only [Act.put, List.setIfInBounds_toArray, List.set_cons_zero, List.set_cons_succ]
                refine wpStore_take (i := 7) (oi := { dst := some 174, op := _, type := _, pos := _, after := _, guard := _ }) (v := ?_) true false rfl (by kernel_rfl) (by kernel_rfl) (by kernel_rfl) (by kernel_rfl) (fun _ _ _ h => h) (Or.inl ⟨by rfl, ?_⟩) (by assumption) (fun hSta => ?_)
                rotate_left 1
                · intro wS hSw
                  obtain ⟨⟨r1, r2, r3, r4⟩, s3, s4⟩ := hSw
                  have s3 := s3 rfl
                  clear s4
                  go_simp
                  all_goals with_reducible rfl
                try simp only [Act.put, List.setIfInBounds_toArray, List.set_cons_zero, List.set_cons_succ]
                refine wpStore_take (i := 8) (oi := { dst := some 175, op := _, type := _, pos := _, after := _, guard := _ }) (v := ?_) false false rfl (by kernel_rfl) (by kernel_rfl) (by kernel_rfl) (by kernel_rfl) (fun _ _ _ h => h) (Or.inl ⟨by rfl, ?_⟩) (by assumption) (fun hSta => ?_)
                rotate_left 1
                · intro wS hSw
                  obtain ⟨⟨r1, r2, r3, r4⟩, s3, s4⟩ := hSw
                  clear s3
                  clear s4
                  go_simp
                  all_goals with_reducible rfl
                try simp only [Act.put, List.setIfInBounds_toArray, List.set_cons_zero, List.set_cons_succ]
                refine wpStore_take (i := 9) (oi := { dst := some 176, op := _, type := _, pos := _, after := _, guard := _ }) (v := undef) false false rfl (by kernel_rfl) (by kernel_rfl) (by kernel_rfl) (by kernel_rfl) (fun _ _ _ h => h) (Or.inr ⟨by rfl, rfl⟩) (by assumption) (fun hSta => ?_)
                try simp only [Act.put, List.setIfInBounds_toArray, List.set_cons_zero, List.set_cons_succ]
                refine wpStore_take (i := 10) (oi := { dst := some 177, op := _, type := _, pos := _, after := _, guard := _ }) (v := undef) false false rfl (by kernel_rfl) (by kernel_rfl) (by kernel_rfl) (by kernel_rfl) (fun _ _ _ h => h) (Or.inr ⟨by rfl, rfl⟩) (by assumption) (fun hSta => ?_)
                try simp only [Act.put, List.setIfInBounds_toArray, List.set_cons_zero, List.set_cons_succ]
                refine wpStore_take (i := 11) (oi := { dst := some 178, op := _, type := _, pos := _, after := _, guard := _ }) (v := undef) false false rfl (by kernel_rfl) (by kernel_rfl) (by kernel_rfl) (by kernel_rfl) (fun _ _ _ h => h) (Or.inr ⟨by rfl, rfl⟩) (by assumption) (fun hSta => ?_)
                try simp only [Act.put, List.setIfInBounds_toArray, List.set_cons_zero, List.set_cons_succ]
                refine wpStore_take (i := 12) (oi := { dst := some 179, op := _, type := _, pos := _, after := _, guard := _ }) (v := undef) false false rfl (by kernel_rfl) (by kernel_rfl) (by kernel_rfl) (by kernel_rfl) (fun _ _ _ h => h) (Or.inr ⟨by rfl, rfl⟩) (by assumption) (fun hSta => ?_)
                try simp only [Act.put, List.setIfInBounds_toArray, List.set_cons_zero, List.set_cons_succ]
                refine wpStore_take (i := 13) (oi := { dst := some 180, op := _, type := _, pos := _, after := _, guard := _ }) (v := undef) false false rfl (by kernel_rfl) (by kernel_rfl) (by kernel_rfl) (by kernel_rfl) (fun _ _ _ h => h) (Or.inr ⟨by rfl, rfl⟩) (by assumption) (fun hSta => ?_)
                try simp only [Act.put, List.setIfInBounds_toArray, List.set_cons_zero, List.set_cons_succ]
                refine wpStore_take (i := 14) (oi := { dst := some 181, op := _, type := _, pos := _, after := _, guard := _ }) (v := undef) false false rfl (by kernel_rfl) (by kernel_rfl) (by kernel_rfl) (by kernel_rfl) (fun _ _ _ h => h) (Or.inr ⟨by rfl, rfl⟩) (by assumption) (fun hSta => ?_)
                try simp only [Act.put, List.setIfInBounds_toArray, List.set_cons_zero, List.set_cons_succ]
                refine wpStore_take (i := 15) (oi := { dst := some 182, op := _, type := _, pos := _, after := _, guard := _ }) (v := undef) false false rfl (by kernel_rfl) (by kernel_rfl) (by kernel_rfl) (by kernel_rfl) (fun _ _ _ h => h) (Or.inr ⟨by rfl, rfl⟩) (by assumption) (fun hSta => ?_)
                try simp only [Act.put, List.setIfInBounds_toArray, List.set_cons_zero, List.set_cons_succ]
                refine wpStore_take (i := 16) (oi := { dst := some 183, op := _, type := _, pos := _, after := _, guard := _ }) (v := undef) false false rfl (by kernel_rfl) (by kernel_rfl) (by kernel_rfl) (by kernel_rfl) (fun _ _ _ h => h) (Or.inr ⟨by rfl, rfl⟩) (by assumption) (fun hSta => ?_)
                try simp only [Act.put, List.setIfInBounds_toArray, List.set_cons_zero, List.set_cons_succ]
                refine wpStore_take (i := 17) (oi := { dst := some 184, op := _, type := _, pos := _, after := _, guard := _ }) (v := undef) false false rfl (by kernel_rfl) (by kernel_rfl) (by kernel_rfl) (by kernel_rfl) (fun _ _ _ h => h) (Or.inr ⟨by rfl, rfl⟩) (by assumption) (fun hSta => ?_)
                try simp only [Act.put, List.setIfInBounds_toArray, List.set_cons_zero, List.set_cons_succ]
                refine wpStore_take (i := 18) (oi := { dst := some 185, op := _, type := _, pos := _, after := _, guard := _ }) (v := undef) false false rfl (by kernel_rfl) (by kernel_rfl) (by kernel_rfl) (by kernel_rfl) (fun _ _ _ h => h) (Or.inr ⟨by rfl, rfl⟩) (by assumption) (fun hSta => ?_)
                try simp only [Act.put, List.setIfInBounds_toArray, List.set_cons_zero, List.set_cons_succ]
                refine wpStore_take (i := 19) (oi := { dst := some 186, op := _, type := _, pos := _, after := _, guard := _ }) (v := undef) false false rfl (by kernel_rfl) (by kernel_rfl) (by kernel_rfl) (by kernel_rfl) (fun _ _ _ h => h) (Or.inr ⟨by rfl, rfl⟩) (by assumption) (fun hSta => ?_)
                try simp only [Act.put, List.setIfInBounds_toArray, List.set_cons_zero, List.set_cons_succ]
                refine wpStore_take (i := 20) (oi := { dst := some 187, op := _, type := _, pos := _, after := _, guard := _ }) (v := undef) false false rfl (by kernel_rfl) (by kernel_rfl) (by kernel_rfl) (by kernel_rfl) (fun _ _ _ h => h) (Or.inr ⟨by rfl, rfl⟩) (by assumption) (fun hSta => ?_)
                try simp only [Act.put, List.setIfInBounds_toArray, List.set_cons_zero, List.set_cons_succ]
                refine wpStore_take (i := 21) (oi := { dst := some 188, op := _, type := _, pos := _, after := _, guard := _ }) (v := undef) false false rfl (by kernel_rfl) (by kernel_rfl) (by kernel_rfl) (by kernel_rfl) (fun _ _ _ h => h) (Or.inr ⟨by rfl, rfl⟩) (by assumption) (fun hSta => ?_)
                try simp only [Act.put, List.setIfInBounds_toArray, List.set_cons_zero, List.set_cons_succ]
                refine wpStore_take (i := 22) (oi := { dst := some 189, op := _, type := _, pos := _, after := _, guard := _ }) (v := ?_) false false rfl (by kernel_rfl) (by kernel_rfl) (by kernel_rfl) (by kernel_rfl) (fun _ _ _ h => h) (Or.inl ⟨by rfl, ?_⟩) (by assumption) (fun hSta => ?_)
                rotate_left 1
                · intro wS hSw
                  obtain ⟨⟨r1, r2, r3, r4⟩, s3, s4⟩ := hSw
                  clear s3
                  clear s4
                  go_simp
                  all_goals with_reducible rfl
                try simp only [Act.put, List.setIfInBounds_toArray, List.set_cons_zero, List.set_cons_succ]
                refine wpStore_take (i := 23) (oi := { dst := some 190, op := _, type := _, pos := _, after := _, guard := _ }) (v := ?_) false false rfl (by kernel_rfl) (by kernel_rfl) (by kernel_rfl) (by kernel_rfl) (fun _ _ _ h => h) (Or.inl ⟨by rfl, ?_⟩) (by assumption) (fun hSta => ?_)
                rotate_left 1
                · intro wS hSw
                  obtain ⟨⟨r1, r2, r3, r4⟩, s3, s4⟩ := hSw
                  clear s3
                  clear s4
                  go_simp
                  all_goals with_reducible rfl
                try simp only [Act.put, List.setIfInBounds_toArray, List.set_cons_zero, List.set_cons_succ]
                refine wpStore_one (i := 24) (o := { dst := none, op := _, type := _, pos := _, after := _, guard := _ }) (by kernel_rfl) rfl (fun K hK => ?_)
                go_simp
                have HB2 := hide (show Below w8.heap.size w8 (W1.setCell ⟨w8.heap.size, 2, none⟩ (.bool true)).drew from (HB1.out.setCell (p := ⟨w8.heap.size, 2, none⟩) (Nat.le_refl _) (.bool true)).drew)
                have HK2 := hide (show Blk (W1.setCell ⟨w8.heap.size, 2, none⟩ (.bool true)).drew w8.heap.size 4 #[.bool true, .bool T1, .bool true, .bool T3] from HK1.out.set1 (i := 2) (.bool true))
                obtain ⟨v0, v1, v2, v3, v4, v5⟩ := HZi.out _ HB2.out
                refine hK.out _ _ ⟨⟨v0, v1, v3, v5⟩, fun h => absurd h (by decide), fun _ => trivial⟩ (fun hSta => ?_)
                clear hK K
                try simp only [Act.put, List.setIfInBounds_toArray, List.set_cons_zero, List.set_cons_succ]
                refine wpStore_done (by kernel_rfl) ?_ _
                clear hSta tc tz
                generalize (W1.setCell ⟨w8.heap.size, 2, none⟩ (.bool true)).drew = W2 at *
                clear v0 v1 v2 v3 v4 v5
                go_wp2
                have HQ := hide (show ((al.map LP.p).getD j []).getD 0 0 = qx by rw [HPJ.out]; rfl)
                have e0 : met (al.map LP.p) 0 (loT (al.map LP.p) 0 nl) (metTo 1 j 0) = true := by
                  show met (al.map LP.p) 0 (loT (al.map LP.p) 0 nl) (j + 1) = true
                  rw [met_next HQ.out, show met (al.map LP.p) 0 (loT (al.map LP.p) 0 nl) j = true from HTE.out.1.symm]
                  rw [Bool.true_or]
                have e2 : met (al.map LP.p) 0 (hiT (al.map LP.p) 0 nl) (metTo 1 j 0) = true := by
                  show met (al.map LP.p) 0 (hiT (al.map LP.p) 0 nl) (j + 1) = true
                  rw [met_next HQ.out, show met (al.map LP.p) 0 (hiT (al.map LP.p) 0 nl) j = true from HTE.out.2.2.1.symm]
                  rw [Bool.true_or]
                have e1 : met (al.map LP.p) 1 (loT (al.map LP.p) 1 nl) (metTo 1 j 1) = T1 := HTE.out.2.1.symm
                have e3 : met (al.map LP.p) 1 (hiT (al.map LP.p) 1 nl) (metTo 1 j 1) = T3 := HTE.out.2.2.2.symm
                refine ⟨⟨1, 1, by go_num, rfl, by omega, ?_, HB2.out⟩, by simp only [intOf]; omega⟩
                unfold tAt
                rw [e0, e1, e2, e3]
                exact HK2.out
              | false =>
                refine wp_region_store 24 1000 (fun w' => w'.cell? ⟨b, o + j, none⟩ = some (.slice (some ⟨qb, qo, none⟩) 2 q.c) ∧ w'.cell? ⟨qb, qo, none⟩ = some (.int .u64 (qx : Int)) ∧ w'.cell? ⟨w6.heap.size, 1, none⟩ = some (.slice (some ⟨g2, 0, none⟩) 2 c2) ∧ w'.cell? ⟨g2, 0, none⟩ = some (.int .u64 (hi : Int))) (fun w' => w'.cell? ⟨w8.heap.size, 2, none⟩ = some (.bool false)) (fun _ => True) (by kernel_rfl) ⟨⟨z0, z1, z3, z5⟩, tc, trivial⟩ (fun hSta => ?_)
                refine wpStore_take (i := 0) (oi := { dst := some 167, op := _, type := _, pos := _, after := _, guard := _ }) (v := ?_) false false rfl (by kernel_rfl) (by kernel_rfl) (by kernel_rfl) (by kernel_rfl) (fun _ _ _ h => h) (Or.inl ⟨by rfl, ?_⟩) (by assumption) (fun hSta => ?_)
                rotate_left 1
                · intro wS hSw
                  obtain ⟨⟨r1, r2, r3, r4⟩, s3, s4⟩ := hSw
                  clear s3
                  clear s4
                  go_simp
                  all_goals with_reducible rfl
                try simp only [Act.put, List.setIfInBounds_toArray, List.set_cons_zero, List.set_cons_succ]
                refine wpStore_take (i := 1) (oi := { dst := some 168, op := _, type := _, pos := _, after := _, guard := _ }) (v := ?_) false false rfl (by kernel_rfl) (by kernel_rfl) (by kernel_rfl) (by kernel_rfl) (fun _ _ _ h => h) (Or.inl ⟨by rfl, ?_⟩) (by assumption) (fun hSta => ?_)
                rotate_left 1
                · intro wS hSw
                  obtain ⟨⟨r1, r2, r3, r4⟩, s3, s4⟩ := hSw
                  clear s3
                  clear s4
                  go_simp
                  all_goals with_reducible rfl
                try simp only [Act.put, List.setIfInBounds_toArray, List.set_cons_zero, List.set_cons_succ]
                refine wpStore_take (i := 2) (oi := { dst := some 169, op := _, type := _, pos := _, after := _, guard := _ }) (v := ?_) false false rfl (by kernel_rfl) (by kernel_rfl) (by kernel_rfl) (by kernel_rfl) (fun _ _ _ h => h) (Or.inl ⟨by rfl, ?_⟩) (by assumption) (fun hSta => ?_)
                rotate_left 1
                · intro wS hSw
                  obtain ⟨⟨r1, r2, r3, r4⟩, s3, s4⟩ := hSw
                  clear s3
                  clear s4
                  go_simp
                  all_goals with_reducible rfl
                try simp only [Act.put, List.setIfInBounds_toArray, List.set_cons_zero, List.set_cons_succ]
                refine wpStore_take (i := 3) (oi := { dst := some 170, op := _, type := _, pos := _, after := _, guard := _ }) (v := ?_) false false rfl (by kernel_rfl) (by kernel_rfl) (by kernel_rfl) (by kernel_rfl) (fun _ _ _ h => h) (Or.inl ⟨by rfl, ?_⟩) (by assumption) (fun hSta => ?_)
                rotate_left 1
                · intro wS hSw
                  obtain ⟨⟨r1, r2, r3, r4⟩, s3, s4⟩ := hSw
                  clear s3
                  clear s4
                  go_simp
                  all_goals with_reducible rfl
                try simp only [Act.put, List.setIfInBounds_toArray, List.set_cons_zero, List.set_cons_succ]
                refine wpStore_take (i := 4) (oi := { dst := some 171, op := _, type := _, pos := _, after := _, guard := _ }) (v := ?_) false false rfl (by kernel_rfl) (by kernel_rfl) (by kernel_rfl) (by kernel_rfl) (fun _ _ _ h => h) (Or.inl ⟨by rfl, ?_⟩) (by assumption) (fun hSta => ?_)
                rotate_left 1
                · intro wS hSw
                  obtain ⟨⟨r1, r2, r3, r4⟩, s3, s4⟩ := hSw
                  clear s3
                  clear s4
                  go_simp
                  all_goals with_reducible rfl
                try simp only [Act.put, List.setIfInBounds_toArray, List.set_cons_zero, List.set_cons_succ]
                refine wpStore_take (i := 5) (oi := { dst := some 172, op := _, type := _, pos := _, after := _, guard := _ }) (v := ?_) false false rfl (by kernel_rfl) (by kernel_rfl) (by kernel_rfl) (by kernel_rfl) (fun _ _ _ h => h) (Or.inl ⟨by rfl, ?_⟩) (by assumption) (fun hSta => ?_)
                rotate_left 1
                · intro wS hSw
                  obtain ⟨⟨r1, r2, r3, r4⟩, s3, s4⟩ := hSw
                  clear s3
                  clear s4
                  go_simp
                  all_goals with_reducible rfl
                try simp only [Act.put, List.setIfInBounds_toArray, List.set_cons_zero, List.set_cons_succ]
                refine wpStore_take (i := 6) (oi := { dst := some 173, op := _, type := _, pos := _, after := _, guard := _ }) (v := ?_) false false rfl (by kernel_rfl) (by kernel_rfl) (by kernel_rfl) (by kernel_rfl) (fun _ _ _ h => h) (Or.inl ⟨by rfl, ?_⟩) (by assumption) (fun hSta => ?_)
                rotate_left 1
                · intro wS hSw
                  obtain ⟨⟨r1, r2, r3, r4⟩, s3, s4⟩ := hSw
                  clear s3
                  clear s4
                  go_simp
                  all_goals with_reducible rfl
                try simp only [Act.put, List.setIfInBounds_toArray, List.set_cons_zero, List.set_cons_succ]
                refine wpStore_take (i := 7) (oi := { dst := some 174, op := _, type := _, pos := _, after := _, guard := _ }) (v := ?_) true false rfl (by kernel_rfl) (by kernel_rfl) (by kernel_rfl) (by kernel_rfl) (fun _ _ _ h => h) (Or.inl ⟨by rfl, ?_⟩) (by assumption) (fun hSta => ?_)
                rotate_left 1
                · intro wS hSw
                  obtain ⟨⟨r1, r2, r3, r4⟩, s3, s4⟩ := hSw
                  have s3 := s3 rfl
                  clear s4
                  go_simp
                  all_goals with_reducible rfl
                try simp only [Act.put, List.setIfInBounds_toArray, List.set_cons_zero, List.set_cons_succ]
                refine wpStore_take (i := 8) (oi := { dst := some 175, op := _, type := _, pos := _, after := _, guard := _ }) (v := ?_) false false rfl (by kernel_rfl) (by kernel_rfl) (by kernel_rfl) (by kernel_rfl) (fun _ _ _ h => h) (Or.inl ⟨by rfl, ?_⟩) (by assumption) (fun hSta => ?_)
                rotate_left 1
                · intro wS hSw
                  obtain ⟨⟨r1, r2, r3, r4⟩, s3, s4⟩ := hSw
                  clear s3
                  clear s4
                  go_simp
                  all_goals with_reducible rfl
                try simp only [Act.put, List.setIfInBounds_toArray, List.set_cons_zero, List.set_cons_succ]
                refine wpStore_take (i := 9) (oi := { dst := some 176, op := _, type := _, pos := _, after := _, guard := _ }) (v := ?_) false false rfl (by kernel_rfl) (by kernel_rfl) (by kernel_rfl) (by kernel_rfl) (fun _ _ _ h => h) (Or.inl ⟨by rfl, ?_⟩) (by assumption) (fun hSta => ?_)
                rotate_left 1
                · intro wS hSw
                  obtain ⟨⟨r1, r2, r3, r4⟩, s3, s4⟩ := hSw
                  clear s3
                  clear s4
                  go_simp
                  all_goals with_reducible rfl
                try simp only [Act.put, List.setIfInBounds_toArray, List.set_cons_zero, List.set_cons_succ]
                refine wpStore_take (i := 10) (oi := { dst := some 177, op := _, type := _, pos := _, after := _, guard := _ }) (v := ?_) false false rfl (by kernel_rfl) (by kernel_rfl) (by kernel_rfl) (by kernel_rfl) (fun _ _ _ h => h) (Or.inl ⟨by rfl, ?_⟩) (by assumption) (fun hSta => ?_)
                rotate_left 1
                · intro wS hSw
                  obtain ⟨⟨r1, r2, r3, r4⟩, s3, s4⟩ := hSw
                  clear s3
                  clear s4
                  go_simp
                  all_goals with_reducible rfl
                try simp only [Act.put, List.setIfInBounds_toArray, List.set_cons_zero, List.set_cons_succ]
                refine wpStore_take (i := 11) (oi := { dst := some 178, op := _, type := _, pos := _, after := _, guard := _ }) (v := ?_) false false rfl (by kernel_rfl) (by kernel_rfl) (by kernel_rfl) (by kernel_rfl) (fun _ _ _ h => h) (Or.inl ⟨by rfl, ?_⟩) (by assumption) (fun hSta => ?_)
                rotate_left 1
                · intro wS hSw
                  obtain ⟨⟨r1, r2, r3, r4⟩, s3, s4⟩ := hSw
                  clear s3
                  clear s4
                  go_simp
                  all_goals with_reducible rfl
                try simp only [Act.put, List.setIfInBounds_toArray, List.set_cons_zero, List.set_cons_succ]
                refine wpStore_take (i := 12) (oi := { dst := some 179, op := _, type := _, pos := _, after := _, guard := _ }) (v := ?_) false false rfl (by kernel_rfl) (by kernel_rfl) (by kernel_rfl) (by kernel_rfl) (fun _ _ _ h => h) (Or.inl ⟨by rfl, ?_⟩) (by assumption) (fun hSta => ?_)
                rotate_left 1
                · intro wS hSw
                  obtain ⟨⟨r1, r2, r3, r4⟩, s3, s4⟩ := hSw
                  clear s3
                  clear s4
                  go_simp
                  all_goals with_reducible rfl
                try simp only [Act.put, List.setIfInBounds_toArray, List.set_cons_zero, List.set_cons_succ]
                refine wpStore_take (i := 13) (oi := { dst := some 180, op := _, type := _, pos := _, after := _, guard := _ }) (v := ?_) false false rfl (by kernel_rfl) (by kernel_rfl) (by kernel_rfl) (by kernel_rfl) (fun _ _ _ h => h) (Or.inl ⟨by rfl, ?_⟩) (by assumption) (fun hSta => ?_)
                rotate_left 1
                · intro wS hSw
                  obtain ⟨⟨r1, r2, r3, r4⟩, s3, s4⟩ := hSw
                  clear s3
                  clear s4
                  go_simp
                  all_goals with_reducible rfl
                try simp only [Act.put, List.setIfInBounds_toArray, List.set_cons_zero, List.set_cons_succ]
                refine wpStore_take (i := 14) (oi := { dst := some 181, op := _, type := _, pos := _, after := _, guard := _ }) (v := ?_) false false rfl (by kernel_rfl) (by kernel_rfl) (by kernel_rfl) (by kernel_rfl) (fun _ _ _ h => h) (Or.inl ⟨by rfl, ?_⟩) (by assumption) (fun hSta => ?_)
                rotate_left 1
                · intro wS hSw
                  obtain ⟨⟨r1, r2, r3, r4⟩, s3, s4⟩ := hSw
                  clear s3
                  clear s4
                  go_simp
                  all_goals with_reducible rfl
                try simp only [Act.put, List.setIfInBounds_toArray, List.set_cons_zero, List.set_cons_succ]
                refine wpStore_take (i := 15) (oi := { dst := some 182, op := _, type := _, pos := _, after := _, guard := _ }) (v := ?_) false false rfl (by kernel_rfl) (by kernel_rfl) (by kernel_rfl) (by kernel_rfl) (fun _ _ _ h => h) (Or.inl ⟨by rfl, ?_⟩) (by assumption) (fun hSta => ?_)
                rotate_left 1
                · intro wS hSw
                  obtain ⟨⟨r1, r2, r3, r4⟩, s3, s4⟩ := hSw
                  clear s3
                  clear s4
                  go_simp
                  all_goals with_reducible rfl
                try simp only [Act.put, List.setIfInBounds_toArray, List.set_cons_zero, List.set_cons_succ]
                refine wpStore_take (i := 16) (oi := { dst := some 183, op := _, type := _, pos := _, after := _, guard := _ }) (v := ?_) false false rfl (by kernel_rfl) (by kernel_rfl) (by kernel_rfl) (by kernel_rfl) (fun _ _ _ h => h) (Or.inl ⟨by rfl, ?_⟩) (by assumption) (fun hSta => ?_)
                rotate_left 1
                · intro wS hSw
                  obtain ⟨⟨r1, r2, r3, r4⟩, s3, s4⟩ := hSw
                  clear s3
                  clear s4
                  go_simp
                  all_goals with_reducible rfl
                try simp only [Act.put, List.setIfInBounds_toArray, List.set_cons_zero, List.set_cons_succ]
                refine wpStore_take (i := 17) (oi := { dst := some 184, op := _, type := _, pos := _, after := _, guard := _ }) (v := ?_) false false rfl (by kernel_rfl) (by kernel_rfl) (by kernel_rfl) (by kernel_rfl) (fun _ _ _ h => h) (Or.inl ⟨by rfl, ?_⟩) (by assumption) (fun hSta => ?_)
                rotate_left 1
                · intro wS hSw
                  obtain ⟨⟨r1, r2, r3, r4⟩, s3, s4⟩ := hSw
                  clear s3
                  clear s4
                  go_simp
                  all_goals with_reducible rfl
                try simp only [Act.put, List.setIfInBounds_toArray, List.set_cons_zero, List.set_cons_succ]
                refine wpStore_take (i := 18) (oi := { dst := some 185, op := _, type := _, pos := _, after := _, guard := _ }) (v := ?_) false false rfl (by kernel_rfl) (by kernel_rfl) (by kernel_rfl) (by kernel_rfl) (fun _ _ _ h => h) (Or.inl ⟨by rfl, ?_⟩) (by assumption) (fun hSta => ?_)
                rotate_left 1
                · intro wS hSw
                  obtain ⟨⟨r1, r2, r3, r4⟩, s3, s4⟩ := hSw
                  clear s3
                  clear s4
                  go_simp
                  all_goals with_reducible rfl
                try simp only [Act.put, List.setIfInBounds_toArray, List.set_cons_zero, List.set_cons_succ]
                refine wpStore_take (i := 19) (oi := { dst := some 186, op := _, type := _, pos := _, after := _, guard := _ }) (v := ?_) false false rfl (by kernel_rfl) (by kernel_rfl) (by kernel_rfl) (by kernel_rfl) (fun _ _ _ h => h) (Or.inl ⟨by rfl, ?_⟩) (by assumption) (fun hSta => ?_)
                rotate_left 1
                · intro wS hSw
                  obtain ⟨⟨r1, r2, r3, r4⟩, s3, s4⟩ := hSw
                  clear s3
                  clear s4
                  go_simp
                  all_goals with_reducible rfl
                try simp only [Act.put, List.setIfInBounds_toArray, List.set_cons_zero, List.set_cons_succ]
                refine wpStore_take (i := 20) (oi := { dst := some 187, op := _, type := _, pos := _, after := _, guard := _ }) (v := ?_) false false rfl (by kernel_rfl) (by kernel_rfl) (by kernel_rfl) (by kernel_rfl) (fun _ _ _ h => h) (Or.inl ⟨by rfl, ?_⟩) (by assumption) (fun hSta => ?_)
                rotate_left 1
                · intro wS hSw
                  obtain ⟨⟨r1, r2, r3, r4⟩, s3, s4⟩ := hSw
                  clear s3
                  clear s4
                  go_simp
                  all_goals with_reducible rfl
                try simp only [Act.put, List.setIfInBounds_toArray, List.set_cons_zero, List.set_cons_succ]
                refine wpStore_take (i := 21) (oi := { dst := some 188, op := _, type := _, pos := _, after := _, guard := _ }) (v := ?_) false false rfl (by kernel_rfl) (by kernel_rfl) (by kernel_rfl) (by kernel_rfl) (fun _ _ _ h => h) (Or.inl ⟨by rfl, ?_⟩) (by assumption) (fun hSta => ?_)
                rotate_left 1
                · intro wS hSw
                  obtain ⟨⟨r1, r2, r3, r4⟩, s3, s4⟩ := hSw
                  clear s3
                  clear s4
                  go_simp
                  all_goals with_reducible rfl
                try simp only [Act.put, List.setIfInBounds_toArray, List.set_cons_zero, List.set_cons_succ]
                refine wpStore_take (i := 22) (oi := { dst := some 189, op := _, type := _, pos := _, after := _, guard := _ }) (v := ?_) false false rfl (by kernel_rfl) (by kernel_rfl) (by kernel_rfl) (by kernel_rfl) (fun _ _ _ h => h) (Or.inl ⟨by rfl, ?_⟩) (by assumption) (fun hSta => ?_)
                rotate_left 1
                · intro wS hSw
                  obtain ⟨⟨r1, r2, r3, r4⟩, s3, s4⟩ := hSw
                  clear s3
                  clear s4
                  go_simp
                  all_goals with_reducible rfl
                try simp only [Act.put, List.setIfInBounds_toArray, List.set_cons_zero, List.set_cons_succ]
                refine wpStore_take (i := 23) (oi := { dst := some 190, op := _, type := _, pos := _, after := _, guard := _ }) (v := ?_) false false rfl (by kernel_rfl) (by kernel_rfl) (by kernel_rfl) (by kernel_rfl) (fun _ _ _ h => h) (Or.inl ⟨by rfl, ?_⟩) (by assumption) (fun hSta => ?_)
                rotate_left 1
                · intro wS hSw
                  obtain ⟨⟨r1, r2, r3, r4⟩, s3, s4⟩ := hSw
                  clear s3
                  clear s4
                  go_simp
                  all_goals with_reducible rfl
                try simp only [Act.put, List.setIfInBounds_toArray, List.set_cons_zero, List.set_cons_succ]
                obtain ⟨Y, HY⟩ : ∃ b : Bool, Hid (b = ((qx : Int) == (hi : Int))) := ⟨_, hide rfl⟩
                refine wpStore_one (i := 24) (o := { dst := none, op := _, type := _, pos := _, after := _, guard := _ }) (by kernel_rfl) rfl (fun K hK => ?_)
                go_simp
                rw [← HY.out]
                have HB2 := hide (show Below w8.heap.size w8 (W1.setCell ⟨w8.heap.size, 2, none⟩ (.bool Y)).drew from (HB1.out.setCell (p := ⟨w8.heap.size, 2, none⟩) (Nat.le_refl _) (.bool Y)).drew)
                have HK2 := hide (show Blk (W1.setCell ⟨w8.heap.size, 2, none⟩ (.bool Y)).drew w8.heap.size 4 #[.bool true, .bool T1, .bool Y, .bool T3] from HK1.out.set1 (i := 2) (.bool Y))
                obtain ⟨v0, v1, v2, v3, v4, v5⟩ := HZi.out _ HB2.out
                refine hK.out _ _ ⟨⟨v0, v1, v3, v5⟩, fun h => absurd h (by decide), fun _ => trivial⟩ (fun hSta => ?_)
                clear hK K
                try simp only [Act.put, List.setIfInBounds_toArray, List.set_cons_zero, List.set_cons_succ]
                refine wpStore_done (by kernel_rfl) ?_ _
                clear hSta tc tz
                generalize (W1.setCell ⟨w8.heap.size, 2, none⟩ (.bool Y)).drew = W2 at *
                clear v0 v1 v2 v3 v4 v5
                go_wp2
                have HQ := hide (show ((al.map LP.p).getD j []).getD 0 0 = qx by rw [HPJ.out]; rfl)
                have e0 : met (al.map LP.p) 0 (loT (al.map LP.p) 0 nl) (metTo 1 j 0) = true := by
                  show met (al.map LP.p) 0 (loT (al.map LP.p) 0 nl) (j + 1) = true
                  rw [met_next HQ.out, show met (al.map LP.p) 0 (loT (al.map LP.p) 0 nl) j = true from HTE.out.1.symm]
                  rw [Bool.true_or]
                have e2 : met (al.map LP.p) 0 (hiT (al.map LP.p) 0 nl) (metTo 1 j 0) = Y := by
                  show met (al.map LP.p) 0 (hiT (al.map LP.p) 0 nl) (j + 1) = Y
                  rw [met_next HQ.out, show met (al.map LP.p) 0 (hiT (al.map LP.p) 0 nl) j = false from HTE.out.2.2.1.symm]
                  rw [Bool.false_or, ← HHI.out, ← HY.out]
                have e1 : met (al.map LP.p) 1 (loT (al.map LP.p) 1 nl) (metTo 1 j 1) = T1 := HTE.out.2.1.symm
                have e3 : met (al.map LP.p) 1 (hiT (al.map LP.p) 1 nl) (metTo 1 j 1) = T3 := HTE.out.2.2.2.symm
                refine ⟨⟨1, 1, by go_num, rfl, by omega, ?_, HB2.out⟩, by simp only [intOf]; omega⟩
                unfold tAt
                rw [e0, e1, e2, e3]
                exact HK2.out
            | false =>
              refine wp_region_store 22 1000 (fun w' => w'.cell? ⟨b, o + j, none⟩ = some (.slice (some ⟨qb, qo, none⟩) 2 q.c) ∧ w'.cell? ⟨qb, qo, none⟩ = some (.int .u64 (qx : Int)) ∧ w'.cell? ⟨w6.heap.size, 0, none⟩ = some (.slice (some ⟨g1, 0, none⟩) 2 c1) ∧ w'.cell? ⟨g1, 0, none⟩ = some (.int .u64 (lo : Int))) (fun w' => w'.cell? ⟨w8.heap.size, 0, none⟩ = some (.bool false)) (fun _ => True) (by kernel_rfl) ⟨⟨z0, z1, z2, z4⟩, tc, trivial⟩ (fun hSta => ?_)
              refine wpStore_take (i := 0) (oi := { dst := some 145, op := _, type := _, pos := _, after := _, guard := _ }) (v := ?_) false false rfl (by kernel_rfl) (by kernel_rfl) (by kernel_rfl) (by kernel_rfl) (fun _ _ _ h => h) (Or.inl ⟨by rfl, ?_⟩) (by assumption) (fun hSta => ?_)
              rotate_left 1
              · intro wS hSw
                obtain ⟨⟨r1, r2, r3, r4⟩, s3, s4⟩ := hSw
                clear s3
                clear s4
                go_simp
                all_goals with_reducible rfl
              try simp only [Act.put, List.setIfInBounds_toArray, List.set_cons_zero, List.set_cons_succ]
              refine wpStore_take (i := 1) (oi := { dst := some 146, op := _, type := _, pos := _, after := _, guard := _ }) (v := ?_) false false rfl (by kernel_rfl) (by kernel_rfl) (by kernel_rfl) (by kernel_rfl) (fun _ _ _ h => h) (Or.inl ⟨by rfl, ?_⟩) (by assumption) (fun hSta => ?_)
              rotate_left 1
              · intro wS hSw
                obtain ⟨⟨r1, r2, r3, r4⟩, s3, s4⟩ := hSw
                clear s3
                clear s4
                go_simp
                all_goals with_reducible rfl
              try simp only [Act.put, List.setIfInBounds_toArray, List.set_cons_zero, List.set_cons_succ]
              refine wpStore_take (i := 2) (oi := { dst := some 147, op := _, type := _, pos := _, after := _, guard := _ }) (v := ?_) false false rfl (by kernel_rfl) (by kernel_rfl) (by kernel_rfl) (by kernel_rfl) (fun _ _ _ h => h) (Or.inl ⟨by rfl, ?_⟩) (by assumption) (fun hSta => ?_)
              rotate_left 1
              · intro wS hSw
                obtain ⟨⟨r1, r2, r3, r4⟩, s3, s4⟩ := hSw
                clear s3
                clear s4
                go_simp
                all_goals with_reducible rfl
              try simp only [Act.put, List.setIfInBounds_toArray, List.set_cons_zero, List.set_cons_succ]
              refine wpStore_take (i := 3) (oi := { dst := some 148, op := _, type := _, pos := _, after := _, guard := _ }) (v := ?_) false false rfl (by kernel_rfl) (by kernel_rfl) (by kernel_rfl) (by kernel_rfl) (fun _ _ _ h => h) (Or.inl ⟨by rfl, ?_⟩) (by assumption) (fun hSta => ?_)
              rotate_left 1
              · intro wS hSw
                obtain ⟨⟨r1, r2, r3, r4⟩, s3, s4⟩ := hSw
                clear s3
                clear s4
                go_simp
                all_goals with_reducible rfl
              try simp only [Act.put, List.setIfInBounds_toArray, List.set_cons_zero, List.set_cons_succ]
              refine wpStore_take (i := 4) (oi := { dst := some 149, op := _, type := _, pos := _, after := _, guard := _ }) (v := ?_) false false rfl (by kernel_rfl) (by kernel_rfl) (by kernel_rfl) (by kernel_rfl) (fun _ _ _ h => h) (Or.inl ⟨by rfl, ?_⟩) (by assumption) (fun hSta => ?_)
              rotate_left 1
              · intro wS hSw
                obtain ⟨⟨r1, r2, r3, r4⟩, s3, s4⟩ := hSw
                clear s3
                clear s4
                go_simp
                all_goals with_reducible rfl
              try simp only [Act.put, List.setIfInBounds_toArray, List.set_cons_zero, List.set_cons_succ]
              refine wpStore_take (i := 5) (oi := { dst := some 150, op := _, type := _, pos := _, after := _, guard := _ }) (v := ?_) true false rfl (by kernel_rfl) (by kernel_rfl) (by kernel_rfl) (by kernel_rfl) (fun _ _ _ h => h) (Or.inl ⟨by rfl, ?_⟩) (by assumption) (fun hSta => ?_)
              rotate_left 1
              · intro wS hSw
                obtain ⟨⟨r1, r2, r3, r4⟩, s3, s4⟩ := hSw
                have s3 := s3 rfl
                clear s4
                go_simp
                all_goals with_reducible rfl
              try simp only [Act.put, List.setIfInBounds_toArray, List.set_cons_zero, List.set_cons_succ]
              refine wpStore_take (i := 6) (oi := { dst := some 151, op := _, type := _, pos := _, after := _, guard := _ }) (v := ?_) false false rfl (by kernel_rfl) (by kernel_rfl) (by kernel_rfl) (by kernel_rfl) (fun _ _ _ h => h) (Or.inl ⟨by rfl, ?_⟩) (by assumption) (fun hSta => ?_)
              rotate_left 1
              · intro wS hSw
                obtain ⟨⟨r1, r2, r3, r4⟩, s3, s4⟩ := hSw
                clear s3
                clear s4
                go_simp
                all_goals with_reducible rfl
              try simp only [Act.put, List.setIfInBounds_toArray, List.set_cons_zero, List.set_cons_succ]
              refine wpStore_take (i := 7) (oi := { dst := some 152, op := _, type := _, pos := _, after := _, guard := _ }) (v := ?_) false false rfl (by kernel_rfl) (by kernel_rfl) (by kernel_rfl) (by kernel_rfl) (fun _ _ _ h => h) (Or.inl ⟨by rfl, ?_⟩) (by assumption) (fun hSta => ?_)
              rotate_left 1
              · intro wS hSw
                obtain ⟨⟨r1, r2, r3, r4⟩, s3, s4⟩ := hSw
                clear s3
                clear s4
                go_simp
                all_goals with_reducible rfl
              try simp only [Act.put, List.setIfInBounds_toArray, List.set_cons_zero, List.set_cons_succ]
              refine wpStore_take (i := 8) (oi := { dst := some 153, op := _, type := _, pos := _, after := _, guard := _ }) (v := ?_) false false rfl (by kernel_rfl) (by kernel_rfl) (by kernel_rfl) (by kernel_rfl) (fun _ _ _ h => h) (Or.inl ⟨by rfl, ?_⟩) (by assumption) (fun hSta => ?_)
              rotate_left 1
              · intro wS hSw
                obtain ⟨⟨r1, r2, r3, r4⟩, s3, s4⟩ := hSw
                clear s3
                clear s4
                go_simp
                all_goals with_reducible rfl
              try simp only [Act.put, List.setIfInBounds_toArray, List.set_cons_zero, List.set_cons_succ]
              refine wpStore_take (i := 9) (oi := { dst := some 154, op := _, type := _, pos := _, after := _, guard := _ }) (v := ?_) false false rfl (by kernel_rfl) (by kernel_rfl) (by kernel_rfl) (by kernel_rfl) (fun _ _ _ h => h) (Or.inl ⟨by rfl, ?_⟩) (by assumption) (fun hSta => ?_)
              rotate_left 1
              · intro wS hSw
                obtain ⟨⟨r1, r2, r3, r4⟩, s3, s4⟩ := hSw
                clear s3
                clear s4
                go_simp
                all_goals with_reducible rfl
              try simp only [Act.put, List.setIfInBounds_toArray, List.set_cons_zero, List.set_cons_succ]
              refine wpStore_take (i := 10) (oi := { dst := some 155, op := _, type := _, pos := _, after := _, guard := _ }) (v := ?_) false false rfl (by kernel_rfl) (by kernel_rfl) (by kernel_rfl) (by kernel_rfl) (fun _ _ _ h => h) (Or.inl ⟨by rfl, ?_⟩) (by assumption) (fun hSta => ?_)
              rotate_left 1
              · intro wS hSw
                obtain ⟨⟨r1, r2, r3, r4⟩, s3, s4⟩ := hSw
                clear s3
                clear s4
                go_simp
                all_goals with_reducible rfl
              try simp only [Act.put, List.setIfInBounds_toArray, List.set_cons_zero, List.set_cons_succ]
              refine wpStore_take (i := 11) (oi := { dst := some 156, op := _, type := _, pos := _, after := _, guard := _ }) (v := ?_) false false rfl (by kernel_rfl) (by kernel_rfl) (by kernel_rfl) (by kernel_rfl) (fun _ _ _ h => h) (Or.inl ⟨by rfl, ?_⟩) (by assumption) (fun hSta => ?_)
              rotate_left 1
              · intro wS hSw
                obtain ⟨⟨r1, r2, r3, r4⟩, s3, s4⟩ := hSw
                clear s3
                clear s4
                go_simp
                all_goals with_reducible rfl
              try simp only [Act.put, List.setIfInBounds_toArray, List.set_cons_zero, List.set_cons_succ]
              refine wpStore_take (i := 12) (oi := { dst := some 157, op := _, type := _, pos := _, after := _, guard := _ }) (v := ?_) false false rfl (by kernel_rfl) (by kernel_rfl) (by kernel_rfl) (by kernel_rfl) (fun _ _ _ h => h) (Or.inl ⟨by rfl, ?_⟩) (by assumption) (fun hSta => ?_)
              rotate_left 1
              · intro wS hSw
                obtain ⟨⟨r1, r2, r3, r4⟩, s3, s4⟩ := hSw
                clear s3
                clear s4
                go_simp
                all_goals with_reducible rfl
              try simp only [Act.put, List.setIfInBounds_toArray, List.set_cons_zero, List.set_cons_succ]
              refine wpStore_take (i := 13) (oi := { dst := some 158, op := _, type := _, pos := _, after := _, guard := _ }) (v := ?_) false false rfl (by kernel_rfl) (by kernel_rfl) (by kernel_rfl) (by kernel_rfl) (fun _ _ _ h => h) (Or.inl ⟨by rfl, ?_⟩) (by assumption) (fun hSta => ?_)
              rotate_left 1
              · intro wS hSw
                obtain ⟨⟨r1, r2, r3, r4⟩, s3, s4⟩ := hSw
                clear s3
                clear s4
                go_simp
                all_goals with_reducible rfl
              try simp only [Act.put, List.setIfInBounds_toArray, List.set_cons_zero, List.set_cons_succ]
              refine wpStore_take (i := 14) (oi := { dst := some 159, op := _, type := _, pos := _, after := _, guard := _ }) (v := ?_) false false rfl (by kernel_rfl) (by kernel_rfl) (by kernel_rfl) (by kernel_rfl) (fun _ _ _ h => h) (Or.inl ⟨by rfl, ?_⟩) (by assumption) (fun hSta => ?_)
              rotate_left 1
              · intro wS hSw
                obtain ⟨⟨r1, r2, r3, r4⟩, s3, s4⟩ := hSw
                clear s3
                clear s4
                go_simp
                all_goals with_reducible rfl
              try simp only [Act.put, List.setIfInBounds_toArray, List.set_cons_zero, List.set_cons_succ]
              refine wpStore_take (i := 15) (oi := { dst := some 160, op := _, type := _, pos := _, after := _, guard := _ }) (v := ?_) false false rfl (by kernel_rfl) (by kernel_rfl) (by kernel_rfl) (by kernel_rfl) (fun _ _ _ h => h) (Or.inl ⟨by rfl, ?_⟩) (by assumption) (fun hSta => ?_)
              rotate_left 1
              · intro wS hSw
                obtain ⟨⟨r1, r2, r3, r4⟩, s3, s4⟩ := hSw
                clear s3
                clear s4
                go_simp
                all_goals with_reducible rfl
              try simp only [Act.put, List.setIfInBounds_toArray, List.set_cons_zero, List.set_cons_succ]
              refine wpStore_take (i := 16) (oi := { dst := some 161, op := _, type := _, pos := _, after := _, guard := _ }) (v := ?_) false false rfl (by kernel_rfl) (by kernel_rfl) (by kernel_rfl) (by kernel_rfl) (fun _ _ _ h => h) (Or.inl ⟨by rfl, ?_⟩) (by assumption) (fun hSta => ?_)
              rotate_left 1
              · intro wS hSw
                obtain ⟨⟨r1, r2, r3, r4⟩, s3, s4⟩ := hSw
                clear s3
                clear s4
                go_simp
                all_goals with_reducible rfl
              try simp only [Act.put, List.setIfInBounds_toArray, List.set_cons_zero, List.set_cons_succ]
              refine wpStore_take (i := 17) (oi := { dst := some 162, op := _, type := _, pos := _, after := _, guard := _ }) (v := ?_) false false rfl (by kernel_rfl) (by kernel_rfl) (by kernel_rfl) (by kernel_rfl) (fun _ _ _ h => h) (Or.inl ⟨by rfl, ?_⟩) (by assumption) (fun hSta => ?_)
              rotate_left 1
              · intro wS hSw
                obtain ⟨⟨r1, r2, r3, r4⟩, s3, s4⟩ := hSw
                clear s3
                clear s4
                go_simp
                all_goals with_reducible rfl
              try simp only [Act.put, List.setIfInBounds_toArray, List.set_cons_zero, List.set_cons_succ]
              refine wpStore_take (i := 18) (oi := { dst := some 163, op := _, type := _, pos := _, after := _, guard := _ }) (v := ?_) false false rfl (by kernel_rfl) (by kernel_rfl) (by kernel_rfl) (by kernel_rfl) (fun _ _ _ h => h) (Or.inl ⟨by rfl, ?_⟩) (by assumption) (fun hSta => ?_)
              rotate_left 1
              · intro wS hSw
                obtain ⟨⟨r1, r2, r3, r4⟩, s3, s4⟩ := hSw
                clear s3
                clear s4
                go_simp
                all_goals with_reducible rfl
              try simp only [Act.put, List.setIfInBounds_toArray, List.set_cons_zero, List.set_cons_succ]
              refine wpStore_take (i := 19) (oi := { dst := some 164, op := _, type := _, pos := _, after := _, guard := _ }) (v := ?_) false false rfl (by kernel_rfl) (by kernel_rfl) (by kernel_rfl) (by kernel_rfl) (fun _ _ _ h => h) (Or.inl ⟨by rfl, ?_⟩) (by assumption) (fun hSta => ?_)
              rotate_left 1
              · intro wS hSw
                obtain ⟨⟨r1, r2, r3, r4⟩, s3, s4⟩ := hSw
                clear s3
                clear s4
                go_simp
                all_goals with_reducible rfl
              try simp only [Act.put, List.setIfInBounds_toArray, List.set_cons_zero, List.set_cons_succ]
              refine wpStore_take (i := 20) (oi := { dst := some 165, op := _, type := _, pos := _, after := _, guard := _ }) (v := ?_) false false rfl (by kernel_rfl) (by kernel_rfl) (by kernel_rfl) (by kernel_rfl) (fun _ _ _ h => h) (Or.inl ⟨by rfl, ?_⟩) (by assumption) (fun hSta => ?_)
              rotate_left 1
              · intro wS hSw
                obtain ⟨⟨r1, r2, r3, r4⟩, s3, s4⟩ := hSw
                clear s3
                clear s4
                go_simp
                all_goals with_reducible rfl
              try simp only [Act.put, List.setIfInBounds_toArray, List.set_cons_zero, List.set_cons_succ]
              refine wpStore_take (i := 21) (oi := { dst := some 166, op := _, type := _, pos := _, after := _, guard := _ }) (v := ?_) false false rfl (by kernel_rfl) (by kernel_rfl) (by kernel_rfl) (by kernel_rfl) (fun _ _ _ h => h) (Or.inl ⟨by rfl, ?_⟩) (by assumption) (fun hSta => ?_)
              rotate_left 1
              · intro wS hSw
                obtain ⟨⟨r1, r2, r3, r4⟩, s3, s4⟩ := hSw
                clear s3
                clear s4
                go_simp
                all_goals with_reducible rfl
              try simp only [Act.put, List.setIfInBounds_toArray, List.set_cons_zero, List.set_cons_succ]
              obtain ⟨X, HX⟩ : ∃ b : Bool, Hid (b = ((qx : Int) == (lo : Int))) := ⟨_, hide rfl⟩
              refine wpStore_one (i := 22) (o := { dst := none, op := _, type := _, pos := _, after := _, guard := _ }) (by kernel_rfl) rfl (fun K hK => ?_)
              go_simp
              rw [← HX.out]
              have HB1 := hide (show Below w8.heap.size w8 (wy.setCell ⟨w8.heap.size, 0, none⟩ (.bool X)).drew.drew from (HBY.out.setCell (p := ⟨w8.heap.size, 0, none⟩) (Nat.le_refl _) (.bool X)).drew.drew)
              have HK1 := hide (show Blk (wy.setCell ⟨w8.heap.size, 0, none⟩ (.bool X)).drew.drew w8.heap.size 4 #[.bool X, .bool T1, .bool T2, .bool T3] from HBK.out.set1 (i := 0) (.bool X))
              obtain ⟨v0, v1, v2, v3, v4, v5⟩ := HZi.out _ HB1.out
              refine hK.out _ _ ⟨⟨v0, v1, v2, v4⟩, fun h => absurd h (by decide), fun _ => trivial⟩ (fun hSta => ?_)
              clear hK K
              try simp only [Act.put, List.setIfInBounds_toArray, List.set_cons_zero, List.set_cons_succ]
              refine wpStore_done (by kernel_rfl) ?_ _
              clear hSta tc tz
              generalize (wy.setCell ⟨w8.heap.size, 0, none⟩ (.bool X)).drew.drew = W1 at *
              clear v0 v1 v2 v3 v4 v5
              go_wp2
              obtain ⟨z0, z1, z2, z3, z4, z5⟩ := HZi.out W1 HB1.out
              have tc : W1.cell? ⟨w8.heap.size, 2, none⟩ = some (.bool T2) := HK1.out.cell 2
              have tz : W1.frozen? ⟨w8.heap.size, 2, none⟩ = false := HK1.out.frozen 2
              have hw : IntKind.i64.wrap (2 : Int) = 2 := by decide
              cases T2 with
              | true =>
                refine wp_region_store 24 1000 (fun w' => w'.cell? ⟨b, o + j, none⟩ = some (.slice (some ⟨qb, qo, none⟩) 2 q.c) ∧ w'.cell? ⟨qb, qo, none⟩ = some (.int .u64 (qx : Int)) ∧ w'.cell? ⟨w6.heap.size, 1, none⟩ = some (.slice (some ⟨g2, 0, none⟩) 2 c2) ∧ w'.cell? ⟨g2, 0, none⟩ = some (.int .u64 (hi : Int))) (fun w' => w'.cell? ⟨w8.heap.size, 2, none⟩ = some (.bool true)) (fun _ => True) (by kernel_rfl) ⟨⟨z0, z1, z3, z5⟩, tc, trivial⟩ (fun hSta => ?_)
                refine wpStore_take (i := 0) (oi := { dst := some 167, op := _, type := _, pos := _, after := _, guard := _ }) (v := ?_) false false rfl (by kernel_rfl) (by kernel_rfl) (by kernel_rfl) (by kernel_rfl) (fun _ _ _ h => h) (Or.inl ⟨by rfl, ?_⟩) (by assumption) (fun hSta => ?_)
                rotate_left 1
                · intro wS hSw
                  obtain ⟨⟨r1, r2, r3, r4⟩, s3, s4⟩ := hSw
                  clear s3
                  clear s4
                  go_simp
                  all_goals with_reducible rfl
                try simp only [Act.put, List.setIfInBounds_toArray, List.set_cons_zero, List.set_cons_succ]
                refine wpStore_take (i := 1) (oi := { dst := some 168, op := _, type := _, pos := _, after := _, guard := _ }) (v := ?_) false false rfl (by kernel_rfl) (by kernel_rfl) (by kernel_rfl) (by kernel_rfl) (fun _ _ _ h => h) (Or.inl ⟨by rfl, ?_⟩) (by assumption) (fun hSta => ?_)
                rotate_left 1
                · intro wS hSw
                  obtain ⟨⟨r1, r2, r3, r4⟩, s3, s4⟩ := hSw
                  clear s3
                  clear s4
                  go_simp
                  all_goals with_reducible rfl
                try simp only [Act.put, List.setIfInBounds_toArray, List.set_cons_zero, List.set_cons_succ]
                refine wpStore_take (i := 2) (oi := { dst := some 169, op := _, type := _, pos := _, after := _, guard := _ }) (v := ?_) false false rfl (by kernel_rfl) (by kernel_rfl) (by kernel_rfl) (by kernel_rfl) (fun _ _ _ h => h) (Or.inl ⟨by rfl, ?_⟩) (by assumption) (fun hSta => ?_)
                rotate_left 1
                · intro wS hSw
                  obtain ⟨⟨r1, r2, r3, r4⟩, s3, s4⟩ := hSw
                  clear s3
                  clear s4
                  go_simp
                  all_goals with_reducible rfl
                try simp only [Act.put, List.setIfInBounds_toArray, List.set_cons_zero, List.set_cons_succ]
                refine wpStore_take (i := 3) (oi := { dst := some 170, op := _, type := _, pos := _, after := _, guard := _ }) (v := ?_) false false rfl (by kernel_rfl) (by kernel_rfl) (by kernel_rfl) (by kernel_rfl) (fun _ _ _ h => h) (Or.inl ⟨by rfl, ?_⟩) (by assumption) (fun hSta => ?_)
                rotate_left 1
                · intro wS hSw
                  obtain ⟨⟨r1, r2, r3, r4⟩, s3, s4⟩ := hSw
                  clear s3
                  clear s4
                  go_simp
                  all_goals with_reducible rfl
                try simp only [Act.put, List.setIfInBounds_toArray, List.set_cons_zero, List.set_cons_succ]
                refine wpStore_take (i := 4) (oi := { dst := some 171, op := _, type := _, pos := _, after := _, guard := _ }) (v := ?_) false false rfl (by kernel_rfl) (by kernel_rfl) (by kernel_rfl) (by kernel_rfl) (fun _ _ _ h => h) (Or.inl ⟨by rfl, ?_⟩) (by assumption) (fun hSta => ?_)
                rotate_left 1
                · intro wS hSw
                  obtain ⟨⟨r1, r2, r3, r4⟩, s3, s4⟩ := hSw
                  clear s3
                  clear s4
                  go_simp
                  all_goals with_reducible rfl
                try simp only [Act.put, List.setIfInBounds_toArray, List.set_cons_zero, List.set_cons_succ]
                refine wpStore_take (i := 5) (oi := { dst := some 172, op := _, type := _, pos := _, after := _, guard := _ }) (v := ?_) false false rfl (by kernel_rfl) (by kernel_rfl) (by kernel_rfl) (by kernel_rfl) (fun _ _ _ h => h) (Or.inl ⟨by rfl, ?_⟩) (by assumption) (fun hSta => ?_)
                rotate_left 1
                · intro wS hSw
                  obtain ⟨⟨r1, r2, r3, r4⟩, s3, s4⟩ := hSw
                  clear s3
                  clear s4
                  go_simp
                  all_goals with_reducible rfl
                try simp only [Act.put, List.setIfInBounds_toArray, List.set_cons_zero, List.set_cons_succ]
                refine wpStore_take (i := 6) (oi := { dst := some 173, op := _, type := _, pos := _, after := _, guard := _ }) (v := ?_) false false rfl (by kernel_rfl) (by kernel_rfl) (by kernel_rfl) (by kernel_rfl) (fun _ _ _ h => h) (Or.inl ⟨by rfl, ?_⟩) (by assumption) (fun hSta => ?_)
                rotate_left 1
                · intro wS hSw
                  obtain ⟨⟨r1, r2, r3, r4⟩, s3, s4⟩ := hSw
                  clear s3
                  clear s4
                  go_simp
                  all_goals with_reducible rfl
                try simp only [Act.put, List.setIfInBounds_toArray, List.set_cons_zero, List.set_cons_succ]
                refine wpStore_take (i := 7) (oi := { dst := some 174, op := _, type := _, pos := _, after := _, guard := _ }) (v := ?_) true false rfl (by kernel_rfl) (by kernel_rfl) (by kernel_rfl) (by kernel_rfl) (fun _ _ _ h => h) (Or.inl ⟨by rfl, ?_⟩) (by assumption) (fun hSta => ?_)
                rotate_left 1
                · intro wS hSw
                  obtain ⟨⟨r1, r2, r3, r4⟩, s3, s4⟩ := hSw
                  have s3 := s3 rfl
                  clear s4
                  go_simp
                  all_goals with_reducible rfl
                try simp only [Act.put, List.setIfInBounds_toArray, List.set_cons_zero, List.set_cons_succ]
                refine wpStore_take (i := 8) (oi := { dst := some 175, op := _, type := _, pos := _, after := _, guard := _ }) (v := ?_) false false rfl (by kernel_rfl) (by kernel_rfl) (by kernel_rfl) (by kernel_rfl) (fun _ _ _ h => h) (Or.inl ⟨by rfl, ?_⟩) (by assumption) (fun hSta => ?_)
                rotate_left 1
                · intro wS hSw
                  obtain ⟨⟨r1, r2, r3, r4⟩, s3, s4⟩ := hSw
                  clear s3
                  clear s4
                  go_simp
                  all_goals with_reducible rfl
                try simp only [Act.put, List.setIfInBounds_toArray, List.set_cons_zero, List.set_cons_succ]
                refine wpStore_take (i := 9) (oi := { dst := some 176, op := _, type := _, pos := _, after := _, guard := _ }) (v := undef) false false rfl (by kernel_rfl) (by kernel_rfl) (by kernel_rfl) (by kernel_rfl) (fun _ _ _ h => h) (Or.inr ⟨by rfl, rfl⟩) (by assumption) (fun hSta => ?_)
                try simp only [Act.put, List.setIfInBounds_toArray, List.set_cons_zero, List.set_cons_succ]
                refine wpStore_take (i := 10) (oi := { dst := some 177, op := _, type := _, pos := _, after := _, guard := _ }) (v := undef) false false rfl (by kernel_rfl) (by kernel_rfl) (by kernel_rfl) (by kernel_rfl) (fun _ _ _ h => h) (Or.inr ⟨by rfl, rfl⟩) (by assumption) (fun hSta => ?_)
                try simp only [Act.put, List.setIfInBounds_toArray, List.set_cons_zero, List.set_cons_succ]
                refine wpStore_take (i := 11) (oi := { dst := some 178, op := _, type := _, pos := _, after := _, guard := _ }) (v := undef) false false rfl (by kernel_rfl) (by kernel_rfl) (by kernel_rfl) (by kernel_rfl) (fun _ _ _ h => h) (Or.inr ⟨by rfl, rfl⟩) (by assumption) (fun hSta => ?_)
                try simp only [Act.put, List.setIfInBounds_toArray, List.set_cons_zero, List.set_cons_succ]
                refine wpStore_take (i := 12) (oi := { dst := some 179, op := _, type := _, pos := _, after := _, guard := _ }) (v := undef) false false rfl (by kernel_rfl) (by kernel_rfl) (by kernel_rfl) (by kernel_rfl) (fun _ _ _ h => h) (Or.inr ⟨by rfl, rfl⟩) (by assumption) (fun hSta => ?_)
                try simp only [Act.put, List.setIfInBounds_toArray, List.set_cons_zero, List.set_cons_succ]
                refine wpStore_take (i := 13) (oi := { dst := some 180, op := _, type := _, pos := _, after := _, guard := _ }) (v := undef) false false rfl (by kernel_rfl) (by kernel_rfl) (by kernel_rfl) (by kernel_rfl) (fun _ _ _ h => h) (Or.inr ⟨by rfl, rfl⟩) (by assumption) (fun hSta => ?_)
                try simp only [Act.put, List.setIfInBounds_toArray, List.set_cons_zero, List.set_cons_succ]
                refine wpStore_take (i := 14) (oi := { dst := some 181, op := _, type := _, pos := _, after := _, guard := _ }) (v := undef) false false rfl (by kernel_rfl) (by kernel_rfl) (by kernel_rfl) (by kernel_rfl) (fun _ _ _ h => h) (Or.inr ⟨by rfl, rfl⟩) (by assumption) (fun hSta => ?_)
                try simp only [Act.put, List.setIfInBounds_toArray, List.set_cons_zero, List.set_cons_succ]
                refine wpStore_take (i := 15) (oi := { dst := some 182, op := _, type := _, pos := _, after := _, guard := _ }) (v := undef) false false rfl (by kernel_rfl) (by kernel_rfl) (by kernel_rfl) (by kernel_rfl) (fun _ _ _ h => h) (Or.inr ⟨by rfl, rfl⟩) (by assumption) (fun hSta => ?_)
                try simp only [Act.put, List.setIfInBounds_toArray, List.set_cons_zero, List.set_cons_succ]
                refine wpStore_take (i := 16) (oi := { dst := some 183, op := _, type := _, pos := _, after := _, guard := _ }) (v := undef) false false rfl (by kernel_rfl) (by kernel_rfl) (by kernel_rfl) (by kernel_rfl) (fun _ _ _ h => h) (Or.inr ⟨by rfl, rfl⟩) (by assumption) (fun hSta => ?_)
                try simp only [Act.put, List.setIfInBounds_toArray, List.set_cons_zero, List.set_cons_succ]
                refine wpStore_take (i := 17) (oi := { dst := some 184, op := _, type := _, pos := _, after := _, guard := _ }) (v := undef) false false rfl (by kernel_rfl) (by kernel_rfl) (by kernel_rfl) (by kernel_rfl) (fun _ _ _ h => h) (Or.inr ⟨by rfl, rfl⟩) (by assumption) (fun hSta => ?_)
                try simp only [Act.put, List.setIfInBounds_toArray, List.set_cons_zero, List.set_cons_succ]
                refine wpStore_take (i := 18) (oi := { dst := some 185, op := _, type := _, pos := _, after := _, guard := _ }) (v := undef) false false rfl (by kernel_rfl) (by kernel_rfl) (by kernel_rfl) (by kernel_rfl) (fun _ _ _ h => h) (Or.inr ⟨by rfl, rfl⟩) (by assumption) (fun hSta => ?_)
                try simp only [Act.put, List.setIfInBounds_toArray, List.set_cons_zero, List.set_cons_succ]
                refine wpStore_take (i := 19) (oi := { dst := some 186, op := _, type := _, pos := _, after := _, guard := _ }) (v := undef) false false rfl (by kernel_rfl) (by kernel_rfl) (by kernel_rfl) (by kernel_rfl) (fun _ _ _ h => h) (Or.inr ⟨by rfl, rfl⟩) (by assumption) (fun hSta => ?_)
                try simp only [Act.put, List.setIfInBounds_toArray, List.set_cons_zero, List.set_cons_succ]
                refine wpStore_take (i := 20) (oi := { dst := some 187, op := _, type := _, pos := _, after := _, guard := _ }) (v := undef) false false rfl (by kernel_rfl) (by kernel_rfl) (by kernel_rfl) (by kernel_rfl) (fun _ _ _ h => h) (Or.inr ⟨by rfl, rfl⟩) (by assumption) (fun hSta => ?_)
                try simp only [Act.put, List.setIfInBounds_toArray, List.set_cons_zero, List.set_cons_succ]
                refine wpStore_take (i := 21) (oi := { dst := some 188, op := _, type := _, pos := _, after := _, guard := _ }) (v := undef) false false rfl (by kernel_rfl) (by kernel_rfl) (by kernel_rfl) (by kernel_rfl) (fun _ _ _ h => h) (Or.inr ⟨by rfl, rfl⟩) (by assumption) (fun hSta => ?_)
                try simp only [Act.put, List.setIfInBounds_toArray, List.set_cons_zero, List.set_cons_succ]
                refine wpStore_take (i := 22) (oi := { dst := some 189, op := _, type := _, pos := _, after := _, guard := _ }) (v := ?_) false false rfl (by kernel_rfl) (by kernel_rfl) (by kernel_rfl) (by kernel_rfl) (fun _ _ _ h => h) (Or.inl ⟨by rfl, ?_⟩) (by assumption) (fun hSta => ?_)
                rotate_left 1
                · intro wS hSw
                  obtain ⟨⟨r1, r2, r3, r4⟩, s3, s4⟩ := hSw
                  clear s3
                  clear s4
                  go_simp
                  all_goals with_reducible rfl
                try simp only [Act.put, List.setIfInBounds_toArray, List.set_cons_zero, List.set_cons_succ]
                refine wpStore_take (i := 23) (oi := { dst := some 190, op := _, type := _, pos := _, after := _, guard := _ }) (v := ?_) false false rfl (by kernel_rfl) (by kernel_rfl) (by kernel_rfl) (by kernel_rfl) (fun _ _ _ h => h) (Or.inl ⟨by rfl, ?_⟩) (by assumption) (fun hSta => ?_)
                rotate_left 1
                · intro wS hSw
                  obtain ⟨⟨r1, r2, r3, r4⟩, s3, s4⟩ := hSw
                  clear s3
                  clear s4
                  go_simp
                  all_goals with_reducible rfl
                try simp only [Act.put, List.setIfInBounds_toArray, List.set_cons_zero, List.set_cons_succ]
                refine wpStore_one (i := 24) (o := { dst := none, op := _, type := _, pos := _, after := _, guard := _ }) (by kernel_rfl) rfl (fun K hK => ?_)
                go_simp
                have HB2 := hide (show Below w8.heap.size w8 (W1.setCell ⟨w8.heap.size, 2, none⟩ (.bool true)).drew from (HB1.out.setCell (p := ⟨w8.heap.size, 2, none⟩) (Nat.le_refl _) (.bool true)).drew)
                have HK2 := hide (show Blk (W1.setCell ⟨w8.heap.size, 2, none⟩ (.bool true)).drew w8.heap.size 4 #[.bool X, .bool T1, .bool true, .bool T3] from HK1.out.set1 (i := 2) (.bool true))
                obtain ⟨v0, v1, v2, v3, v4, v5⟩ := HZi.out _ HB2.out
                refine hK.out _ _ ⟨⟨v0, v1, v3, v5⟩, fun h => absurd h (by decide), fun _ => trivial⟩ (fun hSta => ?_)
                clear hK K
                try simp only [Act.put, List.setIfInBounds_toArray, List.set_cons_zero, List.set_cons_succ]
                refine wpStore_done (by kernel_rfl) ?_ _
                clear hSta tc tz
                generalize (W1.setCell ⟨w8.heap.size, 2, none⟩ (.bool true)).drew = W2 at *
                clear v0 v1 v2 v3 v4 v5
                go_wp2
                have HQ := hide (show ((al.map LP.p).getD j []).getD 0 0 = qx by rw [HPJ.out]; rfl)
                have e0 : met (al.map LP.p) 0 (loT (al.map LP.p) 0 nl) (metTo 1 j 0) = X := by
                  show met (al.map LP.p) 0 (loT (al.map LP.p) 0 nl) (j + 1) = X
                  rw [met_next HQ.out, show met (al.map LP.p) 0 (loT (al.map LP.p) 0 nl) j = false from HTE.out.1.symm]
                  rw [Bool.false_or, ← HLO.out, ← HX.out]
                have e2 : met (al.map LP.p) 0 (hiT (al.map LP.p) 0 nl) (metTo 1 j 0) = true := by
                  show met (al.map LP.p) 0 (hiT (al.map LP.p) 0 nl) (j + 1) = true
                  rw [met_next HQ.out, show met (al.map LP.p) 0 (hiT (al.map LP.p) 0 nl) j = true from HTE.out.2.2.1.symm]
                  rw [Bool.true_or]
                have e1 : met (al.map LP.p) 1 (loT (al.map LP.p) 1 nl) (metTo 1 j 1) = T1 := HTE.out.2.1.symm
                have e3 : met (al.map LP.p) 1 (hiT (al.map LP.p) 1 nl) (metTo 1 j 1) = T3 := HTE.out.2.2.2.symm
                refine ⟨⟨1, 1, by go_num, rfl, by omega, ?_, HB2.out⟩, by simp only [intOf]; omega⟩
                unfold tAt
                rw [e0, e1, e2, e3]
                exact HK2.out
              | false =>
                refine wp_region_store 24 1000 (fun w' => w'.cell? ⟨b, o + j, none⟩ = some (.slice (some ⟨qb, qo, none⟩) 2 q.c) ∧ w'.cell? ⟨qb, qo, none⟩ = some (.int .u64 (qx : Int)) ∧ w'.cell? ⟨w6.heap.size, 1, none⟩ = some (.slice (some ⟨g2, 0, none⟩) 2 c2) ∧ w'.cell? ⟨g2, 0, none⟩ = some (.int .u64 (hi : Int))) (fun w' => w'.cell? ⟨w8.heap.size, 2, none⟩ = some (.bool false)) (fun _ => True) (by kernel_rfl) ⟨⟨z0, z1, z3, z5⟩, tc, trivial⟩ (fun hSta => ?_)
                refine wpStore_take (i := 0) (oi := { dst := some 167, op := _, type := _, pos := _, after := _, guard := _ }) (v := ?_) false false rfl (by kernel_rfl) (by kernel_rfl) (by kernel_rfl) (by kernel_rfl) (fun _ _ _ h => h) (Or.inl ⟨by rfl, ?_⟩) (by assumption) (fun hSta => ?_)
                rotate_left 1
                · intro wS hSw
                  obtain ⟨⟨r1, r2, r3, r4⟩, s3, s4⟩ := hSw
                  clear s3
                  clear s4
                  go_simp
                  all_goals with_reducible rfl
                try simp only [Act.put, List.setIfInBounds_toArray, List.set_cons_zero, List.set_cons_succ]
                refine wpStore_take (i := 1) (oi := { dst := some 168, op := _, type := _, pos := _, after := _, guard := _ }) (v := ?_) false false rfl (by kernel_rfl) (by kernel_rfl) (by kernel_rfl) (by kernel_rfl) (fun _ _ _ h => h) (Or.inl ⟨by rfl, ?_⟩) (by assumption) (fun hSta => ?_)
                rotate_left 1
                · intro wS hSw
                  obtain ⟨⟨r1, r2, r3, r4⟩, s3, s4⟩ := hSw
                  clear s3
                  clear s4
                  go_simp
                  all_goals with_reducible rfl
                try simp only [Act.put, List.setIfInBounds_toArray, List.set_cons_zero, List.set_cons_succ]
                refine wpStore_take (i := 2) (oi := { dst := some 169, op := _, type := _, pos := _, after := _, guard := _ }) (v := ?_) false false rfl (by kernel_rfl) (by kernel_rfl) (by kernel_rfl) (by kernel_rfl) (fun _ _ _ h => h) (Or.inl ⟨by rfl, ?_⟩) (by assumption) (fun hSta => ?_)
                rotate_left 1
                · intro wS hSw
                  obtain ⟨⟨r1, r2, r3, r4⟩, s3, s4⟩ := hSw
                  clear s3
                  clear s4
                  go_simp
                  all_goals with_reducible rfl
                try simp only [Act.put, List.setIfInBounds_toArray, List.set_cons_zero, List.set_cons_succ]
                refine wpStore_take (i := 3) (oi := { dst := some 170, op := _, type := _, pos := _, after := _, guard := _ }) (v := ?_) false false rfl (by kernel_rfl) (by kernel_rfl) (by kernel_rfl) (by kernel_rfl) (fun _ _ _ h => h) (Or.inl ⟨by rfl, ?_⟩) (by assumption) (fun hSta => ?_)
                rotate_left 1
                · intro wS hSw
                  obtain ⟨⟨r1, r2, r3, r4⟩, s3, s4⟩ := hSw
                  clear s3
                  clear s4
                  go_simp
                  all_goals with_reducible rfl
                try simp only [Act.put, List.setIfInBounds_toArray, List.set_cons_zero, List.set_cons_succ]
                refine wpStore_take (i := 4) (oi := { dst := some 171, op := _, type := _, pos := _, after := _, guard := _ }) (v := ?_) false false rfl (by kernel_rfl) (by kernel_rfl) (by kernel_rfl) (by kernel_rfl) (fun _ _ _ h => h) (Or.inl ⟨by rfl, ?_⟩) (by assumption) (fun hSta => ?_)
                rotate_left 1
                · intro wS hSw
                  obtain ⟨⟨r1, r2, r3, r4⟩, s3, s4⟩ := hSw
                  clear s3
                  clear s4
                  go_simp
                  all_goals with_reducible rfl
                try simp only [Act.put, List.setIfInBounds_toArray, List.set_cons_zero, List.set_cons_succ]
                refine wpStore_take (i := 5) (oi := { dst := some 172, op := _, type := _, pos := _, after := _, guard := _ }) (v := ?_) false false rfl (by kernel_rfl) (by kernel_rfl) (by kernel_rfl) (by kernel_rfl) (fun _ _ _ h => h) (Or.inl ⟨by rfl, ?_⟩) (by assumption) (fun hSta => ?_)
                rotate_left 1
                · intro wS hSw
                  obtain ⟨⟨r1, r2, r3, r4⟩, s3, s4⟩ := hSw
                  clear s3
                  clear s4
                  go_simp
                  all_goals with_reducible rfl
                try simp only [Act.put, List.setIfInBounds_toArray, List.set_cons_zero, List.set_cons_succ]
                refine wpStore_take (i := 6) (oi := { dst := some 173, op := _, type := _, pos := _, after := _, guard := _ }) (v := ?_) false false rfl (by kernel_rfl) (by kernel_rfl) (by kernel_rfl) (by kernel_rfl) (fun _ _ _ h => h) (Or.inl ⟨by rfl, ?_⟩) (by assumption) (fun hSta => ?_)
                rotate_left 1
                · intro wS hSw
                  obtain ⟨⟨r1, r2, r3, r4⟩, s3, s4⟩ := hSw
                  clear s3
                  clear s4
                  go_simp
                  all_goals with_reducible rfl
                try simp only [Act.put, List.setIfInBounds_toArray, List.set_cons_zero, List.set_cons_succ]
                refine wpStore_take (i := 7) (oi := { dst := some 174, op := _, type := _, pos := _, after := _, guard := _ }) (v := ?_) true false rfl (by kernel_rfl) (by kernel_rfl) (by kernel_rfl) (by kernel_rfl) (fun _ _ _ h => h) (Or.inl ⟨by rfl, ?_⟩) (by assumption) (fun hSta => ?_)
                rotate_left 1
                · intro wS hSw
                  obtain ⟨⟨r1, r2, r3, r4⟩, s3, s4⟩ := hSw
                  have s3 := s3 rfl
                  clear s4
                  go_simp
                  all_goals with_reducible rfl
                try simp only [Act.put, List.setIfInBounds_toArray, List.set_cons_zero, List.set_cons_succ]
                refine wpStore_take (i := 8) (oi := { dst := some 175, op := _, type := _, pos := _, after := _, guard := _ }) (v := ?_) false false rfl (by kernel_rfl) (by kernel_rfl) (by kernel_rfl) (by kernel_rfl) (fun _ _ _ h => h) (Or.inl ⟨by rfl, ?_⟩) (by assumption) (fun hSta => ?_)
                rotate_left 1
                · intro wS hSw
                  obtain ⟨⟨r1, r2, r3, r4⟩, s3, s4⟩ := hSw
                  clear s3
                  clear s4
                  go_simp
                  all_goals with_reducible rfl
                try simp only [Act.put, List.setIfInBounds_toArray, List.set_cons_zero, List.set_cons_succ]
                refine wpStore_take (i := 9) (oi := { dst := some 176, op := _, type := _, pos := _, after := _, guard := _ }) (v := ?_) false false rfl (by kernel_rfl) (by kernel_rfl) (by kernel_rfl) (by kernel_rfl) (fun _ _ _ h => h) (Or.inl ⟨by rfl, ?_⟩) (by assumption) (fun hSta => ?_)
                rotate_left 1
                · intro wS hSw
                  obtain ⟨⟨r1, r2, r3, r4⟩, s3, s4⟩ := hSw
                  clear s3
                  clear s4
                  go_simp
                  all_goals with_reducible rfl
                try simp only [Act.put, List.setIfInBounds_toArray, List.set_cons_zero, List.set_cons_succ]
                refine wpStore_take (i := 10) (oi := { dst := some 177, op := _, type := _, pos := _, after := _, guard := _ }) (v := ?_) false false rfl (by kernel_rfl) (by kernel_rfl) (by kernel_rfl) (by kernel_rfl) (fun _ _ _ h => h) (Or.inl ⟨by rfl, ?_⟩) (by assumption) (fun hSta => ?_)
                rotate_left 1
                · intro wS hSw
                  obtain ⟨⟨r1, r2, r3, r4⟩, s3, s4⟩ := hSw
                  clear s3
                  clear s4
                  go_simp
                  all_goals with_reducible rfl
                try simp only [Act.put, List.setIfInBounds_toArray, List.set_cons_zero, List.set_cons_succ]
                refine wpStore_take (i := 11) (oi := { dst := some 178, op := _, type := _, pos := _, after := _, guard := _ }) (v := ?_) false false rfl (by kernel_rfl) (by kernel_rfl) (by kernel_rfl) (by kernel_rfl) (fun _ _ _ h => h) (Or.inl ⟨by rfl, ?_⟩) (by assumption) (fun hSta => ?_)
                rotate_left 1
                · intro wS hSw
                  obtain ⟨⟨r1, r2, r3, r4⟩, s3, s4⟩ := hSw
                  clear s3
                  clear s4
                  go_simp
                  all_goals with_reducible rfl
                try simp only [Act.put, List.setIfInBounds_toArray, List.set_cons_zero, List.set_cons_succ]
                refine wpStore_take (i := 12) (oi := { dst := some 179, op := _, type := _, pos := _, after := _, guard := _ }) (v := ?_) false false rfl (by kernel_rfl) (by kernel_rfl) (by kernel_rfl) (by kernel_rfl) (fun _ _ _ h => h) (Or.inl ⟨by rfl, ?_⟩) (by assumption) (fun hSta => ?_)
                rotate_left 1
                · intro wS hSw
                  obtain ⟨⟨r1, r2, r3, r4⟩, s3, s4⟩ := hSw
                  clear s3
                  clear s4
                  go_simp
                  all_goals with_reducible rfl
                try simp only [Act.put, List.setIfInBounds_toArray, List.set_cons_zero, List.set_cons_succ]
                refine wpStore_take (i := 13) (oi := { dst := some 180, op := _, type := _, pos := _, after := _, guard := _ }) (v := ?_) false false rfl (by kernel_rfl) (by kernel_rfl) (by kernel_rfl) (by kernel_rfl) (fun _ _ _ h => h) (Or.inl ⟨by rfl, ?_⟩) (by assumption) (fun hSta => ?_)
                rotate_left 1
                · intro wS hSw
                  obtain ⟨⟨r1, r2, r3, r4⟩, s3, s4⟩ := hSw
                  clear s3
                  clear s4
                  go_simp
                  all_goals with_reducible rfl
                try simp only [Act.put, List.setIfInBounds_toArray, List.set_cons_zero, List.set_cons_succ]
                refine wpStore_take (i := 14) (oi := { dst := some 181, op := _, type := _, pos := _, after := _, guard := _ }) (v := ?_) false false rfl (by kernel_rfl) (by kernel_rfl) (by kernel_rfl) (by kernel_rfl) (fun _ _ _ h => h) (Or.inl ⟨by rfl, ?_⟩) (by assumption) (fun hSta => ?_)
                rotate_left 1
                · intro wS hSw
                  obtain ⟨⟨r1, r2, r3, r4⟩, s3, s4⟩ := hSw
                  clear s3
                  clear s4
                  go_simp
                  all_goals with_reducible rfl
                try simp only [Act.put, List.setIfInBounds_toArray, List.set_cons_zero, List.set_cons_succ]
                refine wpStore_take (i := 15) (oi := { dst := some 182, op := _, type := _, pos := _, after := _, guard := _ }) (v := ?_) false false rfl (by kernel_rfl) (by kernel_rfl) (by kernel_rfl) (by kernel_rfl) (fun _ _ _ h => h) (Or.inl ⟨by rfl, ?_⟩) (by assumption) (fun hSta => ?_)
                rotate_left 1
                · intro wS hSw
                  obtain ⟨⟨r1, r2, r3, r4⟩, s3, s4⟩ := hSw
                  clear s3
                  clear s4
                  go_simp
                  all_goals with_reducible rfl
                try simp only [Act.put, List.setIfInBounds_toArray, List.set_cons_zero, List.set_cons_succ]
                refine wpStore_take (i := 16) (oi := { dst := some 183, op := _, type := _, pos := _, after := _, guard := _ }) (v := ?_) false false rfl (by kernel_rfl) (by kernel_rfl) (by kernel_rfl) (by kernel_rfl) (fun _ _ _ h => h) (Or.inl ⟨by rfl, ?_⟩) (by assumption) (fun hSta => ?_)
                rotate_left 1
                · intro wS hSw
                  obtain ⟨⟨r1, r2, r3, r4⟩, s3, s4⟩ := hSw
                  clear s3
                  clear s4
                  go_simp
                  all_goals with_reducible rfl
                try simp only [Act.put, List.setIfInBounds_toArray, List.set_cons_zero, List.set_cons_succ]
                refine wpStore_take (i := 17) (oi := { dst := some 184, op := _, type := _, pos := _, after := _, guard := _ }) (v := ?_) false false rfl (by kernel_rfl) (by kernel_rfl) (by kernel_rfl) (by kernel_rfl) (fun _ _ _ h => h) (Or.inl ⟨by rfl, ?_⟩) (by assumption) (fun hSta => ?_)
                rotate_left 1
                · intro wS hSw
                  obtain ⟨⟨r1, r2, r3, r4⟩, s3, s4⟩ := hSw
                  clear s3
                  clear s4
                  go_simp
                  all_goals with_reducible rfl
                try simp only [Act.put, List.setIfInBounds_toArray, List.set_cons_zero, List.set_cons_succ]
                refine wpStore_take (i := 18) (oi := { dst := some 185, op := _, type := _, pos := _, after := _, guard := _ }) (v := ?_) false false rfl (by kernel_rfl) (by kernel_rfl) (by kernel_rfl) (by kernel_rfl) (fun _ _ _ h => h) (Or.inl ⟨by rfl, ?_⟩) (by assumption) (fun hSta => ?_)
                rotate_left 1
                · intro wS hSw
                  obtain ⟨⟨r1, r2, r3, r4⟩, s3, s4⟩ := hSw
                  clear s3
                  clear s4
                  go_simp
                  all_goals with_reducible rfl
                try simp only [Act.put, List.setIfInBounds_toArray, List.set_cons_zero, List.set_cons_succ]
                refine wpStore_take (i := 19) (oi := { dst := some 186, op := _, type := _, pos := _, after := _, guard := _ }) (v := ?_) false false rfl (by kernel_rfl) (by kernel_rfl) (by kernel_rfl) (by kernel_rfl) (fun _ _ _ h => h) (Or.inl ⟨by rfl, ?_⟩) (by assumption) (fun hSta => ?_)
                rotate_left 1
                · intro wS hSw
                  obtain ⟨⟨r1, r2, r3, r4⟩, s3, s4⟩ := hSw
                  clear s3
                  clear s4
                  go_simp
                  all_goals with_reducible rfl
                try simp only [Act.put, List.setIfInBounds_toArray, List.set_cons_zero, List.set_cons_succ]
                refine wpStore_take (i := 20) (oi := { dst := some 187, op := _, type := _, pos := _, after := _, guard := _ }) (v := ?_) false false rfl (by kernel_rfl) (by kernel_rfl) (by kernel_rfl) (by kernel_rfl) (fun _ _ _ h => h) (Or.inl ⟨by rfl, ?_⟩) (by assumption) (fun hSta => ?_)
                rotate_left 1
                · intro wS hSw
                  obtain ⟨⟨r1, r2, r3, r4⟩, s3, s4⟩ := hSw
                  clear s3
                  clear s4
                  go_simp
                  all_goals with_reducible rfl
                try simp only [Act.put, List.setIfInBounds_toArray, List.set_cons_zero, List.set_cons_succ]
                refine wpStore_take (i := 21) (oi := { dst := some 188, op := _, type := _, pos := _, after := _, guard := _ }) (v := ?_) false false rfl (by kernel_rfl) (by kernel_rfl) (by kernel_rfl) (by kernel_rfl) (fun _ _ _ h => h) (Or.inl ⟨by rfl, ?_⟩) (by assumption) (fun hSta => ?_)
                rotate_left 1
                · intro wS hSw
                  obtain ⟨⟨r1, r2, r3, r4⟩, s3, s4⟩ := hSw
                  clear s3
                  clear s4
                  go_simp
                  all_goals with_reducible rfl
                try simp only [Act.put, List.setIfInBounds_toArray, List.set_cons_zero, List.set_cons_succ]
                refine wpStore_take (i := 22) (oi := { dst := some 189, op := _, type := _, pos := _, after := _, guard := _ }) (v := ?_) false false rfl (by kernel_rfl) (by kernel_rfl) (by kernel_rfl) (by kernel_rfl) (fun _ _ _ h => h) (Or.inl ⟨by rfl, ?_⟩) (by assumption) (fun hSta => ?_)
                rotate_left 1
                · intro wS hSw
                  obtain ⟨⟨r1, r2, r3, r4⟩, s3, s4⟩ := hSw
                  clear s3
                  clear s4
                  go_simp
                  all_goals with_reducible rfl
                try simp only [Act.put, List.setIfInBounds_toArray, List.set_cons_zero, List.set_cons_succ]
                refine wpStore_take (i := 23) (oi := { dst := some 190, op := _, type := _, pos := _, after := _, guard := _ }) (v := ?_) false false rfl (by kernel_rfl) (by kernel_rfl) (by kernel_rfl) (by kernel_rfl) (fun _ _ _ h => h) (Or.inl ⟨by rfl, ?_⟩) (by assumption) (fun hSta => ?_)
                rotate_left 1
                · intro wS hSw
                  obtain ⟨⟨r1, r2, r3, r4⟩, s3, s4⟩ := hSw
                  clear s3
                  clear s4
                  go_simp
                  all_goals with_reducible rfl
                try simp only [Act.put, List.setIfInBounds_toArray, List.set_cons_zero, List.set_cons_succ]
                obtain ⟨Y, HY⟩ : ∃ b : Bool, Hid (b = ((qx : Int) == (hi : Int))) := ⟨_, hide rfl⟩
                refine wpStore_one (i := 24) (o := { dst := none, op := _, type := _, pos := _, after := _, guard := _ }) (by kernel_rfl) rfl (fun K hK => ?_)
                go_simp
                rw [← HY.out]
                have HB2 := hide (show Below w8.heap.size w8 (W1.setCell ⟨w8.heap.size, 2, none⟩ (.bool Y)).drew from (HB1.out.setCell (p := ⟨w8.heap.size, 2, none⟩) (Nat.le_refl _) (.bool Y)).drew)
                have HK2 := hide (show Blk (W1.setCell ⟨w8.heap.size, 2, none⟩ (.bool Y)).drew w8.heap.size 4 #[.bool X, .bool T1, .bool Y, .bool T3] from HK1.out.set1 (i := 2) (.bool Y))
                obtain ⟨v0, v1, v2, v3, v4, v5⟩ := HZi.out _ HB2.out
                refine hK.out _ _ ⟨⟨v0, v1, v3, v5⟩, fun h => absurd h (by decide), fun _ => trivial⟩ (fun hSta => ?_)
                clear hK K
                try simp only [Act.put, List.setIfInBounds_toArray, List.set_cons_zero, List.set_cons_succ]
                refine wpStore_done (by kernel_rfl) ?_ _
                clear hSta tc tz
                generalize (W1.setCell ⟨w8.heap.size, 2, none⟩ (.bool Y)).drew = W2 at *
                clear v0 v1 v2 v3 v4 v5
                go_wp2
                have HQ := hide (show ((al.map LP.p).getD j []).getD 0 0 = qx by rw [HPJ.out]; rfl)
                have e0 : met (al.map LP.p) 0 (loT (al.map LP.p) 0 nl) (metTo 1 j 0) = X := by
                  show met (al.map LP.p) 0 (loT (al.map LP.p) 0 nl) (j + 1) = X
                  rw [met_next HQ.out, show met (al.map LP.p) 0 (loT (al.map LP.p) 0 nl) j = false from HTE.out.1.symm]
                  rw [Bool.false_or, ← HLO.out, ← HX.out]
                have e2 : met (al.map LP.p) 0 (hiT (al.map LP.p) 0 nl) (metTo 1 j 0) = Y := by
                  show met (al.map LP.p) 0 (hiT (al.map LP.p) 0 nl) (j + 1) = Y
                  rw [met_next HQ.out, show met (al.map LP.p) 0 (hiT (al.map LP.p) 0 nl) j = false from HTE.out.2.2.1.symm]
                  rw [Bool.false_or, ← HHI.out, ← HY.out]
                have e1 : met (al.map LP.p) 1 (loT (al.map LP.p) 1 nl) (metTo 1 j 1) = T1 := HTE.out.2.1.symm
                have e3 : met (al.map LP.p) 1 (hiT (al.map LP.p) 1 nl) (metTo 1 j 1) = T3 := HTE.out.2.2.2.symm
                refine ⟨⟨1, 1, by go_num, rfl, by omega, ?_, HB2.out⟩, by simp only [intOf]; omega⟩
                unfold tAt
                rw [e0, e1, e2, e3]
                exact HK2.out
          · obtain rfl : z = 1 := by omega
            clear hz
            go_wp2
            obtain ⟨lo, HLO⟩ : ∃ lo, Hid (lo = loT (al.map LP.p) 1 nl) := ⟨_, hide rfl⟩
            obtain ⟨hi, HHI⟩ : ∃ hi, Hid (hi = hiT (al.map LP.p) 1 nl) := ⟨_, hide rfl⟩
            have HLH := hide (show lo ≤ qy ∧ qy ≤ hi by rw [HLO.out, HHI.out]; exact HLY.out)
            obtain ⟨T0, T1, T2, T3, HTE, hbk⟩ : ∃ T0 T1 T2 T3, Hid (T0 = met (al.map LP.p) 0 (loT (al.map LP.p) 0 nl) (metTo 1 j 0) ∧ T1 = met (al.map LP.p) 1 (loT (al.map LP.p) 1 nl) (metTo 1 j 1) ∧ T2 = met (al.map LP.p) 0 (hiT (al.map LP.p) 0 nl) (metTo 1 j 0) ∧ T3 = met (al.map LP.p) 1 (hiT (al.map LP.p) 1 nl) (metTo 1 j 1)) ∧ Blk wy w8.heap.size 4 #[.bool T0, .bool T1, .bool T2, .bool T3] := ⟨_, _, _, _, hide ⟨rfl, rfl, rfl, rfl⟩, HTA.out⟩
            have HBK := hide hbk
            have tc : wy.cell? ⟨w8.heap.size, 1, none⟩ = some (.bool T1) := hbk.cell 1
            have tz : wy.frozen? ⟨w8.heap.size, 1, none⟩ = false := hbk.frozen 1
            clear hbk
            have HZi := hide (fun (W' : World) (hW : Below w8.heap.size w8 W') => show (fun w' => w'.cell? ⟨b, o + j, none⟩ = some (.slice (some ⟨qb, qo, none⟩) 2 q.c) ∧ w'.cell? ⟨qb, qo + 1, none⟩ = some (.int .u64 (qy : Int)) ∧ w'.cell? ⟨w6.heap.size, 0, none⟩ = some (.slice (some ⟨g1, 0, none⟩) 2 c1) ∧ w'.cell? ⟨w6.heap.size, 1, none⟩ = some (.slice (some ⟨g2, 0, none⟩) 2 c2) ∧ w'.cell? ⟨g1, 1, none⟩ = some (.int .u64 (lo : Int)) ∧ w'.cell? ⟨g2, 1, none⟩ = some (.int .u64 (hi : Int))) W' from by
              obtain ⟨⟨a0, a1, a2⟩, b0, b1, d0, d1, e0, e1⟩ := HZ.out W' hW
              rw [HLO.out, HHI.out]
              exact ⟨a0, a2, b0, b1, d1, e1⟩)
            clear x0 x1 x2 y0 y1 l0 l1 u0 u1
            refine wp_region_held_drew (S := fun w' => w'.cell? ⟨b, o + j, none⟩ = some (.slice (some ⟨qb, qo, none⟩) 2 q.c) ∧ w'.cell? ⟨qb, qo + 1, none⟩ = some (.int .u64 (qy : Int)) ∧ w'.cell? ⟨w6.heap.size, 0, none⟩ = some (.slice (some ⟨g1, 0, none⟩) 2 c1) ∧ w'.cell? ⟨w6.heap.size, 1, none⟩ = some (.slice (some ⟨g2, 0, none⟩) 2 c2) ∧ w'.cell? ⟨g1, 1, none⟩ = some (.int .u64 (lo : Int)) ∧ w'.cell? ⟨g2, 1, none⟩ = some (.int .u64 (hi : Int))) (by kernel_rfl) (HZi.out wy.drew HBY.out.drew) (fun hHeld => ?_)
            have n1 : ¬ (qy : Int) < (lo : Int) := by have := HLH.out; omega
            have n2 : ¬ (hi : Int) < (qy : Int) := by have := HLH.out; omega
            refine wpAnyH_take (i := 0) (oi := { dst := some 117, op := _, type := _, pos := _, after := _, guard := _ }) (v := ?_) rfl (by kernel_rfl) (by kernel_rfl) (by kernel_rfl) (fun _ _ _ h => h) (Or.inl ⟨by rfl, ?_⟩) (by assumption) ?_
            rotate_left 1
            · intro wS hSw
              try dsimp only at hSw
              go_simp
              all_goals with_reducible rfl
            try simp only [Act.put, List.setIfInBounds_toArray, List.set_cons_zero, List.set_cons_succ]
            refine wpAnyH_take (i := 1) (oi := { dst := some 118, op := _, type := _, pos := _, after := _, guard := _ }) (v := ?_) rfl (by kernel_rfl) (by kernel_rfl) (by kernel_rfl) (fun _ _ _ h => h) (Or.inl ⟨by rfl, ?_⟩) (by assumption) ?_
            rotate_left 1
            · intro wS hSw
              try dsimp only at hSw
              go_simp
              all_goals with_reducible rfl
            try simp only [Act.put, List.setIfInBounds_toArray, List.set_cons_zero, List.set_cons_succ]
            refine wpAnyH_take (i := 2) (oi := { dst := some 119, op := _, type := _, pos := _, after := _, guard := _ }) (v := ?_) rfl (by kernel_rfl) (by kernel_rfl) (by kernel_rfl) (fun _ _ _ h => h) (Or.inl ⟨by rfl, ?_⟩) (by assumption) ?_
            rotate_left 1
            · intro wS hSw
              try dsimp only at hSw
              go_simp
              all_goals with_reducible rfl
            try simp only [Act.put, List.setIfInBounds_toArray, List.set_cons_zero, List.set_cons_succ]
            refine wpAnyH_take (i := 3) (oi := { dst := some 120, op := _, type := _, pos := _, after := _, guard := _ }) (v := ?_) rfl (by kernel_rfl) (by kernel_rfl) (by kernel_rfl) (fun _ _ _ h => h) (Or.inl ⟨by rfl, ?_⟩) (by assumption) ?_
            rotate_left 1
            · intro wS hSw
              try dsimp only at hSw
              go_simp
              all_goals with_reducible rfl
            try simp only [Act.put, List.setIfInBounds_toArray, List.set_cons_zero, List.set_cons_succ]
            refine wpAnyH_take (i := 4) (oi := { dst := some 121, op := _, type := _, pos := _, after := _, guard := _ }) (v := ?_) rfl (by kernel_rfl) (by kernel_rfl) (by kernel_rfl) (fun _ _ _ h => h) (Or.inl ⟨by rfl, ?_⟩) (by assumption) ?_
            rotate_left 1
            · intro wS hSw
              try dsimp only at hSw
              go_simp
              all_goals with_reducible rfl
            try simp only [Act.put, List.setIfInBounds_toArray, List.set_cons_zero, List.set_cons_succ]
            refine wpAnyH_take (i := 5) (oi := { dst := some 122, op := _, type := _, pos := _, after := _, guard := _ }) (v := ?_) rfl (by kernel_rfl) (by kernel_rfl) (by kernel_rfl) (fun _ _ _ h => h) (Or.inl ⟨by rfl, ?_⟩) (by assumption) ?_
            rotate_left 1
            · intro wS hSw
              try dsimp only at hSw
              go_simp
              all_goals with_reducible rfl
            try simp only [Act.put, List.setIfInBounds_toArray, List.set_cons_zero, List.set_cons_succ]
            refine wpAnyH_take (i := 6) (oi := { dst := some 123, op := _, type := _, pos := _, after := _, guard := _ }) (v := ?_) rfl (by kernel_rfl) (by kernel_rfl) (by kernel_rfl) (fun _ _ _ h => h) (Or.inl ⟨by rfl, ?_⟩) (by assumption) ?_
            rotate_left 1
            · intro wS hSw
              try dsimp only at hSw
              go_simp
              all_goals with_reducible rfl
            try simp only [Act.put, List.setIfInBounds_toArray, List.set_cons_zero, List.set_cons_succ]
            refine wpAnyH_take (i := 7) (oi := { dst := some 124, op := _, type := _, pos := _, after := _, guard := _ }) (v := ?_) rfl (by kernel_rfl) (by kernel_rfl) (by kernel_rfl) (fun _ _ _ h => h) (Or.inl ⟨by rfl, ?_⟩) (by assumption) ?_
            rotate_left 1
            · intro wS hSw
              try dsimp only at hSw
              go_simp
              all_goals with_reducible rfl
            try simp only [Act.put, List.setIfInBounds_toArray, List.set_cons_zero, List.set_cons_succ]
            refine wpAnyH_take (i := 8) (oi := { dst := some 125, op := _, type := _, pos := _, after := _, guard := _ }) (v := ?_) rfl (by kernel_rfl) (by kernel_rfl) (by kernel_rfl) (fun _ _ _ h => h) (Or.inl ⟨by rfl, ?_⟩) (by assumption) ?_
            rotate_left 1
            · intro wS hSw
              try dsimp only at hSw
              go_simp
              all_goals with_reducible rfl
            try simp only [Act.put, List.setIfInBounds_toArray, List.set_cons_zero, List.set_cons_succ]
            refine wpAnyH_take (i := 9) (oi := { dst := some 126, op := _, type := _, pos := _, after := _, guard := _ }) (v := ?_) rfl (by kernel_rfl) (by kernel_rfl) (by kernel_rfl) (fun _ _ _ h => h) (Or.inl ⟨by rfl, ?_⟩) (by assumption) ?_
            rotate_left 1
            · intro wS hSw
              try dsimp only at hSw
              go_simp
              all_goals with_reducible rfl
            try simp only [Act.put, List.setIfInBounds_toArray, List.set_cons_zero, List.set_cons_succ]
            refine wpAnyH_take (i := 10) (oi := { dst := some 127, op := _, type := _, pos := _, after := _, guard := _ }) (v := ?_) rfl (by kernel_rfl) (by kernel_rfl) (by kernel_rfl) (fun _ _ _ h => h) (Or.inl ⟨by rfl, ?_⟩) (by assumption) ?_
            rotate_left 1
            · intro wS hSw
              try dsimp only at hSw
              go_simp
              all_goals with_reducible rfl
            try simp only [Act.put, List.setIfInBounds_toArray, List.set_cons_zero, List.set_cons_succ]
            refine wpAnyH_take (i := 11) (oi := { dst := some 128, op := _, type := _, pos := _, after := _, guard := _ }) (v := ?_) rfl (by kernel_rfl) (by kernel_rfl) (by kernel_rfl) (fun _ _ _ h => h) (Or.inl ⟨by rfl, ?_⟩) (by assumption) ?_
            rotate_left 1
            · intro wS hSw
              try dsimp only at hSw
              go_simp
              all_goals with_reducible rfl
            try simp only [Act.put, List.setIfInBounds_toArray, List.set_cons_zero, List.set_cons_succ]
            refine wpAnyH_take (i := 12) (oi := { dst := some 129, op := _, type := _, pos := _, after := _, guard := _ }) (v := ?_) rfl (by kernel_rfl) (by kernel_rfl) (by kernel_rfl) (fun _ _ _ h => h) (Or.inl ⟨by rfl, ?_⟩) (by assumption) ?_
            rotate_left 1
            · intro wS hSw
              try dsimp only at hSw
              go_simp
              all_goals with_reducible rfl
            try simp only [Act.put, List.setIfInBounds_toArray, List.set_cons_zero, List.set_cons_succ]
            refine wpAnyH_take (i := 13) (oi := { dst := some 130, op := _, type := _, pos := _, after := _, guard := _ }) (v := ?_) rfl (by kernel_rfl) (by kernel_rfl) (by kernel_rfl) (fun _ _ _ h => h) (Or.inl ⟨by rfl, ?_⟩) (by assumption) ?_
            rotate_left 1
            · intro wS hSw
              try dsimp only at hSw
              go_simp
              all_goals with_reducible rfl
            try simp only [Act.put, List.setIfInBounds_toArray, List.set_cons_zero, List.set_cons_succ]
            refine wpAnyH_take (i := 14) (oi := { dst := some 131, op := _, type := _, pos := _, after := _, guard := _ }) (v := ?_) rfl (by kernel_rfl) (by kernel_rfl) (by kernel_rfl) (fun _ _ _ h => h) (Or.inl ⟨by rfl, ?_⟩) (by assumption) ?_
            rotate_left 1
            · intro wS hSw
              try dsimp only at hSw
              go_simp
              all_goals with_reducible rfl
            try simp only [Act.put, List.setIfInBounds_toArray, List.set_cons_zero, List.set_cons_succ]
            refine wpAnyH_take (i := 15) (oi := { dst := some 132, op := _, type := _, pos := _, after := _, guard := _ }) (v := ?_) rfl (by kernel_rfl) (by kernel_rfl) (by kernel_rfl) (fun _ _ _ h => h) (Or.inl ⟨by rfl, ?_⟩) (by assumption) ?_
            rotate_left 1
            · intro wS hSw
              try dsimp only at hSw
              go_simp
              all_goals with_reducible rfl
            try simp only [Act.put, List.setIfInBounds_toArray, List.set_cons_zero, List.set_cons_succ]
            refine wpAnyH_take (i := 16) (oi := { dst := some 133, op := _, type := _, pos := _, after := _, guard := _ }) (v := ?_) rfl (by kernel_rfl) (by kernel_rfl) (by kernel_rfl) (fun _ _ _ h => h) (Or.inl ⟨by rfl, ?_⟩) (by assumption) ?_
            rotate_left 1
            · intro wS hSw
              try dsimp only at hSw
              go_simp
              all_goals with_reducible rfl
            try simp only [Act.put, List.setIfInBounds_toArray, List.set_cons_zero, List.set_cons_succ]
            refine wpAnyH_take (i := 17) (oi := { dst := some 134, op := _, type := _, pos := _, after := _, guard := _ }) (v := ?_) rfl (by kernel_rfl) (by kernel_rfl) (by kernel_rfl) (fun _ _ _ h => h) (Or.inl ⟨by rfl, ?_⟩) (by assumption) ?_
            rotate_left 1
            · intro wS hSw
              try dsimp only at hSw
              go_simp
              all_goals with_reducible rfl
            try simp only [Act.put, List.setIfInBounds_toArray, List.set_cons_zero, List.set_cons_succ]
            refine wpAnyH_take (i := 18) (oi := { dst := some 135, op := _, type := _, pos := _, after := _, guard := _ }) (v := ?_) rfl (by kernel_rfl) (by kernel_rfl) (by kernel_rfl) (fun _ _ _ h => h) (Or.inl ⟨by rfl, ?_⟩) (by assumption) ?_
            rotate_left 1
            · intro wS hSw
              try dsimp only at hSw
              go_simp
              all_goals with_reducible rfl
            try simp only [Act.put, List.setIfInBounds_toArray, List.set_cons_zero, List.set_cons_succ]
            refine wpAnyH_take (i := 19) (oi := { dst := some 136, op := _, type := _, pos := _, after := _, guard := _ }) (v := ?_) rfl (by kernel_rfl) (by kernel_rfl) (by kernel_rfl) (fun _ _ _ h => h) (Or.inl ⟨by rfl, ?_⟩) (by assumption) ?_
            rotate_left 1
            · intro wS hSw
              try dsimp only at hSw
              go_simp
              all_goals with_reducible rfl
            try simp only [Act.put, List.setIfInBounds_toArray, List.set_cons_zero, List.set_cons_succ]
            refine wpAnyH_take (i := 20) (oi := { dst := some 137, op := _, type := _, pos := _, after := _, guard := _ }) (v := ?_) rfl (by kernel_rfl) (by kernel_rfl) (by kernel_rfl) (fun _ _ _ h => h) (Or.inl ⟨by rfl, ?_⟩) (by assumption) ?_
            rotate_left 1
            · intro wS hSw
              try dsimp only at hSw
              go_simp
              all_goals with_reducible rfl
            try simp only [Act.put, List.setIfInBounds_toArray, List.set_cons_zero, List.set_cons_succ]
            refine wpAnyH_take (i := 21) (oi := { dst := some 138, op := _, type := _, pos := _, after := _, guard := _ }) (v := ?_) rfl (by kernel_rfl) (by kernel_rfl) (by kernel_rfl) (fun _ _ _ h => h) (Or.inl ⟨by rfl, ?_⟩) (by assumption) ?_
            rotate_left 1
            · intro wS hSw
              try dsimp only at hSw
              go_simp
              all_goals with_reducible rfl
            try simp only [Act.put, List.setIfInBounds_toArray, List.set_cons_zero, List.set_cons_succ]
            refine wpAnyH_take (i := 22) (oi := { dst := some 139, op := _, type := _, pos := _, after := _, guard := _ }) (v := ?_) rfl (by kernel_rfl) (by kernel_rfl) (by kernel_rfl) (fun _ _ _ h => h) (Or.inl ⟨by rfl, ?_⟩) (by assumption) ?_
            rotate_left 1
            · intro wS hSw
              try dsimp only at hSw
              go_simp
              all_goals with_reducible rfl
            try simp only [Act.put, List.setIfInBounds_toArray, List.set_cons_zero, List.set_cons_succ]
            refine wpAnyH_take (i := 23) (oi := { dst := some 140, op := _, type := _, pos := _, after := _, guard := _ }) (v := ?_) rfl (by kernel_rfl) (by kernel_rfl) (by kernel_rfl) (fun _ _ _ h => h) (Or.inl ⟨by rfl, ?_⟩) (by assumption) ?_
            rotate_left 1
            · intro wS hSw
              try dsimp only at hSw
              go_simp
              all_goals with_reducible rfl
            try simp only [Act.put, List.setIfInBounds_toArray, List.set_cons_zero, List.set_cons_succ]
            refine wpAnyH_take (i := 24) (oi := { dst := some 141, op := _, type := _, pos := _, after := _, guard := _ }) (v := ?_) rfl (by kernel_rfl) (by kernel_rfl) (by kernel_rfl) (fun _ _ _ h => h) (Or.inl ⟨by rfl, ?_⟩) (by assumption) ?_
            rotate_left 1
            · intro wS hSw
              try dsimp only at hSw
              go_simp
              all_goals with_reducible rfl
            try simp only [Act.put, List.setIfInBounds_toArray, List.set_cons_zero, List.set_cons_succ]
            refine wpAnyH_take (i := 25) (oi := { dst := some 142, op := _, type := _, pos := _, after := _, guard := _ }) (v := ?_) rfl (by kernel_rfl) (by kernel_rfl) (by kernel_rfl) (fun _ _ _ h => h) (Or.inl ⟨by rfl, ?_⟩) (by assumption) ?_
            rotate_left 1
            · intro wS hSw
              try dsimp only at hSw
              go_simp
              all_goals with_reducible rfl
            try simp only [Act.put, List.setIfInBounds_toArray, List.set_cons_zero, List.set_cons_succ]
            refine wpAnyH_take (i := 26) (oi := { dst := some 143, op := _, type := _, pos := _, after := _, guard := _ }) (v := ?_) rfl (by kernel_rfl) (by kernel_rfl) (by kernel_rfl) (fun _ _ _ h => h) (Or.inl ⟨by rfl, ?_⟩) (by assumption) ?_
            rotate_left 1
            · intro wS hSw
              try dsimp only at hSw
              go_simp
              all_goals with_reducible rfl
            try simp only [Act.put, List.setIfInBounds_toArray, List.set_cons_zero, List.set_cons_succ]
            refine wpAnyH_take (i := 27) (oi := { dst := some 144, op := _, type := _, pos := _, after := _, guard := _ }) (v := ?_) rfl (by kernel_rfl) (by kernel_rfl) (by kernel_rfl) (fun _ _ _ h => h) (Or.inl ⟨by rfl, ?_⟩) (by assumption) ?_
            rotate_left 1
            · intro wS hSw
              try dsimp only at hSw
              go_simp
              all_goals with_reducible rfl
            try simp only [Act.put, List.setIfInBounds_toArray, List.set_cons_zero, List.set_cons_succ]
            refine wpAnyH_done (by kernel_rfl) ?_ _
            clear n1 n2 hHeld
            go_wp2
            obtain ⟨z0, z1, z2, z3, z4, z5⟩ := HZi.out wy HBY.out
            cases T1 with
            | true =>
              refine wp_region_store 22 1000 (fun w' => w'.cell? ⟨b, o + j, none⟩ = some (.slice (some ⟨qb, qo, none⟩) 2 q.c) ∧ w'.cell? ⟨qb, qo + 1, none⟩ = some (.int .u64 (qy : Int)) ∧ w'.cell? ⟨w6.heap.size, 0, none⟩ = some (.slice (some ⟨g1, 0, none⟩) 2 c1) ∧ w'.cell? ⟨g1, 1, none⟩ = some (.int .u64 (lo : Int))) (fun w' => w'.cell? ⟨w8.heap.size, 1, none⟩ = some (.bool true)) (fun _ => True) (by kernel_rfl) ⟨⟨z0, z1, z2, z4⟩, tc, trivial⟩ (fun hSta => ?_)
              refine wpStore_take (i := 0) (oi := { dst := some 145, op := _, type := _, pos := _, after := _, guard := _ }) (v := ?_) false false rfl (by kernel_rfl) (by kernel_rfl) (by kernel_rfl) (by kernel_rfl) (fun _ _ _ h => h) (Or.inl ⟨by rfl, ?_⟩) (by assumption) (fun hSta => ?_)
              rotate_left 1
              · intro wS hSw
                obtain ⟨⟨r1, r2, r3, r4⟩, s3, s4⟩ := hSw
                clear s3
                clear s4
                go_simp
                all_goals with_reducible rfl
              try simp only [Act.put, List.setIfInBounds_toArray, List.set_cons_zero, List.set_cons_succ]
              refine wpStore_take (i := 1) (oi := { dst := some 146, op := _, type := _, pos := _, after := _, guard := _ }) (v := ?_) false false rfl (by kernel_rfl) (by kernel_rfl) (by kernel_rfl) (by kernel_rfl) (fun _ _ _ h => h) (Or.inl ⟨by rfl, ?_⟩) (by assumption) (fun hSta => ?_)
              rotate_left 1
              · intro wS hSw
                obtain ⟨⟨r1, r2, r3, r4⟩, s3, s4⟩ := hSw
                clear s3
                clear s4
                go_simp
                all_goals with_reducible rfl
              try simp only [Act.put, List.setIfInBounds_toArray, List.set_cons_zero, List.set_cons_succ]
              refine wpStore_take (i := 2) (oi := { dst := some 147, op := _, type := _, pos := _, after := _, guard := _ }) (v := ?_) false false rfl (by kernel_rfl) (by kernel_rfl) (by kernel_rfl) (by kernel_rfl) (fun _ _ _ h => h) (Or.inl ⟨by rfl, ?_⟩) (by assumption) (fun hSta => ?_)
              rotate_left 1
              · intro wS hSw
                obtain ⟨⟨r1, r2, r3, r4⟩, s3, s4⟩ := hSw
                clear s3
                clear s4
                go_simp
                all_goals with_reducible rfl
              try simp only [Act.put, List.setIfInBounds_toArray, List.set_cons_zero, List.set_cons_succ]
              refine wpStore_take (i := 3) (oi := { dst := some 148, op := _, type := _, pos := _, after := _, guard := _ }) (v := ?_) false false rfl (by kernel_rfl) (by kernel_rfl) (by kernel_rfl) (by kernel_rfl) (fun _ _ _ h => h) (Or.inl ⟨by rfl, ?_⟩) (by assumption) (fun hSta => ?_)
              rotate_left 1
              · intro wS hSw
                obtain ⟨⟨r1, r2, r3, r4⟩, s3, s4⟩ := hSw
                clear s3
                clear s4
                go_simp
                all_goals with_reducible rfl
              try simp only [Act.put, List.setIfInBounds_toArray, List.set_cons_zero, List.set_cons_succ]
              refine wpStore_take (i := 4) (oi := { dst := some 149, op := _, type := _, pos := _, after := _, guard := _ }) (v := ?_) false false rfl (by kernel_rfl) (by kernel_rfl) (by kernel_rfl) (by kernel_rfl) (fun _ _ _ h => h) (Or.inl ⟨by rfl, ?_⟩) (by assumption) (fun hSta => ?_)
              rotate_left 1
              · intro wS hSw
                obtain ⟨⟨r1, r2, r3, r4⟩, s3, s4⟩ := hSw
                clear s3
                clear s4
                go_simp
                all_goals with_reducible rfl
              try simp only [Act.put, List.setIfInBounds_toArray, List.set_cons_zero, List.set_cons_succ]
              refine wpStore_take (i := 5) (oi := { dst := some 150, op := _, type := _, pos := _, after := _, guard := _ }) (v := ?_) true false rfl (by kernel_rfl) (by kernel_rfl) (by kernel_rfl) (by kernel_rfl) (fun _ _ _ h => h) (Or.inl ⟨by rfl, ?_⟩) (by assumption) (fun hSta => ?_)
              rotate_left 1
              · intro wS hSw
                obtain ⟨⟨r1, r2, r3, r4⟩, s3, s4⟩ := hSw
                have s3 := s3 rfl
                clear s4
                go_simp
                all_goals with_reducible rfl
              try simp only [Act.put, List.setIfInBounds_toArray, List.set_cons_zero, List.set_cons_succ]
              refine wpStore_take (i := 6) (oi := { dst := some 151, op := _, type := _, pos := _, after := _, guard := _ }) (v := ?_) false false rfl (by kernel_rfl) (by kernel_rfl) (by kernel_rfl) (by kernel_rfl) (fun _ _ _ h => h) (Or.inl ⟨by rfl, ?_⟩) (by assumption) (fun hSta => ?_)
              rotate_left 1
              · intro wS hSw
                obtain ⟨⟨r1, r2, r3, r4⟩, s3, s4⟩ := hSw
                clear s3
                clear s4
                go_simp
                all_goals with_reducible rfl
              try simp only [Act.put, List.setIfInBounds_toArray, List.set_cons_zero, List.set_cons_succ]
              refine wpStore_take (i := 7) (oi := { dst := some 152, op := _, type := _, pos := _, after := _, guard := _ }) (v := undef) false false rfl (by kernel_rfl) (by kernel_rfl) (by kernel_rfl) (by kernel_rfl) (fun _ _ _ h => h) (Or.inr ⟨by rfl, rfl⟩) (by assumption) (fun hSta => ?_)
              try simp only [Act.put, List.setIfInBounds_toArray, List.set_cons_zero, List.set_cons_succ]
              refine wpStore_take (i := 8) (oi := { dst := some 153, op := _, type := _, pos := _, after := _, guard := _ }) (v := undef) false false rfl (by kernel_rfl) (by kernel_rfl) (by kernel_rfl) (by kernel_rfl) (fun _ _ _ h => h) (Or.inr ⟨by rfl, rfl⟩) (by assumption) (fun hSta => ?_)
              try simp only [Act.put, List.setIfInBounds_toArray, List.set_cons_zero, List.set_cons_succ]
              refine wpStore_take (i := 9) (oi := { dst := some 154, op := _, type := _, pos := _, after := _, guard := _ }) (v := undef) false false rfl (by kernel_rfl) (by kernel_rfl) (by kernel_rfl) (by kernel_rfl) (fun _ _ _ h => h) (Or.inr ⟨by rfl, rfl⟩) (by assumption) (fun hSta => ?_)
              try simp only [Act.put, List.setIfInBounds_toArray, List.set_cons_zero, List.set_cons_succ]
              refine wpStore_take (i := 10) (oi := { dst := some 155, op := _, type := _, pos := _, after := _, guard := _ }) (v := undef) false false rfl (by kernel_rfl) (by kernel_rfl) (by kernel_rfl) (by kernel_rfl) (fun _ _ _ h => h) (Or.inr ⟨by rfl, rfl⟩) (by assumption) (fun hSta => ?_)
              try simp only [Act.put, List.setIfInBounds_toArray, List.set_cons_zero, List.set_cons_succ]
              refine wpStore_take (i := 11) (oi := { dst := some 156, op := _, type := _, pos := _, after := _, guard := _ }) (v := undef) false false rfl (by kernel_rfl) (by kernel_rfl) (by kernel_rfl) (by kernel_rfl) (fun _ _ _ h => h) (Or.inr ⟨by rfl, rfl⟩) (by assumption) (fun hSta => ?_)
              try simp only [Act.put, List.setIfInBounds_toArray, List.set_cons_zero, List.set_cons_succ]
              refine wpStore_take (i := 12) (oi := { dst := some 157, op := _, type := _, pos := _, after := _, guard := _ }) (v := undef) false false rfl (by kernel_rfl) (by kernel_rfl) (by kernel_rfl) (by kernel_rfl) (fun _ _ _ h => h) (Or.inr ⟨by rfl, rfl⟩) (by assumption) (fun hSta => ?_)
              try simp only [Act.put, List.setIfInBounds_toArray, List.set_cons_zero, List.set_cons_succ]
              refine wpStore_take (i := 13) (oi := { dst := some 158, op := _, type := _, pos := _, after := _, guard := _ }) (v := undef) false false rfl (by kernel_rfl) (by kernel_rfl) (by kernel_rfl) (by kernel_rfl) (fun _ _ _ h => h) (Or.inr ⟨by rfl, rfl⟩) (by assumption) (fun hSta => ?_)
              try simp only [Act.put, List.setIfInBounds_toArray, List.set_cons_zero, List.set_cons_succ]
              refine wpStore_take (i := 14) (oi := { dst := some 159, op := _, type := _, pos := _, after := _, guard := _ }) (v := undef) false false rfl (by kernel_rfl) (by kernel_rfl) (by kernel_rfl) (by kernel_rfl) (fun _ _ _ h => h) (Or.inr ⟨by rfl, rfl⟩) (by assumption) (fun hSta => ?_)
              try simp only [Act.put, List.setIfInBounds_toArray, List.set_cons_zero, List.set_cons_succ]
              refine wpStore_take (i := 15) (oi := { dst := some 160, op := _, type := _, pos := _, after := _, guard := _ }) (v := undef) false false rfl (by kernel_rfl) (by kernel_rfl) (by kernel_rfl) (by kernel_rfl) (fun _ _ _ h => h) (Or.inr ⟨by rfl, rfl⟩) (by assumption) (fun hSta => ?_)
              try simp only [Act.put, List.setIfInBounds_toArray, List.set_cons_zero, List.set_cons_succ]
              refine wpStore_take (i := 16) (oi := { dst := some 161, op := _, type := _, pos := _, after := _, guard := _ }) (v := undef) false false rfl (by kernel_rfl) (by kernel_rfl) (by kernel_rfl) (by kernel_rfl) (fun _ _ _ h => h) (Or.inr ⟨by rfl, rfl⟩) (by assumption) (fun hSta => ?_)
              try simp only [Act.put, List.setIfInBounds_toArray, List.set_cons_zero, List.set_cons_succ]
              refine wpStore_take (i := 17) (oi := { dst := some 162, op := _, type := _, pos := _, after := _, guard := _ }) (v := undef) false false rfl (by kernel_rfl) (by kernel_rfl) (by kernel_rfl) (by kernel_rfl) (fun _ _ _ h => h) (Or.inr ⟨by rfl, rfl⟩) (by assumption) (fun hSta => ?_)
              try simp only [Act.put, List.setIfInBounds_toArray, List.set_cons_zero, List.set_cons_succ]
              refine wpStore_take (i := 18) (oi := { dst := some 163, op := _, type := _, pos := _, after := _, guard := _ }) (v := undef) false false rfl (by kernel_rfl) (by kernel_rfl) (by kernel_rfl) (by kernel_rfl) (fun _ _ _ h => h) (Or.inr ⟨by rfl, rfl⟩) (by assumption) (fun hSta => ?_)
              try simp only [Act.put, List.setIfInBounds_toArray, List.set_cons_zero, List.set_cons_succ]
              refine wpStore_take (i := 19) (oi := { dst := some 164, op := _, type := _, pos := _, after := _, guard := _ }) (v := undef) false false rfl (by kernel_rfl) (by kernel_rfl) (by kernel_rfl) (by kernel_rfl) (fun _ _ _ h => h) (Or.inr ⟨by rfl, rfl⟩) (by assumption) (fun hSta => ?_)
              try simp only [Act.put, List.setIfInBounds_toArray, List.set_cons_zero, List.set_cons_succ]
              refine wpStore_take (i := 20) (oi := { dst := some 165, op := _, type := _, pos := _, after := _, guard := _ }) (v := ?_) false false rfl (by kernel_rfl) (by kernel_rfl) (by kernel_rfl) (by kernel_rfl) (fun _ _ _ h => h) (Or.inl ⟨by rfl, ?_⟩) (by assumption) (fun hSta => ?_)
              rotate_left 1
              · intro wS hSw
                obtain ⟨⟨r1, r2, r3, r4⟩, s3, s4⟩ := hSw
                clear s3
                clear s4
                go_simp
                all_goals with_reducible rfl
              try simp only [Act.put, List.setIfInBounds_toArray, List.set_cons_zero, List.set_cons_succ]
              refine wpStore_take (i := 21) (oi := { dst := some 166, op := _, type := _, pos := _, after := _, guard := _ }) (v := ?_) false false rfl (by kernel_rfl) (by kernel_rfl) (by kernel_rfl) (by kernel_rfl) (fun _ _ _ h => h) (Or.inl ⟨by rfl, ?_⟩) (by assumption) (fun hSta => ?_)
              rotate_left 1
              · intro wS hSw
                obtain ⟨⟨r1, r2, r3, r4⟩, s3, s4⟩ := hSw
                clear s3
                clear s4
                go_simp
                all_goals with_reducible rfl
              try simp only [Act.put, List.setIfInBounds_toArray, List.set_cons_zero, List.set_cons_succ]
              refine wpStore_one (i := 22) (o := { dst := none, op := _, type := _, pos := _, after := _, guard := _ }) (by kernel_rfl) rfl (fun K hK => ?_)
              go_simp
              have HB1 := hide (show Below w8.heap.size w8 (wy.setCell ⟨w8.heap.size, 1, none⟩ (.bool true)).drew.drew from (HBY.out.setCell (p := ⟨w8.heap.size, 1, none⟩) (Nat.le_refl _) (.bool true)).drew.drew)
              have HK1 := hide (show Blk (wy.setCell ⟨w8.heap.size, 1, none⟩ (.bool true)).drew.drew w8.heap.size 4 #[.bool T0, .bool true, .bool T2, .bool T3] from HBK.out.set1 (i := 1) (.bool true))
              obtain ⟨v0, v1, v2, v3, v4, v5⟩ := HZi.out _ HB1.out
              refine hK.out _ _ ⟨⟨v0, v1, v2, v4⟩, fun h => absurd h (by decide), fun _ => trivial⟩ (fun hSta => ?_)
              clear hK K
              try simp only [Act.put, List.setIfInBounds_toArray, List.set_cons_zero, List.set_cons_succ]
              refine wpStore_done (by kernel_rfl) ?_ _
              clear hSta tc tz
              generalize (wy.setCell ⟨w8.heap.size, 1, none⟩ (.bool true)).drew.drew = W1 at *
              clear v0 v1 v2 v3 v4 v5
              go_wp2
              obtain ⟨z0, z1, z2, z3, z4, z5⟩ := HZi.out W1 HB1.out
              have tc : W1.cell? ⟨w8.heap.size, 3, none⟩ = some (.bool T3) := HK1.out.cell 3
              have tz : W1.frozen? ⟨w8.heap.size, 3, none⟩ = false := HK1.out.frozen 3
              have hw : IntKind.i64.wrap (3 : Int) = 3 := by decide
              cases T3 with
              | true =>
                refine wp_region_store 24 1000 (fun w' => w'.cell? ⟨b, o + j, none⟩ = some (.slice (some ⟨qb, qo, none⟩) 2 q.c) ∧ w'.cell? ⟨qb, qo + 1, none⟩ = some (.int .u64 (qy : Int)) ∧ w'.cell? ⟨w6.heap.size, 1, none⟩ = some (.slice (some ⟨g2, 0, none⟩) 2 c2) ∧ w'.cell? ⟨g2, 1, none⟩ = some (.int .u64 (hi : Int))) (fun w' => w'.cell? ⟨w8.heap.size, 3, none⟩ = some (.bool true)) (fun _ => True) (by kernel_rfl) ⟨⟨z0, z1, z3, z5⟩, tc, trivial⟩ (fun hSta => ?_)
                refine wpStore_take (i := 0) (oi := { dst := some 167, op := _, type := _, pos := _, after := _, guard := _ }) (v := ?_) false false rfl (by kernel_rfl) (by kernel_rfl) (by kernel_rfl) (by kernel_rfl) (fun _ _ _ h => h) (Or.inl ⟨by rfl, ?_⟩) (by assumption) (fun hSta => ?_)
                rotate_left 1
                · intro wS hSw
                  obtain ⟨⟨r1, r2, r3, r4⟩, s3, s4⟩ := hSw
                  clear s3
                  clear s4
                  go_simp
                  all_goals with_reducible rfl
                try simp only [Act.put, List.setIfInBounds_toArray, List.set_cons_zero, List.set_cons_succ]
                refine wpStore_take (i := 1) (oi := { dst := some 168, op := _, type := _, pos := _, after := _, guard := _ }) (v := ?_) false false rfl (by kernel_rfl) (by kernel_rfl) (by kernel_rfl) (by kernel_rfl) (fun _ _ _ h => h) (Or.inl ⟨by rfl, ?_⟩) (by assumption) (fun hSta => ?_)
                rotate_left 1
                · intro wS hSw
                  obtain ⟨⟨r1, r2, r3, r4⟩, s3, s4⟩ := hSw
                  clear s3
                  clear s4
                  go_simp
                  all_goals with_reducible rfl
                try simp only [Act.put, List.setIfInBounds_toArray, List.set_cons_zero, List.set_cons_succ]
                refine wpStore_take (i := 2) (oi := { dst := some 169, op := _, type := _, pos := _, after := _, guard := _ }) (v := ?_) false false rfl (by kernel_rfl) (by kernel_rfl) (by kernel_rfl) (by kernel_rfl) (fun _ _ _ h => h) (Or.inl ⟨by rfl, ?_⟩) (by assumption) (fun hSta => ?_)
                rotate_left 1
                · intro wS hSw
                  obtain ⟨⟨r1, r2, r3, r4⟩, s3, s4⟩ := hSw
                  clear s3
                  clear s4
                  go_simp
                  all_goals with_reducible rfl
                try simp only [Act.put, List.setIfInBounds_toArray, List.set_cons_zero, List.set_cons_succ]
                refine wpStore_take (i := 3) (oi := { dst := some 170, op := _, type := _, pos := _, after := _, guard := _ }) (v := ?_) false false rfl (by kernel_rfl) (by kernel_rfl) (by kernel_rfl) (by kernel_rfl) (fun _ _ _ h => h) (Or.inl ⟨by rfl, ?_⟩) (by assumption) (fun hSta => ?_)
                rotate_left 1
                · intro wS hSw
                  obtain ⟨⟨r1, r2, r3, r4⟩, s3, s4⟩ := hSw
                  clear s3
                  clear s4
                  go_simp
                  all_goals with_reducible rfl
                try simp only [Act.put, List.setIfInBounds_toArray, List.set_cons_zero, List.set_cons_succ]
                refine wpStore_take (i := 4) (oi := { dst := some 171, op := _, type := _, pos := _, after := _, guard := _ }) (v := ?_) false false rfl (by kernel_rfl) (by kernel_rfl) (by kernel_rfl) (by kernel_rfl) (fun _ _ _ h => h) (Or.inl ⟨by rfl, ?_⟩) (by assumption) (fun hSta => ?_)
                rotate_left 1
                · intro wS hSw
                  obtain ⟨⟨r1, r2, r3, r4⟩, s3, s4⟩ := hSw
                  clear s3
                  clear s4
                  go_simp
                  all_goals with_reducible rfl
                try simp only [Act.put, List.setIfInBounds_toArray, List.set_cons_zero, List.set_cons_succ]
                refine wpStore_take (i := 5) (oi := { dst := some 172, op := _, type := _, pos := _, after := _, guard := _ }) (v := ?_) false false rfl (by kernel_rfl) (by kernel_rfl) (by kernel_rfl) (by kernel_rfl) (fun _ _ _ h => h) (Or.inl ⟨by rfl, ?_⟩) (by assumption) (fun hSta => ?_)
                rotate_left 1
                · intro wS hSw
                  obtain ⟨⟨r1, r2, r3, r4⟩, s3, s4⟩ := hSw
                  clear s3
                  clear s4
                  go_simp
                  all_goals with_reducible rfl
                try simp only [Act.put, List.setIfInBounds_toArray, List.set_cons_zero, List.set_cons_succ]
                refine wpStore_take (i := 6) (oi := { dst := some 173, op := _, type := _, pos := _, after := _, guard := _ }) (v := ?_) false false rfl (by kernel_rfl) (by kernel_rfl) (by kernel_rfl) (by kernel_rfl) (fun _ _ _ h => h) (Or.inl ⟨by rfl, ?_⟩) (by assumption) (fun hSta => ?_)
                rotate_left 1
                · intro wS hSw
                  obtain ⟨⟨r1, r2, r3, r4⟩, s3, s4⟩ := hSw
                  clear s3
                  clear s4
                  go_simp
                  all_goals with_reducible rfl
                try simp only [Act.put, List.setIfInBounds_toArray, List.set_cons_zero, List.set_cons_succ]
                refine wpStore_take (i := 7) (oi := { dst := some 174, op := _, type := _, pos := _, after := _, guard := _ }) (v := ?_) true false rfl (by kernel_rfl) (by kernel_rfl) (by kernel_rfl) (by kernel_rfl) (fun _ _ _ h => h) (Or.inl ⟨by rfl, ?_⟩) (by assumption) (fun hSta => ?_)
                rotate_left 1
                · intro wS hSw
                  obtain ⟨⟨r1, r2, r3, r4⟩, s3, s4⟩ := hSw
                  have s3 := s3 rfl
                  clear s4
                  go_simp
                  all_goals with_reducible rfl
                try simp only [Act.put, List.setIfInBounds_toArray, List.set_cons_zero, List.set_cons_succ]
                refine wpStore_take (i := 8) (oi := { dst := some 175, op := _, type := _, pos := _, after := _, guard := _ }) (v := ?_) false false rfl (by kernel_rfl) (by kernel_rfl) (by kernel_rfl) (by kernel_rfl) (fun _ _ _ h => h) (Or.inl ⟨by rfl, ?_⟩) (by assumption) (fun hSta => ?_)
                rotate_left 1
                · intro wS hSw
                  obtain ⟨⟨r1, r2, r3, r4⟩, s3, s4⟩ := hSw
                  clear s3
                  clear s4
                  go_simp
                  all_goals with_reducible rfl
                try simp only [Act.put, List.setIfInBounds_toArray, List.set_cons_zero, List.set_cons_succ]
                refine wpStore_take (i := 9) (oi := { dst := some 176, op := _, type := _, pos := _, after := _, guard := _ }) (v := undef) false false rfl (by kernel_rfl) (by kernel_rfl) (by kernel_rfl) (by kernel_rfl) (fun _ _ _ h => h) (Or.inr ⟨by rfl, rfl⟩) (by assumption) (fun hSta => ?_)
                try simp only [Act.put, List.setIfInBounds_toArray, List.set_cons_zero, List.set_cons_succ]
                refine wpStore_take (i := 10) (oi := { dst := some 177, op := _, type := _, pos := _, after := _, guard := _ }) (v := undef) false false rfl (by kernel_rfl) (by kernel_rfl) (by kernel_rfl) (by kernel_rfl) (fun _ _ _ h => h) (Or.inr ⟨by rfl, rfl⟩) (by assumption) (fun hSta => ?_)
                try simp only [Act.put, List.setIfInBounds_toArray, List.set_cons_zero, List.set_cons_succ]
                refine wpStore_take (i := 11) (oi := { dst := some 178, op := _, type := _, pos := _, after := _, guard := _ }) (v := undef) false false rfl (by kernel_rfl) (by kernel_rfl) (by kernel_rfl) (by kernel_rfl) (fun _ _ _ h => h) (Or.inr ⟨by rfl, rfl⟩) (by assumption) (fun hSta => ?_)
                try simp only [Act.put, List.setIfInBounds_toArray, List.set_cons_zero, List.set_cons_succ]
                refine wpStore_take (i := 12) (oi := { dst := some 179, op := _, type := _, pos := _, after := _, guard := _ }) (v := undef) false false rfl (by kernel_rfl) (by kernel_rfl) (by kernel_rfl) (by kernel_rfl) (fun _ _ _ h => h) (Or.inr ⟨by rfl, rfl⟩) (by assumption) (fun hSta => ?_)
                try simp only [Act.put, List.setIfInBounds_toArray, List.set_cons_zero, List.set_cons_succ]
                refine wpStore_take (i := 13) (oi := { dst := some 180, op := _, type := _, pos := _, after := _, guard := _ }) (v := undef) false false rfl (by kernel_rfl) (by kernel_rfl) (by kernel_rfl) (by kernel_rfl) (fun _ _ _ h => h) (Or.inr ⟨by rfl, rfl⟩) (by assumption) (fun hSta => ?_)
                try simp only [Act.put, List.setIfInBounds_toArray, List.set_cons_zero, List.set_cons_succ]
                refine wpStore_take (i := 14) (oi := { dst := some 181, op := _, type := _, pos := _, after := _, guard := _ }) (v := undef) false false rfl (by kernel_rfl) (by kernel_rfl) (by kernel_rfl) (by kernel_rfl) (fun _ _ _ h => h) (Or.inr ⟨by rfl, rfl⟩) (by assumption) (fun hSta => ?_)
                try simp only [Act.put, List.setIfInBounds_toArray, List.set_cons_zero, List.set_cons_succ]
                refine wpStore_take (i := 15) (oi := { dst := some 182, op := _, type := _, pos := _, after := _, guard := _ }) (v := undef) false false rfl (by kernel_rfl) (by kernel_rfl) (by kernel_rfl) (by kernel_rfl) (fun _ _ _ h => h) (Or.inr ⟨by rfl, rfl⟩) (by assumption) (fun hSta => ?_)
                try simp only [Act.put, List.setIfInBounds_toArray, List.set_cons_zero, List.set_cons_succ]
                refine wpStore_take (i := 16) (oi := { dst := some 183, op := _, type := _, pos := _, after := _, guard := _ }) (v := undef) false false rfl (by kernel_rfl) (by kernel_rfl) (by kernel_rfl) (by kernel_rfl) (fun _ _ _ h => h) (Or.inr ⟨by rfl, rfl⟩) (by assumption) (fun hSta => ?_)
                try simp only [Act.put, List.setIfInBounds_toArray, List.set_cons_zero, List.set_cons_succ]
                refine wpStore_take (i := 17) (oi := { dst := some 184, op := _, type := _, pos := _, after := _, guard := _ }) (v := undef) false false rfl (by kernel_rfl) (by kernel_rfl) (by kernel_rfl) (by kernel_rfl) (fun _ _ _ h => h) (Or.inr ⟨by rfl, rfl⟩) (by assumption) (fun hSta => ?_)
                try simp only [Act.put, List.setIfInBounds_toArray, List.set_cons_zero, List.set_cons_succ]
                refine wpStore_take (i := 18) (oi := { dst := some 185, op := _, type := _, pos := _, after := _, guard := _ }) (v := undef) false false rfl (by kernel_rfl) (by kernel_rfl) (by kernel_rfl) (by kernel_rfl) (fun _ _ _ h => h) (Or.inr ⟨by rfl, rfl⟩) (by assumption) (fun hSta => ?_)
                try simp only [Act.put, List.setIfInBounds_toArray, List.set_cons_zero, List.set_cons_succ]
                refine wpStore_take (i := 19) (oi := { dst := some 186, op := _, type := _, pos := _, after := _, guard := _ }) (v := undef) false false rfl (by kernel_rfl) (by kernel_rfl) (by kernel_rfl) (by kernel_rfl) (fun _ _ _ h => h) (Or.inr ⟨by rfl, rfl⟩) (by assumption) (fun hSta => ?_)
                try simp only [Act.put, List.setIfInBounds_toArray, List.set_cons_zero, List.set_cons_succ]
                refine wpStore_take (i := 20) (oi := { dst := some 187, op := _, type := _, pos := _, after := _, guard := _ }) (v := undef) false false rfl (by kernel_rfl) (by kernel_rfl) (by kernel_rfl) (by kernel_rfl) (fun _ _ _ h => h) (Or.inr ⟨by rfl, rfl⟩) (by assumption) (fun hSta => ?_)
                try simp only [Act.put, List.setIfInBounds_toArray, List.set_cons_zero, List.set_cons_succ]
                refine wpStore_take (i := 21) (oi := { dst := some 188, op := _, type := _, pos := _, after := _, guard := _ }) (v := undef) false false rfl (by kernel_rfl) (by kernel_rfl) (by kernel_rfl) (by kernel_rfl) (fun _ _ _ h => h) (Or.inr ⟨by rfl, rfl⟩) (by assumption) (fun hSta => ?_)
                try simp only [Act.put, List.setIfInBounds_toArray, List.set_cons_zero, List.set_cons_succ]
                refine wpStore_take (i := 22) (oi := { dst := some 189, op := _, type := _, pos := _, after := _, guard := _ }) (v := ?_) false false rfl (by kernel_rfl) (by kernel_rfl) (by kernel_rfl) (by kernel_rfl) (fun _ _ _ h => h) (Or.inl ⟨by rfl, ?_⟩) (by assumption) (fun hSta => ?_)
                rotate_left 1
                · intro wS hSw
                  obtain ⟨⟨r1, r2, r3, r4⟩, s3, s4⟩ := hSw
                  clear s3
                  clear s4
                  go_simp
                  all_goals with_reducible rfl
                try simp only [Act.put, List.setIfInBounds_toArray, List.set_cons_zero, List.set_cons_succ]
                refine wpStore_take (i := 23) (oi := { dst := some 190, op := _, type := _, pos := _, after := _, guard := _ }) (v := ?_) false false rfl (by kernel_rfl) (by kernel_rfl) (by kernel_rfl) (by kernel_rfl) (fun _ _ _ h => h) (Or.inl ⟨by rfl, ?_⟩) (by assumption) (fun hSta => ?_)
                rotate_left 1
                · intro wS hSw
                  obtain ⟨⟨r1, r2, r3, r4⟩, s3, s4⟩ := hSw
                  clear s3
                  clear s4
                  go_simp
                  all_goals with_reducible rfl
                try simp only [Act.put, List.setIfInBounds_toArray, List.set_cons_zero, List.set_cons_succ]
                refine wpStore_one (i := 24) (o := { dst := none, op := _, type := _, pos := _, after := _, guard := _ }) (by kernel_rfl) rfl (fun K hK => ?_)
                go_simp
                have HB2 := hide (show Below w8.heap.size w8 (W1.setCell ⟨w8.heap.size, 3, none⟩ (.bool true)).drew from (HB1.out.setCell (p := ⟨w8.heap.size, 3, none⟩) (Nat.le_refl _) (.bool true)).drew)
                have HK2 := hide (show Blk (W1.setCell ⟨w8.heap.size, 3, none⟩ (.bool true)).drew w8.heap.size 4 #[.bool T0, .bool true, .bool T2, .bool true] from HK1.out.set1 (i := 3) (.bool true))
                obtain ⟨v0, v1, v2, v3, v4, v5⟩ := HZi.out _ HB2.out
                refine hK.out _ _ ⟨⟨v0, v1, v3, v5⟩, fun h => absurd h (by decide), fun _ => trivial⟩ (fun hSta => ?_)
                clear hK K
                try simp only [Act.put, List.setIfInBounds_toArray, List.set_cons_zero, List.set_cons_succ]
                refine wpStore_done (by kernel_rfl) ?_ _
                clear hSta tc tz
                generalize (W1.setCell ⟨w8.heap.size, 3, none⟩ (.bool true)).drew = W2 at *
                clear v0 v1 v2 v3 v4 v5
                go_wp2
                have HQ := hide (show ((al.map LP.p).getD j []).getD 1 0 = qy by rw [HPJ.out]; rfl)
                have e1 : met (al.map LP.p) 1 (loT (al.map LP.p) 1 nl) (metTo 2 j 1) = true := by
                  show met (al.map LP.p) 1 (loT (al.map LP.p) 1 nl) (j + 1) = true
                  rw [met_next HQ.out, show met (al.map LP.p) 1 (loT (al.map LP.p) 1 nl) j = true from HTE.out.2.1.symm]
                  rw [Bool.true_or]
                have e3 : met (al.map LP.p) 1 (hiT (al.map LP.p) 1 nl) (metTo 2 j 1) = true := by
                  show met (al.map LP.p) 1 (hiT (al.map LP.p) 1 nl) (j + 1) = true
                  rw [met_next HQ.out, show met (al.map LP.p) 1 (hiT (al.map LP.p) 1 nl) j = true from HTE.out.2.2.2.symm]
                  rw [Bool.true_or]
                have e0 : met (al.map LP.p) 0 (loT (al.map LP.p) 0 nl) (metTo 2 j 0) = T0 := HTE.out.1.symm
                have e2 : met (al.map LP.p) 0 (hiT (al.map LP.p) 0 nl) (metTo 2 j 0) = T2 := HTE.out.2.2.1.symm
                refine ⟨⟨2, 2, by go_num, rfl, by omega, ?_, HB2.out⟩, by simp only [intOf]; omega⟩
                unfold tAt
                rw [e0, e1, e2, e3]
                exact HK2.out
              | false =>
                refine wp_region_store 24 1000 (fun w' => w'.cell? ⟨b, o + j, none⟩ = some (.slice (some ⟨qb, qo, none⟩) 2 q.c) ∧ w'.cell? ⟨qb, qo + 1, none⟩ = some (.int .u64 (qy : Int)) ∧ w'.cell? ⟨w6.heap.size, 1, none⟩ = some (.slice (some ⟨g2, 0, none⟩) 2 c2) ∧ w'.cell? ⟨g2, 1, none⟩ = some (.int .u64 (hi : Int))) (fun w' => w'.cell? ⟨w8.heap.size, 3, none⟩ = some (.bool false)) (fun _ => True) (by kernel_rfl) ⟨⟨z0, z1, z3, z5⟩, tc, trivial⟩ (fun hSta => ?_)
                refine wpStore_take (i := 0) (oi := { dst := some 167, op := _, type := _, pos := _, after := _, guard := _ }) (v := ?_) false false rfl (by kernel_rfl) (by kernel_rfl) (by kernel_rfl) (by kernel_rfl) (fun _ _ _ h => h) (Or.inl ⟨by rfl, ?_⟩) (by assumption) (fun hSta => ?_)
                rotate_left 1
                · intro wS hSw
                  obtain ⟨⟨r1, r2, r3, r4⟩, s3, s4⟩ := hSw
                  clear s3
                  clear s4
                  go_simp
                  all_goals with_reducible rfl
                try simp only [Act.put, List.setIfInBounds_toArray, List.set_cons_zero, List.set_cons_succ]
                refine wpStore_take (i := 1) (oi := { dst := some 168, op := _, type := _, pos := _, after := _, guard := _ }) (v := ?_) false false rfl (by kernel_rfl) (by kernel_rfl) (by kernel_rfl) (by kernel_rfl) (fun _ _ _ h => h) (Or.inl ⟨by rfl, ?_⟩) (by assumption) (fun hSta => ?_)
                rotate_left 1
                · intro wS hSw
                  obtain ⟨⟨r1, r2, r3, r4⟩, s3, s4⟩ := hSw
                  clear s3
                  clear s4
                  go_simp
                  all_goals with_reducible rfl
                try simp only [Act.put, List.setIfInBounds_toArray, List.set_cons_zero, List.set_cons_succ]
                refine wpStore_take (i := 2) (oi := { dst := some 169, op := _, type := _, pos := _, after := _, guard := _ }) (v := ?_) false false rfl (by kernel_rfl) (by kernel_rfl) (by kernel_rfl) (by kernel_rfl) (fun _ _ _ h => h) (Or.inl ⟨by rfl, ?_⟩) (by assumption) (fun hSta => ?_)
                rotate_left 1
                · intro wS hSw
                  obtain ⟨⟨r1, r2, r3, r4⟩, s3, s4⟩ := hSw
                  clear s3
                  clear s4
                  go_simp
                  all_goals with_reducible rfl
                try simp only [Act.put, List.setIfInBounds_toArray, List.set_cons_zero, List.set_cons_succ]
                refine wpStore_take (i := 3) (oi := { dst := some 170, op := _, type := _, pos := _, after := _, guard := _ }) (v := ?_) false false rfl (by kernel_rfl) (by kernel_rfl) (by kernel_rfl) (by kernel_rfl) (fun _ _ _ h => h) (Or.inl ⟨by rfl, ?_⟩) (by assumption) (fun hSta => ?_)
                rotate_left 1
                · intro wS hSw
                  obtain ⟨⟨r1, r2, r3, r4⟩, s3, s4⟩ := hSw
                  clear s3
                  clear s4
                  go_simp
                  all_goals with_reducible rfl
                try simp only [Act.put, List.setIfInBounds_toArray, List.set_cons_zero, List.set_cons_succ]
                refine wpStore_take (i := 4) (oi := { dst := some 171, op := _, type := _, pos := _, after := _, guard := _ }) (v := ?_) false false rfl (by kernel_rfl) (by kernel_rfl) (by kernel_rfl) (by kernel_rfl) (fun _ _ _ h => h) (Or.inl ⟨by rfl, ?_⟩) (by assumption) (fun hSta => ?_)
                rotate_left 1
                · intro wS hSw
                  obtain ⟨⟨r1, r2, r3, r4⟩, s3, s4⟩ := hSw
                  clear s3
                  clear s4
                  go_simp
                  all_goals with_reducible rfl
                try simp only [Act.put, List.setIfInBounds_toArray, List.set_cons_zero, List.set_cons_succ]
                refine wpStore_take (i := 5) (oi := { dst := some 172, op := _, type := _, pos := _, after := _, guard := _ }) (v := ?_) false false rfl (by kernel_rfl) (by kernel_rfl) (by kernel_rfl) (by kernel_rfl) (fun _ _ _ h => h) (Or.inl ⟨by rfl, ?_⟩) (by assumption) (fun hSta => ?_)
                rotate_left 1
                · intro wS hSw
                  obtain ⟨⟨r1, r2, r3, r4⟩, s3, s4⟩ := hSw
                  clear s3
                  clear s4
                  go_simp
                  all_goals with_reducible rfl
                try simp only [Act.put, List.setIfInBounds_toArray, List.set_cons_zero, List.set_cons_succ]
                refine wpStore_take (i := 6) (oi := { dst := some 173, op := _, type := _, pos := _, after := _, guard := _ }) (v := ?_) false false rfl (by kernel_rfl) (by kernel_rfl) (by kernel_rfl) (by kernel_rfl) (fun _ _ _ h => h) (Or.inl ⟨by rfl, ?_⟩) (by assumption) (fun hSta => ?_)
                rotate_left 1
                · intro wS hSw
                  obtain ⟨⟨r1, r2, r3, r4⟩, s3, s4⟩ := hSw
                  clear s3
                  clear s4
                  go_simp
                  all_goals with_reducible rfl
                try simp only [Act.put, List.setIfInBounds_toArray, List.set_cons_zero, List.set_cons_succ]
                refine wpStore_take (i := 7) (oi := { dst := some 174, op := _, type := _, pos := _, after := _, guard := _ }) (v := ?_) true false rfl (by kernel_rfl) (by kernel_rfl) (by kernel_rfl) (by kernel_rfl) (fun _ _ _ h => h) (Or.inl ⟨by rfl, ?_⟩) (by assumption) (fun hSta => ?_)
                rotate_left 1
                · intro wS hSw
                  obtain ⟨⟨r1, r2, r3, r4⟩, s3, s4⟩ := hSw
                  have s3 := s3 rfl
                  clear s4
                  go_simp
                  all_goals with_reducible rfl
                try simp only [Act.put, List.setIfInBounds_toArray, List.set_cons_zero, List.set_cons_succ]
                refine wpStore_take (i := 8) (oi := { dst := some 175, op := _, type := _, pos := _, after := _, guard := _ }) (v := ?_) false false rfl (by kernel_rfl) (by kernel_rfl) (by kernel_rfl) (by kernel_rfl) (fun _ _ _ h => h) (Or.inl ⟨by rfl, ?_⟩) (by assumption) (fun hSta => ?_)
                rotate_left 1
                · intro wS hSw
                  obtain ⟨⟨r1, r2, r3, r4⟩, s3, s4⟩ := hSw
                  clear s3
                  clear s4
                  go_simp
                  all_goals with_reducible rfl
                try simp only [Act.put, List.setIfInBounds_toArray, List.set_cons_zero, List.set_cons_succ]
                refine wpStore_take (i := 9) (oi := { dst := some 176, op := _, type := _, pos := _, after := _, guard := _ }) (v := ?_) false false rfl (by kernel_rfl) (by kernel_rfl) (by kernel_rfl) (by kernel_rfl) (fun _ _ _ h => h) (Or.inl ⟨by rfl, ?_⟩) (by assumption) (fun hSta => ?_)
                rotate_left 1
                · intro wS hSw
                  obtain ⟨⟨r1, r2, r3, r4⟩, s3, s4⟩ := hSw
                  clear s3
                  clear s4
                  go_simp
                  all_goals with_reducible rfl
                try simp only [Act.put, List.setIfInBounds_toArray, List.set_cons_zero, List.set_cons_succ]
                refine wpStore_take (i := 10) (oi := { dst := some 177, op := _, type := _, pos := _, after := _, guard := _ }) (v := ?_) false false rfl (by kernel_rfl) (by kernel_rfl) (by kernel_rfl) (by kernel_rfl) (fun _ _ _ h => h) (Or.inl ⟨by rfl, ?_⟩) (by assumption) (fun hSta => ?_)
                rotate_left 1
                · intro wS hSw
                  obtain ⟨⟨r1, r2, r3, r4⟩, s3, s4⟩ := hSw
                  clear s3
                  clear s4
                  go_simp
                  all_goals with_reducible rfl
                try simp only [Act.put, List.setIfInBounds_toArray, List.set_cons_zero, List.set_cons_succ]
                refine wpStore_take (i := 11) (oi := { dst := some 178, op := _, type := _, pos := _, after := _, guard := _ }) (v := ?_) false false rfl (by kernel_rfl) (by kernel_rfl) (by kernel_rfl) (by kernel_rfl) (fun _ _ _ h => h) (Or.inl ⟨by rfl, ?_⟩) (by assumption) (fun hSta => ?_)
                rotate_left 1
                · intro wS hSw
                  obtain ⟨⟨r1, r2, r3, r4⟩, s3, s4⟩ := hSw
                  clear s3
                  clear s4
                  go_simp
                  all_goals with_reducible rfl
                try simp only [Act.put, List.setIfInBounds_toArray, List.set_cons_zero, List.set_cons_succ]
                refine wpStore_take (i := 12) (oi := { dst := some 179, op := _, type := _, pos := _, after := _, guard := _ }) (v := ?_) false false rfl (by kernel_rfl) (by kernel_rfl) (by kernel_rfl) (by kernel_rfl) (fun _ _ _ h => h) (Or.inl ⟨by rfl, ?_⟩) (by assumption) (fun hSta => ?_)
                rotate_left 1
                · intro wS hSw
                  obtain ⟨⟨r1, r2, r3, r4⟩, s3, s4⟩ := hSw
                  clear s3
                  clear s4
                  go_simp
                  all_goals with_reducible rfl
                try simp only [Act.put, List.setIfInBounds_toArray, List.set_cons_zero, List.set_cons_succ]
                refine wpStore_take (i := 13) (oi := { dst := some 180, op := _, type := _, pos := _, after := _, guard := _ }) (v := ?_) false false rfl (by kernel_rfl) (by kernel_rfl) (by kernel_rfl) (by kernel_rfl) (fun _ _ _ h => h) (Or.inl ⟨by rfl, ?_⟩) (by assumption) (fun hSta => ?_)
                rotate_left 1
                · intro wS hSw
                  obtain ⟨⟨r1, r2, r3, r4⟩, s3, s4⟩ := hSw
                  clear s3
                  clear s4
                  go_simp
                  all_goals with_reducible rfl
                try simp only [Act.put, List.setIfInBounds_toArray, List.set_cons_zero, List.set_cons_succ]
                refine wpStore_take (i := 14) (oi := { dst := some 181, op := _, type := _, pos := _, after := _, guard := _ }) (v := ?_) false false rfl (by kernel_rfl) (by kernel_rfl) (by kernel_rfl) (by kernel_rfl) (fun _ _ _ h => h) (Or.inl ⟨by rfl, ?_⟩) (by assumption) (fun hSta => ?_)
                rotate_left 1
                · intro wS hSw
                  obtain ⟨⟨r1, r2, r3, r4⟩, s3, s4⟩ := hSw
                  clear s3
                  clear s4
                  go_simp
                  all_goals with_reducible rfl
                try simp only [Act.put, List.setIfInBounds_toArray, List.set_cons_zero, List.set_cons_succ]
                refine wpStore_take (i := 15) (oi := { dst := some 182, op := _, type := _, pos := _, after := _, guard := _ }) (v := ?_) false false rfl (by kernel_rfl) (by kernel_rfl) (by kernel_rfl) (by kernel_rfl) (fun _ _ _ h => h) (Or.inl ⟨by rfl, ?_⟩) (by assumption) (fun hSta => ?_)
                rotate_left 1
                · intro wS hSw
                  obtain ⟨⟨r1, r2, r3, r4⟩, s3, s4⟩ := hSw
                  clear s3
                  clear s4
                  go_simp
                  all_goals with_reducible rfl
                try simp only [Act.put, List.setIfInBounds_toArray, List.set_cons_zero, List.set_cons_succ]
                refine wpStore_take (i := 16) (oi := { dst := some 183, op := _, type := _, pos := _, after := _, guard := _ }) (v := ?_) false false rfl (by kernel_rfl) (by kernel_rfl) (by kernel_rfl) (by kernel_rfl) (fun _ _ _ h => h) (Or.inl ⟨by rfl, ?_⟩) (by assumption) (fun hSta => ?_)
                rotate_left 1
                · intro wS hSw
                  obtain ⟨⟨r1, r2, r3, r4⟩, s3, s4⟩ := hSw
                  clear s3
                  clear s4
                  go_simp
                  all_goals with_reducible rfl
                try simp only [Act.put, List.setIfInBounds_toArray, List.set_cons_zero, List.set_cons_succ]
                refine wpStore_take (i := 17) (oi := { dst := some 184, op := _, type := _, pos := _, after := _, guard := _ }) (v := ?_) false false rfl (by kernel_rfl) (by kernel_rfl) (by kernel_rfl) (by kernel_rfl) (fun _ _ _ h => h) (Or.inl ⟨by rfl, ?_⟩) (by assumption) (fun hSta => ?_)
                rotate_left 1
                · intro wS hSw
                  obtain ⟨⟨r1, r2, r3, r4⟩, s3, s4⟩ := hSw
                  clear s3
                  clear s4
                  go_simp
                  all_goals with_reducible rfl
                try simp only [Act.put, List.setIfInBounds_toArray, List.set_cons_zero, List.set_cons_succ]
                refine wpStore_take (i := 18) (oi := { dst := some 185, op := _, type := _, pos := _, after := _, guard := _ }) (v := ?_) false false rfl (by kernel_rfl) (by kernel_rfl) (by kernel_rfl) (by kernel_rfl) (fun _ _ _ h => h) (Or.inl ⟨by rfl, ?_⟩) (by assumption) (fun hSta => ?_)
                rotate_left 1
                · intro wS hSw
                  obtain ⟨⟨r1, r2, r3, r4⟩, s3, s4⟩ := hSw
                  clear s3
                  clear s4
                  go_simp
                  all_goals with_reducible rfl
                try simp only [Act.put, List.setIfInBounds_toArray, List.set_cons_zero, List.set_cons_succ]
                refine wpStore_take (i := 19) (oi := { dst := some 186, op := _, type := _, pos := _, after := _, guard := _ }) (v := ?_) false false rfl (by kernel_rfl) (by kernel_rfl) (by kernel_rfl) (by kernel_rfl) (fun _ _ _ h => h) (Or.inl ⟨by rfl, ?_⟩) (by assumption) (fun hSta => ?_)
                rotate_left 1
                · intro wS hSw
                  obtain ⟨⟨r1, r2, r3, r4⟩, s3, s4⟩ := hSw
                  clear s3
                  clear s4
                  go_simp
                  all_goals with_reducible rfl
                try simp only [Act.put, List.setIfInBounds_toArray, List.set_cons_zero, List.set_cons_succ]
                refine wpStore_take (i := 20) (oi := { dst := some 187, op := _, type := _, pos := _, after := _, guard := _ }) (v := ?_) false false rfl (by kernel_rfl) (by kernel_rfl) (by kernel_rfl) (by kernel_rfl) (fun _ _ _ h => h) (Or.inl ⟨by rfl, ?_⟩) (by assumption) (fun hSta => ?_)
                rotate_left 1
                · intro wS hSw
                  obtain ⟨⟨r1, r2, r3, r4⟩, s3, s4⟩ := hSw
                  clear s3
                  clear s4
                  go_simp
                  all_goals with_reducible rfl
                try simp only [Act.put, List.setIfInBounds_toArray, List.set_cons_zero, List.set_cons_succ]
                refine wpStore_take (i := 21) (oi := { dst := some 188, op := _, type := _, pos := _, after := _, guard := _ }) (v := ?_) false false rfl (by kernel_rfl) (by kernel_rfl) (by kernel_rfl) (by kernel_rfl) (fun _ _ _ h => h) (Or.inl ⟨by rfl, ?_⟩) (by assumption) (fun hSta => ?_)
                rotate_left 1
                · intro wS hSw
                  obtain ⟨⟨r1, r2, r3, r4⟩, s3, s4⟩ := hSw
                  clear s3
                  clear s4
                  go_simp
                  all_goals with_reducible rfl
                try simp only [Act.put, List.setIfInBounds_toArray, List.set_cons_zero, List.set_cons_succ]
                refine wpStore_take (i := 22) (oi := { dst := some 189, op := _, type := _, pos := _, after := _, guard := _ }) (v := ?_) false false rfl (by kernel_rfl) (by kernel_rfl) (by kernel_rfl) (by kernel_rfl) (fun _ _ _ h => h) (Or.inl ⟨by rfl, ?_⟩) (by assumption) (fun hSta => ?_)
                rotate_left 1
                · intro wS hSw
                  obtain ⟨⟨r1, r2, r3, r4⟩, s3, s4⟩ := hSw
                  clear s3
                  clear s4
                  go_simp
                  all_goals with_reducible rfl
                try simp only [Act.put, List.setIfInBounds_toArray, List.set_cons_zero, List.set_cons_succ]
                refine wpStore_take (i := 23) (oi := { dst := some 190, op := _, type := _, pos := _, after := _, guard := _ }) (v := ?_) false false rfl (by kernel_rfl) (by kernel_rfl) (by kernel_rfl) (by kernel_rfl) (fun _ _ _ h => h) (Or.inl ⟨by rfl, ?_⟩) (by assumption) (fun hSta => ?_)
                rotate_left 1
                · intro wS hSw
                  obtain ⟨⟨r1, r2, r3, r4⟩, s3, s4⟩ := hSw
                  clear s3
                  clear s4
                  go_simp
                  all_goals with_reducible rfl
                try simp only [Act.put, List.setIfInBounds_toArray, List.set_cons_zero, List.set_cons_succ]
                obtain ⟨Y, HY⟩ : ∃ b : Bool, Hid (b = ((qy : Int) == (hi : Int))) := ⟨_, hide rfl⟩
                refine wpStore_one (i := 24) (o := { dst := none, op := _, type := _, pos := _, after := _, guard := _ }) (by kernel_rfl) rfl (fun K hK => ?_)
                go_simp
                rw [← HY.out]
                have HB2 := hide (show Below w8.heap.size w8 (W1.setCell ⟨w8.heap.size, 3, none⟩ (.bool Y)).drew from (HB1.out.setCell (p := ⟨w8.heap.size, 3, none⟩) (Nat.le_refl _) (.bool Y)).drew)
                have HK2 := hide (show Blk (W1.setCell ⟨w8.heap.size, 3, none⟩ (.bool Y)).drew w8.heap.size 4 #[.bool T0, .bool true, .bool T2, .bool Y] from HK1.out.set1 (i := 3) (.bool Y))
                obtain ⟨v0, v1, v2, v3, v4, v5⟩ := HZi.out _ HB2.out
                refine hK.out _ _ ⟨⟨v0, v1, v3, v5⟩, fun h => absurd h (by decide), fun _ => trivial⟩ (fun hSta => ?_)
                clear hK K
                try simp only [Act.put, List.setIfInBounds_toArray, List.set_cons_zero, List.set_cons_succ]
                refine wpStore_done (by kernel_rfl) ?_ _
                clear hSta tc tz
                generalize (W1.setCell ⟨w8.heap.size, 3, none⟩ (.bool Y)).drew = W2 at *
                clear v0 v1 v2 v3 v4 v5
                go_wp2
                have HQ := hide (show ((al.map LP.p).getD j []).getD 1 0 = qy by rw [HPJ.out]; rfl)
                have e1 : met (al.map LP.p) 1 (loT (al.map LP.p) 1 nl) (metTo 2 j 1) = true := by
                  show met (al.map LP.p) 1 (loT (al.map LP.p) 1 nl) (j + 1) = true
                  rw [met_next HQ.out, show met (al.map LP.p) 1 (loT (al.map LP.p) 1 nl) j = true from HTE.out.2.1.symm]
                  rw [Bool.true_or]
                have e3 : met (al.map LP.p) 1 (hiT (al.map LP.p) 1 nl) (metTo 2 j 1) = Y := by
                  show met (al.map LP.p) 1 (hiT (al.map LP.p) 1 nl) (j + 1) = Y
                  rw [met_next HQ.out, show met (al.map LP.p) 1 (hiT (al.map LP.p) 1 nl) j = false from HTE.out.2.2.2.symm]
                  rw [Bool.false_or, ← HHI.out, ← HY.out]
                have e0 : met (al.map LP.p) 0 (loT (al.map LP.p) 0 nl) (metTo 2 j 0) = T0 := HTE.out.1.symm
                have e2 : met (al.map LP.p) 0 (hiT (al.map LP.p) 0 nl) (metTo 2 j 0) = T2 := HTE.out.2.2.1.symm
                refine ⟨⟨2, 2, by go_num, rfl, by omega, ?_, HB2.out⟩, by simp only [intOf]; omega⟩
                unfold tAt
                rw [e0, e1, e2, e3]
                exact HK2.out
            | false =>
              refine wp_region_store 22 1000 (fun w' => w'.cell? ⟨b, o + j, none⟩ = some (.slice (some ⟨qb, qo, none⟩) 2 q.c) ∧ w'.cell? ⟨qb, qo + 1, none⟩ = some (.int .u64 (qy : Int)) ∧ w'.cell? ⟨w6.heap.size, 0, none⟩ = some (.slice (some ⟨g1, 0, none⟩) 2 c1) ∧ w'.cell? ⟨g1, 1, none⟩ = some (.int .u64 (lo : Int))) (fun w' => w'.cell? ⟨w8.heap.size, 1, none⟩ = some (.bool false)) (fun _ => True) (by kernel_rfl) ⟨⟨z0, z1, z2, z4⟩, tc, trivial⟩ (fun hSta => ?_)
              refine wpStore_take (i := 0) (oi := { dst := some 145, op := _, type := _, pos := _, after := _, guard := _ }) (v := ?_) false false rfl (by kernel_rfl) (by kernel_rfl) (by kernel_rfl) (by kernel_rfl) (fun _ _ _ h => h) (Or.inl ⟨by rfl, ?_⟩) (by assumption) (fun hSta => ?_)
              rotate_left 1
              · intro wS hSw
                obtain ⟨⟨r1, r2, r3, r4⟩, s3, s4⟩ := hSw
                clear s3
                clear s4
                go_simp
                all_goals with_reducible rfl
              try simp only [Act.put, List.setIfInBounds_toArray, List.set_cons_zero, List.set_cons_succ]
              refine wpStore_take (i := 1) (oi := { dst := some 146, op := _, type := _, pos := _, after := _, guard := _ }) (v := ?_) false false rfl (by kernel_rfl) (by kernel_rfl) (by kernel_rfl) (by kernel_rfl) (fun _ _ _ h => h) (Or.inl ⟨by rfl, ?_⟩) (by assumption) (fun hSta => ?_)
              rotate_left 1
              · intro wS hSw
                obtain ⟨⟨r1, r2, r3, r4⟩, s3, s4⟩ := hSw
                clear s3
                clear s4
                go_simp
                all_goals with_reducible rfl
              try simp only [Act.put, List.setIfInBounds_toArray, List.set_cons_zero, List.set_cons_succ]
              refine wpStore_take (i := 2) (oi := { dst := some 147, op := _, type := _, pos := _, after := _, guard := _ }) (v := ?_) false false rfl (by kernel_rfl) (by kernel_rfl) (by kernel_rfl) (by kernel_rfl) (fun _ _ _ h => h) (Or.inl ⟨by rfl, ?_⟩) (by assumption) (fun hSta => ?_)
              rotate_left 1
              · intro wS hSw
                obtain ⟨⟨r1, r2, r3, r4⟩, s3, s4⟩ := hSw
                clear s3
                clear s4
                go_simp
                all_goals with_reducible rfl
              try simp only [Act.put, List.setIfInBounds_toArray, List.set_cons_zero, List.set_cons_succ]
              refine wpStore_take (i := 3) (oi := { dst := some 148, op := _, type := _, pos := _, after := _, guard := _ }) (v := ?_) false false rfl (by kernel_rfl) (by kernel_rfl) (by kernel_rfl) (by kernel_rfl) (fun _ _ _ h => h) (Or.inl ⟨by rfl, ?_⟩) (by assumption) (fun hSta => ?_)
              rotate_left 1
              · intro wS hSw
                obtain ⟨⟨r1, r2, r3, r4⟩, s3, s4⟩ := hSw
                clear s3
                clear s4
                go_simp
                all_goals with_reducible rfl
              try simp only [Act.put, List.setIfInBounds_toArray, List.set_cons_zero, List.set_cons_succ]
              refine wpStore_take (i := 4) (oi := { dst := some 149, op := _, type := _, pos := _, after := _, guard := _ }) (v := ?_) false false rfl (by kernel_rfl) (by kernel_rfl) (by kernel_rfl) (by kernel_rfl) (fun _ _ _ h => h) (Or.inl ⟨by rfl, ?_⟩) (by assumption) (fun hSta => ?_)
              rotate_left 1
              · intro wS hSw
                obtain ⟨⟨r1, r2, r3, r4⟩, s3, s4⟩ := hSw
                clear s3
                clear s4
                go_simp
                all_goals with_reducible rfl
              try simp only [Act.put, List.setIfInBounds_toArray, List.set_cons_zero, List.set_cons_succ]
              refine wpStore_take (i := 5) (oi := { dst := some 150, op := _, type := _, pos := _, after := _, guard := _ }) (v := ?_) true false rfl (by kernel_rfl) (by kernel_rfl) (by kernel_rfl) (by kernel_rfl) (fun _ _ _ h => h) (Or.inl ⟨by rfl, ?_⟩) (by assumption) (fun hSta => ?_)
              rotate_left 1
              · intro wS hSw
                obtain ⟨⟨r1, r2, r3, r4⟩, s3, s4⟩ := hSw
                have s3 := s3 rfl
                clear s4
                go_simp
                all_goals with_reducible rfl
              try simp only [Act.put, List.setIfInBounds_toArray, List.set_cons_zero, List.set_cons_succ]
              refine wpStore_take (i := 6) (oi := { dst := some 151, op := _, type := _, pos := _, after := _, guard := _ }) (v := ?_) false false rfl (by kernel_rfl) (by kernel_rfl) (by kernel_rfl) (by kernel_rfl) (fun _ _ _ h => h) (Or.inl ⟨by rfl, ?_⟩) (by assumption) (fun hSta => ?_)
              rotate_left 1
              · intro wS hSw
                obtain ⟨⟨r1, r2, r3, r4⟩, s3, s4⟩ := hSw
                clear s3
                clear s4
                go_simp
                all_goals with_reducible rfl
              try simp only [Act.put, List.setIfInBounds_toArray, List.set_cons_zero, List.set_cons_succ]
              refine wpStore_take (i := 7) (oi := { dst := some 152, op := _, type := _, pos := _, after := _, guard := _ }) (v := ?_) false false rfl (by kernel_rfl) (by kernel_rfl) (by kernel_rfl) (by kernel_rfl) (fun _ _ _ h => h) (Or.inl ⟨by rfl, ?_⟩) (by assumption) (fun hSta => ?_)
              rotate_left 1
              · intro wS hSw
                obtain ⟨⟨r1, r2, r3, r4⟩, s3, s4⟩ := hSw
                clear s3
                clear s4
                go_simp
                all_goals with_reducible rfl
              try simp only [Act.put, List.setIfInBounds_toArray, List.set_cons_zero, List.set_cons_succ]
              refine wpStore_take (i := 8) (oi := { dst := some 153, op := _, type := _, pos := _, after := _, guard := _ }) (v := ?_) false false rfl (by kernel_rfl) (by kernel_rfl) (by kernel_rfl) (by kernel_rfl) (fun _ _ _ h => h) (Or.inl ⟨by rfl, ?_⟩) (by assumption) (fun hSta => ?_)
              rotate_left 1
              · intro wS hSw
                obtain ⟨⟨r1, r2, r3, r4⟩, s3, s4⟩ := hSw
                clear s3
                clear s4
                go_simp
                all_goals with_reducible rfl
              try simp only [Act.put, List.setIfInBounds_toArray, List.set_cons_zero, List.set_cons_succ]
              refine wpStore_take (i := 9) (oi := { dst := some 154, op := _, type := _, pos := _, after := _, guard := _ }) (v := ?_) false false rfl (by kernel_rfl) (by kernel_rfl) (by kernel_rfl) (by kernel_rfl) (fun _ _ _ h => h) (Or.inl ⟨by rfl, ?_⟩) (by assumption) (fun hSta => ?_)
              rotate_left 1
              · intro wS hSw
                obtain ⟨⟨r1, r2, r3, r4⟩, s3, s4⟩ := hSw
                clear s3
                clear s4
                go_simp
                all_goals with_reducible rfl
              try simp only [Act.put, List.setIfInBounds_toArray, List.set_cons_zero, List.set_cons_succ]
              refine wpStore_take (i := 10) (oi := { dst := some 155, op := _, type := _, pos := _, after := _, guard := _ }) (v := ?_) false false rfl (by kernel_rfl) (by kernel_rfl) (by kernel_rfl) (by kernel_rfl) (fun _ _ _ h => h) (Or.inl ⟨by rfl, ?_⟩) (by assumption) (fun hSta => ?_)
              rotate_left 1
              · intro wS hSw
                obtain ⟨⟨r1, r2, r3, r4⟩, s3, s4⟩ := hSw
                clear s3
                clear s4
                go_simp
                all_goals with_reducible rfl
              try simp only [Act.put, List.setIfInBounds_toArray, List.set_cons_zero, List.set_cons_succ]
              refine wpStore_take (i := 11) (oi := { dst := some 156, op := _, type := _, pos := _, after := _, guard := _ }) (v := ?_) false false rfl (by kernel_rfl) (by kernel_rfl) (by kernel_rfl) (by kernel_rfl) (fun _ _ _ h => h) (Or.inl ⟨by rfl, ?_⟩) (by assumption) (fun hSta => ?_)
              rotate_left 1
              · intro wS hSw
                obtain ⟨⟨r1, r2, r3, r4⟩, s3, s4⟩ := hSw
                clear s3
                clear s4
                go_simp
                all_goals with_reducible rfl
              try simp only [Act.put, List.setIfInBounds_toArray, List.set_cons_zero, List.set_cons_succ]
              refine wpStore_take (i := 12) (oi := { dst := some 157, op := _, type := _, pos := _, after := _, guard := _ }) (v := ?_) false false rfl (by kernel_rfl) (by kernel_rfl) (by kernel_rfl) (by kernel_rfl) (fun _ _ _ h => h) (Or.inl ⟨by rfl, ?_⟩) (by assumption) (fun hSta => ?_)
              rotate_left 1
              · intro wS hSw
                obtain ⟨⟨r1, r2, r3, r4⟩, s3, s4⟩ := hSw
                clear s3
                clear s4
                go_simp
                all_goals with_reducible rfl
              try simp only [Act.put, List.setIfInBounds_toArray, List.set_cons_zero, List.set_cons_succ]
              refine wpStore_take (i := 13) (oi := { dst := some 158, op := _, type := _, pos := _, after := _, guard := _ }) (v := ?_) false false rfl (by kernel_rfl) (by kernel_rfl) (by kernel_rfl) (by kernel_rfl) (fun _ _ _ h => h) (Or.inl ⟨by rfl, ?_⟩) (by assumption) (fun hSta => ?_)
              rotate_left 1
              · intro wS hSw
                obtain ⟨⟨r1, r2, r3, r4⟩, s3, s4⟩ := hSw
                clear s3
                clear s4
                go_simp
                all_goals with_reducible rfl
              try simp only [Act.put, List.setIfInBounds_toArray, List.set_cons_zero, List.set_cons_succ]
              refine wpStore_take (i := 14) (oi := { dst := some 159, op := _, type := _, pos := _, after := _, guard := _ }) (v := ?_) false false rfl (by kernel_rfl) (by kernel_rfl) (by kernel_rfl) (by kernel_rfl) (fun _ _ _ h => h) (Or.inl ⟨by rfl, ?_⟩) (by assumption) (fun hSta => ?_)
              rotate_left 1
              · intro wS hSw
                obtain ⟨⟨r1, r2, r3, r4⟩, s3, s4⟩ := hSw
                clear s3
                clear s4
                go_simp
                all_goals with_reducible rfl
              try simp only [Act.put, List.setIfInBounds_toArray, List.set_cons_zero, List.set_cons_succ]
              refine wpStore_take (i := 15) (oi := { dst := some 160, op := _, type := _, pos := _, after := _, guard := _ }) (v := ?_) false false rfl (by kernel_rfl) (by kernel_rfl) (by kernel_rfl) (by kernel_rfl) (fun _ _ _ h => h) (Or.inl ⟨by rfl, ?_⟩) (by assumption) (fun hSta => ?_)
              rotate_left 1
              · intro wS hSw
                obtain ⟨⟨r1, r2, r3, r4⟩, s3, s4⟩ := hSw
                clear s3
                clear s4
                go_simp
                all_goals with_reducible rfl
              try simp only [Act.put, List.setIfInBounds_toArray, List.set_cons_zero, List.set_cons_succ]
              refine wpStore_take (i := 16) (oi := { dst := some 161, op := _, type := _, pos := _, after := _, guard := _ }) (v := ?_) false false rfl (by kernel_rfl) (by kernel_rfl) (by kernel_rfl) (by kernel_rfl) (fun _ _ _ h => h) (Or.inl ⟨by rfl, ?_⟩) (by assumption) (fun hSta => ?_)
              rotate_left 1
              · intro wS hSw
                obtain ⟨⟨r1, r2, r3, r4⟩, s3, s4⟩ := hSw
                clear s3
                clear s4
                go_simp
                all_goals with_reducible rfl
              try simp only [Act.put, List.setIfInBounds_toArray, List.set_cons_zero, List.set_cons_succ]
              refine wpStore_take (i := 17) (oi := { dst := some 162, op := _, type := _, pos := _, after := _, guard := _ }) (v := ?_) false false rfl (by kernel_rfl) (by kernel_rfl) (by kernel_rfl) (by kernel_rfl) (fun _ _ _ h => h) (Or.inl ⟨by rfl, ?_⟩) (by assumption) (fun hSta => ?_)
              rotate_left 1
              · intro wS hSw
                obtain ⟨⟨r1, r2, r3, r4⟩, s3, s4⟩ := hSw
                clear s3
                clear s4
                go_simp
                all_goals with_reducible rfl
              try simp only [Act.put, List.setIfInBounds_toArray, List.set_cons_zero, List.set_cons_succ]
              refine wpStore_take (i := 18) (oi := { dst := some 163, op := _, type := _, pos := _, after := _, guard := _ }) (v := ?_) false false rfl (by kernel_rfl) (by kernel_rfl) (by kernel_rfl) (by kernel_rfl) (fun _ _ _ h => h) (Or.inl ⟨by rfl, ?_⟩) (by assumption) (fun hSta => ?_)
              rotate_left 1
              · intro wS hSw
                obtain ⟨⟨r1, r2, r3, r4⟩, s3, s4⟩ := hSw
                clear s3
                clear s4
                go_simp
                all_goals with_reducible rfl
              try simp only [Act.put, List.setIfInBounds_toArray, List.set_cons_zero, List.set_cons_succ]
              refine wpStore_take (i := 19) (oi := { dst := some 164, op := _, type := _, pos := _, after := _, guard := _ }) (v := ?_) false false rfl (by kernel_rfl) (by kernel_rfl) (by kernel_rfl) (by kernel_rfl) (fun _ _ _ h => h) (Or.inl ⟨by rfl, ?_⟩) (by assumption) (fun hSta => ?_)
              rotate_left 1
              · intro wS hSw
                obtain ⟨⟨r1, r2, r3, r4⟩, s3, s4⟩ := hSw
                clear s3
                clear s4
                go_simp
                all_goals with_reducible rfl
              try simp only [Act.put, List.setIfInBounds_toArray, List.set_cons_zero, List.set_cons_succ]
              refine wpStore_take (i := 20) (oi := { dst := some 165, op := _, type := _, pos := _, after := _, guard := _ }) (v := ?_) false false rfl (by kernel_rfl) (by kernel_rfl) (by kernel_rfl) (by kernel_rfl) (fun _ _ _ h => h) (Or.inl ⟨by rfl, ?_⟩) (by assumption) (fun hSta => ?_)
              rotate_left 1
              · intro wS hSw
                obtain ⟨⟨r1, r2, r3, r4⟩, s3, s4⟩ := hSw
                clear s3
                clear s4
                go_simp
                all_goals with_reducible rfl
              try simp only [Act.put, List.setIfInBounds_toArray, List.set_cons_zero, List.set_cons_succ]
              refine wpStore_take (i := 21) (oi := { dst := some 166, op := _, type := _, pos := _, after := _, guard := _ }) (v := ?_) false false rfl (by kernel_rfl) (by kernel_rfl) (by kernel_rfl) (by kernel_rfl) (fun _ _ _ h => h) (Or.inl ⟨by rfl, ?_⟩) (by assumption) (fun hSta => ?_)
              rotate_left 1
              · intro wS hSw
                obtain ⟨⟨r1, r2, r3, r4⟩, s3, s4⟩ := hSw
                clear s3
                clear s4
                go_simp
                all_goals with_reducible rfl
              try simp only [Act.put, List.setIfInBounds_toArray, List.set_cons_zero, List.set_cons_succ]
              obtain ⟨X, HX⟩ : ∃ b : Bool, Hid (b = ((qy : Int) == (lo : Int))) := ⟨_, hide rfl⟩
              refine wpStore_one (i := 22) (o := { dst := none, op := _, type := _, pos := _, after := _, guard := _ }) (by kernel_rfl) rfl (fun K hK => ?_)
              go_simp
              rw [← HX.out]
              have HB1 := hide (show Below w8.heap.size w8 (wy.setCell ⟨w8.heap.size, 1, none⟩ (.bool X)).drew.drew from (HBY.out.setCell (p := ⟨w8.heap.size, 1, none⟩) (Nat.le_refl _) (.bool X)).drew.drew)
              have HK1 := hide (show Blk (wy.setCell ⟨w8.heap.size, 1, none⟩ (.bool X)).drew.drew w8.heap.size 4 #[.bool T0, .bool X, .bool T2, .bool T3] from HBK.out.set1 (i := 1) (.bool X))
              obtain ⟨v0, v1, v2, v3, v4, v5⟩ := HZi.out _ HB1.out
              refine hK.out _ _ ⟨⟨v0, v1, v2, v4⟩, fun h => absurd h (by decide), fun _ => trivial⟩ (fun hSta => ?_)
              clear hK K
              try simp only [Act.put, List.setIfInBounds_toArray, List.set_cons_zero, List.set_cons_succ]
              refine wpStore_done (by kernel_rfl) ?_ _
              clear hSta tc tz
              generalize (wy.setCell ⟨w8.heap.size, 1, none⟩ (.bool X)).drew.drew = W1 at *
              clear v0 v1 v2 v3 v4 v5
              go_wp2
              obtain ⟨z0, z1, z2, z3, z4, z5⟩ := HZi.out W1 HB1.out
              have tc : W1.cell? ⟨w8.heap.size, 3, none⟩ = some (.bool T3) := HK1.out.cell 3
              have tz : W1.frozen? ⟨w8.heap.size, 3, none⟩ = false := HK1.out.frozen 3
              have hw : IntKind.i64.wrap (3 : Int) = 3 := by decide
              cases T3 with
              | true =>
                refine wp_region_store 24 1000 (fun w' => w'.cell? ⟨b, o + j, none⟩ = some (.slice (some ⟨qb, qo, none⟩) 2 q.c) ∧ w'.cell? ⟨qb, qo + 1, none⟩ = some (.int .u64 (qy : Int)) ∧ w'.cell? ⟨w6.heap.size, 1, none⟩ = some (.slice (some ⟨g2, 0, none⟩) 2 c2) ∧ w'.cell? ⟨g2, 1, none⟩ = some (.int .u64 (hi : Int))) (fun w' => w'.cell? ⟨w8.heap.size, 3, none⟩ = some (.bool true)) (fun _ => True) (by kernel_rfl) ⟨⟨z0, z1, z3, z5⟩, tc, trivial⟩ (fun hSta => ?_)
                refine wpStore_take (i := 0) (oi := { dst := some 167, op := _, type := _, pos := _, after := _, guard := _ }) (v := ?_) false false rfl (by kernel_rfl) (by kernel_rfl) (by kernel_rfl) (by kernel_rfl) (fun _ _ _ h => h) (Or.inl ⟨by rfl, ?_⟩) (by assumption) (fun hSta => ?_)
                rotate_left 1
                · intro wS hSw
                  obtain ⟨⟨r1, r2, r3, r4⟩, s3, s4⟩ := hSw
                  clear s3
                  clear s4
                  go_simp
                  all_goals with_reducible rfl
                try simp only [Act.put, List.setIfInBounds_toArray, List.set_cons_zero, List.set_cons_succ]
                refine wpStore_take (i := 1) (oi := { dst := some 168, op := _, type := _, pos := _, after := _, guard := _ }) (v := ?_) false false rfl (by kernel_rfl) (by kernel_rfl) (by kernel_rfl) (by kernel_rfl) (fun _ _ _ h => h) (Or.inl ⟨by rfl, ?_⟩) (by assumption) (fun hSta => ?_)
                rotate_left 1
                · intro wS hSw
                  obtain ⟨⟨r1, r2, r3, r4⟩, s3, s4⟩ := hSw
                  clear s3
                  clear s4
                  go_simp
                  all_goals with_reducible rfl
                try simp only [Act.put, List.setIfInBounds_toArray, List.set_cons_zero, List.set_cons_succ]
                refine wpStore_take (i := 2) (oi := { dst := some 169, op := _, type := _, pos := _, after := _, guard := _ }) (v := ?_) false false rfl (by kernel_rfl) (by kernel_rfl) (by kernel_rfl) (by kernel_rfl) (fun _ _ _ h => h) (Or.inl ⟨by rfl, ?_⟩) (by assumption) (fun hSta => ?_)
                rotate_left 1
                · intro wS hSw
                  obtain ⟨⟨r1, r2, r3, r4⟩, s3, s4⟩ := hSw
                  clear s3
                  clear s4
                  go_simp
                  all_goals with_reducible rfl
                try simp only [Act.put, List.setIfInBounds_toArray, List.set_cons_zero, List.set_cons_succ]
                refine wpStore_take (i := 3) (oi := { dst := some 170, op := _, type := _, pos := _, after := _, guard := _ }) (v := ?_) false false rfl (by kernel_rfl) (by kernel_rfl) (by kernel_rfl) (by kernel_rfl) (fun _ _ _ h => h) (Or.inl ⟨by rfl, ?_⟩) (by assumption) (fun hSta => ?_)
                rotate_left 1
                · intro wS hSw
                  obtain ⟨⟨r1, r2, r3, r4⟩, s3, s4⟩ := hSw
                  clear s3
                  clear s4
                  go_simp
                  all_goals with_reducible rfl
                try simp only [Act.put, List.setIfInBounds_toArray, List.set_cons_zero, List.set_cons_succ]
                refine wpStore_take (i := 4) (oi := { dst := some 171, op := _, type := _, pos := _, after := _, guard := _ }) (v := ?_) false false rfl (by kernel_rfl) (by kernel_rfl) (by kernel_rfl) (by kernel_rfl) (fun _ _ _ h => h) (Or.inl ⟨by rfl, ?_⟩) (by assumption) (fun hSta => ?_)
                rotate_left 1
                · intro wS hSw
                  obtain ⟨⟨r1, r2, r3, r4⟩, s3, s4⟩ := hSw
                  clear s3
                  clear s4
                  go_simp
                  all_goals with_reducible rfl
                try simp only [Act.put, List.setIfInBounds_toArray, List.set_cons_zero, List.set_cons_succ]
                refine wpStore_take (i := 5) (oi := { dst := some 172, op := _, type := _, pos := _, after := _, guard := _ }) (v := ?_) false false rfl (by kernel_rfl) (by kernel_rfl) (by kernel_rfl) (by kernel_rfl) (fun _ _ _ h => h) (Or.inl ⟨by rfl, ?_⟩) (by assumption) (fun hSta => ?_)
                rotate_left 1
                · intro wS hSw
                  obtain ⟨⟨r1, r2, r3, r4⟩, s3, s4⟩ := hSw
                  clear s3
                  clear s4
                  go_simp
                  all_goals with_reducible rfl
                try simp only [Act.put, List.setIfInBounds_toArray, List.set_cons_zero, List.set_cons_succ]
                refine wpStore_take (i := 6) (oi := { dst := some 173, op := _, type := _, pos := _, after := _, guard := _ }) (v := ?_) false false rfl (by kernel_rfl) (by kernel_rfl) (by kernel_rfl) (by kernel_rfl) (fun _ _ _ h => h) (Or.inl ⟨by rfl, ?_⟩) (by assumption) (fun hSta => ?_)
                rotate_left 1
                · intro wS hSw
                  obtain ⟨⟨r1, r2, r3, r4⟩, s3, s4⟩ := hSw
                  clear s3
                  clear s4
                  go_simp
                  all_goals with_reducible rfl
                try simp only [Act.put, List.setIfInBounds_toArray, List.set_cons_zero, List.set_cons_succ]
                refine wpStore_take (i := 7) (oi := { dst := some 174, op := _, type := _, pos := _, after := _, guard := _ }) (v := ?_) true false rfl (by kernel_rfl) (by kernel_rfl) (by kernel_rfl) (by kernel_rfl) (fun _ _ _ h => h) (Or.inl ⟨by rfl, ?_⟩) (by assumption) (fun hSta => ?_)
                rotate_left 1
                · intro wS hSw
                  obtain ⟨⟨r1, r2, r3, r4⟩, s3, s4⟩ := hSw
                  have s3 := s3 rfl
                  clear s4
                  go_simp
                  all_goals with_reducible rfl
                try simp only [Act.put, List.setIfInBounds_toArray, List.set_cons_zero, List.set_cons_succ]
                refine wpStore_take (i := 8) (oi := { dst := some 175, op := _, type := _, pos := _, after := _, guard := _ }) (v := ?_) false false rfl (by kernel_rfl) (by kernel_rfl) (by kernel_rfl) (by kernel_rfl) (fun _ _ _ h => h) (Or.inl ⟨by rfl, ?_⟩) (by assumption) (fun hSta => ?_)
                rotate_left 1
                · intro wS hSw
                  obtain ⟨⟨r1, r2, r3, r4⟩, s3, s4⟩ := hSw
                  clear s3
                  clear s4
                  go_simp
                  all_goals with_reducible rfl
                try simp only [Act.put, List.setIfInBounds_toArray, List.set_cons_zero, List.set_cons_succ]
                refine wpStore_take (i := 9) (oi := { dst := some 176, op := _, type := _, pos := _, after := _, guard := _ }) (v := undef) false false rfl (by kernel_rfl) (by kernel_rfl) (by kernel_rfl) (by kernel_rfl) (fun _ _ _ h => h) (Or.inr ⟨by rfl, rfl⟩) (by assumption) (fun hSta => ?_)
                try simp only [Act.put, List.setIfInBounds_toArray, List.set_cons_zero, List.set_cons_succ]
                refine wpStore_take (i := 10) (oi := { dst := some 177, op := _, type := _, pos := _, after := _, guard := _ }) (v := undef) false false rfl (by kernel_rfl) (by kernel_rfl) (by kernel_rfl) (by kernel_rfl) (fun _ _ _ h => h) (Or.inr ⟨by rfl, rfl⟩) (by assumption) (fun hSta => ?_)
                try simp only [Act.put, List.setIfInBounds_toArray, List.set_cons_zero, List.set_cons_succ]
                refine wpStore_take (i := 11) (oi := { dst := some 178, op := _, type := _, pos := _, after := _, guard := _ }) (v := undef) false false rfl (by kernel_rfl) (by kernel_rfl) (by kernel_rfl) (by kernel_rfl) (fun _ _ _ h => h) (Or.inr ⟨by rfl, rfl⟩) (by assumption) (fun hSta => ?_)
                try simp only [Act.put, List.setIfInBounds_toArray, List.set_cons_zero, List.set_cons_succ]
                refine wpStore_take (i := 12) (oi := { dst := some 179, op := _, type := _, pos := _, after := _, guard := _ }) (v := undef) false false rfl (by kernel_rfl) (by kernel_rfl) (by kernel_rfl) (by kernel_rfl) (fun _ _ _ h => h) (Or.inr ⟨by rfl, rfl⟩) (by assumption) (fun hSta => ?_)
                try simp only [Act.put, List.setIfInBounds_toArray, List.set_cons_zero, List.set_cons_succ]
                refine wpStore_take (i := 13) (oi := { dst := some 180, op := _, type := _, pos := _, after := _, guard := _ }) (v := undef) false false rfl (by kernel_rfl) (by kernel_rfl) (by kernel_rfl) (by kernel_rfl) (fun _ _ _ h => h) (Or.inr ⟨by rfl, rfl⟩) (by assumption) (fun hSta => ?_)
                try simp only [Act.put, List.setIfInBounds_toArray, List.set_cons_zero, List.set_cons_succ]
                refine wpStore_take (i := 14) (oi := { dst := some 181, op := _, type := _, pos := _, after := _, guard := _ }) (v := undef) false false rfl (by kernel_rfl) (by kernel_rfl) (by kernel_rfl) (by kernel_rfl) (fun _ _ _ h => h) (Or.inr ⟨by rfl, rfl⟩) (by assumption) (fun hSta => ?_)
                try simp only [Act.put, List.setIfInBounds_toArray, List.set_cons_zero, List.set_cons_succ]
                refine wpStore_take (i := 15) (oi := { dst := some 182, op := _, type := _, pos := _, after := _, guard := _ }) (v := undef) false false rfl (by kernel_rfl) (by kernel_rfl) (by kernel_rfl) (by kernel_rfl) (fun _ _ _ h => h) (Or.inr ⟨by rfl, rfl⟩) (by assumption) (fun hSta => ?_)
                try simp only [Act.put, List.setIfInBounds_toArray, List.set_cons_zero, List.set_cons_succ]
                refine wpStore_take (i := 16) (oi := { dst := some 183, op := _, type := _, pos := _, after := _, guard := _ }) (v := undef) false false rfl (by kernel_rfl) (by kernel_rfl) (by kernel_rfl) (by kernel_rfl) (fun _ _ _ h => h) (Or.inr ⟨by rfl, rfl⟩) (by assumption) (fun hSta => ?_)
                try simp only [Act.put, List.setIfInBounds_toArray, List.set_cons_zero, List.set_cons_succ]
                refine wpStore_take (i := 17) (oi := { dst := some 184, op := _, type := _, pos := _, after := _, guard := _ }) (v := undef) false false rfl (by kernel_rfl) (by kernel_rfl) (by kernel_rfl) (by kernel_rfl) (fun _ _ _ h => h) (Or.inr ⟨by rfl, rfl⟩) (by assumption) (fun hSta => ?_)
                try simp only [Act.put, List.setIfInBounds_toArray, List.set_cons_zero, List.set_cons_succ]
                refine wpStore_take (i := 18) (oi := { dst := some 185, op := _, type := _, pos := _, after := _, guard := _ }) (v := undef) false false rfl (by kernel_rfl) (by kernel_rfl) (by kernel_rfl) (by kernel_rfl) (fun _ _ _ h => h) (Or.inr ⟨by rfl, rfl⟩) (by assumption) (fun hSta => ?_)
                try simp only [Act.put, List.setIfInBounds_toArray, List.set_cons_zero, List.set_cons_succ]
                refine wpStore_take (i := 19) (oi := { dst := some 186, op := _, type := _, pos := _, after := _, guard := _ }) (v := undef) false false rfl (by kernel_rfl) (by kernel_rfl) (by kernel_rfl) (by kernel_rfl) (fun _ _ _ h => h) (Or.inr ⟨by rfl, rfl⟩) (by assumption) (fun hSta => ?_)
                try simp only [Act.put, List.setIfInBounds_toArray, List.set_cons_zero, List.set_cons_succ]
                refine wpStore_take (i := 20) (oi := { dst := some 187, op := _, type := _, pos := _, after := _, guard := _ }) (v := undef) false false rfl (by kernel_rfl) (by kernel_rfl) (by kernel_rfl) (by kernel_rfl) (fun _ _ _ h => h) (Or.inr ⟨by rfl, rfl⟩) (by assumption) (fun hSta => ?_)
                try simp only [Act.put, List.setIfInBounds_toArray, List.set_cons_zero, List.set_cons_succ]
                refine wpStore_take (i := 21) (oi := { dst := some 188, op := _, type := _, pos := _, after := _, guard := _ }) (v := undef) false false rfl (by kernel_rfl) (by kernel_rfl) (by kernel_rfl) (by kernel_rfl) (fun _ _ _ h => h) (Or.inr ⟨by rfl, rfl⟩) (by assumption) (fun hSta => ?_)
                try simp only [Act.put, List.setIfInBounds_toArray, List.set_cons_zero, List.set_cons_succ]
                refine wpStore_take (i := 22) (oi := { dst := some 189, op := _, type := _, pos := _, after := _, guard := _ }) (v := ?_) false false rfl (by kernel_rfl) (by kernel_rfl) (by kernel_rfl) (by kernel_rfl) (fun _ _ _ h => h) (Or.inl ⟨by rfl, ?_⟩) (by assumption) (fun hSta => ?_)
                rotate_left 1
                · intro wS hSw
                  obtain ⟨⟨r1, r2, r3, r4⟩, s3, s4⟩ := hSw
                  clear s3
                  clear s4
                  go_simp
                  all_goals with_reducible rfl
                try simp only [Act.put, List.setIfInBounds_toArray, List.set_cons_zero, List.set_cons_succ]
                refine wpStore_take (i := 23) (oi := { dst := some 190, op := _, type := _, pos := _, after := _, guard := _ }) (v := ?_) false false rfl (by kernel_rfl) (by kernel_rfl) (by kernel_rfl) (by kernel_rfl) (fun _ _ _ h => h) (Or.inl ⟨by rfl, ?_⟩) (by assumption) (fun hSta => ?_)
                rotate_left 1
                · intro wS hSw
                  obtain ⟨⟨r1, r2, r3, r4⟩, s3, s4⟩ := hSw
                  clear s3
                  clear s4
                  go_simp
                  all_goals with_reducible rfl
                try simp only [Act.put, List.setIfInBounds_toArray, List.set_cons_zero, List.set_cons_succ]
                refine wpStore_one (i := 24) (o := { dst := none, op := _, type := _, pos := _, after := _, guard := _ }) (by kernel_rfl) rfl (fun K hK => ?_)
                go_simp
                have HB2 := hide (show Below w8.heap.size w8 (W1.setCell ⟨w8.heap.size, 3, none⟩ (.bool true)).drew from (HB1.out.setCell (p := ⟨w8.heap.size, 3, none⟩) (Nat.le_refl _) (.bool true)).drew)
                have HK2 := hide (show Blk (W1.setCell ⟨w8.heap.size, 3, none⟩ (.bool true)).drew w8.heap.size 4 #[.bool T0, .bool X, .bool T2, .bool true] from HK1.out.set1 (i := 3) (.bool true))
                obtain ⟨v0, v1, v2, v3, v4, v5⟩ := HZi.out _ HB2.out
                refine hK.out _ _ ⟨⟨v0, v1, v3, v5⟩, fun h => absurd h (by decide), fun _ => trivial⟩ (fun hSta => ?_)
                clear hK K
                try simp only [Act.put, List.setIfInBounds_toArray, List.set_cons_zero, List.set_cons_succ]
                refine wpStore_done (by kernel_rfl) ?_ _
                clear hSta tc tz
                generalize (W1.setCell ⟨w8.heap.size, 3, none⟩ (.bool true)).drew = W2 at *
                clear v0 v1 v2 v3 v4 v5
                go_wp2
                have HQ := hide (show ((al.map LP.p).getD j []).getD 1 0 = qy by rw [HPJ.out]; rfl)
                have e1 : met (al.map LP.p) 1 (loT (al.map LP.p) 1 nl) (metTo 2 j 1) = X := by
                  show met (al.map LP.p) 1 (loT (al.map LP.p) 1 nl) (j + 1) = X
                  rw [met_next HQ.out, show met (al.map LP.p) 1 (loT (al.map LP.p) 1 nl) j = false from HTE.out.2.1.symm]
                  rw [Bool.false_or, ← HLO.out, ← HX.out]
                have e3 : met (al.map LP.p) 1 (hiT (al.map LP.p) 1 nl) (metTo 2 j 1) = true := by
                  show met (al.map LP.p) 1 (hiT (al.map LP.p) 1 nl) (j + 1) = true
                  rw [met_next HQ.out, show met (al.map LP.p) 1 (hiT (al.map LP.p) 1 nl) j = true from HTE.out.2.2.2.symm]
                  rw [Bool.true_or]
                have e0 : met (al.map LP.p) 0 (loT (al.map LP.p) 0 nl) (metTo 2 j 0) = T0 := HTE.out.1.symm
                have e2 : met (al.map LP.p) 0 (hiT (al.map LP.p) 0 nl) (metTo 2 j 0) = T2 := HTE.out.2.2.1.symm
                refine ⟨⟨2, 2, by go_num, rfl, by omega, ?_, HB2.out⟩, by simp only [intOf]; omega⟩
                unfold tAt
                rw [e0, e1, e2, e3]
                exact HK2.out
              | false =>
                refine wp_region_store 24 1000 (fun w' => w'.cell? ⟨b, o + j, none⟩ = some (.slice (some ⟨qb, qo, none⟩) 2 q.c) ∧ w'.cell? ⟨qb, qo + 1, none⟩ = some (.int .u64 (qy : Int)) ∧ w'.cell? ⟨w6.heap.size, 1, none⟩ = some (.slice (some ⟨g2, 0, none⟩) 2 c2) ∧ w'.cell? ⟨g2, 1, none⟩ = some (.int .u64 (hi : Int))) (fun w' => w'.cell? ⟨w8.heap.size, 3, none⟩ = some (.bool false)) (fun _ => True) (by kernel_rfl) ⟨⟨z0, z1, z3, z5⟩, tc, trivial⟩ (fun hSta => ?_)
                refine wpStore_take (i := 0) (oi := { dst := some 167, op := _, type := _, pos := _, after := _, guard := _ }) (v := ?_) false false rfl (by kernel_rfl) (by kernel_rfl) (by kernel_rfl) (by kernel_rfl) (fun _ _ _ h => h) (Or.inl ⟨by rfl, ?_⟩) (by assumption) (fun hSta => ?_)
                rotate_left 1
                · intro wS hSw
                  obtain ⟨⟨r1, r2, r3, r4⟩, s3, s4⟩ := hSw
                  clear s3
                  clear s4
                  go_simp
                  all_goals with_reducible rfl
                try simp only [Act.put, List.setIfInBounds_toArray, List.set_cons_zero, List.set_cons_succ]
                refine wpStore_take (i := 1) (oi := { dst := some 168, op := _, type := _, pos := _, after := _, guard := _ }) (v := ?_) false false rfl (by kernel_rfl) (by kernel_rfl) (by kernel_rfl) (by kernel_rfl) (fun _ _ _ h => h) (Or.inl ⟨by rfl, ?_⟩) (by assumption) (fun hSta => ?_)
                rotate_left 1
                · intro wS hSw
                  obtain ⟨⟨r1, r2, r3, r4⟩, s3, s4⟩ := hSw
                  clear s3
                  clear s4
                  go_simp
                  all_goals with_reducible rfl
                try simp only [Act.put, List.setIfInBounds_toArray, List.set_cons_zero, List.set_cons_succ]
                refine wpStore_take (i := 2) (oi := { dst := some 169, op := _, type := _, pos := _, after := _, guard := _ }) (v := ?_) false false rfl (by kernel_rfl) (by kernel_rfl) (by kernel_rfl) (by kernel_rfl) (fun _ _ _ h => h) (Or.inl ⟨by rfl, ?_⟩) (by assumption) (fun hSta => ?_)
                rotate_left 1
                · intro wS hSw
                  obtain ⟨⟨r1, r2, r3, r4⟩, s3, s4⟩ := hSw
                  clear s3
                  clear s4
                  go_simp
                  all_goals with_reducible rfl
                try simp only [Act.put, List.setIfInBounds_toArray, List.set_cons_zero, List.set_cons_succ]
                refine wpStore_take (i := 3) (oi := { dst := some 170, op := _, type := _, pos := _, after := _, guard := _ }) (v := ?_) false false rfl (by kernel_rfl) (by kernel_rfl) (by kernel_rfl) (by kernel_rfl) (fun _ _ _ h => h) (Or.inl ⟨by rfl, ?_⟩) (by assumption) (fun hSta => ?_)
                rotate_left 1
                · intro wS hSw
                  obtain ⟨⟨r1, r2, r3, r4⟩, s3, s4⟩ := hSw
                  clear s3
                  clear s4
                  go_simp
                  all_goals with_reducible rfl
                try simp only [Act.put, List.setIfInBounds_toArray, List.set_cons_zero, List.set_cons_succ]
                refine wpStore_take (i := 4) (oi := { dst := some 171, op := _, type := _, pos := _, after := _, guard := _ }) (v := ?_) false false rfl (by kernel_rfl) (by kernel_rfl) (by kernel_rfl) (by kernel_rfl) (fun _ _ _ h => h) (Or.inl ⟨by rfl, ?_⟩) (by assumption) (fun hSta => ?_)
                rotate_left 1
                · intro wS hSw
                  obtain ⟨⟨r1, r2, r3, r4⟩, s3, s4⟩ := hSw
                  clear s3
                  clear s4
                  go_simp
                  all_goals with_reducible rfl
                try simp only [Act.put, List.setIfInBounds_toArray, List.set_cons_zero, List.set_cons_succ]
                refine wpStore_take (i := 5) (oi := { dst := some 172, op := _, type := _, pos := _, after := _, guard := _ }) (v := ?_) false false rfl (by kernel_rfl) (by kernel_rfl) (by kernel_rfl) (by kernel_rfl) (fun _ _ _ h => h) (Or.inl ⟨by rfl, ?_⟩) (by assumption) (fun hSta => ?_)
                rotate_left 1
                · intro wS hSw
                  obtain ⟨⟨r1, r2, r3, r4⟩, s3, s4⟩ := hSw
                  clear s3
                  clear s4
                  go_simp
                  all_goals with_reducible rfl
                try simp only [Act.put, List.setIfInBounds_toArray, List.set_cons_zero, List.set_cons_succ]
                refine wpStore_take (i := 6) (oi := { dst := some 173, op := _, type := _, pos := _, after := _, guard := _ }) (v := ?_) false false rfl (by kernel_rfl) (by kernel_rfl) (by kernel_rfl) (by kernel_rfl) (fun _ _ _ h => h) (Or.inl ⟨by rfl, ?_⟩) (by assumption) (fun hSta => ?_)
                rotate_left 1
                · intro wS hSw
                  obtain ⟨⟨r1, r2, r3, r4⟩, s3, s4⟩ := hSw
                  clear s3
                  clear s4
                  go_simp
                  all_goals with_reducible rfl
                try simp only [Act.put, List.setIfInBounds_toArray, List.set_cons_zero, List.set_cons_succ]
                refine wpStore_take (i := 7) (oi := { dst := some 174, op := _, type := _, pos := _, after := _, guard := _ }) (v := ?_) true false rfl (by kernel_rfl) (by kernel_rfl) (by kernel_rfl) (by kernel_rfl) (fun _ _ _ h => h) (Or.inl ⟨by rfl, ?_⟩) (by assumption) (fun hSta => ?_)
                rotate_left 1
                · intro wS hSw
                  obtain ⟨⟨r1, r2, r3, r4⟩, s3, s4⟩ := hSw
                  have s3 := s3 rfl
                  clear s4
                  go_simp
                  all_goals with_reducible rfl
                try simp only [Act.put, List.setIfInBounds_toArray, List.set_cons_zero, List.set_cons_succ]
                refine wpStore_take (i := 8) (oi := { dst := some 175, op := _, type := _, pos := _, after := _, guard := _ }) (v := ?_) false false rfl (by kernel_rfl) (by kernel_rfl) (by kernel_rfl) (by kernel_rfl) (fun _ _ _ h => h) (Or.inl ⟨by rfl, ?_⟩) (by assumption) (fun hSta => ?_)
                rotate_left 1
                · intro wS hSw
                  obtain ⟨⟨r1, r2, r3, r4⟩, s3, s4⟩ := hSw
                  clear s3
                  clear s4
                  go_simp
                  all_goals with_reducible rfl
                try simp only [Act.put, List.setIfInBounds_toArray, List.set_cons_zero, List.set_cons_succ]
                refine wpStore_take (i := 9) (oi := { dst := some 176, op := _, type := _, pos := _, after := _, guard := _ }) (v := ?_) false false rfl (by kernel_rfl) (by kernel_rfl) (by kernel_rfl) (by kernel_rfl) (fun _ _ _ h => h) (Or.inl ⟨by rfl, ?_⟩) (by assumption) (fun hSta => ?_)
                rotate_left 1
                · intro wS hSw
                  obtain ⟨⟨r1, r2, r3, r4⟩, s3, s4⟩ := hSw
                  clear s3
                  clear s4
                  go_simp
                  all_goals with_reducible rfl
                try simp only [Act.put, List.setIfInBounds_toArray, List.set_cons_zero, List.set_cons_succ]
                refine wpStore_take (i := 10) (oi := { dst := some 177, op := _, type := _, pos := _, after := _, guard := _ }) (v := ?_) false false rfl (by kernel_rfl) (by kernel_rfl) (by kernel_rfl) (by kernel_rfl) (fun _ _ _ h => h) (Or.inl ⟨by rfl, ?_⟩) (by assumption) (fun hSta => ?_)
                rotate_left 1
                · intro wS hSw
                  obtain ⟨⟨r1, r2, r3, r4⟩, s3, s4⟩ := hSw
                  clear s3
                  clear s4
                  go_simp
                  all_goals with_reducible rfl
                try simp only [Act.put, List.setIfInBounds_toArray, List.set_cons_zero, List.set_cons_succ]
                refine wpStore_take (i := 11) (oi := { dst := some 178, op := _, type := _, pos := _, after := _, guard := _ }) (v := ?_) false false rfl (by kernel_rfl) (by kernel_rfl) (by kernel_rfl) (by kernel_rfl) (fun _ _ _ h => h) (Or.inl ⟨by rfl, ?_⟩) (by assumption) (fun hSta => ?_)
                rotate_left 1
                · intro wS hSw
                  obtain ⟨⟨r1, r2, r3, r4⟩, s3, s4⟩ := hSw
                  clear s3
                  clear s4
                  go_simp
                  all_goals with_reducible rfl
                try simp only [Act.put, List.setIfInBounds_toArray, List.set_cons_zero, List.set_cons_succ]
                refine wpStore_take (i := 12) (oi := { dst := some 179, op := _, type := _, pos := _, after := _, guard := _ }) (v := ?_) false false rfl (by kernel_rfl) (by kernel_rfl) (by kernel_rfl) (by kernel_rfl) (fun _ _ _ h => h) (Or.inl ⟨by rfl, ?_⟩) (by assumption) (fun hSta => ?_)
                rotate_left 1
                · intro wS hSw
                  obtain ⟨⟨r1, r2, r3, r4⟩, s3, s4⟩ := hSw
                  clear s3
                  clear s4
                  go_simp
                  all_goals with_reducible rfl
                try simp only [Act.put, List.setIfInBounds_toArray, List.set_cons_zero, List.set_cons_succ]
                refine wpStore_take (i := 13) (oi := { dst := some 180, op := _, type := _, pos := _, after := _, guard := _ }) (v := ?_) false false rfl (by kernel_rfl) (by kernel_rfl) (by kernel_rfl) (by kernel_rfl) (fun _ _ _ h => h) (Or.inl ⟨by rfl, ?_⟩) (by assumption) (fun hSta => ?_)
                rotate_left 1
                · intro wS hSw
                  obtain ⟨⟨r1, r2, r3, r4⟩, s3, s4⟩ := hSw
                  clear s3
                  clear s4
                  go_simp
                  all_goals with_reducible rfl
                try simp only [Act.put, List.setIfInBounds_toArray, List.set_cons_zero, List.set_cons_succ]
                refine wpStore_take (i := 14) (oi := { dst := some 181, op := _, type := _, pos := _, after := _, guard := _ }) (v := ?_) false false rfl (by kernel_rfl) (by kernel_rfl) (by kernel_rfl) (by kernel_rfl) (fun _ _ _ h => h) (Or.inl ⟨by rfl, ?_⟩) (by assumption) (fun hSta => ?_)
                rotate_left 1
                · intro wS hSw
                  obtain ⟨⟨r1, r2, r3, r4⟩, s3, s4⟩ := hSw
                  clear s3
                  clear s4
                  go_simp
                  all_goals with_reducible rfl
                try simp only [Act.put, List.setIfInBounds_toArray, List.set_cons_zero, List.set_cons_succ]
                refine wpStore_take (i := 15) (oi := { dst := some 182, op := _, type := _, pos := _, after := _, guard := _ }) (v := ?_) false false rfl (by kernel_rfl) (by kernel_rfl) (by kernel_rfl) (by kernel_rfl) (fun _ _ _ h => h) (Or.inl ⟨by rfl, ?_⟩) (by assumption) (fun hSta => ?_)
                rotate_left 1
                · intro wS hSw
                  obtain ⟨⟨r1, r2, r3, r4⟩, s3, s4⟩ := hSw
                  clear s3
                  clear s4
                  go_simp
                  all_goals with_reducible rfl
                try simp only [Act.put, List.setIfInBounds_toArray, List.set_cons_zero, List.set_cons_succ]
                refine wpStore_take (i := 16) (oi := { dst := some 183, op := _, type := _, pos := _, after := _, guard := _ }) (v := ?_) false false rfl (by kernel_rfl) (by kernel_rfl) (by kernel_rfl) (by kernel_rfl) (fun _ _ _ h => h) (Or.inl ⟨by rfl, ?_⟩) (by assumption) (fun hSta => ?_)
                rotate_left 1
                · intro wS hSw
                  obtain ⟨⟨r1, r2, r3, r4⟩, s3, s4⟩ := hSw
                  clear s3
                  clear s4
                  go_simp
                  all_goals with_reducible rfl
                try simp only [Act.put, List.setIfInBounds_toArray, List.set_cons_zero, List.set_cons_succ]
                refine wpStore_take (i := 17) (oi := { dst := some 184, op := _, type := _, pos := _, after := _, guard := _ }) (v := ?_) false false rfl (by kernel_rfl) (by kernel_rfl) (by kernel_rfl) (by kernel_rfl) (fun _ _ _ h => h) (Or.inl ⟨by rfl, ?_⟩) (by assumption) (fun hSta => ?_)
                rotate_left 1
                · intro wS hSw
                  obtain ⟨⟨r1, r2, r3, r4⟩, s3, s4⟩ := hSw
                  clear s3
                  clear s4
                  go_simp
                  all_goals with_reducible rfl
                try simp only [Act.put, List.setIfInBounds_toArray, List.set_cons_zero, List.set_cons_succ]
                refine wpStore_take (i := 18) (oi := { dst := some 185, op := _, type := _, pos := _, after := _, guard := _ }) (v := ?_) false false rfl (by kernel_rfl) (by kernel_rfl) (by kernel_rfl) (by kernel_rfl) (fun _ _ _ h => h) (Or.inl ⟨by rfl, ?_⟩) (by assumption) (fun hSta => ?_)
                rotate_left 1
                · intro wS hSw
                  obtain ⟨⟨r1, r2, r3, r4⟩, s3, s4⟩ := hSw
                  clear s3
                  clear s4
                  go_simp
                  all_goals with_reducible rfl
                try simp only [Act.put, List.setIfInBounds_toArray, List.set_cons_zero, List.set_cons_succ]
                refine wpStore_take (i := 19) (oi := { dst := some 186, op := _, type := _, pos := _, after := _, guard := _ }) (v := ?_) false false rfl (by kernel_rfl) (by kernel_rfl) (by kernel_rfl) (by kernel_rfl) (fun _ _ _ h => h) (Or.inl ⟨by rfl, ?_⟩) (by assumption) (fun hSta => ?_)
                rotate_left 1
                · intro wS hSw
                  obtain ⟨⟨r1, r2, r3, r4⟩, s3, s4⟩ := hSw
                  clear s3
                  clear s4
                  go_simp
                  all_goals with_reducible rfl
                try simp only [Act.put, List.setIfInBounds_toArray, List.set_cons_zero, List.set_cons_succ]
                refine wpStore_take (i := 20) (oi := { dst := some 187, op := _, type := _, pos := _, after := _, guard := _ }) (v := ?_) false false rfl (by kernel_rfl) (by kernel_rfl) (by kernel_rfl) (by kernel_rfl) (fun _ _ _ h => h) (Or.inl ⟨by rfl, ?_⟩) (by assumption) (fun hSta => ?_)
                rotate_left 1
                · intro wS hSw
                  obtain ⟨⟨r1, r2, r3, r4⟩, s3, s4⟩ := hSw
                  clear s3
                  clear s4
                  go_simp
                  all_goals with_reducible rfl
                try simp only [Act.put, List.setIfInBounds_toArray, List.set_cons_zero, List.set_cons_succ]
                refine wpStore_take (i := 21) (oi := { dst := some 188, op := _, type := _, pos := _, after := _, guard := _ }) (v := ?_) false false rfl (by kernel_rfl) (by kernel_rfl) (by kernel_rfl) (by kernel_rfl) (fun _ _ _ h => h) (Or.inl ⟨by rfl, ?_⟩) (by assumption) (fun hSta => ?_)
                rotate_left 1
                · intro wS hSw
                  obtain ⟨⟨r1, r2, r3, r4⟩, s3, s4⟩ := hSw
                  clear s3
                  clear s4
                  go_simp
                  all_goals with_reducible rfl
                try simp only [Act.put, List.setIfInBounds_toArray, List.set_cons_zero, List.set_cons_succ]
                refine wpStore_take (i := 22) (oi := { dst := some 189, op := _, type := _, pos := _, after := _, guard := _ }) (v := ?_) false false rfl (by kernel_rfl) (by kernel_rfl) (by kernel_rfl) (by kernel_rfl) (fun _ _ _ h => h) (Or.inl ⟨by rfl, ?_⟩) (by assumption) (fun hSta => ?_)
                rotate_left 1
                · intro wS hSw
                  obtain ⟨⟨r1, r2, r3, r4⟩, s3, s4⟩ := hSw
                  clear s3
                  clear s4
                  go_simp
                  all_goals with_reducible rfl
                try simp only [Act.put, List.setIfInBounds_toArray, List.set_cons_zero, List.set_cons_succ]
                refine wpStore_take (i := 23) (oi := { dst := some 190, op := _, type := _, pos := _, after := _, guard := _ }) (v := ?_) false false rfl (by kernel_rfl) (by kernel_rfl) (by kernel_rfl) (by kernel_rfl) (fun _ _ _ h => h) (Or.inl ⟨by rfl, ?_⟩) (by assumption) (fun hSta => ?_)
                rotate_left 1
                · intro wS hSw
                  obtain ⟨⟨r1, r2, r3, r4⟩, s3, s4⟩ := hSw
                  clear s3
                  clear s4
                  go_simp
                  all_goals with_reducible rfl
                try simp only [Act.put, List.setIfInBounds_toArray, List.set_cons_zero, List.set_cons_succ]
                obtain ⟨Y, HY⟩ : ∃ b : Bool, Hid (b = ((qy : Int) == (hi : Int))) := ⟨_, hide rfl⟩
                refine wpStore_one (i := 24) (o := { dst := none, op := _, type := _, pos := _, after := _, guard := _ }) (by kernel_rfl) rfl (fun K hK => ?_)
                go_simp
                rw [← HY.out]
                have HB2 := hide (show Below w8.heap.size w8 (W1.setCell ⟨w8.heap.size, 3, none⟩ (.bool Y)).drew from (HB1.out.setCell (p := ⟨w8.heap.size, 3, none⟩) (Nat.le_refl _) (.bool Y)).drew)
                have HK2 := hide (show Blk (W1.setCell ⟨w8.heap.size, 3, none⟩ (.bool Y)).drew w8.heap.size 4 #[.bool T0, .bool X, .bool T2, .bool Y] from HK1.out.set1 (i := 3) (.bool Y))
                obtain ⟨v0, v1, v2, v3, v4, v5⟩ := HZi.out _ HB2.out
                refine hK.out _ _ ⟨⟨v0, v1, v3, v5⟩, fun h => absurd h (by decide), fun _ => trivial⟩ (fun hSta => ?_)
                clear hK K
                try simp only [Act.put, List.setIfInBounds_toArray, List.set_cons_zero, List.set_cons_succ]
                refine wpStore_done (by kernel_rfl) ?_ _
                clear hSta tc tz
                generalize (W1.setCell ⟨w8.heap.size, 3, none⟩ (.bool Y)).drew = W2 at *
                clear v0 v1 v2 v3 v4 v5
                go_wp2
                have HQ := hide (show ((al.map LP.p).getD j []).getD 1 0 = qy by rw [HPJ.out]; rfl)
                have e1 : met (al.map LP.p) 1 (loT (al.map LP.p) 1 nl) (metTo 2 j 1) = X := by
                  show met (al.map LP.p) 1 (loT (al.map LP.p) 1 nl) (j + 1) = X
                  rw [met_next HQ.out, show met (al.map LP.p) 1 (loT (al.map LP.p) 1 nl) j = false from HTE.out.2.1.symm]
                  rw [Bool.false_or, ← HLO.out, ← HX.out]
                have e3 : met (al.map LP.p) 1 (hiT (al.map LP.p) 1 nl) (metTo 2 j 1) = Y := by
                  show met (al.map LP.p) 1 (hiT (al.map LP.p) 1 nl) (j + 1) = Y
                  rw [met_next HQ.out, show met (al.map LP.p) 1 (hiT (al.map LP.p) 1 nl) j = false from HTE.out.2.2.2.symm]
                  rw [Bool.false_or, ← HHI.out, ← HY.out]
                have e0 : met (al.map LP.p) 0 (loT (al.map LP.p) 0 nl) (metTo 2 j 0) = T0 := HTE.out.1.symm
                have e2 : met (al.map LP.p) 0 (hiT (al.map LP.p) 0 nl) (metTo 2 j 0) = T2 := HTE.out.2.2.1.symm
                refine ⟨⟨2, 2, by go_num, rfl, by omega, ?_, HB2.out⟩, by simp only [intOf]; omega⟩
                unfold tAt
                rw [e0, e1, e2, e3]
                exact HK2.out
          · obtain rfl : z = 2 := by omega
            clear hz
            go_wp2
            exact ⟨⟨j + 1, by go_num, by omega, HTA.out, HBY.out⟩, by simp only [intOf]; omega⟩
          · omega
      · obtain rfl : j = nl := by omega
        have m0 : met (al.map LP.p) 0 (loT (al.map LP.p) 0 j) j = true := by obtain ⟨t, q1, q2⟩ := lo_mem (ps := al.map LP.p) (k := 0) (n := j) (by omega); exact met_of q1 q2
        have m1 : met (al.map LP.p) 1 (loT (al.map LP.p) 1 j) j = true := by obtain ⟨t, q1, q2⟩ := lo_mem (ps := al.map LP.p) (k := 1) (n := j) (by omega); exact met_of q1 q2
        have m2 : met (al.map LP.p) 0 (hiT (al.map LP.p) 0 j) j = true := by obtain ⟨t, q1, q2⟩ := hi_mem (ps := al.map LP.p) (k := 0) (n := j) (by omega); exact met_of q1 q2
        have m3 : met (al.map LP.p) 1 (hiT (al.map LP.p) 1 j) j = true := by obtain ⟨t, q1, q2⟩ := hi_mem (ps := al.map LP.p) (k := 1) (n := j) (by omega); exact met_of q1 q2
        have HBT : Blk wz w8.heap.size 4 #[.bool true, .bool true, .bool true, .bool true] := by
          have h := HTA.out
          unfold tAt metTo at h
          simp only [Nat.not_lt_zero, if_false] at h
          rw [m0, m1, m2, m3] at h
          exact h
        have t0 := HBT.cell 0
        have t1 := HBT.cell 1
        have t2 := HBT.cell 2
        have t3 := HBT.cell 3
        have HBF := hide (below_then HB8.out HBZ.out)
        clear hta hb HBT m0 m1 m2 m3
        by_cases h2 : np = 2
        · obtain rfl : np = 2 := h2
          have HSP := hide (ref27_small (c := cp) (HPP.out.below HBF.out))
          cases hs : small pp with
          | false =>
            obtain rfl : isv = false := by rw [HIS.out, hs]; rfl
            obtain rfl : nv = 0 := by rw [HNV.out, hs]; rfl
            obtain rfl : cd = 3 := by rw [HCD.out]; unfold numCode; rw [hs, if_neg (by rw [show pp.length = 2 from HPP.out.1]; simp)]; rfl
            rw [hs] at HSP
            clear hs
            go_wp2_with fail
            refine HSP.out.mono ?_
            rintro e w9 ⟨rfl, rfl⟩
            go_wp2
            go_ret
            exact ⟨rfl, HBF.out⟩
          | true =>
            have HO := hide (ref28_on (c := cl) (HLP.out.below HBF.out) (by omega) (by omega) HSM.out ⟨HPP.out.below HBF.out, HPC.out.1, HPC.out.2⟩ hs)
            have HW := hide (fun (W : World) (hW : Below w.heap.size w W) => ref28_winds (c := cl) (HLP.out.below hW) (by omega) (by omega) HSM.out ⟨HPP.out.below hW, HPC.out.1, HPC.out.2⟩ hs)
            obtain rfl : isv = onL (al.map LP.p) pp := by rw [HIS.out, hs]; rfl
            obtain rfl : nv = windsL (al.map LP.p) pp := by rw [HNV.out, hs]; rfl
            obtain rfl : cd = 0 := by rw [HCD.out]; exact (num_fine hs).2
            rw [hs] at HSP
            clear hs HIS HNV HCD
            generalize onL (al.map LP.p) pp = ob at *
            generalize windsL (al.map LP.p) pp = wv at *
            have q1 : (ob == ob) = true := by simp
            have q2 : (wv == wv) = true := by simp
            go_wp2_with fail
            refine HSP.out.mono ?_
            rintro e w9 ⟨rfl, rfl⟩
            go_wp2_with fail
            refine HO.out.mono ?_
            rintro e w9 ⟨rfl, hb⟩
            have HB9 := hide (below_then HBF.out hb)
            have HW := hide (HW.out _ HB9.out)
            clear hb HO
            go_wp2_with fail
            refine HW.out.mono ?_
            rintro e w10 ⟨rfl, hb⟩
            have HB10 := hide (below_then HB9.out hb)
            clear hb HW
            go_wp2
            go_ret
            exact ⟨rfl, HB10.out⟩
        · have hln : ¬ pp.length = 2 := by rw [show pp.length = np from HPP.out.1]; exact h2
          have hsm : small pp = false := small_not hln
          obtain rfl : isv = false := by rw [HIS.out, hsm]; rfl
          obtain rfl : nv = 0 := by rw [HNV.out, hsm]; rfl
          obtain rfl : cd = 2 := by rw [HCD.out]; unfold numCode; rw [if_pos hln]
          clear hsm hln
          have q1 : ¬ (np : Int) = 2 := by omega
          have q2 : ((np : Int) == 2) = false := by simp; omega
          go_wp2
          go_ret
          exact ⟨rfl, HBF.out⟩
end Go.Proofs.Ytlgdllohmmmegaa
