/- pantilelaw12.DiffChain: no shorter way round. -/
import Derived.Test.YtpeeoddmhceddaaDfW
import Derived.Test.YtpeeoddmhceddaaLwTwo
set_option linter.unusedSimpArgs false
set_option linter.unusedVariables false
namespace Go.Proofs.Ytpeeoddmhceddaa
open Go.RowKit
theorem chv_one (rows : List CR) : ∀ u ∈ rows.flatMap chv, u.oneCell' = true := by
  intro u hu
  obtain ⟨r, _, hu⟩ := List.mem_flatMap.1 hu
  simp only [chv, List.mem_cons, List.not_mem_nil, or_false] at hu
  rcases hu with rfl | rfl | rfl | rfl | rfl <;> rfl
theorem own_emptyC (w : World) : (w.alloc (.cells #[] 52)).ownsRow w.heap.size 52 5 (.slice (some ⟨w.heap.size, 0, none⟩) 0 0) 0 [] := own_empty w _ _
/-- Is there one at a point among the first ones? -/
def anyP (rows : List CR) (j : Nat) (p : List Nat) : Bool := (rows.take j).any fun r => decide (r.p = p)
theorem anyP_step {rows : List CR} {j : Nat} {r : CR} (h : rows[j]? = some r) (p : List Nat) : anyP rows (j + 1) p = (anyP rows j p || decide (r.p = p)) := by
  unfold anyP
  rw [List.take_add_one, h, List.any_append]
  simp
set_option maxHeartbeats 8000000 in
set_option maxRecDepth 100000 in
theorem diff_chain (w : World) (k0 : Int) (_ : (Lit.int .i64 k0).wf = true) (AL : Option Addr) (nl cl : Nat) (al : List TA) (hl : ActsAt w AL nl al ∧ nl ≤ cl ∧ cl ≤ maxLen) (AM : Option Addr) (nm cm : Nat) (am : List TA) (hm : ActsAt w AM nm am ∧ nm ≤ cm ∧ cm ≤ maxLen) (AN : Option Addr) (nn cn : Nat) (an : List TA) (hn : ActsAt w AN nn an ∧ nn ≤ cn ∧ cn ≤ maxLen) :
    Calls Try.prog 5 #[.int .i64 k0, .slice AL nl cl, .slice AM nm cm, .slice AN nn cn] w fun e w' => e = .returned (.bool true) ∧ Below w.heap.size w w' := by
  have HEL := hide hl.1
  have HEM := hide hm.1
  have HEN := hide hn.1
  clear hl hm hn
  go_enter Try.func5, Try.ntmps5
  go_wp2_with fail
  refine (awake12 w).mono ?_
  rintro e w1 ⟨rfl, hb1⟩
  have HB1 := hide hb1
  clear hb1
  have HHa := hide (heavy7 AL nl cl 24 al _ (HEL.out.below HB1.out) (by omega))
  simp only [Int.cast_ofNat_Int] at HHa
  go_wp2_with fail
  refine HHa.out.mono ?_
  rintro e wha ⟨rfl | ⟨rfl, hna⟩, hb3⟩
  · have HB3 := hide (below_then HB1.out hb3)
    clear hb3 HHa
    go_wp2
    go_ret
    exact ⟨rfl, HB3.out⟩
  have HB2 := hide (below_then HB1.out hb3)
  clear hb3 HHa
  have HHb := hide (heavy7 AM nm cm 24 am _ (HEM.out.below HB2.out) (by omega))
  simp only [Int.cast_ofNat_Int] at HHb
  go_wp2_with fail
  refine HHb.out.mono ?_
  rintro e whb ⟨rfl | ⟨rfl, hnb⟩, hb3⟩
  · have HB3 := hide (below_then HB2.out hb3)
    clear hb3 HHb
    go_wp2
    go_ret
    exact ⟨rfl, HB3.out⟩
  have HB3 := hide (below_then HB2.out hb3)
  clear hb3 HHb
  have HHc := hide (heavy7 AN nn cn 24 an _ (HEN.out.below HB3.out) (by omega))
  simp only [Int.cast_ofNat_Int] at HHc
  go_wp2_with fail
  refine HHc.out.mono ?_
  rintro e whc ⟨rfl | ⟨rfl, hnc⟩, hb3⟩
  · have HB3 := hide (below_then HB3.out hb3)
    clear hb3 HHc
    go_wp2
    go_ret
    exact ⟨rfl, HB3.out⟩
  have HB4 := hide (below_then HB3.out hb3)
  clear hb3 HHc
  by_cases h1 : k0 < 1
  · have e1 : decide (k0 < 1) = true := by simpa using h1
    go_wp2
    go_ret
    exact ⟨rfl, HB4.out⟩
  have e1 : decide (k0 < 1) = false := by simpa using h1
  by_cases h2 : (16 : Int) < k0
  · have e2 : decide ((16 : Int) < k0) = true := by simpa using h2
    go_wp2
    go_ret
    exact ⟨rfl, HB4.out⟩
  have e2 : decide ((16 : Int) < k0) = false := by simpa using h2
  obtain ⟨k, rfl⟩ : ∃ k : Nat, k0 = (k : Int) := ⟨k0.toNat, by omega⟩
  have hk1 : 1 ≤ k := by omega
  have hk16 : k ≤ 16 := by omega
  have HTW := hide (two12 (c := cl) (d := cm) hk1 hk16 (HEL.out.below HB4.out) (HEM.out.below HB4.out) (by omega) (by omega))
  clear h1 h2
  go_wp2_with fail
  refine HTW.out.mono ?_
  rintro e w5 ⟨a, b, A1, A2, n1, c1, n2, c2, rfl, hNa, hNb, hn1, hn2, hb5⟩
  have HB5 := hide (below_then HB4.out hb5)
  have HNa := hide hNa
  have HNb := hide hNb
  clear hNa hNb hb5 HTW
  go_wp2
  go_loopw [12, 13, 14, 15] (fun x12 x13 x14 x15 wr => ∃ (j u : Nat) (A3 : Option Addr) (n3 c3 : Nat), x13 = .bool true ∧ x14 = .pointer (some ⟨u, 0, none⟩) ∧ x12 = .slice A3 n3 c3 ∧ x15 = .int .i64 (j : Int) ∧ j ≤ nn ∧ n3 ≤ 48 + j ∧ Now wr k a A1 n1 c1 ∧ Now wr k b A2 n2 c2 ∧ Now wr k u A3 n3 c3 ∧ Below w.heap.size w wr) (fun _ _ _ x _ => nn - (intOf x).toNat)
  case atStart => exact ⟨0, b, A2, n2, c2, rfl, rfl, rfl, rfl, Nat.zero_le _, by omega, HNa.out, HNb.out, HNb.out, HB5.out⟩
  case round =>
    obtain ⟨j, u, A3, n3, c3, rfl, rfl, rfl, rfl, hj, hnj, hNa, hNb, hNu, hb⟩ := hrel
    rename World => wz
    have HMa := hide hNa
    have HMb := hide hNb
    have HMu := hide hNu
    have HBr := hide hb
    clear HNa HNb
    by_cases hjn : j < nn
    · obtain ⟨b0, o, r, rfl, hbl, hr, hok, k0, k1, k2⟩ := (HEN.out.below hb).at_ hjn
      have HD := hide (done7 hNu (by omega) hok)
      clear hNa hNb hNu hb hr hok
      go_wp2_with fail
      refine HD.out.mono ?_
      rintro e w6 ⟨t', A6, n6, c6, rfl, hN6, hn6, hb6⟩
      have HH := hide (And.intro (HMa.out.stay hb6) (And.intro (HMb.out.stay hb6) (And.intro hN6 (below_then HBr.out hb6))))
      clear hN6 hb6 HD k0 k1 k2
      go_wp2
      go_roundw
      case rel => exact ⟨j + 1, t', A6, n6, c6, rfl, rfl, rfl, by go_num, by omega, by omega, HH.out.1, HH.out.2.1, HH.out.2.2.1, HH.out.2.2.2⟩
      case measure => simp [intOf]; omega
    have e9 : decide ((j : Int) < (nn : Int)) = false := by simp; omega
    obtain ⟨ra, ea, hTa, hEa, _, _, _, hesa⟩ := hNa
    obtain ⟨rb, eb, hTb, hEb, _, _, _, hesb⟩ := hNb
    obtain ⟨rc, ec, hTc, hEc, _, _, _, hesc⟩ := hNu
    have hla : ea.length ≤ 24 := by
      rw [← hesa]
      unfold ents
      rw [List.length_map, hEa.len]
      omega
    have hlb : eb.length ≤ 48 := by
      rw [← hesb]
      unfold ents
      rw [List.length_map, hEb.len]
      omega
    have hlc : ec.length ≤ 72 := by
      rw [← hesc]
      unfold ents
      rw [List.length_map, hEc.len]
      omega
    have HTa := hide hTa
    have HTb := hide hTb
    have HTc := hide hTc
    clear hTa hEa hesa hTb hEb hesb hTc hEc hesc HMa HMb HMu hb
    have HC := hide (df_changes HTa.out HTc.out (by omega) (by omega))
    go_wp2_with fail
    refine HC.out.mono ?_
    rintro e wx ⟨Ax, cx, X, rfl, hX, hox, hokx, hbx⟩
    have HTa2 := hide (HTa.out.stay hbx)
    have HTb2 := hide (HTb.out.stay hbx)
    have HTc2 := hide (HTc.out.stay hbx)
    have HX := hide (And.intro hX (And.intro (ChgsAt.of_own hox (fun r hr => (hokx r hr).1.1)) (fun r hr => (hokx r hr).2)))
    have hlx := hX.len_le
    rw [ces_len] at hlx
    have HBx := hide (below_then HBr.out hbx)
    clear hX hox hokx hbx HC HTa HTb HTc HBr
    have HC := hide (df_changes HTa2.out HTb2.out (by omega) (by omega))
    go_wp2_with fail
    refine HC.out.mono ?_
    rintro e wy ⟨Ay, cy, Y, rfl, hY, hoy, hoky, hby⟩
    have HTb3 := hide (HTb2.out.stay hby)
    have HTc3 := hide (HTc2.out.stay hby)
    have HXy := hide (HX.out.2.1.below hby)
    have HY := hide (And.intro hY (And.intro (ChgsAt.of_own hoy (fun r hr => (hoky r hr).1.1)) (fun r hr => (hoky r hr).2)))
    have hly := hY.len_le
    rw [ces_len] at hly
    have HBy := hide (below_then HBx.out hby)
    clear hY hoy hoky hby HC HTa2 HTb2 HTc2 HBx
    have HC := hide (df_changes HTb3.out HTc3.out (by omega) (by omega))
    go_wp2_with fail
    refine HC.out.mono ?_
    rintro e wv ⟨Az, cz, Z, rfl, hZ, hoz, hokz, hbz⟩
    have HXz := hide (HXy.out.below hbz)
    have HYz := hide (HY.out.2.1.below hbz)
    have HZ := hide (And.intro hZ (And.intro (ChgsAt.of_own hoz (fun r hr => (hokz r hr).1.1)) (fun r hr => (hokz r hr).2)))
    have hlz := hZ.len_le
    rw [ces_len] at hlz
    have hlen := HX.out.1.chain_len HY.out.1 hZ
    rw [ces_len, ces_len, ces_len] at hlen
    have HCH := hide (HX.out.1.chain HY.out.1 hZ)
    have HBz := hide (below_then HBy.out hbz)
    clear hZ hoz hokz hbz HC HTb3 HTc3 HBy HXy
    have hyI : ((Y.length : Nat) : Int) ≤ 200 := by omega
    have hzI : ((Z.length : Nat) : Int) ≤ 200 := by omega
    have hy0 : (0 : Int) ≤ ((Y.length : Nat) : Int) := by omega
    have hz0 : (0 : Int) ≤ ((Z.length : Nat) : Int) := by omega
    have e10 : decide (((Y.length : Nat) : Int) + ((Z.length : Nat) : Int) < ((X.length : Nat) : Int)) = false := by simp; omega
    have HQA := hide ((Below.refl wv.heap.size wv).alloc (Nat.le_refl _) (.cells #[] 52))
    have HQY := hide (HYz.out.1.below HQA.out)
    have HLL := hide (show X.length ≤ 200 ∧ Y.length ≤ 200 ∧ Z.length ≤ 200 from ⟨by omega, by omega, by omega⟩)
    have hy200 : Y.length ≤ 200 := by omega
    have hz200 : Z.length ≤ 200 := by omega
    have hx200 : X.length ≤ 200 := by omega
    clear hlx hly hlz hlen
    go_wp2_with (first
      | (at_builtin
         refine app_b _ rfl (.tmp 118) (.tmp 119) _ rfl wv.heap.size 52 _ 5 48 Try.underlying36 info_c rfl (by omega) _ (0 + Y.length) _ rfl HO8.out Az Z.length cz (Z.flatMap chv) rfl wv HB8.out (Nat.le_refl _) HQZ.out (chv_one Z) (by unfold maxLen; omega) (by omega) ?_
         intro v9 w9 ho9 hb9 hg9
         simp only [Nat.zero_add, List.nil_append] at ho9
         have HO9 := hide ho9
         have HB9 := hide hb9
         obtain ⟨A9, c9, rfl, -, -⟩ := Rw.of_own HO9.out
         clear ho9 hb9 hg9)
      | (at_builtin
         refine app_b _ rfl (.tmp 116) (.tmp 117) _ rfl wv.heap.size 52 _ 5 48 Try.underlying36 info_c rfl (by omega) _ 0 [] rfl (own_emptyC _) Ay Y.length cy (Y.flatMap chv) rfl wv HQA.out (Nat.le_refl _) HQY.out (chv_one Y) (by unfold maxLen; omega) (by omega) ?_
         intro v8 w8 ho8 hb8 hg8
         have HO8 := hide ho8
         have HB8 := hide hb8
         have HQZ := hide (HZ.out.2.1.1.below hb8)
         clear ho8 hb8 hg8)
      | fail)
    have hboth : ChgsAt w9 A9 (Y.length + Z.length) (Y ++ Z) := ⟨by rw [List.flatMap_append]; exact (own_rw HO9.out).2, fun r hr => by
      rcases List.mem_append.1 hr with hr | hr
      · exact (HYz.out.2 r hr).below HB9.out
      · exact (HZ.out.2.1.2 r hr).below HB9.out⟩
    have HBO := hide hboth
    have HXo := hide (HXz.out.below HB9.out)
    have HBw := hide (below_then HBz.out HB9.out)
    have hne : ∀ r ∈ X, anyP (Y ++ Z) (Y.length + Z.length) r.p = true := fun r hr => by
      unfold anyP
      rw [List.take_of_length_le (by simp), List.any_eq_true]
      rcases HCH.out r.ce (List.mem_map.2 ⟨r, hr, rfl⟩) with ⟨d, hd, hdp⟩ | ⟨d, hd, hdp⟩
      · obtain ⟨q, hq, rfl⟩ := List.mem_map.1 hd
        exact ⟨q, List.mem_append_left _ hq, by simp only [decide_eq_true_eq]; exact hdp⟩
      · obtain ⟨q, hq, rfl⟩ := List.mem_map.1 hd
        exact ⟨q, List.mem_append_right _ hq, by simp only [decide_eq_true_eq]; exact hdp⟩
    have HNE := hide hne
    have HPN := hide (show (∀ r ∈ X, r.n = k) ∧ ∀ r ∈ Y ++ Z, r.n = k from ⟨HX.out.2.2, fun r hr => by
      rcases List.mem_append.1 hr with hr | hr
      · exact HY.out.2.2 r hr
      · exact HZ.out.2.2 r hr⟩)
    generalize hN : Y.length + Z.length = N at *
    have hN400 : N ≤ 400 := by omega
    generalize Y ++ Z = YZ at *
    clear hboth hne hN hyI hzI hy0 hz0 e10 HO8 HB8 HQZ HQA HQY HXz HYz HX HY HZ HCH HBz
    go_wp2
    go_loopw [23, 24, 25] (fun x23 x24 x25 wr => ∃ (i : Nat), x23 = .int .i64 (i : Int) ∧ i ≤ X.length ∧ Below w9.heap.size w9 wr) (fun x _ _ _ => X.length - (intOf x).toNat)
    case atStart => exact ⟨0, rfl, Nat.zero_le _, Below.refl _ _⟩
    case round =>
      obtain ⟨i, rfl, hi, hb⟩ := hrel
      rename World => wo
      have HBo := hide hb
      by_cases hin : i < X.length
      · obtain ⟨b1, o1, r, rfl, hbl1, hr, hok1, x0, _, _, _, _⟩ := (HXo.out.below hb).at_ hin
        have HR := hide (And.intro hr hok1)
        have hrn := HPN.out.1 r (List.mem_of_getElem? hr)
        clear hb hbl1 hr hok1 x0
        go_wp2
        go_loopw [24, 25] (fun x24 x25 wr => ∃ (j : Nat), x24 = .bool (anyP YZ j r.p) ∧ x25 = .int .i64 (j : Int) ∧ j ≤ N ∧ Below wo.heap.size wo wr) (fun _ x _ => N - (intOf x).toNat)
        case atStart => exact ⟨0, rfl, rfl, Nat.zero_le _, Below.refl _ _⟩
        case round =>
          obtain ⟨j2, rfl, rfl, hj2, hb⟩ := hrel
          rename World => wi
          have HBi := hide hb
          by_cases hjn2 : j2 < N
          · obtain ⟨b2, o2, s, hA9, hbl2, hs, hok2, y0, _, _, _, _⟩ := (HBO.out.below (below_then HBo.out hb)).at_ hjn2
            subst hA9
            obtain ⟨b1', o1', r', hAx, hbl1, hr', _, x0, _, _, _, _⟩ := (HXo.out.below (below_then HBo.out hb)).at_ hin
            injection hAx with hAx
            injection hAx with e1 e2
            subst e1 e2
            obtain rfl : r' = r := by
              have := HR.out.1
              rw [hr'] at this
              injection this
            have hst := anyP_step hs r'.p
            have hsn := HPN.out.2 s (List.mem_of_getElem? hs)
            have hsp := fun (W : World) (hW : Below wi.heap.size wi W) => same_pt (c := s.c) (d := r'.c) (hok2.1.below hW) ((HR.out.2.1.below hb).below hW) (by omega) (by omega)
            generalize decide (s.p = r'.p) = bb at hst hsp
            have HST := hide hst
            have HSP := hide hsp
            clear hst hsp
            have HCL := hide (fun (W : World) (hW : Below wi.heap.size wi W) => And.intro ((hW.cell (p := ⟨b2, o2 + j2 * 5, none⟩) hbl2).trans y0) ((hW.cell (p := ⟨b1, o1 + i * 5, none⟩) hbl1).trans x0))
            clear hb hs hok2 hr' hsn hbl1 hbl2 hrn
            cases hany : anyP YZ j2 r'.p with
            | true =>
              have HAN := hide hany
              clear hany
              go_wp2_with fail
              go_quiet (fail)
              rename Nat => nq
              go_wp2
              go_roundw
              case rel => exact ⟨j2 + 1, by rw [HST.out, HAN.out]; rfl, by go_num, by omega, below_drewN HBi.out nq⟩
              case measure => simp [intOf]; omega
            | false =>
              have HAN := hide hany
              clear hany
              go_wp2_with fail
              go_region_held3 (fun w' => w'.cell? ⟨b2, o2 + j2 * 5, none⟩ = some (.slice s.A s.n s.c) ∧ w'.cell? ⟨b1, o1 + i * 5, none⟩ = some (.slice r'.A r'.n r'.c))
                (first
                  | exact HCL.out _ hd5
                  | exact HCL.out _ (Below.refl _ wi).drew)
                (first
                  | (go_at_call 36
                     with_reducible refine (HSP.out wi.drew (Below.refl _ wi).drew).mono ?_
                     rintro e w5 ⟨rfl, hb5⟩
                     have hd5 : Below wi.heap.size wi w5 := (Below.refl _ wi).drew.trans hb5))
              all_goals
                go_wp2
                go_roundw
                case rel => exact ⟨j2 + 1, by rw [HST.out, HAN.out, Bool.false_or], by go_num, by omega, below_then HBi.out hd5⟩
                case measure => simp [intOf]; omega
          · obtain rfl : j2 = N := by omega
            have hany := HNE.out r (List.mem_of_getElem? HR.out.1)
            rw [hany]
            clear hb hany
            go_wp2
            go_roundw
            case rel => exact ⟨i + 1, by go_num, by omega, below_then HBo.out HBi.out⟩
            case measure => simp [intOf]; omega
      · clear hb
        go_wp2
        go_ret
        exact ⟨rfl, below_then HBw.out HBo.out⟩
end Go.Proofs.Ytpeeoddmhceddaa
