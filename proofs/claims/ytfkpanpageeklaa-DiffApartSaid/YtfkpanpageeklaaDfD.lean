/- diff: a node of which the other one is only a part. -/
import Derived.Test.YtfkpanpageeklaaDfC
set_option linter.unusedSimpArgs false
set_option linter.unusedVariables false
namespace Go.Proofs.Ytfkpanpageeklaa
open Go.RowKit
theorem kidEs_le {ks : List Kid} {j : Nat} {q : Kid} (h : ks[j]? = some q) : (kidEs (ks.take j)).length + q.es.length ≤ (kidEs ks).length := by
  have := congrArg List.length (kidEs_at h)
  simp only [List.length_append] at this
  omega
set_option maxHeartbeats 8000000 in
set_option maxRecDepth 100000 in
theorem df_beside {d : Bool} {w0 w : World} {k g m a bo : Nat} {f : FuncId} {p1 p2 : Value} {pre : List Nat} {ks : List Kid} {eb : List Ent} {rows : List CR} (hF : Fork w0 k g m pre ks) (hk : k ≤ 16) (ha : a < 65536) (hE : AtK m pre a (a + 1) eb)
    (hC : ColC w0.heap.size w bo rows) (hb : Below w0.heap.size w0 w) (hl : rows.length + (kidEs ks).length + eb.length ≤ 200000) (he : (kidEs ks).length ≤ 65536)
    (hcf : ∀ (args : Array Value) (W : World), (callFunc f args).run Try.prog W = .ok (.enter f args) W)
    (H : ∀ (W : World) (rows1 : List CR), ColC w0.heap.size W bo rows1 → Below w0.heap.size w0 W → KeepC w W → rows1.length + (esOf (kidAt ks a)).length + eb.length ≤ 200000 →
      Calls Try.prog f #[ptrOf (kidAt ks a), p1, p2] W (DfOut d w0 W k bo rows1 (esOf (kidAt ks a)) eb)) :
    Calls Try.prog 65 #[.agg #[tellV bo], .pointer (some ⟨g, 0, none⟩), asV d, .int .i64 (a : Int), .func (.func f) #[] #[p1, p2]] w (DfOut d w0 w k bo rows (kidEs ks) eb) := by
  have hal := (Below.refl w.heap.size w).alloc (Nat.le_refl _) (.cells #[tellV bo] 74)
  have hS := Blk.new w 74 #[tellV bo]
  have HLK := hide hS
  have HAL := hide hal
  have HC0 := hide (Col.below hC hal)
  have HB0 := hide (hb.trans (hal.mono hb.size))
  have HF := hide hF
  have HEB := hide hE
  have HI := hide H
  have HLN := hide hl
  have HLE := hide he
  have HSO := hide hF.sorted
  have HAT := hide (fun q (hq : q ∈ ks) => pow_le_16 (hF.kid q hq).2.2.2.2 hk)
  have H0 := hide (nd_from_0 (hF.stay (hb.trans (hal.mono hb.size))))
  have ha16 : (a : Int) ≤ 65535 := by omega
  have HALL := hide (fun W (rows : List CR) (q : Kid) (h : NodeOf w0 k q.blk q.lv q.pre q.es) hC hb hl he => df_all (w := W) (d := d) (bo := bo) (rows := rows) h hk hC hb hl he)
  generalize asV d = av at *
  clear hF hE hC hb hl he H hal hS ha
  go_enter Try.func65, Try.ntmps65
  go_wp2_with fail
  refine H0.out.mono ?_
  rintro e w2 ⟨rfl, hb2⟩
  have HST2 := hide (DfSt.start (d := d) (k := k) (Col.below HC0.out hb2) (HB0.out.trans (hb2.mono HB0.out.size)))
  have HLK2 := hide (HLK.out.below hb2)
  have HAL2 := hide (KeepC.below (below_then HAL.out hb2))
  clear hb2 H0 HC0 HB0 HLK HAL
  go_wp2
  go_loopw [10, 11, 12] (fun x10 x11 x12 wr => ∃ (j : Nat) (th : Bool) (rows1 : List CR), x10 = .bool th ∧ x11 = .int .i64 ((kAt ks j : Nat) : Int) ∧ x12 = kPt ks j ∧ j ≤ ks.length ∧ (th = false → ∀ (i : Nat) (q : Kid), ks[i]? = some q → i < j → q.at_ < a) ∧ (th = true → ∀ (i : Nat) (q : Kid), ks[i]? = some q → j ≤ i → a < q.at_) ∧ DfSt d w0 w2 k bo rows (kidEs (ks.take j)) (if th then eb else []) rows1 wr) (fun _ x11 x12 _ => fromM x11 x12)
  case atStart => exact ⟨0, false, [], rfl, rfl, rfl, Nat.zero_le _, fun _ i q _ h => absurd h (Nat.not_lt_zero _), fun h => (by cases h), HST2.out⟩
  case round =>
    obtain ⟨j, th, rows1, rfl, rfl, rfl, hj, hc1, hc2, hst⟩ := hrel
    rename World => wz
    have HLKz := hide (HLK2.out.keep (hst.keep _ (by decide) (by decide)))
    rcases Nat.lt_or_ge j ks.length with hjl | hjl
    · obtain ⟨q, hq⟩ : ∃ q, ks[j]? = some q := ⟨ks[j], List.getElem?_eq_getElem hjl⟩
      rw [kAt_some hq, kPt_some hq]
      have hqm := List.mem_of_getElem? hq
      have HQ := hide hq
      have HKQ := hide (HF.out.kid q hqm).1
      have hqa1 : ((q.at_ : Nat) : Int) ≤ 65535 := by have := HAT.out q hqm; omega
      have HAQ := hide (AtK.kid HF.out hqm)
      have HSP := hide (show ∀ (i : Nat) (r : Kid), ks[i]? = some r → j + 1 ≤ i → q.at_ < r.at_ from fun i r hr hi => kids_lt HF.out.sorted hq hr (by omega))
      clear hqm
      cases th with
      | true =>
        have hqa := hc2 rfl j q hq (Nat.le_refl _)
        have HST := hide hst
        have HC2 := hide (hc2 rfl)
        have HTK := hide (show AtK m pre 0 q.at_ (kidEs (ks.take j)) from AtK.kids HF.out (fun r hr => ⟨List.mem_of_mem_take hr, Nat.zero_le _, by
          obtain ⟨i, hi, hr⟩ := mem_take_idx hr
          exact kids_lt HF.out.sorted hr hq hi⟩))
        have HEQ := hide (show AtK m pre a q.at_ eb from HEB.out.mono (Nat.le_refl _) (by omega))
        have f1 : decide (a ≤ q.at_) = true := by simp; omega
        have f2 : ((q.at_ : Int) != (a : Int)) = true := by simp; omega
        have l0 := HLKz.out.cell 0
        unfold tellV at l0
        simp at l0
        clear hst hc1 hc2 hq hqa
        have HAL := hide (HALL.out _ (rows ++ rows1) q HKQ.out HST.out.col HST.out.below (by have := HST.out.len; have := kidEs_le HQ.out; have := HLN.out; simp only [List.length_append, List.length_nil, Bool.false_eq_true, if_false, if_true, List.append_nil, List.nil_append] at *; omega) (by have := kidEs_le HQ.out; have := HLE.out; omega))
        unfold tellV at HAL
        go_wp2_with fail
        refine HAL.out.mono ?_
        rintro e w20 hd20
        obtain ⟨rows20, rfl, hs20⟩ := HST.out.next hd20 (HTK.out.ahead HAQ.out (Nat.le_refl _)) (Ahead.nil_r _) (HEQ.out.ahead HAQ.out (Nat.le_refl _)) (Ahead.nil_r _)
        have HS20 := hide hs20
        clear hd20 hs20 HAL
        have HNX := hide (nd_from_next (HF.out.stay HS20.out.below) HQ.out)
        go_wp2_with fail
        refine HNX.out.mono ?_
        rintro e w21 ⟨rfl, hb21⟩
        have HS21 := hide (HS20.out.stay hb21)
        clear hb21 HNX
        go_wp2
        go_roundw
        case rel => exact ⟨j + 1, true, rows20, rfl, rfl, rfl, by omega, fun h => (by cases h), fun _ i r hr hi => HC2.out i r hr (by omega), by have := HS21.out; rw [kidEs_take HQ.out]; simpa using this⟩
        case measure => exact fromM_lt HSO.out HAT.out HQ.out
      | false =>
        have HST := hide hst
        have HC1 := hide (hc1 rfl)
        have HTK := hide (show AtK m pre 0 q.at_ (kidEs (ks.take j)) from AtK.kids HF.out (fun r hr => ⟨List.mem_of_mem_take hr, Nat.zero_le _, by
          obtain ⟨i, hi, hr⟩ := mem_take_idx hr
          exact kids_lt HF.out.sorted hr hq hi⟩))
        have HTA := hide (show AtK m pre 0 a (kidEs (ks.take j)) from AtK.kids HF.out (fun r hr => ⟨List.mem_of_mem_take hr, Nat.zero_le _, by
          obtain ⟨i, hi, hr⟩ := mem_take_idx hr
          exact hc1 rfl i r hr hi⟩))
        rcases Nat.lt_trichotomy q.at_ a with hlt | heq | hgt
        · have f1 : decide (a ≤ q.at_) = false := by simp; omega
          have f2 : ((q.at_ : Int) != (a : Int)) = true := by simp; omega
          have HN1 := hide (show ∀ (i : Nat) (r : Kid), ks[i]? = some r → i < j + 1 → r.at_ < a from fun i r hr hi => by
            rcases Nat.lt_or_ge i j with h | h
            · exact hc1 rfl i r hr h
            · obtain rfl : i = j := by omega
              rw [hq] at hr
              injection hr with hr
              subst hr
              exact hlt)
          have l0 := HLKz.out.cell 0
          unfold tellV at l0
          simp at l0
          clear hst hc1 hc2 hq hlt
          have HAL := hide (HALL.out _ (rows ++ rows1) q HKQ.out HST.out.col HST.out.below (by have := HST.out.len; have := kidEs_le HQ.out; have := HLN.out; simp only [List.length_append, List.length_nil, Bool.false_eq_true, if_false, if_true, List.append_nil, List.nil_append] at *; omega) (by have := kidEs_le HQ.out; have := HLE.out; omega))
          unfold tellV at HAL
          go_wp2_with fail
          refine HAL.out.mono ?_
          rintro e w20 hd20
          obtain ⟨rows20, rfl, hs20⟩ := HST.out.next hd20 (HTK.out.ahead HAQ.out (Nat.le_refl _)) (Ahead.nil_r _) (Ahead.nil_l _) (Ahead.nil_l _)
          have HS20 := hide hs20
          clear hd20 hs20 HAL
          have HNX := hide (nd_from_next (HF.out.stay HS20.out.below) HQ.out)
          go_wp2_with fail
          refine HNX.out.mono ?_
          rintro e w21 ⟨rfl, hb21⟩
          have HS21 := hide (HS20.out.stay hb21)
          clear hb21 HNX
          go_wp2
          go_roundw
          case rel => exact ⟨j + 1, false, rows20, rfl, rfl, rfl, by omega, fun _ => HN1.out, fun h => (by cases h), by have := HS21.out; rw [kidEs_take HQ.out]; simpa using this⟩
          case measure => exact fromM_lt HSO.out HAT.out HQ.out
        · have f1 : decide (a ≤ q.at_) = true := by simp; omega
          have f2 : ((q.at_ : Int) != (a : Int)) = false := by simp; omega
          have hka : kidAt ks a = some (q.blk, ⟨q.lv, q.pre, q.es⟩) := by rw [← heq]; exact kidAt_of HF.out.sorted hq
          have HEQ := hide heq
          have HKD := hide (nd_kid_at (HF.out.stay hst.below) a)
          clear hst hc1 hc2 hq heq
          unfold ptrOf at HKD
          rw [hka] at HKD
          simp only [Option.map_some, Option.map_none] at HKD
          go_wp2_with fail
          refine HKD.out.mono ?_
          rintro e w18 ⟨rfl, hb18⟩
          have HS18 := hide (HST.out.stay hb18)
          clear hb18 HKD
          have hin := HI.out w18 (rows ++ rows1) HS18.out.col HS18.out.below (HAL2.out.trans HS18.out.keep) (by have := HS18.out.len; have := HLN.out; have := kidEs_le HQ.out; rw [hka]; simp only [List.length_append, List.length_nil, esOf, Bool.false_eq_true, if_false] at *; omega)
          rw [hka] at hin
          have HIN := hide (show Calls Try.prog f #[.pointer (some ⟨q.blk, 0, none⟩), p1, p2] w18 (DfOut d w0 w18 k bo (rows ++ rows1) q.es eb) from hin)
          clear hin hka
          go_wp2_with fail
          refine HIN.out.mono ?_
          rintro e w20 hd20
          obtain ⟨rows20, rfl, hs20⟩ := HS18.out.next hd20 (HTK.out.ahead HAQ.out (Nat.le_refl _)) (HTA.out.ahead HEB.out (Nat.le_refl _)) (Ahead.nil_l _) (Ahead.nil_l _)
          have HS20 := hide hs20
          clear hd20 hs20 HIN
          have HNX := hide (nd_from_next (HF.out.stay HS20.out.below) HQ.out)
          go_wp2_with fail
          refine HNX.out.mono ?_
          rintro e w21 ⟨rfl, hb21⟩
          have HS21 := hide (HS20.out.stay hb21)
          clear hb21 HNX
          go_wp2
          go_roundw
          case rel => exact ⟨j + 1, true, rows20, rfl, rfl, rfl, by omega, fun h => (by cases h), fun _ i r hr hi => by have := HSP.out i r hr hi; have := HEQ.out; omega, by have := HS21.out; rw [kidEs_take HQ.out]; simpa using this⟩
          case measure => exact fromM_lt HSO.out HAT.out HQ.out
        · have f1 : decide (a ≤ q.at_) = true := by simp; omega
          have f2 : ((q.at_ : Int) != (a : Int)) = true := by simp; omega
          have hka : kidAt ks a = none := kidAt_no (fun i r hr hra => by
            rcases Nat.lt_trichotomy i j with h | h | h
            · have := hc1 rfl i r hr h
              omega
            · subst h
              rw [hq] at hr
              injection hr with hr
              subst hr
              omega
            · have := kids_lt HF.out.sorted hq hr h
              omega)
          have HGT := hide hgt
          have HEQ := hide (show AtK m pre a q.at_ eb from HEB.out.mono (Nat.le_refl _) (by omega))
          have HKD := hide (nd_kid_at (HF.out.stay hst.below) a)
          clear hst hc1 hc2 hq hgt
          unfold ptrOf at HKD
          rw [hka] at HKD
          simp only [Option.map_some, Option.map_none] at HKD
          go_wp2_with fail
          refine HKD.out.mono ?_
          rintro e w18 ⟨rfl, hb18⟩
          have HS18 := hide (HST.out.stay hb18)
          clear hb18 HKD
          have hin := HI.out w18 (rows ++ rows1) HS18.out.col HS18.out.below (HAL2.out.trans HS18.out.keep) (by have := HS18.out.len; have := HLN.out; have := kidEs_le HQ.out; rw [hka]; simp only [List.length_append, List.length_nil, esOf, Bool.false_eq_true, if_false] at *; omega)
          rw [hka] at hin
          have HIN := hide (show Calls Try.prog f #[.pointer none, p1, p2] w18 (DfOut d w0 w18 k bo (rows ++ rows1) [] eb) from hin)
          clear hin hka
          go_wp2_with fail
          refine HIN.out.mono ?_
          rintro e w20 hd20
          obtain ⟨rows19, rfl, hs19⟩ := HS18.out.next hd20 (Ahead.nil_r _) (HTA.out.ahead HEB.out (Nat.le_refl _)) (Ahead.nil_l _) (Ahead.nil_l _)
          have HS19 := hide hs19
          have hlk := HLKz.out
          have hl20 := (HLK2.out.keep (hs19.keep _ (by decide) (by decide))).cell 0
          unfold tellV at hl20
          simp at hl20
          clear hd20 hs19 HIN hlk
          have HAL := hide (HALL.out _ (rows ++ rows19) q HKQ.out HS19.out.col HS19.out.below (by have := HS19.out.len; have := kidEs_le HQ.out; have := HLN.out; simp only [List.length_append, List.length_nil, Bool.false_eq_true, if_false, if_true, List.append_nil, List.nil_append] at *; omega) (by have := kidEs_le HQ.out; have := HLE.out; omega))
          unfold tellV at HAL
          go_wp2_with fail
          refine HAL.out.mono ?_
          rintro e w20 hd20
          obtain ⟨rows20, rfl, hs20⟩ := HS19.out.next hd20 (by rw [List.append_nil]; exact HTK.out.ahead HAQ.out (Nat.le_refl _)) (Ahead.nil_r _) (by show Ahead ([] ++ eb) q.es; rw [List.nil_append]; exact HEQ.out.ahead HAQ.out (Nat.le_refl _)) (Ahead.nil_r _)
          have HS20 := hide hs20
          clear hd20 hs20 HAL
          have HNX := hide (nd_from_next (HF.out.stay HS20.out.below) HQ.out)
          go_wp2_with fail
          refine HNX.out.mono ?_
          rintro e w21 ⟨rfl, hb21⟩
          have HS21 := hide (HS20.out.stay hb21)
          clear hb21 HNX
          go_wp2
          go_roundw
          case rel => exact ⟨j + 1, true, rows20, rfl, rfl, rfl, by omega, fun h => (by cases h), fun _ i r hr hi => by have := HSP.out i r hr hi; have := HGT.out; omega, by have := HS21.out; rw [kidEs_take HQ.out]; simpa using this⟩
          case measure => exact fromM_lt HSO.out HAT.out HQ.out
    · obtain rfl : j = ks.length := by omega
      rw [kPt_none (Nat.le_refl _)]
      rw [List.take_of_length_le (Nat.le_refl _)] at hst
      cases th with
      | true =>
        have HFI := hide (DfOut.from_ hst.out HAL2.out)
        clear hst hc1 hc2
        go_wp2
        go_end0
        exact HFI.out
      | false =>
        have hka : kidAt ks a = none := kidAt_no (fun i r hr hra => by
          have := hc1 rfl i r hr (List.getElem?_eq_some_iff.1 hr).1
          omega)
        have HTA := hide (show AtK m pre 0 a (kidEs ks) from AtK.kids HF.out (fun r hr => ⟨hr, Nat.zero_le _, by
          obtain ⟨i, hi⟩ := List.getElem?_of_mem hr
          exact hc1 rfl i r hi (List.getElem?_eq_some_iff.1 hi).1⟩))
        have HST := hide hst
        have hin := HI.out wz (rows ++ rows1) hst.col hst.below (HAL2.out.trans hst.keep) (by have := hst.len; have := HLN.out; rw [hka]; simp only [List.length_append, List.length_nil, esOf, Bool.false_eq_true, if_false] at *; omega)
        rw [hka] at hin
        have HIN := hide (show Calls Try.prog f #[.pointer none, p1, p2] wz (DfOut d w0 wz k bo (rows ++ rows1) [] eb) from hin)
        clear hst hc1 hc2 hka hin
        go_wp2_with fail
        refine HIN.out.mono ?_
        rintro e w20 hd20
        obtain ⟨rows20, rfl, hs20⟩ := HST.out.next hd20 (Ahead.nil_r _) (HTA.out.ahead HEB.out (Nat.le_refl _)) (Ahead.nil_l _) (Ahead.nil_l _)
        have HFI := hide (show DfOut d w0 w k bo rows (kidEs ks) eb (.returned (.tuple #[])) w20 from DfOut.from_ (by simpa using hs20.out) HAL2.out)
        clear hd20 hs20 HIN
        go_wp2
        go_end0
        exact HFI.out
end Go.Proofs.Ytfkpanpageeklaa
