/- diff: all below a node, as changes. -/
import Derived.Test.YtfkpanpageeklaaDfB
set_option linter.unusedSimpArgs false
set_option linter.unusedVariables false
namespace Go.Proofs.Ytfkpanpageeklaa
open Go.RowKit
theorem ces_as (d : Bool) (rE : List ER) : ces (rE.map (asR d)) = (ents rE).map (asE d) := by
  unfold ces ents
  rw [List.map_map, List.map_map]
  exact List.map_congr_left fun r _ => asR_ce d r
theorem take_snoc {α : Type} {l : List α} {j : Nat} {r : α} (h : l[j]? = some r) : l.take (j + 1) = l.take j ++ [r] := by
  rw [List.take_add_one, h]
  rfl
set_option maxHeartbeats 8000000 in
set_option maxRecDepth 100000 in
theorem df_all_gone {w0 w : World} {k g bo : Nat} {lv : Int} {pre : List Nat} {es : List Ent} {rows : List CR} (hN : NodeOf w0 k g lv pre es) (hk : k ≤ 16) (hC : ColC w0.heap.size w bo rows) (hb : Below w0.heap.size w0 w) (hl : rows.length + es.length ≤ 200000) (he : es.length ≤ 65536) :
    Calls Try.prog 57 #[.agg #[tellV bo], .pointer (some ⟨g, 0, none⟩), .func (.func 59) #[] #[]] w (DfOut true w0 w k bo rows es []) := by
  have hal := (Below.refl w.heap.size w).alloc (Nat.le_refl _) (.cells #[tellV bo] 74)
  have hS := Blk.new w 74 #[tellV bo]
  have HA := hide (walk_all (hN.stay (hb.trans (hal.mono hb.size))) hk he)
  have HC0 := hide (Col.below hC hal)
  have HAL := hide hal
  have HS := hide hS
  have HB := hide hb
  have HLN := hide hl
  have HZS := hide hN.info.2.2.2.2.2.1
  clear hN hC hb hal hS hl he
  unfold tellV at HA ⊢
  go_enter Try.func57, Try.ntmps57
  go_wp2_with fail
  refine HA.out.mono ?_
  rintro e w2 ⟨A, c, rE, rfl, hes, ho, hok, hb2⟩
  have HC2 := hide (Col.below HC0.out hb2)
  have HO2 := hide ho
  have HS2 := hide (HS.out.below hb2)
  have HB2 := hide (HB.out.trans ((below_then HAL.out hb2).mono HB.out.size))
  have HK2 := hide (KeepC.below (below_then HAL.out hb2))
  have HES := hide hes
  have HOK := hide hok
  have hlen : rE.length = es.length := by
    rw [← hes]
    unfold ents
    rw [List.length_map]
  have hn2 : rE.length ≤ 200000 := by have := HLN.out; omega
  have HLEN := hide hlen
  clear hes ho hok hb2 HA HC0 hlen
  go_wp2
  go_loopw [11] (fun x11 wr => ∃ (j : Nat), x11 = .int .i64 (j : Int) ∧ j ≤ rE.length ∧ ColC w0.heap.size wr bo (rows ++ (rE.take j).map (asR true)) ∧ KeepC w2 wr ∧ Below w0.heap.size w0 wr) (fun x _ => rE.length - (intOf x).toNat)
  case atStart => exact ⟨0, rfl, Nat.zero_le _, by rw [List.take_zero, List.map_nil, List.append_nil]; exact HC2.out, KeepC.refl _, HB2.out⟩
  case round =>
    obtain ⟨j, rfl, hj, hC, hK, hb⟩ := hrel
    rename World => wz
    have HC := hide hC
    have HK := hide hK
    have HBz := hide hb
    clear hC hK hb HC2
    by_cases hjn : j < rE.length
    · have hE : EntsAt wz A rE.length rE := ⟨(own_rw (own_keep HO2.out (HK.out _ (by decide) (by decide)))).2, fun r hr => ((HOK.out r hr).1.keep HK.out.u64).1⟩
      obtain ⟨b, o, r, rfl, hbl, hr, hrok, x0, x1⟩ := hE.at_ hjn
      have HR := hide hr
      have hal4 := (Below.refl wz.heap.size wz).alloc (Nat.le_refl _) (.cells #[.slice r.A r.n r.c, .int .u64 (r.v : Int)] 63)
      have hS4 := ((HS2.out.keep (HK.out _ (by decide) (by decide))).below hal4)
      have hN4 := Blk.new wz 63 #[.slice r.A r.n r.c, .int .u64 (r.v : Int)]
      have HC4 := hide (Col.below HC.out hal4)
      have HB4 := hide (HBz.out.trans (hal4.mono HBz.out.size))
      have HKz := hide (KeepC.below hal4)
      have HCL := hide (fun W (hW : KeepC (wz.alloc (.cells #[.slice r.A r.n r.c, .int .u64 (r.v : Int)] 63)) W) => And.intro ((hS4.keep (hW _ (by decide) (by decide))).cell 0) (And.intro ((hN4.keep (hW _ (by decide) (by decide))).cell 0) ((hN4.keep (hW _ (by decide) (by decide))).cell 1)))
      have HT := hide (fun W (hW : ColC w0.heap.size W bo (rows ++ (rE.take j).map (asR true))) (hB : Below w0.heap.size w0 W) => show Calls Try.prog 36 #[.agg #[.slice r.A r.n r.c, .bool true, .bool false, .int .u64 (r.v : Int), .int .u64 0], .pointer (some ⟨bo, 0, none⟩)] W (TellOut w0 W bo (rows ++ (rE.take j).map (asR true)) (asR true r)) from df_tell (asR true r) hW hB (by simp only [List.length_append, List.length_map, List.length_take]; have := HLN.out; have := HLEN.out; omega))
      clear hE hbl hr hrok hal4 hS4 hN4
      go_wp2_with fail
      generalize hw4 : wz.alloc (.cells #[.slice r.A r.n r.c, .int .u64 (r.v : Int)] 63) = w4 at *
      have hkk : KeepC w4 w4.drew := KeepC.below ((Below.refl _ _).drew)
      have hdd : Below w4.heap.size w4 w4.drew := (Below.refl _ _).drew
      clear hw4
      obtain ⟨y0, y1, y2⟩ := HCL.out w4 (KeepC.refl _)
      unfold tellV at y0
      simp at y0 y1 y2
      go_region_held3 (fun w' => w'.cell? ⟨w.heap.size, 0, none⟩ = some (.func (.func 36) #[] #[.pointer (some ⟨bo, 0, none⟩)]) ∧ w'.cell? ⟨wz.heap.size, 0, none⟩ = some (.slice r.A r.n r.c) ∧ w'.cell? ⟨wz.heap.size, 1, none⟩ = some (.int .u64 (r.v : Int)))
        (first
          | go_keep
          | exact HCL.out _ hkk)
        (first
          | (go_at_call 59
             refine (df_gone _ r).mono ?_
             rintro e w5 ⟨rfl, hb5⟩
             replace hkk := hkk.trans (KeepC.below hb5)
             replace hdd := below_then hdd hb5
             clear hb5)
          | (go_at_call 36
             refine (HT.out _ (Col.below HC4.out hdd) (HB4.out.trans (hdd.mono HB4.out.size))).mono ?_
             rintro e w6 ⟨rfl, hC6, hK6, hB6⟩
             have HC6 := hide hC6
             have HB6 := hide hB6
             replace hkk := hkk.trans hK6
             clear hC6 hK6 hB6))
      all_goals
        have HKK := hide (HK.out.trans (HKz.out.trans hkk))
        clear hkk hdd y0 y1 y2 x0 x1
        go_wp2
        go_roundw
        case rel => exact ⟨j + 1, by go_num, by omega, by rw [take_snoc HR.out, List.map_append, ← List.append_assoc]; exact HC6.out, HKK.out, HB6.out⟩
        case measure => simp [intOf]; omega
    · obtain rfl : j = rE.length := by omega
      have HF := hide (show DfOut true w0 w k bo rows es [] (.returned (.tuple #[])) wz from ⟨rE.map (asR true), rfl, by
        rw [ces_as, HES.out]
        exact ChgD.all HZS.out, by have := HLEN.out; simp; omega, by have := HC.out; rw [List.take_of_length_le (Nat.le_refl _)] at this; exact this, fun r hr => by
        obtain ⟨q, hq, rfl⟩ := List.mem_map.1 hr
        exact ⟨asR_ok true ((HOK.out q hq).1.keep HK.out.u64), (HOK.out q hq).2⟩, HK2.out.trans HK.out, HBz.out⟩)
      go_wp2
      go_end0
      exact HF.out
set_option maxHeartbeats 8000000 in
set_option maxRecDepth 100000 in
theorem df_all_come {w0 w : World} {k g bo : Nat} {lv : Int} {pre : List Nat} {es : List Ent} {rows : List CR} (hN : NodeOf w0 k g lv pre es) (hk : k ≤ 16) (hC : ColC w0.heap.size w bo rows) (hb : Below w0.heap.size w0 w) (hl : rows.length + es.length ≤ 200000) (he : es.length ≤ 65536) :
    Calls Try.prog 57 #[.agg #[tellV bo], .pointer (some ⟨g, 0, none⟩), .func (.func 58) #[] #[]] w (DfOut false w0 w k bo rows es []) := by
  have hal := (Below.refl w.heap.size w).alloc (Nat.le_refl _) (.cells #[tellV bo] 74)
  have hS := Blk.new w 74 #[tellV bo]
  have HA := hide (walk_all (hN.stay (hb.trans (hal.mono hb.size))) hk he)
  have HC0 := hide (Col.below hC hal)
  have HAL := hide hal
  have HS := hide hS
  have HB := hide hb
  have HLN := hide hl
  have HZS := hide hN.info.2.2.2.2.2.1
  clear hN hC hb hal hS hl he
  unfold tellV at HA ⊢
  go_enter Try.func57, Try.ntmps57
  go_wp2_with fail
  refine HA.out.mono ?_
  rintro e w2 ⟨A, c, rE, rfl, hes, ho, hok, hb2⟩
  have HC2 := hide (Col.below HC0.out hb2)
  have HO2 := hide ho
  have HS2 := hide (HS.out.below hb2)
  have HB2 := hide (HB.out.trans ((below_then HAL.out hb2).mono HB.out.size))
  have HK2 := hide (KeepC.below (below_then HAL.out hb2))
  have HES := hide hes
  have HOK := hide hok
  have hlen : rE.length = es.length := by
    rw [← hes]
    unfold ents
    rw [List.length_map]
  have hn2 : rE.length ≤ 200000 := by have := HLN.out; omega
  have HLEN := hide hlen
  clear hes ho hok hb2 HA HC0 hlen
  go_wp2
  go_loopw [11] (fun x11 wr => ∃ (j : Nat), x11 = .int .i64 (j : Int) ∧ j ≤ rE.length ∧ ColC w0.heap.size wr bo (rows ++ (rE.take j).map (asR false)) ∧ KeepC w2 wr ∧ Below w0.heap.size w0 wr) (fun x _ => rE.length - (intOf x).toNat)
  case atStart => exact ⟨0, rfl, Nat.zero_le _, by rw [List.take_zero, List.map_nil, List.append_nil]; exact HC2.out, KeepC.refl _, HB2.out⟩
  case round =>
    obtain ⟨j, rfl, hj, hC, hK, hb⟩ := hrel
    rename World => wz
    have HC := hide hC
    have HK := hide hK
    have HBz := hide hb
    clear hC hK hb HC2
    by_cases hjn : j < rE.length
    · have hE : EntsAt wz A rE.length rE := ⟨(own_rw (own_keep HO2.out (HK.out _ (by decide) (by decide)))).2, fun r hr => ((HOK.out r hr).1.keep HK.out.u64).1⟩
      obtain ⟨b, o, r, rfl, hbl, hr, hrok, x0, x1⟩ := hE.at_ hjn
      have HR := hide hr
      have hal4 := (Below.refl wz.heap.size wz).alloc (Nat.le_refl _) (.cells #[.slice r.A r.n r.c, .int .u64 (r.v : Int)] 63)
      have hS4 := ((HS2.out.keep (HK.out _ (by decide) (by decide))).below hal4)
      have hN4 := Blk.new wz 63 #[.slice r.A r.n r.c, .int .u64 (r.v : Int)]
      have HC4 := hide (Col.below HC.out hal4)
      have HB4 := hide (HBz.out.trans (hal4.mono HBz.out.size))
      have HKz := hide (KeepC.below hal4)
      have HCL := hide (fun W (hW : KeepC (wz.alloc (.cells #[.slice r.A r.n r.c, .int .u64 (r.v : Int)] 63)) W) => And.intro ((hS4.keep (hW _ (by decide) (by decide))).cell 0) (And.intro ((hN4.keep (hW _ (by decide) (by decide))).cell 0) ((hN4.keep (hW _ (by decide) (by decide))).cell 1)))
      have HT := hide (fun W (hW : ColC w0.heap.size W bo (rows ++ (rE.take j).map (asR false))) (hB : Below w0.heap.size w0 W) => show Calls Try.prog 36 #[.agg #[.slice r.A r.n r.c, .bool false, .bool true, .int .u64 0, .int .u64 (r.v : Int)], .pointer (some ⟨bo, 0, none⟩)] W (TellOut w0 W bo (rows ++ (rE.take j).map (asR false)) (asR false r)) from df_tell (asR false r) hW hB (by simp only [List.length_append, List.length_map, List.length_take]; have := HLN.out; have := HLEN.out; omega))
      clear hE hbl hr hrok hal4 hS4 hN4
      go_wp2_with fail
      generalize hw4 : wz.alloc (.cells #[.slice r.A r.n r.c, .int .u64 (r.v : Int)] 63) = w4 at *
      have hkk : KeepC w4 w4.drew := KeepC.below ((Below.refl _ _).drew)
      have hdd : Below w4.heap.size w4 w4.drew := (Below.refl _ _).drew
      clear hw4
      obtain ⟨y0, y1, y2⟩ := HCL.out w4 (KeepC.refl _)
      unfold tellV at y0
      simp at y0 y1 y2
      go_region_held3 (fun w' => w'.cell? ⟨w.heap.size, 0, none⟩ = some (.func (.func 36) #[] #[.pointer (some ⟨bo, 0, none⟩)]) ∧ w'.cell? ⟨wz.heap.size, 0, none⟩ = some (.slice r.A r.n r.c) ∧ w'.cell? ⟨wz.heap.size, 1, none⟩ = some (.int .u64 (r.v : Int)))
        (first
          | go_keep
          | exact HCL.out _ hkk)
        (first
          | (go_at_call 58
             refine (df_come _ r).mono ?_
             rintro e w5 ⟨rfl, hb5⟩
             replace hkk := hkk.trans (KeepC.below hb5)
             replace hdd := below_then hdd hb5
             clear hb5)
          | (go_at_call 36
             refine (HT.out _ (Col.below HC4.out hdd) (HB4.out.trans (hdd.mono HB4.out.size))).mono ?_
             rintro e w6 ⟨rfl, hC6, hK6, hB6⟩
             have HC6 := hide hC6
             have HB6 := hide hB6
             replace hkk := hkk.trans hK6
             clear hC6 hK6 hB6))
      all_goals
        have HKK := hide (HK.out.trans (HKz.out.trans hkk))
        clear hkk hdd y0 y1 y2 x0 x1
        go_wp2
        go_roundw
        case rel => exact ⟨j + 1, by go_num, by omega, by rw [take_snoc HR.out, List.map_append, ← List.append_assoc]; exact HC6.out, HKK.out, HB6.out⟩
        case measure => simp [intOf]; omega
    · obtain rfl : j = rE.length := by omega
      have HF := hide (show DfOut false w0 w k bo rows es [] (.returned (.tuple #[])) wz from ⟨rE.map (asR false), rfl, by
        rw [ces_as, HES.out]
        exact ChgD.all HZS.out, by have := HLEN.out; simp; omega, by have := HC.out; rw [List.take_of_length_le (Nat.le_refl _)] at this; exact this, fun r hr => by
        obtain ⟨q, hq, rfl⟩ := List.mem_map.1 hr
        exact ⟨asR_ok false ((HOK.out q hq).1.keep HK.out.u64), (HOK.out q hq).2⟩, HK2.out.trans HK.out, HBz.out⟩)
      go_wp2
      go_end0
      exact HF.out
theorem df_all {w0 w : World} {d : Bool} {k g bo : Nat} {lv : Int} {pre : List Nat} {es : List Ent} {rows : List CR} (hN : NodeOf w0 k g lv pre es) (hk : k ≤ 16) (hC : ColC w0.heap.size w bo rows) (hb : Below w0.heap.size w0 w) (hl : rows.length + es.length ≤ 200000) (he : es.length ≤ 65536) :
    Calls Try.prog 57 #[.agg #[tellV bo], .pointer (some ⟨g, 0, none⟩), asV d] w (DfOut d w0 w k bo rows es []) := by
  cases d with
  | true => exact df_all_gone hN hk hC hb hl he
  | false => exact df_all_come hN hk hC hb hl he
end Go.Proofs.Ytfkpanpageeklaa
