/- diff: two nodes that part; both in full; Changes, Count, Same. -/
import Derived.Test.YtfkpanpageeklaaDfF
set_option linter.unusedSimpArgs false
set_option linter.unusedVariables false
namespace Go.Proofs.Ytfkpanpageeklaa
open Go.RowKit
set_option maxHeartbeats 8000000 in
set_option maxRecDepth 100000 in
theorem df_both_ap_eq_a {w0 w : World} {k ga gb bo : Nat} {la lb : Int} {pa pb : List Nat} {ea eb : List Ent} {rows : List CR} (hk1 : 1 ≤ k) (hk : k ≤ 16) (hA : NodeOf w0 k ga la pa ea) (hB : NodeOf w0 k gb lb pb eb) (hla : ea.length ≤ 60000) (hlb : eb.length ≤ 60000) (hC : ColC w0.heap.size w bo rows) (hb : Below w0.heap.size w0 w) (hl : rows.length + ea.length + eb.length ≤ 200000) (hgg : ga ≠ gb) (hrel : la = lb) (m : Nat) (hm : part pa pb = (m : Int)) (hcA : la < (m : Int)) (hcB : lb < (m : Int)) (hlt : addrOf pa m < addrOf pb m) :
    Calls Try.prog 37 #[.agg #[tellV bo], .pointer (some ⟨ga, 0, none⟩), .pointer (some ⟨gb, 0, none⟩)] w (DfOut true w0 w k bo rows ea eb) := by
  subst hrel
  have hps := part_spec pa pb (hA.info.1.1.trans hB.info.1.1.symm) hA.info.1.2 hB.info.1.2
  have hagr : ∀ b, m < b → addrOf pa b = addrOf pb b := fun b hb => hps.2.2.1 b (by omega)
  have ec1 : decide (part pa pb ≤ la) = false := by simp; omega
  have ec2 : decide (part pb pa ≤ la) = false := by rw [← part_sym hA.info.1 hB.info.1]; simp; omega
  have EC1 := hide ec1
  have EC2 := hide ec2
  have hcm : decide (cmp pa pb < 0) = true := by
    have := (cmp_lt hA.info.1 hB.info.1).2 ⟨m, hagr, hlt⟩
    rw [this]
    rfl
  have HAH := hide (show Ahead ea eb from (hA.atk hcA).ahead ((hB.atk hcB).zag hagr) (by omega))
  have e1 : (la == la) = true := by simp
  have e2 : decide (la < la) = false := by simp
  obtain ⟨_, _, _, _, hna, -⟩ := hA.head
  obtain ⟨_, _, _, _, hnb, -⟩ := hB.head
  have HPO := hide (fun W (hW : Below w.heap.size w W) => ptr_other hgg ((hna.below hb).below hW) ((hnb.below hb).below hW))
  have hbx := box_st w bo (.pointer (some ⟨ga, 0, none⟩)) (.pointer (some ⟨gb, 0, none⟩))
  have hbb := box_below w bo (.pointer (some ⟨ga, 0, none⟩)) (.pointer (some ⟨gb, 0, none⟩))
  have HA := hide (hA.stay hb)
  have HBB := hide (hB.stay hb)
  have HA0 := hide hA
  have HB00 := hide hB
  have HC := hide hC
  have HBW := hide hb
  have HL := hide (And.intro hla (And.intro hlb hl))
  have HZA := hide hA.info.1
  have HZBB := hide hB.info.1
  have HSYM := hide (part_sym hA.info.1 hB.info.1)
  generalize htv : tellV bo = tv
  have HTV := hide htv
  have hmf : ∀ (fn : Fn) (first cap : Array Value) (w : World), (Instr.makeFunc fn first cap).run Try.prog w = .ok (.func fn first cap) w := fun _ _ _ _ => rfl
  obtain ⟨l0, a0, b0⟩ := hbx.cells
  rw [htv] at l0
  have hpo := HPO.out _ hbb
  unfold boxW at hbx hbb l0 a0 b0 hpo
  rw [htv] at hbx hbb l0 a0 b0 hpo
  clear htv hA hB hla hlb hC hb hl hm hcA hcB hlt hps hagr ec1 ec2
  go_enter Try.func37, Try.ntmps37
  go_upto_region 12 with fail
  generalize ((w.alloc (.cells #[tv] 74)).alloc (.cells #[.pointer (some ⟨ga, 0, none⟩)] 60)).alloc (.cells #[.pointer (some ⟨gb, 0, none⟩)] 60) = wb at *
  have HBX := hide hbx
  have HB := hide hbb
  clear hbx hbb l0 a0 b0 hpo
  obtain ⟨l0, a0, b0⟩ := HBX.out.cells
  rw [HTV.out] at l0
  have hd : Below w.heap.size w wb.drew := HB.out.drew
  have hqd : Below wb.heap.size wb wb.drew := (Below.refl _ _).drew
  have HCELL := hide (fun W (hW : Below wb.heap.size wb W) => (HBX.out.keep (KeepC.below hW)).cells)
  rw [HTV.out] at HCELL
  go_wp2_with fail
  go_region_held3 (fun w' => w'.cell? ⟨w.heap.size, 0, none⟩ = some tv ∧ w'.cell? ⟨w.heap.size + 1, 0, none⟩ = some (.pointer (some ⟨ga, 0, none⟩)) ∧ w'.cell? ⟨w.heap.size + 1 + 1, 0, none⟩ = some (.pointer (some ⟨gb, 0, none⟩)))
    (first
      | go_keep
      | exact HCELL.out _ hqd)
    (first
      | (go_at_call 60
         with_reducible refine (nd_level (HA.out.stay hd)).mono ?_
         rintro e wl ⟨rfl, rfl⟩)
      | (go_at_call 60
         with_reducible refine (nd_level (HBB.out.stay hd)).mono ?_
         rintro e wl ⟨rfl, rfl⟩)
      | (go_at_call 62
         refine (nd_prefix (HBB.out.stay hd) hk).mono ?_
         rintro e w20 ⟨v20, rfl, ho20, hb20⟩
         obtain ⟨A20, c20, rfl, hp20⟩ := Pt.of_own ho20 HZBB.out.1 HZBB.out.2
         have HP20 := hide hp20
         replace hd := below_then hd hb20
         replace hqd := hqd.trans (hb20.mono hqd.size)
         clear ho20 hb20 hp20)
      | (go_at_call 61
         have hcv := nd_covers (d := c20) (HA.out.stay hd) hk1 hk HP20.out
         rw [EC1.out] at hcv
         refine hcv.mono ?_
         clear hcv
         rintro e wc ⟨rfl, rfl⟩))
  replace HBX := hide (HBX.out.keep (KeepC.below hqd))
  replace HB := hide hd
  clear hd hqd HCELL l0 a0 b0
  obtain ⟨l0, a0, b0⟩ := HBX.out.cells
  rw [HTV.out] at l0
  go_wp2_with fail
  go_quiet ((first
      | (go_at_call 60
         exact Calls.quiet_of_same (still_of (nd_level (HA.out.stay (below_drewN HB.out _)))))
      | (go_at_call 60
         exact Calls.quiet_of_same (still_of (nd_level (HBB.out.stay (below_drewN HB.out _)))))))
  rename Nat => nq
  replace HBX := hide (HBX.out.keep (KeepC.below (below_drewN (Below.refl _ _) nq)))
  replace HB := hide (below_drewN HB.out nq)
  clear l0 a0 b0
  generalize w20.drewN nq = wq10 at *
  obtain ⟨l0, a0, b0⟩ := HBX.out.cells
  rw [HTV.out] at l0
  go_wp2_with fail
  go_quiet ((first
      | (go_at_call 60
         exact Calls.quiet_of_same (still_of (nd_level (HA.out.stay (below_drewN HB.out _)))))
      | (go_at_call 60
         exact Calls.quiet_of_same (still_of (nd_level (HBB.out.stay (below_drewN HB.out _)))))))
  rename Nat => nq
  replace HBX := hide (HBX.out.keep (KeepC.below (below_drewN (Below.refl _ _) nq)))
  replace HB := hide (below_drewN HB.out nq)
  clear l0 a0 b0
  generalize wq10.drewN nq = wq11 at *
  obtain ⟨l0, a0, b0⟩ := HBX.out.cells
  rw [HTV.out] at l0
  have hd : Below w.heap.size w wq11.drew := HB.out.drew
  have hqd : Below wq11.heap.size wq11 wq11.drew := (Below.refl _ _).drew
  have HCELL := hide (fun W (hW : Below wq11.heap.size wq11 W) => (HBX.out.keep (KeepC.below hW)).cells)
  rw [HTV.out] at HCELL
  go_wp2_with fail
  go_region_held3 (fun w' => w'.cell? ⟨w.heap.size, 0, none⟩ = some tv ∧ w'.cell? ⟨w.heap.size + 1, 0, none⟩ = some (.pointer (some ⟨ga, 0, none⟩)) ∧ w'.cell? ⟨w.heap.size + 1 + 1, 0, none⟩ = some (.pointer (some ⟨gb, 0, none⟩)))
    (first
      | go_keep
      | exact HCELL.out _ hqd)
    (first
      | (go_at_call 62
         with_reducible refine (nd_prefix (HA.out.stay hd) hk).mono ?_
         rintro e w22 ⟨v22, rfl, ho22, hb22⟩
         obtain ⟨A22, c22, rfl, hp22⟩ := Pt.of_own ho22 HZA.out.1 HZA.out.2
         have HP22 := hide hp22
         replace hd := below_then hd hb22
         replace hqd := hqd.trans (hb22.mono hqd.size)
         clear ho22 hb22 hp22)
      | (go_at_call 62
         with_reducible refine (nd_prefix (HBB.out.stay hd) hk).mono ?_
         rintro e w24 ⟨v24, rfl, ho24, hb24⟩
         obtain ⟨A24, c24, rfl, hp24⟩ := Pt.of_own ho24 HZBB.out.1 HZBB.out.2
         have HP24 := hide hp24
         have HB24 := hide hb24
         replace hd := below_then hd hb24
         replace hqd := hqd.trans (hb24.mono hqd.size)
         clear ho24 hb24 hp24)
      | (go_at_call 68
         refine (zb_cmp A22 A24 k c22 c24 pa pb _ (HP22.out.below HB24.out) HP24.out hk1 hk).mono ?_
         rintro e wx ⟨rfl, rfl⟩))
  replace HBX := hide (HBX.out.keep (KeepC.below hqd))
  replace HB := hide hd
  clear hd hqd HCELL l0 a0 b0
  have hcon := df_all (d := true) (bo := bo) HA0.out hk (Col.below HC.out HB.out) (HBW.out.trans (HB.out.mono HBW.out.size)) (by have := HL.out; omega) (by have := HL.out; omega)
  unfold asV at hcon
  simp only [if_true, Bool.false_eq_true, if_false] at hcon
  rw [HTV.out] at hcon
  have HCON := hide hcon
  clear hcon
  obtain ⟨l0, a0, b0⟩ := HBX.out.cells
  rw [HTV.out] at l0
  go_wp2_with fail
  refine HCON.out.mono ?_
  rintro e we hde
  have HBX2 := hide (HBX.out.keep hde.keepC)
  obtain ⟨rows1, rfl, hs1⟩ := DfOut.from_ hde (KeepC.below HB.out)
  have HS1 := hide hs1
  clear l0 a0 b0 HCON hde hs1
  have hcon := df_all (d := false) (bo := bo) HB00.out hk HS1.out.col HS1.out.below (by have := HL.out; have := HS1.out.len; simp only [List.length_append, List.length_nil] at *; omega) (by have := HL.out; omega)
  unfold asV at hcon
  simp only [if_true, Bool.false_eq_true, if_false] at hcon
  rw [HTV.out] at hcon
  have HCON := hide hcon
  clear hcon
  obtain ⟨l0, a0, b0⟩ := HBX2.out.cells
  rw [HTV.out] at l0
  go_wp2_with fail
  refine HCON.out.mono ?_
  rintro e we2 hde
  obtain ⟨rows2, rfl, hs2⟩ := HS1.out.next hde.flip (Ahead.nil_r _) HAH.out (Ahead.nil_l _) (Ahead.nil_l _)
  have HF := hide (show DfOut true w0 w k bo rows ea eb (.returned (.tuple #[])) we2 from by simpa using hs2.out)
  clear l0 a0 b0 HCON hde hs2
  go_wp2
  first
    | go_end0
    | ((try simp only [Exit.inBlock, Exit.then]); refine bodyPost_ret (results_none rfl _ _ _) rfl ?_)
  exact HF.out
set_option maxHeartbeats 8000000 in
set_option maxRecDepth 100000 in
theorem df_both_ap_eq_b {w0 w : World} {k ga gb bo : Nat} {la lb : Int} {pa pb : List Nat} {ea eb : List Ent} {rows : List CR} (hk1 : 1 ≤ k) (hk : k ≤ 16) (hA : NodeOf w0 k ga la pa ea) (hB : NodeOf w0 k gb lb pb eb) (hla : ea.length ≤ 60000) (hlb : eb.length ≤ 60000) (hC : ColC w0.heap.size w bo rows) (hb : Below w0.heap.size w0 w) (hl : rows.length + ea.length + eb.length ≤ 200000) (hgg : ga ≠ gb) (hrel : la = lb) (m : Nat) (hm : part pa pb = (m : Int)) (hcA : la < (m : Int)) (hcB : lb < (m : Int)) (hlt : addrOf pb m < addrOf pa m) :
    Calls Try.prog 37 #[.agg #[tellV bo], .pointer (some ⟨ga, 0, none⟩), .pointer (some ⟨gb, 0, none⟩)] w (DfOut true w0 w k bo rows ea eb) := by
  subst hrel
  have hps := part_spec pa pb (hA.info.1.1.trans hB.info.1.1.symm) hA.info.1.2 hB.info.1.2
  have hagr : ∀ b, m < b → addrOf pa b = addrOf pb b := fun b hb => hps.2.2.1 b (by omega)
  have ec1 : decide (part pa pb ≤ la) = false := by simp; omega
  have ec2 : decide (part pb pa ≤ la) = false := by rw [← part_sym hA.info.1 hB.info.1]; simp; omega
  have EC1 := hide ec1
  have EC2 := hide ec2
  have hcm : decide (cmp pa pb < 0) = false := by
    have := (cmp_gt hA.info.1 hB.info.1).2 ⟨m, fun b hb => (hagr b hb).symm, hlt⟩
    rw [this]
    rfl
  have HAH := hide (show Ahead eb ea from ((hB.atk hcB).zag hagr).ahead (hA.atk hcA) (by omega))
  have e1 : (la == la) = true := by simp
  have e2 : decide (la < la) = false := by simp
  obtain ⟨_, _, _, _, hna, -⟩ := hA.head
  obtain ⟨_, _, _, _, hnb, -⟩ := hB.head
  have HPO := hide (fun W (hW : Below w.heap.size w W) => ptr_other hgg ((hna.below hb).below hW) ((hnb.below hb).below hW))
  have hbx := box_st w bo (.pointer (some ⟨ga, 0, none⟩)) (.pointer (some ⟨gb, 0, none⟩))
  have hbb := box_below w bo (.pointer (some ⟨ga, 0, none⟩)) (.pointer (some ⟨gb, 0, none⟩))
  have HA := hide (hA.stay hb)
  have HBB := hide (hB.stay hb)
  have HA0 := hide hA
  have HB00 := hide hB
  have HC := hide hC
  have HBW := hide hb
  have HL := hide (And.intro hla (And.intro hlb hl))
  have HZA := hide hA.info.1
  have HZBB := hide hB.info.1
  have HSYM := hide (part_sym hA.info.1 hB.info.1)
  generalize htv : tellV bo = tv
  have HTV := hide htv
  have hmf : ∀ (fn : Fn) (first cap : Array Value) (w : World), (Instr.makeFunc fn first cap).run Try.prog w = .ok (.func fn first cap) w := fun _ _ _ _ => rfl
  obtain ⟨l0, a0, b0⟩ := hbx.cells
  rw [htv] at l0
  have hpo := HPO.out _ hbb
  unfold boxW at hbx hbb l0 a0 b0 hpo
  rw [htv] at hbx hbb l0 a0 b0 hpo
  clear htv hA hB hla hlb hC hb hl hm hcA hcB hlt hps hagr ec1 ec2
  go_enter Try.func37, Try.ntmps37
  go_upto_region 12 with fail
  generalize ((w.alloc (.cells #[tv] 74)).alloc (.cells #[.pointer (some ⟨ga, 0, none⟩)] 60)).alloc (.cells #[.pointer (some ⟨gb, 0, none⟩)] 60) = wb at *
  have HBX := hide hbx
  have HB := hide hbb
  clear hbx hbb l0 a0 b0 hpo
  obtain ⟨l0, a0, b0⟩ := HBX.out.cells
  rw [HTV.out] at l0
  have hd : Below w.heap.size w wb.drew := HB.out.drew
  have hqd : Below wb.heap.size wb wb.drew := (Below.refl _ _).drew
  have HCELL := hide (fun W (hW : Below wb.heap.size wb W) => (HBX.out.keep (KeepC.below hW)).cells)
  rw [HTV.out] at HCELL
  go_wp2_with fail
  go_region_held3 (fun w' => w'.cell? ⟨w.heap.size, 0, none⟩ = some tv ∧ w'.cell? ⟨w.heap.size + 1, 0, none⟩ = some (.pointer (some ⟨ga, 0, none⟩)) ∧ w'.cell? ⟨w.heap.size + 1 + 1, 0, none⟩ = some (.pointer (some ⟨gb, 0, none⟩)))
    (first
      | go_keep
      | exact HCELL.out _ hqd)
    (first
      | (go_at_call 60
         with_reducible refine (nd_level (HA.out.stay hd)).mono ?_
         rintro e wl ⟨rfl, rfl⟩)
      | (go_at_call 60
         with_reducible refine (nd_level (HBB.out.stay hd)).mono ?_
         rintro e wl ⟨rfl, rfl⟩)
      | (go_at_call 62
         refine (nd_prefix (HBB.out.stay hd) hk).mono ?_
         rintro e w20 ⟨v20, rfl, ho20, hb20⟩
         obtain ⟨A20, c20, rfl, hp20⟩ := Pt.of_own ho20 HZBB.out.1 HZBB.out.2
         have HP20 := hide hp20
         replace hd := below_then hd hb20
         replace hqd := hqd.trans (hb20.mono hqd.size)
         clear ho20 hb20 hp20)
      | (go_at_call 61
         have hcv := nd_covers (d := c20) (HA.out.stay hd) hk1 hk HP20.out
         rw [EC1.out] at hcv
         refine hcv.mono ?_
         clear hcv
         rintro e wc ⟨rfl, rfl⟩))
  replace HBX := hide (HBX.out.keep (KeepC.below hqd))
  replace HB := hide hd
  clear hd hqd HCELL l0 a0 b0
  obtain ⟨l0, a0, b0⟩ := HBX.out.cells
  rw [HTV.out] at l0
  go_wp2_with fail
  go_quiet ((first
      | (go_at_call 60
         exact Calls.quiet_of_same (still_of (nd_level (HA.out.stay (below_drewN HB.out _)))))
      | (go_at_call 60
         exact Calls.quiet_of_same (still_of (nd_level (HBB.out.stay (below_drewN HB.out _)))))))
  rename Nat => nq
  replace HBX := hide (HBX.out.keep (KeepC.below (below_drewN (Below.refl _ _) nq)))
  replace HB := hide (below_drewN HB.out nq)
  clear l0 a0 b0
  generalize w20.drewN nq = wq10 at *
  obtain ⟨l0, a0, b0⟩ := HBX.out.cells
  rw [HTV.out] at l0
  go_wp2_with fail
  go_quiet ((first
      | (go_at_call 60
         exact Calls.quiet_of_same (still_of (nd_level (HA.out.stay (below_drewN HB.out _)))))
      | (go_at_call 60
         exact Calls.quiet_of_same (still_of (nd_level (HBB.out.stay (below_drewN HB.out _)))))))
  rename Nat => nq
  replace HBX := hide (HBX.out.keep (KeepC.below (below_drewN (Below.refl _ _) nq)))
  replace HB := hide (below_drewN HB.out nq)
  clear l0 a0 b0
  generalize wq10.drewN nq = wq11 at *
  obtain ⟨l0, a0, b0⟩ := HBX.out.cells
  rw [HTV.out] at l0
  have hd : Below w.heap.size w wq11.drew := HB.out.drew
  have hqd : Below wq11.heap.size wq11 wq11.drew := (Below.refl _ _).drew
  have HCELL := hide (fun W (hW : Below wq11.heap.size wq11 W) => (HBX.out.keep (KeepC.below hW)).cells)
  rw [HTV.out] at HCELL
  go_wp2_with fail
  go_region_held3 (fun w' => w'.cell? ⟨w.heap.size, 0, none⟩ = some tv ∧ w'.cell? ⟨w.heap.size + 1, 0, none⟩ = some (.pointer (some ⟨ga, 0, none⟩)) ∧ w'.cell? ⟨w.heap.size + 1 + 1, 0, none⟩ = some (.pointer (some ⟨gb, 0, none⟩)))
    (first
      | go_keep
      | exact HCELL.out _ hqd)
    (first
      | (go_at_call 62
         with_reducible refine (nd_prefix (HA.out.stay hd) hk).mono ?_
         rintro e w22 ⟨v22, rfl, ho22, hb22⟩
         obtain ⟨A22, c22, rfl, hp22⟩ := Pt.of_own ho22 HZA.out.1 HZA.out.2
         have HP22 := hide hp22
         replace hd := below_then hd hb22
         replace hqd := hqd.trans (hb22.mono hqd.size)
         clear ho22 hb22 hp22)
      | (go_at_call 62
         with_reducible refine (nd_prefix (HBB.out.stay hd) hk).mono ?_
         rintro e w24 ⟨v24, rfl, ho24, hb24⟩
         obtain ⟨A24, c24, rfl, hp24⟩ := Pt.of_own ho24 HZBB.out.1 HZBB.out.2
         have HP24 := hide hp24
         have HB24 := hide hb24
         replace hd := below_then hd hb24
         replace hqd := hqd.trans (hb24.mono hqd.size)
         clear ho24 hb24 hp24)
      | (go_at_call 68
         refine (zb_cmp A22 A24 k c22 c24 pa pb _ (HP22.out.below HB24.out) HP24.out hk1 hk).mono ?_
         rintro e wx ⟨rfl, rfl⟩))
  replace HBX := hide (HBX.out.keep (KeepC.below hqd))
  replace HB := hide hd
  clear hd hqd HCELL l0 a0 b0
  have hcon := df_all (d := false) (bo := bo) HB00.out hk (Col.below HC.out HB.out) (HBW.out.trans (HB.out.mono HBW.out.size)) (by have := HL.out; omega) (by have := HL.out; omega)
  unfold asV at hcon
  simp only [if_true, Bool.false_eq_true, if_false] at hcon
  rw [HTV.out] at hcon
  have HCON := hide hcon
  clear hcon
  obtain ⟨l0, a0, b0⟩ := HBX.out.cells
  rw [HTV.out] at l0
  go_wp2_with fail
  refine HCON.out.mono ?_
  rintro e we hde
  have HBX2 := hide (HBX.out.keep hde.keepC)
  obtain ⟨rows1, rfl, hs1⟩ := DfOut.from_ hde.flip (KeepC.below HB.out)
  have HS1 := hide hs1
  clear l0 a0 b0 HCON hde hs1
  have hcon := df_all (d := true) (bo := bo) HA0.out hk HS1.out.col HS1.out.below (by have := HL.out; have := HS1.out.len; simp only [List.length_append, List.length_nil] at *; omega) (by have := HL.out; omega)
  unfold asV at hcon
  simp only [if_true, Bool.false_eq_true, if_false] at hcon
  rw [HTV.out] at hcon
  have HCON := hide hcon
  clear hcon
  obtain ⟨l0, a0, b0⟩ := HBX2.out.cells
  rw [HTV.out] at l0
  go_wp2_with fail
  refine HCON.out.mono ?_
  rintro e we2 hde
  obtain ⟨rows2, rfl, hs2⟩ := HS1.out.next hde (Ahead.nil_l _) (Ahead.nil_l _) HAH.out (Ahead.nil_r _)
  have HF := hide (show DfOut true w0 w k bo rows ea eb (.returned (.tuple #[])) we2 from by simpa using hs2.out)
  clear l0 a0 b0 HCON hde hs2
  go_wp2
  first
    | go_end0
    | ((try simp only [Exit.inBlock, Exit.then]); refine bodyPost_ret (results_none rfl _ _ _) rfl ?_)
  exact HF.out
set_option maxHeartbeats 8000000 in
set_option maxRecDepth 100000 in
theorem df_both_ap_gt_a {w0 w : World} {k ga gb bo : Nat} {la lb : Int} {pa pb : List Nat} {ea eb : List Ent} {rows : List CR} (hk1 : 1 ≤ k) (hk : k ≤ 16) (hA : NodeOf w0 k ga la pa ea) (hB : NodeOf w0 k gb lb pb eb) (hla : ea.length ≤ 60000) (hlb : eb.length ≤ 60000) (hC : ColC w0.heap.size w bo rows) (hb : Below w0.heap.size w0 w) (hl : rows.length + ea.length + eb.length ≤ 200000) (hgg : ga ≠ gb) (hrel : lb < la) (m : Nat) (hm : part pa pb = (m : Int)) (hcA : la < (m : Int)) (hcB : lb < (m : Int)) (hlt : addrOf pa m < addrOf pb m) :
    Calls Try.prog 37 #[.agg #[tellV bo], .pointer (some ⟨ga, 0, none⟩), .pointer (some ⟨gb, 0, none⟩)] w (DfOut true w0 w k bo rows ea eb) := by
  have hps := part_spec pa pb (hA.info.1.1.trans hB.info.1.1.symm) hA.info.1.2 hB.info.1.2
  have hagr : ∀ b, m < b → addrOf pa b = addrOf pb b := fun b hb => hps.2.2.1 b (by omega)
  have ec1 : decide (part pa pb ≤ la) = false := by simp; omega
  have ec2 : decide (part pb pa ≤ lb) = false := by rw [← part_sym hA.info.1 hB.info.1]; simp; omega
  have EC1 := hide ec1
  have EC2 := hide ec2
  have hcm : decide (cmp pa pb < 0) = true := by
    have := (cmp_lt hA.info.1 hB.info.1).2 ⟨m, hagr, hlt⟩
    rw [this]
    rfl
  have HAH := hide (show Ahead ea eb from (hA.atk hcA).ahead ((hB.atk hcB).zag hagr) (by omega))
  have e1 : (la == lb) = false := by simp; omega
  have e2 : decide (lb < la) = true := by simpa using hrel
  have e3 : decide (la < lb) = false := by simp; omega
  obtain ⟨_, _, _, _, hna, -⟩ := hA.head
  obtain ⟨_, _, _, _, hnb, -⟩ := hB.head
  have HPO := hide (fun W (hW : Below w.heap.size w W) => ptr_other hgg ((hna.below hb).below hW) ((hnb.below hb).below hW))
  have hbx := box_st w bo (.pointer (some ⟨ga, 0, none⟩)) (.pointer (some ⟨gb, 0, none⟩))
  have hbb := box_below w bo (.pointer (some ⟨ga, 0, none⟩)) (.pointer (some ⟨gb, 0, none⟩))
  have HA := hide (hA.stay hb)
  have HBB := hide (hB.stay hb)
  have HA0 := hide hA
  have HB00 := hide hB
  have HC := hide hC
  have HBW := hide hb
  have HL := hide (And.intro hla (And.intro hlb hl))
  have HZA := hide hA.info.1
  have HZBB := hide hB.info.1
  have HSYM := hide (part_sym hA.info.1 hB.info.1)
  generalize htv : tellV bo = tv
  have HTV := hide htv
  have hmf : ∀ (fn : Fn) (first cap : Array Value) (w : World), (Instr.makeFunc fn first cap).run Try.prog w = .ok (.func fn first cap) w := fun _ _ _ _ => rfl
  obtain ⟨l0, a0, b0⟩ := hbx.cells
  rw [htv] at l0
  have hpo := HPO.out _ hbb
  unfold boxW at hbx hbb l0 a0 b0 hpo
  rw [htv] at hbx hbb l0 a0 b0 hpo
  clear htv hA hB hla hlb hC hb hl hm hcA hcB hlt hps hagr ec1 ec2 hrel
  go_enter Try.func37, Try.ntmps37
  go_upto_region 12 with fail
  generalize ((w.alloc (.cells #[tv] 74)).alloc (.cells #[.pointer (some ⟨ga, 0, none⟩)] 60)).alloc (.cells #[.pointer (some ⟨gb, 0, none⟩)] 60) = wb at *
  have HBX := hide hbx
  have HB := hide hbb
  clear hbx hbb l0 a0 b0 hpo
  obtain ⟨l0, a0, b0⟩ := HBX.out.cells
  rw [HTV.out] at l0
  go_wp2_with fail
  go_quiet ((first
      | (go_at_call 60
         exact Calls.quiet_of_same (still_of (nd_level (HA.out.stay (below_drewN HB.out _)))))
      | (go_at_call 60
         exact Calls.quiet_of_same (still_of (nd_level (HBB.out.stay (below_drewN HB.out _)))))))
  rename Nat => nq
  replace HBX := hide (HBX.out.keep (KeepC.below (below_drewN (Below.refl _ _) nq)))
  replace HB := hide (below_drewN HB.out nq)
  clear l0 a0 b0
  generalize wb.drewN nq = wq10 at *
  obtain ⟨l0, a0, b0⟩ := HBX.out.cells
  rw [HTV.out] at l0
  have hd : Below w.heap.size w wq10.drew := HB.out.drew
  have hqd : Below wq10.heap.size wq10 wq10.drew := (Below.refl _ _).drew
  have HCELL := hide (fun W (hW : Below wq10.heap.size wq10 W) => (HBX.out.keep (KeepC.below hW)).cells)
  rw [HTV.out] at HCELL
  go_wp2_with fail
  go_region_held3 (fun w' => w'.cell? ⟨w.heap.size, 0, none⟩ = some tv ∧ w'.cell? ⟨w.heap.size + 1, 0, none⟩ = some (.pointer (some ⟨ga, 0, none⟩)) ∧ w'.cell? ⟨w.heap.size + 1 + 1, 0, none⟩ = some (.pointer (some ⟨gb, 0, none⟩)))
    (first
      | go_keep
      | exact HCELL.out _ hqd)
    (first
      | (go_at_call 60
         with_reducible refine (nd_level (HA.out.stay hd)).mono ?_
         rintro e wl ⟨rfl, rfl⟩)
      | (go_at_call 60
         with_reducible refine (nd_level (HBB.out.stay hd)).mono ?_
         rintro e wl ⟨rfl, rfl⟩)
      | (go_at_call 62
         refine (nd_prefix (HBB.out.stay hd) hk).mono ?_
         rintro e w20 ⟨v20, rfl, ho20, hb20⟩
         obtain ⟨A20, c20, rfl, hp20⟩ := Pt.of_own ho20 HZBB.out.1 HZBB.out.2
         have HP20 := hide hp20
         replace hd := below_then hd hb20
         replace hqd := hqd.trans (hb20.mono hqd.size)
         clear ho20 hb20 hp20)
      | (go_at_call 61
         have hcv := nd_covers (d := c20) (HA.out.stay hd) hk1 hk HP20.out
         rw [EC1.out] at hcv
         refine hcv.mono ?_
         clear hcv
         rintro e wc ⟨rfl, rfl⟩))
  replace HBX := hide (HBX.out.keep (KeepC.below hqd))
  replace HB := hide hd
  clear hd hqd HCELL l0 a0 b0
  obtain ⟨l0, a0, b0⟩ := HBX.out.cells
  rw [HTV.out] at l0
  go_wp2_with fail
  go_quiet ((first
      | (go_at_call 60
         exact Calls.quiet_of_same (still_of (nd_level (HA.out.stay (below_drewN HB.out _)))))
      | (go_at_call 60
         exact Calls.quiet_of_same (still_of (nd_level (HBB.out.stay (below_drewN HB.out _)))))))
  rename Nat => nq
  replace HBX := hide (HBX.out.keep (KeepC.below (below_drewN (Below.refl _ _) nq)))
  replace HB := hide (below_drewN HB.out nq)
  clear l0 a0 b0
  generalize w20.drewN nq = wq11 at *
  obtain ⟨l0, a0, b0⟩ := HBX.out.cells
  rw [HTV.out] at l0
  have hd : Below w.heap.size w wq11.drew := HB.out.drew
  have hqd : Below wq11.heap.size wq11 wq11.drew := (Below.refl _ _).drew
  have HCELL := hide (fun W (hW : Below wq11.heap.size wq11 W) => (HBX.out.keep (KeepC.below hW)).cells)
  rw [HTV.out] at HCELL
  go_wp2_with fail
  go_region_held3 (fun w' => w'.cell? ⟨w.heap.size, 0, none⟩ = some tv ∧ w'.cell? ⟨w.heap.size + 1, 0, none⟩ = some (.pointer (some ⟨ga, 0, none⟩)) ∧ w'.cell? ⟨w.heap.size + 1 + 1, 0, none⟩ = some (.pointer (some ⟨gb, 0, none⟩)))
    (first
      | go_keep
      | exact HCELL.out _ hqd)
    (first
      | (go_at_call 62
         with_reducible refine (nd_prefix (HA.out.stay hd) hk).mono ?_
         rintro e w22 ⟨v22, rfl, ho22, hb22⟩
         obtain ⟨A22, c22, rfl, hp22⟩ := Pt.of_own ho22 HZA.out.1 HZA.out.2
         have HP22 := hide hp22
         replace hd := below_then hd hb22
         replace hqd := hqd.trans (hb22.mono hqd.size)
         clear ho22 hb22 hp22)
      | (go_at_call 62
         with_reducible refine (nd_prefix (HBB.out.stay hd) hk).mono ?_
         rintro e w24 ⟨v24, rfl, ho24, hb24⟩
         obtain ⟨A24, c24, rfl, hp24⟩ := Pt.of_own ho24 HZBB.out.1 HZBB.out.2
         have HP24 := hide hp24
         have HB24 := hide hb24
         replace hd := below_then hd hb24
         replace hqd := hqd.trans (hb24.mono hqd.size)
         clear ho24 hb24 hp24)
      | (go_at_call 68
         refine (zb_cmp A22 A24 k c22 c24 pa pb _ (HP22.out.below HB24.out) HP24.out hk1 hk).mono ?_
         rintro e wx ⟨rfl, rfl⟩))
  replace HBX := hide (HBX.out.keep (KeepC.below hqd))
  replace HB := hide hd
  clear hd hqd HCELL l0 a0 b0
  have hcon := df_all (d := true) (bo := bo) HA0.out hk (Col.below HC.out HB.out) (HBW.out.trans (HB.out.mono HBW.out.size)) (by have := HL.out; omega) (by have := HL.out; omega)
  unfold asV at hcon
  simp only [if_true, Bool.false_eq_true, if_false] at hcon
  rw [HTV.out] at hcon
  have HCON := hide hcon
  clear hcon
  obtain ⟨l0, a0, b0⟩ := HBX.out.cells
  rw [HTV.out] at l0
  go_wp2_with fail
  refine HCON.out.mono ?_
  rintro e we hde
  have HBX2 := hide (HBX.out.keep hde.keepC)
  obtain ⟨rows1, rfl, hs1⟩ := DfOut.from_ hde (KeepC.below HB.out)
  have HS1 := hide hs1
  clear l0 a0 b0 HCON hde hs1
  have hcon := df_all (d := false) (bo := bo) HB00.out hk HS1.out.col HS1.out.below (by have := HL.out; have := HS1.out.len; simp only [List.length_append, List.length_nil] at *; omega) (by have := HL.out; omega)
  unfold asV at hcon
  simp only [if_true, Bool.false_eq_true, if_false] at hcon
  rw [HTV.out] at hcon
  have HCON := hide hcon
  clear hcon
  obtain ⟨l0, a0, b0⟩ := HBX2.out.cells
  rw [HTV.out] at l0
  go_wp2_with fail
  refine HCON.out.mono ?_
  rintro e we2 hde
  obtain ⟨rows2, rfl, hs2⟩ := HS1.out.next hde.flip (Ahead.nil_r _) HAH.out (Ahead.nil_l _) (Ahead.nil_l _)
  have HF := hide (show DfOut true w0 w k bo rows ea eb (.returned (.tuple #[])) we2 from by simpa using hs2.out)
  clear l0 a0 b0 HCON hde hs2
  go_wp2
  first
    | go_end0
    | ((try simp only [Exit.inBlock, Exit.then]); refine bodyPost_ret (results_none rfl _ _ _) rfl ?_)
  exact HF.out
set_option maxHeartbeats 8000000 in
set_option maxRecDepth 100000 in
theorem df_both_ap_gt_b {w0 w : World} {k ga gb bo : Nat} {la lb : Int} {pa pb : List Nat} {ea eb : List Ent} {rows : List CR} (hk1 : 1 ≤ k) (hk : k ≤ 16) (hA : NodeOf w0 k ga la pa ea) (hB : NodeOf w0 k gb lb pb eb) (hla : ea.length ≤ 60000) (hlb : eb.length ≤ 60000) (hC : ColC w0.heap.size w bo rows) (hb : Below w0.heap.size w0 w) (hl : rows.length + ea.length + eb.length ≤ 200000) (hgg : ga ≠ gb) (hrel : lb < la) (m : Nat) (hm : part pa pb = (m : Int)) (hcA : la < (m : Int)) (hcB : lb < (m : Int)) (hlt : addrOf pb m < addrOf pa m) :
    Calls Try.prog 37 #[.agg #[tellV bo], .pointer (some ⟨ga, 0, none⟩), .pointer (some ⟨gb, 0, none⟩)] w (DfOut true w0 w k bo rows ea eb) := by
  have hps := part_spec pa pb (hA.info.1.1.trans hB.info.1.1.symm) hA.info.1.2 hB.info.1.2
  have hagr : ∀ b, m < b → addrOf pa b = addrOf pb b := fun b hb => hps.2.2.1 b (by omega)
  have ec1 : decide (part pa pb ≤ la) = false := by simp; omega
  have ec2 : decide (part pb pa ≤ lb) = false := by rw [← part_sym hA.info.1 hB.info.1]; simp; omega
  have EC1 := hide ec1
  have EC2 := hide ec2
  have hcm : decide (cmp pa pb < 0) = false := by
    have := (cmp_gt hA.info.1 hB.info.1).2 ⟨m, fun b hb => (hagr b hb).symm, hlt⟩
    rw [this]
    rfl
  have HAH := hide (show Ahead eb ea from ((hB.atk hcB).zag hagr).ahead (hA.atk hcA) (by omega))
  have e1 : (la == lb) = false := by simp; omega
  have e2 : decide (lb < la) = true := by simpa using hrel
  have e3 : decide (la < lb) = false := by simp; omega
  obtain ⟨_, _, _, _, hna, -⟩ := hA.head
  obtain ⟨_, _, _, _, hnb, -⟩ := hB.head
  have HPO := hide (fun W (hW : Below w.heap.size w W) => ptr_other hgg ((hna.below hb).below hW) ((hnb.below hb).below hW))
  have hbx := box_st w bo (.pointer (some ⟨ga, 0, none⟩)) (.pointer (some ⟨gb, 0, none⟩))
  have hbb := box_below w bo (.pointer (some ⟨ga, 0, none⟩)) (.pointer (some ⟨gb, 0, none⟩))
  have HA := hide (hA.stay hb)
  have HBB := hide (hB.stay hb)
  have HA0 := hide hA
  have HB00 := hide hB
  have HC := hide hC
  have HBW := hide hb
  have HL := hide (And.intro hla (And.intro hlb hl))
  have HZA := hide hA.info.1
  have HZBB := hide hB.info.1
  have HSYM := hide (part_sym hA.info.1 hB.info.1)
  generalize htv : tellV bo = tv
  have HTV := hide htv
  have hmf : ∀ (fn : Fn) (first cap : Array Value) (w : World), (Instr.makeFunc fn first cap).run Try.prog w = .ok (.func fn first cap) w := fun _ _ _ _ => rfl
  obtain ⟨l0, a0, b0⟩ := hbx.cells
  rw [htv] at l0
  have hpo := HPO.out _ hbb
  unfold boxW at hbx hbb l0 a0 b0 hpo
  rw [htv] at hbx hbb l0 a0 b0 hpo
  clear htv hA hB hla hlb hC hb hl hm hcA hcB hlt hps hagr ec1 ec2 hrel
  go_enter Try.func37, Try.ntmps37
  go_upto_region 12 with fail
  generalize ((w.alloc (.cells #[tv] 74)).alloc (.cells #[.pointer (some ⟨ga, 0, none⟩)] 60)).alloc (.cells #[.pointer (some ⟨gb, 0, none⟩)] 60) = wb at *
  have HBX := hide hbx
  have HB := hide hbb
  clear hbx hbb l0 a0 b0 hpo
  obtain ⟨l0, a0, b0⟩ := HBX.out.cells
  rw [HTV.out] at l0
  go_wp2_with fail
  go_quiet ((first
      | (go_at_call 60
         exact Calls.quiet_of_same (still_of (nd_level (HA.out.stay (below_drewN HB.out _)))))
      | (go_at_call 60
         exact Calls.quiet_of_same (still_of (nd_level (HBB.out.stay (below_drewN HB.out _)))))))
  rename Nat => nq
  replace HBX := hide (HBX.out.keep (KeepC.below (below_drewN (Below.refl _ _) nq)))
  replace HB := hide (below_drewN HB.out nq)
  clear l0 a0 b0
  generalize wb.drewN nq = wq10 at *
  obtain ⟨l0, a0, b0⟩ := HBX.out.cells
  rw [HTV.out] at l0
  have hd : Below w.heap.size w wq10.drew := HB.out.drew
  have hqd : Below wq10.heap.size wq10 wq10.drew := (Below.refl _ _).drew
  have HCELL := hide (fun W (hW : Below wq10.heap.size wq10 W) => (HBX.out.keep (KeepC.below hW)).cells)
  rw [HTV.out] at HCELL
  go_wp2_with fail
  go_region_held3 (fun w' => w'.cell? ⟨w.heap.size, 0, none⟩ = some tv ∧ w'.cell? ⟨w.heap.size + 1, 0, none⟩ = some (.pointer (some ⟨ga, 0, none⟩)) ∧ w'.cell? ⟨w.heap.size + 1 + 1, 0, none⟩ = some (.pointer (some ⟨gb, 0, none⟩)))
    (first
      | go_keep
      | exact HCELL.out _ hqd)
    (first
      | (go_at_call 60
         with_reducible refine (nd_level (HA.out.stay hd)).mono ?_
         rintro e wl ⟨rfl, rfl⟩)
      | (go_at_call 60
         with_reducible refine (nd_level (HBB.out.stay hd)).mono ?_
         rintro e wl ⟨rfl, rfl⟩)
      | (go_at_call 62
         refine (nd_prefix (HBB.out.stay hd) hk).mono ?_
         rintro e w20 ⟨v20, rfl, ho20, hb20⟩
         obtain ⟨A20, c20, rfl, hp20⟩ := Pt.of_own ho20 HZBB.out.1 HZBB.out.2
         have HP20 := hide hp20
         replace hd := below_then hd hb20
         replace hqd := hqd.trans (hb20.mono hqd.size)
         clear ho20 hb20 hp20)
      | (go_at_call 61
         have hcv := nd_covers (d := c20) (HA.out.stay hd) hk1 hk HP20.out
         rw [EC1.out] at hcv
         refine hcv.mono ?_
         clear hcv
         rintro e wc ⟨rfl, rfl⟩))
  replace HBX := hide (HBX.out.keep (KeepC.below hqd))
  replace HB := hide hd
  clear hd hqd HCELL l0 a0 b0
  obtain ⟨l0, a0, b0⟩ := HBX.out.cells
  rw [HTV.out] at l0
  go_wp2_with fail
  go_quiet ((first
      | (go_at_call 60
         exact Calls.quiet_of_same (still_of (nd_level (HA.out.stay (below_drewN HB.out _)))))
      | (go_at_call 60
         exact Calls.quiet_of_same (still_of (nd_level (HBB.out.stay (below_drewN HB.out _)))))))
  rename Nat => nq
  replace HBX := hide (HBX.out.keep (KeepC.below (below_drewN (Below.refl _ _) nq)))
  replace HB := hide (below_drewN HB.out nq)
  clear l0 a0 b0
  generalize w20.drewN nq = wq11 at *
  obtain ⟨l0, a0, b0⟩ := HBX.out.cells
  rw [HTV.out] at l0
  have hd : Below w.heap.size w wq11.drew := HB.out.drew
  have hqd : Below wq11.heap.size wq11 wq11.drew := (Below.refl _ _).drew
  have HCELL := hide (fun W (hW : Below wq11.heap.size wq11 W) => (HBX.out.keep (KeepC.below hW)).cells)
  rw [HTV.out] at HCELL
  go_wp2_with fail
  go_region_held3 (fun w' => w'.cell? ⟨w.heap.size, 0, none⟩ = some tv ∧ w'.cell? ⟨w.heap.size + 1, 0, none⟩ = some (.pointer (some ⟨ga, 0, none⟩)) ∧ w'.cell? ⟨w.heap.size + 1 + 1, 0, none⟩ = some (.pointer (some ⟨gb, 0, none⟩)))
    (first
      | go_keep
      | exact HCELL.out _ hqd)
    (first
      | (go_at_call 62
         with_reducible refine (nd_prefix (HA.out.stay hd) hk).mono ?_
         rintro e w22 ⟨v22, rfl, ho22, hb22⟩
         obtain ⟨A22, c22, rfl, hp22⟩ := Pt.of_own ho22 HZA.out.1 HZA.out.2
         have HP22 := hide hp22
         replace hd := below_then hd hb22
         replace hqd := hqd.trans (hb22.mono hqd.size)
         clear ho22 hb22 hp22)
      | (go_at_call 62
         with_reducible refine (nd_prefix (HBB.out.stay hd) hk).mono ?_
         rintro e w24 ⟨v24, rfl, ho24, hb24⟩
         obtain ⟨A24, c24, rfl, hp24⟩ := Pt.of_own ho24 HZBB.out.1 HZBB.out.2
         have HP24 := hide hp24
         have HB24 := hide hb24
         replace hd := below_then hd hb24
         replace hqd := hqd.trans (hb24.mono hqd.size)
         clear ho24 hb24 hp24)
      | (go_at_call 68
         refine (zb_cmp A22 A24 k c22 c24 pa pb _ (HP22.out.below HB24.out) HP24.out hk1 hk).mono ?_
         rintro e wx ⟨rfl, rfl⟩))
  replace HBX := hide (HBX.out.keep (KeepC.below hqd))
  replace HB := hide hd
  clear hd hqd HCELL l0 a0 b0
  have hcon := df_all (d := false) (bo := bo) HB00.out hk (Col.below HC.out HB.out) (HBW.out.trans (HB.out.mono HBW.out.size)) (by have := HL.out; omega) (by have := HL.out; omega)
  unfold asV at hcon
  simp only [if_true, Bool.false_eq_true, if_false] at hcon
  rw [HTV.out] at hcon
  have HCON := hide hcon
  clear hcon
  obtain ⟨l0, a0, b0⟩ := HBX.out.cells
  rw [HTV.out] at l0
  go_wp2_with fail
  refine HCON.out.mono ?_
  rintro e we hde
  have HBX2 := hide (HBX.out.keep hde.keepC)
  obtain ⟨rows1, rfl, hs1⟩ := DfOut.from_ hde.flip (KeepC.below HB.out)
  have HS1 := hide hs1
  clear l0 a0 b0 HCON hde hs1
  have hcon := df_all (d := true) (bo := bo) HA0.out hk HS1.out.col HS1.out.below (by have := HL.out; have := HS1.out.len; simp only [List.length_append, List.length_nil] at *; omega) (by have := HL.out; omega)
  unfold asV at hcon
  simp only [if_true, Bool.false_eq_true, if_false] at hcon
  rw [HTV.out] at hcon
  have HCON := hide hcon
  clear hcon
  obtain ⟨l0, a0, b0⟩ := HBX2.out.cells
  rw [HTV.out] at l0
  go_wp2_with fail
  refine HCON.out.mono ?_
  rintro e we2 hde
  obtain ⟨rows2, rfl, hs2⟩ := HS1.out.next hde (Ahead.nil_l _) (Ahead.nil_l _) HAH.out (Ahead.nil_r _)
  have HF := hide (show DfOut true w0 w k bo rows ea eb (.returned (.tuple #[])) we2 from by simpa using hs2.out)
  clear l0 a0 b0 HCON hde hs2
  go_wp2
  first
    | go_end0
    | ((try simp only [Exit.inBlock, Exit.then]); refine bodyPost_ret (results_none rfl _ _ _) rfl ?_)
  exact HF.out
set_option maxHeartbeats 8000000 in
set_option maxRecDepth 100000 in
theorem df_both_ap_lt_a {w0 w : World} {k ga gb bo : Nat} {la lb : Int} {pa pb : List Nat} {ea eb : List Ent} {rows : List CR} (hk1 : 1 ≤ k) (hk : k ≤ 16) (hA : NodeOf w0 k ga la pa ea) (hB : NodeOf w0 k gb lb pb eb) (hla : ea.length ≤ 60000) (hlb : eb.length ≤ 60000) (hC : ColC w0.heap.size w bo rows) (hb : Below w0.heap.size w0 w) (hl : rows.length + ea.length + eb.length ≤ 200000) (hgg : ga ≠ gb) (hrel : la < lb) (m : Nat) (hm : part pa pb = (m : Int)) (hcA : la < (m : Int)) (hcB : lb < (m : Int)) (hlt : addrOf pa m < addrOf pb m) :
    Calls Try.prog 37 #[.agg #[tellV bo], .pointer (some ⟨ga, 0, none⟩), .pointer (some ⟨gb, 0, none⟩)] w (DfOut true w0 w k bo rows ea eb) := by
  have hps := part_spec pa pb (hA.info.1.1.trans hB.info.1.1.symm) hA.info.1.2 hB.info.1.2
  have hagr : ∀ b, m < b → addrOf pa b = addrOf pb b := fun b hb => hps.2.2.1 b (by omega)
  have ec1 : decide (part pa pb ≤ la) = false := by simp; omega
  have ec2 : decide (part pb pa ≤ lb) = false := by rw [← part_sym hA.info.1 hB.info.1]; simp; omega
  have EC1 := hide ec1
  have EC2 := hide ec2
  have hcm : decide (cmp pa pb < 0) = true := by
    have := (cmp_lt hA.info.1 hB.info.1).2 ⟨m, hagr, hlt⟩
    rw [this]
    rfl
  have HAH := hide (show Ahead ea eb from (hA.atk hcA).ahead ((hB.atk hcB).zag hagr) (by omega))
  have e1 : (la == lb) = false := by simp; omega
  have e2 : decide (lb < la) = false := by simp; omega
  have e3 : decide (la < lb) = true := by simpa using hrel
  obtain ⟨_, _, _, _, hna, -⟩ := hA.head
  obtain ⟨_, _, _, _, hnb, -⟩ := hB.head
  have HPO := hide (fun W (hW : Below w.heap.size w W) => ptr_other hgg ((hna.below hb).below hW) ((hnb.below hb).below hW))
  have hbx := box_st w bo (.pointer (some ⟨ga, 0, none⟩)) (.pointer (some ⟨gb, 0, none⟩))
  have hbb := box_below w bo (.pointer (some ⟨ga, 0, none⟩)) (.pointer (some ⟨gb, 0, none⟩))
  have HA := hide (hA.stay hb)
  have HBB := hide (hB.stay hb)
  have HA0 := hide hA
  have HB00 := hide hB
  have HC := hide hC
  have HBW := hide hb
  have HL := hide (And.intro hla (And.intro hlb hl))
  have HZA := hide hA.info.1
  have HZBB := hide hB.info.1
  have HSYM := hide (part_sym hA.info.1 hB.info.1)
  generalize htv : tellV bo = tv
  have HTV := hide htv
  have hmf : ∀ (fn : Fn) (first cap : Array Value) (w : World), (Instr.makeFunc fn first cap).run Try.prog w = .ok (.func fn first cap) w := fun _ _ _ _ => rfl
  obtain ⟨l0, a0, b0⟩ := hbx.cells
  rw [htv] at l0
  have hpo := HPO.out _ hbb
  unfold boxW at hbx hbb l0 a0 b0 hpo
  rw [htv] at hbx hbb l0 a0 b0 hpo
  clear htv hA hB hla hlb hC hb hl hm hcA hcB hlt hps hagr ec1 ec2 hrel
  go_enter Try.func37, Try.ntmps37
  go_upto_region 12 with fail
  generalize ((w.alloc (.cells #[tv] 74)).alloc (.cells #[.pointer (some ⟨ga, 0, none⟩)] 60)).alloc (.cells #[.pointer (some ⟨gb, 0, none⟩)] 60) = wb at *
  have HBX := hide hbx
  have HB := hide hbb
  clear hbx hbb l0 a0 b0 hpo
  obtain ⟨l0, a0, b0⟩ := HBX.out.cells
  rw [HTV.out] at l0
  go_wp2_with fail
  go_quiet ((first
      | (go_at_call 60
         exact Calls.quiet_of_same (still_of (nd_level (HA.out.stay (below_drewN HB.out _)))))
      | (go_at_call 60
         exact Calls.quiet_of_same (still_of (nd_level (HBB.out.stay (below_drewN HB.out _)))))))
  rename Nat => nq
  replace HBX := hide (HBX.out.keep (KeepC.below (below_drewN (Below.refl _ _) nq)))
  replace HB := hide (below_drewN HB.out nq)
  clear l0 a0 b0
  generalize wb.drewN nq = wq10 at *
  obtain ⟨l0, a0, b0⟩ := HBX.out.cells
  rw [HTV.out] at l0
  go_wp2_with fail
  go_quiet ((first
      | (go_at_call 60
         exact Calls.quiet_of_same (still_of (nd_level (HA.out.stay (below_drewN HB.out _)))))
      | (go_at_call 60
         exact Calls.quiet_of_same (still_of (nd_level (HBB.out.stay (below_drewN HB.out _)))))))
  rename Nat => nq
  replace HBX := hide (HBX.out.keep (KeepC.below (below_drewN (Below.refl _ _) nq)))
  replace HB := hide (below_drewN HB.out nq)
  clear l0 a0 b0
  generalize wq10.drewN nq = wq11 at *
  obtain ⟨l0, a0, b0⟩ := HBX.out.cells
  rw [HTV.out] at l0
  have hd : Below w.heap.size w wq11.drew := HB.out.drew
  have hqd : Below wq11.heap.size wq11 wq11.drew := (Below.refl _ _).drew
  have HCELL := hide (fun W (hW : Below wq11.heap.size wq11 W) => (HBX.out.keep (KeepC.below hW)).cells)
  rw [HTV.out] at HCELL
  go_wp2_with fail
  go_region_held3 (fun w' => w'.cell? ⟨w.heap.size, 0, none⟩ = some tv ∧ w'.cell? ⟨w.heap.size + 1, 0, none⟩ = some (.pointer (some ⟨ga, 0, none⟩)) ∧ w'.cell? ⟨w.heap.size + 1 + 1, 0, none⟩ = some (.pointer (some ⟨gb, 0, none⟩)))
    (first
      | go_keep
      | exact HCELL.out _ hqd)
    (first
      | (go_at_call 60
         with_reducible refine (nd_level (HA.out.stay hd)).mono ?_
         rintro e wl ⟨rfl, rfl⟩)
      | (go_at_call 60
         with_reducible refine (nd_level (HBB.out.stay hd)).mono ?_
         rintro e wl ⟨rfl, rfl⟩)
      | (go_at_call 62
         refine (nd_prefix (HA.out.stay hd) hk).mono ?_
         rintro e w20 ⟨v20, rfl, ho20, hb20⟩
         obtain ⟨A20, c20, rfl, hp20⟩ := Pt.of_own ho20 HZA.out.1 HZA.out.2
         have HP20 := hide hp20
         replace hd := below_then hd hb20
         replace hqd := hqd.trans (hb20.mono hqd.size)
         clear ho20 hb20 hp20)
      | (go_at_call 61
         have hcv := nd_covers (d := c20) (HBB.out.stay hd) hk1 hk HP20.out
         rw [EC2.out] at hcv
         refine hcv.mono ?_
         clear hcv
         rintro e wc ⟨rfl, rfl⟩))
  replace HBX := hide (HBX.out.keep (KeepC.below hqd))
  replace HB := hide hd
  clear hd hqd HCELL l0 a0 b0
  obtain ⟨l0, a0, b0⟩ := HBX.out.cells
  rw [HTV.out] at l0
  have hd : Below w.heap.size w w20.drew := HB.out.drew
  have hqd : Below w20.heap.size w20 w20.drew := (Below.refl _ _).drew
  have HCELL := hide (fun W (hW : Below w20.heap.size w20 W) => (HBX.out.keep (KeepC.below hW)).cells)
  rw [HTV.out] at HCELL
  go_wp2_with fail
  go_region_held3 (fun w' => w'.cell? ⟨w.heap.size, 0, none⟩ = some tv ∧ w'.cell? ⟨w.heap.size + 1, 0, none⟩ = some (.pointer (some ⟨ga, 0, none⟩)) ∧ w'.cell? ⟨w.heap.size + 1 + 1, 0, none⟩ = some (.pointer (some ⟨gb, 0, none⟩)))
    (first
      | go_keep
      | exact HCELL.out _ hqd)
    (first
      | (go_at_call 62
         with_reducible refine (nd_prefix (HA.out.stay hd) hk).mono ?_
         rintro e w22 ⟨v22, rfl, ho22, hb22⟩
         obtain ⟨A22, c22, rfl, hp22⟩ := Pt.of_own ho22 HZA.out.1 HZA.out.2
         have HP22 := hide hp22
         replace hd := below_then hd hb22
         replace hqd := hqd.trans (hb22.mono hqd.size)
         clear ho22 hb22 hp22)
      | (go_at_call 62
         with_reducible refine (nd_prefix (HBB.out.stay hd) hk).mono ?_
         rintro e w24 ⟨v24, rfl, ho24, hb24⟩
         obtain ⟨A24, c24, rfl, hp24⟩ := Pt.of_own ho24 HZBB.out.1 HZBB.out.2
         have HP24 := hide hp24
         have HB24 := hide hb24
         replace hd := below_then hd hb24
         replace hqd := hqd.trans (hb24.mono hqd.size)
         clear ho24 hb24 hp24)
      | (go_at_call 68
         refine (zb_cmp A22 A24 k c22 c24 pa pb _ (HP22.out.below HB24.out) HP24.out hk1 hk).mono ?_
         rintro e wx ⟨rfl, rfl⟩))
  replace HBX := hide (HBX.out.keep (KeepC.below hqd))
  replace HB := hide hd
  clear hd hqd HCELL l0 a0 b0
  have hcon := df_all (d := true) (bo := bo) HA0.out hk (Col.below HC.out HB.out) (HBW.out.trans (HB.out.mono HBW.out.size)) (by have := HL.out; omega) (by have := HL.out; omega)
  unfold asV at hcon
  simp only [if_true, Bool.false_eq_true, if_false] at hcon
  rw [HTV.out] at hcon
  have HCON := hide hcon
  clear hcon
  obtain ⟨l0, a0, b0⟩ := HBX.out.cells
  rw [HTV.out] at l0
  go_wp2_with fail
  refine HCON.out.mono ?_
  rintro e we hde
  have HBX2 := hide (HBX.out.keep hde.keepC)
  obtain ⟨rows1, rfl, hs1⟩ := DfOut.from_ hde (KeepC.below HB.out)
  have HS1 := hide hs1
  clear l0 a0 b0 HCON hde hs1
  have hcon := df_all (d := false) (bo := bo) HB00.out hk HS1.out.col HS1.out.below (by have := HL.out; have := HS1.out.len; simp only [List.length_append, List.length_nil] at *; omega) (by have := HL.out; omega)
  unfold asV at hcon
  simp only [if_true, Bool.false_eq_true, if_false] at hcon
  rw [HTV.out] at hcon
  have HCON := hide hcon
  clear hcon
  obtain ⟨l0, a0, b0⟩ := HBX2.out.cells
  rw [HTV.out] at l0
  go_wp2_with fail
  refine HCON.out.mono ?_
  rintro e we2 hde
  obtain ⟨rows2, rfl, hs2⟩ := HS1.out.next hde.flip (Ahead.nil_r _) HAH.out (Ahead.nil_l _) (Ahead.nil_l _)
  have HF := hide (show DfOut true w0 w k bo rows ea eb (.returned (.tuple #[])) we2 from by simpa using hs2.out)
  clear l0 a0 b0 HCON hde hs2
  go_wp2
  first
    | go_end0
    | ((try simp only [Exit.inBlock, Exit.then]); refine bodyPost_ret (results_none rfl _ _ _) rfl ?_)
  exact HF.out
set_option maxHeartbeats 8000000 in
set_option maxRecDepth 100000 in
theorem df_both_ap_lt_b {w0 w : World} {k ga gb bo : Nat} {la lb : Int} {pa pb : List Nat} {ea eb : List Ent} {rows : List CR} (hk1 : 1 ≤ k) (hk : k ≤ 16) (hA : NodeOf w0 k ga la pa ea) (hB : NodeOf w0 k gb lb pb eb) (hla : ea.length ≤ 60000) (hlb : eb.length ≤ 60000) (hC : ColC w0.heap.size w bo rows) (hb : Below w0.heap.size w0 w) (hl : rows.length + ea.length + eb.length ≤ 200000) (hgg : ga ≠ gb) (hrel : la < lb) (m : Nat) (hm : part pa pb = (m : Int)) (hcA : la < (m : Int)) (hcB : lb < (m : Int)) (hlt : addrOf pb m < addrOf pa m) :
    Calls Try.prog 37 #[.agg #[tellV bo], .pointer (some ⟨ga, 0, none⟩), .pointer (some ⟨gb, 0, none⟩)] w (DfOut true w0 w k bo rows ea eb) := by
  have hps := part_spec pa pb (hA.info.1.1.trans hB.info.1.1.symm) hA.info.1.2 hB.info.1.2
  have hagr : ∀ b, m < b → addrOf pa b = addrOf pb b := fun b hb => hps.2.2.1 b (by omega)
  have ec1 : decide (part pa pb ≤ la) = false := by simp; omega
  have ec2 : decide (part pb pa ≤ lb) = false := by rw [← part_sym hA.info.1 hB.info.1]; simp; omega
  have EC1 := hide ec1
  have EC2 := hide ec2
  have hcm : decide (cmp pa pb < 0) = false := by
    have := (cmp_gt hA.info.1 hB.info.1).2 ⟨m, fun b hb => (hagr b hb).symm, hlt⟩
    rw [this]
    rfl
  have HAH := hide (show Ahead eb ea from ((hB.atk hcB).zag hagr).ahead (hA.atk hcA) (by omega))
  have e1 : (la == lb) = false := by simp; omega
  have e2 : decide (lb < la) = false := by simp; omega
  have e3 : decide (la < lb) = true := by simpa using hrel
  obtain ⟨_, _, _, _, hna, -⟩ := hA.head
  obtain ⟨_, _, _, _, hnb, -⟩ := hB.head
  have HPO := hide (fun W (hW : Below w.heap.size w W) => ptr_other hgg ((hna.below hb).below hW) ((hnb.below hb).below hW))
  have hbx := box_st w bo (.pointer (some ⟨ga, 0, none⟩)) (.pointer (some ⟨gb, 0, none⟩))
  have hbb := box_below w bo (.pointer (some ⟨ga, 0, none⟩)) (.pointer (some ⟨gb, 0, none⟩))
  have HA := hide (hA.stay hb)
  have HBB := hide (hB.stay hb)
  have HA0 := hide hA
  have HB00 := hide hB
  have HC := hide hC
  have HBW := hide hb
  have HL := hide (And.intro hla (And.intro hlb hl))
  have HZA := hide hA.info.1
  have HZBB := hide hB.info.1
  have HSYM := hide (part_sym hA.info.1 hB.info.1)
  generalize htv : tellV bo = tv
  have HTV := hide htv
  have hmf : ∀ (fn : Fn) (first cap : Array Value) (w : World), (Instr.makeFunc fn first cap).run Try.prog w = .ok (.func fn first cap) w := fun _ _ _ _ => rfl
  obtain ⟨l0, a0, b0⟩ := hbx.cells
  rw [htv] at l0
  have hpo := HPO.out _ hbb
  unfold boxW at hbx hbb l0 a0 b0 hpo
  rw [htv] at hbx hbb l0 a0 b0 hpo
  clear htv hA hB hla hlb hC hb hl hm hcA hcB hlt hps hagr ec1 ec2 hrel
  go_enter Try.func37, Try.ntmps37
  go_upto_region 12 with fail
  generalize ((w.alloc (.cells #[tv] 74)).alloc (.cells #[.pointer (some ⟨ga, 0, none⟩)] 60)).alloc (.cells #[.pointer (some ⟨gb, 0, none⟩)] 60) = wb at *
  have HBX := hide hbx
  have HB := hide hbb
  clear hbx hbb l0 a0 b0 hpo
  obtain ⟨l0, a0, b0⟩ := HBX.out.cells
  rw [HTV.out] at l0
  go_wp2_with fail
  go_quiet ((first
      | (go_at_call 60
         exact Calls.quiet_of_same (still_of (nd_level (HA.out.stay (below_drewN HB.out _)))))
      | (go_at_call 60
         exact Calls.quiet_of_same (still_of (nd_level (HBB.out.stay (below_drewN HB.out _)))))))
  rename Nat => nq
  replace HBX := hide (HBX.out.keep (KeepC.below (below_drewN (Below.refl _ _) nq)))
  replace HB := hide (below_drewN HB.out nq)
  clear l0 a0 b0
  generalize wb.drewN nq = wq10 at *
  obtain ⟨l0, a0, b0⟩ := HBX.out.cells
  rw [HTV.out] at l0
  go_wp2_with fail
  go_quiet ((first
      | (go_at_call 60
         exact Calls.quiet_of_same (still_of (nd_level (HA.out.stay (below_drewN HB.out _)))))
      | (go_at_call 60
         exact Calls.quiet_of_same (still_of (nd_level (HBB.out.stay (below_drewN HB.out _)))))))
  rename Nat => nq
  replace HBX := hide (HBX.out.keep (KeepC.below (below_drewN (Below.refl _ _) nq)))
  replace HB := hide (below_drewN HB.out nq)
  clear l0 a0 b0
  generalize wq10.drewN nq = wq11 at *
  obtain ⟨l0, a0, b0⟩ := HBX.out.cells
  rw [HTV.out] at l0
  have hd : Below w.heap.size w wq11.drew := HB.out.drew
  have hqd : Below wq11.heap.size wq11 wq11.drew := (Below.refl _ _).drew
  have HCELL := hide (fun W (hW : Below wq11.heap.size wq11 W) => (HBX.out.keep (KeepC.below hW)).cells)
  rw [HTV.out] at HCELL
  go_wp2_with fail
  go_region_held3 (fun w' => w'.cell? ⟨w.heap.size, 0, none⟩ = some tv ∧ w'.cell? ⟨w.heap.size + 1, 0, none⟩ = some (.pointer (some ⟨ga, 0, none⟩)) ∧ w'.cell? ⟨w.heap.size + 1 + 1, 0, none⟩ = some (.pointer (some ⟨gb, 0, none⟩)))
    (first
      | go_keep
      | exact HCELL.out _ hqd)
    (first
      | (go_at_call 60
         with_reducible refine (nd_level (HA.out.stay hd)).mono ?_
         rintro e wl ⟨rfl, rfl⟩)
      | (go_at_call 60
         with_reducible refine (nd_level (HBB.out.stay hd)).mono ?_
         rintro e wl ⟨rfl, rfl⟩)
      | (go_at_call 62
         refine (nd_prefix (HA.out.stay hd) hk).mono ?_
         rintro e w20 ⟨v20, rfl, ho20, hb20⟩
         obtain ⟨A20, c20, rfl, hp20⟩ := Pt.of_own ho20 HZA.out.1 HZA.out.2
         have HP20 := hide hp20
         replace hd := below_then hd hb20
         replace hqd := hqd.trans (hb20.mono hqd.size)
         clear ho20 hb20 hp20)
      | (go_at_call 61
         have hcv := nd_covers (d := c20) (HBB.out.stay hd) hk1 hk HP20.out
         rw [EC2.out] at hcv
         refine hcv.mono ?_
         clear hcv
         rintro e wc ⟨rfl, rfl⟩))
  replace HBX := hide (HBX.out.keep (KeepC.below hqd))
  replace HB := hide hd
  clear hd hqd HCELL l0 a0 b0
  obtain ⟨l0, a0, b0⟩ := HBX.out.cells
  rw [HTV.out] at l0
  have hd : Below w.heap.size w w20.drew := HB.out.drew
  have hqd : Below w20.heap.size w20 w20.drew := (Below.refl _ _).drew
  have HCELL := hide (fun W (hW : Below w20.heap.size w20 W) => (HBX.out.keep (KeepC.below hW)).cells)
  rw [HTV.out] at HCELL
  go_wp2_with fail
  go_region_held3 (fun w' => w'.cell? ⟨w.heap.size, 0, none⟩ = some tv ∧ w'.cell? ⟨w.heap.size + 1, 0, none⟩ = some (.pointer (some ⟨ga, 0, none⟩)) ∧ w'.cell? ⟨w.heap.size + 1 + 1, 0, none⟩ = some (.pointer (some ⟨gb, 0, none⟩)))
    (first
      | go_keep
      | exact HCELL.out _ hqd)
    (first
      | (go_at_call 62
         with_reducible refine (nd_prefix (HA.out.stay hd) hk).mono ?_
         rintro e w22 ⟨v22, rfl, ho22, hb22⟩
         obtain ⟨A22, c22, rfl, hp22⟩ := Pt.of_own ho22 HZA.out.1 HZA.out.2
         have HP22 := hide hp22
         replace hd := below_then hd hb22
         replace hqd := hqd.trans (hb22.mono hqd.size)
         clear ho22 hb22 hp22)
      | (go_at_call 62
         with_reducible refine (nd_prefix (HBB.out.stay hd) hk).mono ?_
         rintro e w24 ⟨v24, rfl, ho24, hb24⟩
         obtain ⟨A24, c24, rfl, hp24⟩ := Pt.of_own ho24 HZBB.out.1 HZBB.out.2
         have HP24 := hide hp24
         have HB24 := hide hb24
         replace hd := below_then hd hb24
         replace hqd := hqd.trans (hb24.mono hqd.size)
         clear ho24 hb24 hp24)
      | (go_at_call 68
         refine (zb_cmp A22 A24 k c22 c24 pa pb _ (HP22.out.below HB24.out) HP24.out hk1 hk).mono ?_
         rintro e wx ⟨rfl, rfl⟩))
  replace HBX := hide (HBX.out.keep (KeepC.below hqd))
  replace HB := hide hd
  clear hd hqd HCELL l0 a0 b0
  have hcon := df_all (d := false) (bo := bo) HB00.out hk (Col.below HC.out HB.out) (HBW.out.trans (HB.out.mono HBW.out.size)) (by have := HL.out; omega) (by have := HL.out; omega)
  unfold asV at hcon
  simp only [if_true, Bool.false_eq_true, if_false] at hcon
  rw [HTV.out] at hcon
  have HCON := hide hcon
  clear hcon
  obtain ⟨l0, a0, b0⟩ := HBX.out.cells
  rw [HTV.out] at l0
  go_wp2_with fail
  refine HCON.out.mono ?_
  rintro e we hde
  have HBX2 := hide (HBX.out.keep hde.keepC)
  obtain ⟨rows1, rfl, hs1⟩ := DfOut.from_ hde.flip (KeepC.below HB.out)
  have HS1 := hide hs1
  clear l0 a0 b0 HCON hde hs1
  have hcon := df_all (d := true) (bo := bo) HA0.out hk HS1.out.col HS1.out.below (by have := HL.out; have := HS1.out.len; simp only [List.length_append, List.length_nil] at *; omega) (by have := HL.out; omega)
  unfold asV at hcon
  simp only [if_true, Bool.false_eq_true, if_false] at hcon
  rw [HTV.out] at hcon
  have HCON := hide hcon
  clear hcon
  obtain ⟨l0, a0, b0⟩ := HBX2.out.cells
  rw [HTV.out] at l0
  go_wp2_with fail
  refine HCON.out.mono ?_
  rintro e we2 hde
  obtain ⟨rows2, rfl, hs2⟩ := HS1.out.next hde (Ahead.nil_l _) (Ahead.nil_l _) HAH.out (Ahead.nil_r _)
  have HF := hide (show DfOut true w0 w k bo rows ea eb (.returned (.tuple #[])) we2 from by simpa using hs2.out)
  clear l0 a0 b0 HCON hde hs2
  go_wp2
  first
    | go_end0
    | ((try simp only [Exit.inBlock, Exit.then]); refine bodyPost_ret (results_none rfl _ _ _) rfl ?_)
  exact HF.out
theorem df_both_apart {w0 w : World} {k ga gb bo : Nat} {la lb : Int} {pa pb : List Nat} {ea eb : List Ent} {rows : List CR} (hk1 : 1 ≤ k) (hk : k ≤ 16) (hA : NodeOf w0 k ga la pa ea) (hB : NodeOf w0 k gb lb pb eb) (hla : ea.length ≤ 60000) (hlb : eb.length ≤ 60000) (hC : ColC w0.heap.size w bo rows) (hb : Below w0.heap.size w0 w) (hl : rows.length + ea.length + eb.length ≤ 200000) (hgg : ga ≠ gb) (hcA : la < part pa pb) (hcB : lb < part pa pb) :
    Calls Try.prog 37 #[.agg #[tellV bo], .pointer (some ⟨ga, 0, none⟩), .pointer (some ⟨gb, 0, none⟩)] w (DfOut true w0 w k bo rows ea eb) := by
  have hps := part_spec pa pb (hA.info.1.1.trans hB.info.1.1.symm) hA.info.1.2 hB.info.1.2
  obtain ⟨m, hm⟩ : ∃ m : Nat, part pa pb = (m : Int) := ⟨(part pa pb).toNat, by have := hA.info.2.2.1; omega⟩
  have hne : addrOf pa m ≠ addrOf pb m := by
    have := hps.2.2.2 (by have := hA.info.2.2.1; omega)
    rw [hm] at this
    simpa using this
  rcases Int.lt_trichotomy la lb with h | h | h <;> rcases Nat.lt_or_gt_of_ne hne with hl' | hl'
  · exact df_both_ap_lt_a hk1 hk hA hB hla hlb hC hb hl hgg h m hm (by omega) (by omega) hl'
  · exact df_both_ap_lt_b hk1 hk hA hB hla hlb hC hb hl hgg h m hm (by omega) (by omega) hl'
  · exact df_both_ap_eq_a hk1 hk hA hB hla hlb hC hb hl hgg h m hm (by omega) (by omega) hl'
  · exact df_both_ap_eq_b hk1 hk hA hB hla hlb hC hb hl hgg h m hm (by omega) (by omega) hl'
  · exact df_both_ap_gt_a hk1 hk hA hB hla hlb hC hb hl hgg h m hm (by omega) (by omega) hl'
  · exact df_both_ap_gt_b hk1 hk hA hB hla hlb hC hb hl hgg h m hm (by omega) (by omega) hl'
theorem df_both_step {w0 : World} {k N : Nat} (hk1 : 1 ≤ k) (hk : k ≤ 16) (H : DfHyp w0 k N) : DfHyp w0 k (N + 1) := by
  intro w bo rows ta tb hN hA hB hla hlb hC hb hl
  cases ta with
  | none =>
    cases tb with
    | none => exact df_both_nn hC hb
    | some y =>
      obtain ⟨gb, lb, pb, eb⟩ := y
      exact df_both_nl hk (hB _ rfl) hlb hC hb (by simp only [esOf, List.length_nil] at hl ⊢; omega)
  | some x =>
    obtain ⟨ga, la, pa, ea⟩ := x
    have hNA := hA _ rfl
    cases tb with
    | none => exact df_both_nr hk hNA hla hC hb (by simp only [esOf, List.length_nil] at hl ⊢; omega)
    | some y =>
      obtain ⟨gb, lb, pb, eb⟩ := y
      have hNB := hB _ rfl
      simp only [esOf] at hNA hNB hN hla hlb hl
      have hgoal : Calls Try.prog 37 #[.agg #[tellV bo], .pointer (some ⟨ga, 0, none⟩), .pointer (some ⟨gb, 0, none⟩)] w (DfOut true w0 w k bo rows ea eb) := by
        by_cases hgg : ga = gb
        · subst hgg
          have := node_uniq hk1 hk hNA hNB
          subst this
          exact df_both_same hC hb
        have hz := part_sym hNA.info.1 hNB.info.1
        rcases Int.lt_trichotomy la lb with h | h | h
        · by_cases hc : part pa pb ≤ lb
          · rcases hNB.cases' with ⟨_, _, _, h0, _⟩ | ⟨m, ks, hm, hes, hF⟩
            · have := hNA.info.2.2.1
              omega
            · subst hm hes
              exact df_both_r hk1 hk hNA hF hla hlb hC hb hl hgg H (by omega) h (by omega)
          · exact df_both_apart hk1 hk hNA hNB hla hlb hC hb hl hgg (by omega) (by omega)
        · subst h
          by_cases hc : part pa pb ≤ la
          · rcases hNA.cases' with ⟨_, _, va, h0, hes, _⟩ | ⟨m, ks, hm, hes, hF⟩
            · rcases hNB.cases' with ⟨_, _, vb, _, hes', _⟩ | ⟨m, ks, hm, _⟩
              · have hpp : pa = pb := part_neg hNA.info.1 hNB.info.1 (show part pa pb < 0 by omega)
                subst hpp h0 hes hes'
                exact df_both_leaf hk1 hk hNA hNB hC hb (by omega) hgg
              · omega
            · rcases hNB.cases' with ⟨_, _, _, h0', _⟩ | ⟨m', ks', hm', hes', hF'⟩
              · omega
              · obtain rfl : m' = m := by omega
                subst hm hes hes'
                exact df_both_even hk1 hk hF hF' hla hlb hC hb hl hgg H (by omega) hc
          · exact df_both_apart hk1 hk hNA hNB hla hlb hC hb hl hgg (by omega) (by omega)
        · by_cases hc : part pa pb ≤ la
          · rcases hNA.cases' with ⟨_, _, _, h0, _⟩ | ⟨m, ks, hm, hes, hF⟩
            · have := hNB.info.2.2.1
              omega
            · subst hm hes
              exact df_both_l hk1 hk hF hNB hla hlb hC hb hl hgg H (by omega) h hc
          · exact df_both_apart hk1 hk hNA hNB hla hlb hC hb hl hgg (by omega) (by omega)
      exact hgoal
theorem df_hyp {w0 : World} {k : Nat} (hk1 : 1 ≤ k) (hk : k ≤ 16) : ∀ N, DfHyp w0 k N
  | 0 => fun _ _ _ _ _ h => absurd h (Nat.not_lt_zero _)
  | N + 1 => df_both_step hk1 hk (df_hyp hk1 hk N)
end Go.Proofs.Ytfkpanpageeklaa
