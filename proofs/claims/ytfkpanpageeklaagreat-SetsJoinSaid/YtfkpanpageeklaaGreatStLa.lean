/- sets: two nodes that part, joined; joins in full. -/
import Derived.Test.YtfkpanpageeklaaGreatStL
set_option linter.unusedSimpArgs false
set_option linter.unusedVariables false
namespace Go.Proofs.YtfkpanpageeklaaGreat
open Go.RowKit
set_option maxHeartbeats 8000000 in
set_option maxRecDepth 100000 in
theorem st_join_ap_eq_true_true {w : World} {k ga gb r : Nat} {la lb : Int} {bo : Bool} {pa pb : List Nat} {ea eb : List Ent} (hk1 : 1 ≤ k) (hk : k ≤ 16) (hA : NodeOf w k ga la pa ea) (hB : NodeOf w k gb lb pb eb) (hrel : la = lb) (hcA : la < part pa pb) (hcB : lb < part pa pb) :
    Calls Tryz.prog 61 #[.agg #[.int .i64 (r : Int), .bool true, .bool true, .bool bo], .pointer (some ⟨ga, 0, none⟩), .pointer (some ⟨gb, 0, none⟩)] w (StOut w k r true true bo ea eb) := by
  have hps := part_spec pa pb (hA.info.1.1.trans hB.info.1.1.symm) hA.info.1.2 hB.info.1.2
  obtain ⟨m, hm⟩ : ∃ m : Nat, part pa pb = (m : Int) := ⟨(part pa pb).toNat, by have := hA.info.2.2.1; omega⟩
  have hne : addrOf pa m ≠ addrOf pb m := by
    have := hps.2.2.2 (by have := hA.info.2.2.1; omega)
    rw [hm] at this
    simpa using this
  have HPM := hide hm
  have HNE := hide hne
  have HLL := hide (show la < (m : Int) ∧ lb < (m : Int) from ⟨by omega, by omega⟩)
  have HAP := hide (apart_of hA hB (m := m) (by omega) (by omega) hne)
  have ec1 : decide (part pa pb ≤ la) = false := by simp; omega
  have ec2 : decide (part pb pa ≤ lb) = false := by rw [← part_sym hA.info.1 hB.info.1]; simp; omega
  have EC1 := hide ec1
  have EC2 := hide ec2
  have hm64 : (m : Int) < 64 := by have := hps.2.1; omega
  have HMM := hide hm64
  have hb1 := (Below.refl w.heap.size w).alloc (Nat.le_refl _) (.cells #[.int .i64 (r : Int), .bool true, .bool true, .bool bo] 71)
  have hJ := Blk.new w 71 #[.int .i64 (r : Int), .bool true, .bool true, .bool bo]
  have HB := hide hb1
  have HJ := hide hJ
  have HA := hide hA
  have HBB := hide hB
  obtain ⟨a1, a2, a3, a4, a5, a6, a7⟩ := hA.info
  obtain ⟨b1, b2, b3, b4, b5, b6, b7⟩ := hB.info
  have HIA := hide (show Zp k pa ∧ ∀ x ∈ ea, ∀ b : Nat, la < (b : Int) → addrOf x.1 b = addrOf pa b from ⟨a1, fun x hx => (a5 x hx).2.2⟩)
  have HIBB := hide (show Zp k pb ∧ ∀ x ∈ eb, ∀ b : Nat, lb < (b : Int) → addrOf x.1 b = addrOf pb b from ⟨b1, fun x hx => (b5 x hx).2.2⟩)
  have HSYM := hide (part_sym a1 b1)
  clear hb1 hJ a2 a5 a6 a7 b2 b5 b6 b7
  have HSA := hide (fun W => show Calls Tryz.prog 90 #[.pointer (some ⟨ga, 0, none⟩), .bool true] W fun e w' => e = .returned (.pointer (some ⟨ga, 0, none⟩)) ∧ W = w' from st_side W (some (ga, ⟨la, pa, ea⟩)) true)
  have HSB := hide (fun W => show Calls Tryz.prog 90 #[.pointer (some ⟨gb, 0, none⟩), .bool true] W fun e w' => e = .returned (.pointer (some ⟨gb, 0, none⟩)) ∧ W = w' from st_side W (some (gb, ⟨lb, pb, eb⟩)) true)
  subst hrel
  have e1 : (la == la) = true := by simp
  have e2 : decide (la < la) = false := by simp
  have hmx : max la la = la := by omega
  have hxb : -1 ≤ la ∧ la < 64 := by omega
  have hx0 : -1 ≤ la := by omega
  have hx1 : la ≤ 62 := by omega
  obtain ⟨M, hM⟩ : ∃ M : Nat, la + 1 = (M : Int) := ⟨(la + 1).toNat, by omega⟩
  have hM64 : M < 64 := by omega
  have HLM := hide (show la < (M : Int) ∧ la < (M : Int) from ⟨by omega, by omega⟩)
  clear hA hB hcA hcB hps hm hne ec1 ec2 hM hM64 hm64 hxb
  go_enter Tryz.func61, Tryz.ntmps61
  go_wp2_with fail
  refine (nd_level (HA.out.stay HB.out)).mono ?_
  rintro e w2 ⟨rfl, rfl⟩
  go_wp2_with fail
  refine (nd_level (HBB.out.stay HB.out)).mono ?_
  rintro e w3 ⟨rfl, rfl⟩
  go_wp2_with fail
  refine (nd_prefix (HBB.out.stay HB.out) hk).mono ?_
  rintro e w4 ⟨v4, rfl, ho4, hb4⟩
  obtain ⟨A4, c4, rfl, hp4⟩ := Pt.of_own ho4 HIBB.out.1.1 HIBB.out.1.2
  replace HB := hide (below_then HB.out hb4)
  replace HJ := hide (HJ.out.below hb4)
  have HP4 := hide hp4
  clear ho4 hb4 hp4
  have hcv5 := nd_covers (d := c4) (HA.out.stay HB.out) hk1 hk HP4.out
  rw [EC1.out] at hcv5
  have HCV5 := hide hcv5
  clear hcv5
  go_wp2_with fail
  refine HCV5.out.mono ?_
  rintro e w5 ⟨rfl, rfl⟩
  go_wp2_with fail
  refine (nd_level (HA.out.stay HB.out)).mono ?_
  rintro e w6 ⟨rfl, rfl⟩
  go_wp2_with fail
  refine (nd_level (HBB.out.stay HB.out)).mono ?_
  rintro e w7 ⟨rfl, rfl⟩
  go_wp2_with fail
  refine (nd_level (HBB.out.stay HB.out)).mono ?_
  rintro e w8 ⟨rfl, rfl⟩
  go_wp2_with fail
  refine (nd_level (HA.out.stay HB.out)).mono ?_
  rintro e w9 ⟨rfl, rfl⟩
  have hJz := HJ.out
  have j0 := hJz.cell 0
  have j1 := hJz.cell 1
  have j2 := hJz.cell 2
  have j3 := hJz.cell 3
  simp at j0 j1 j2 j3
  have hd : Below w.heap.size w w4.drew := HB.out.drew
  have hqd : Below w4.heap.size w4 w4.drew := (Below.refl _ _).drew
  have HCELL := hide (fun W (hW : Below w4.heap.size w4 W) => And.intro ((HJ.out.below hW).cell 0) (And.intro ((HJ.out.below hW).cell 1) (And.intro ((HJ.out.below hW).cell 2) ((HJ.out.below hW).cell 3))))
  clear hJz
  go_wp2_with fail
  go_region_held3 (fun w' => w'.cell? ⟨w.heap.size, 0, none⟩ = some (.int .i64 (r : Int)) ∧ w'.cell? ⟨w.heap.size, 1, none⟩ = some (.bool true) ∧ w'.cell? ⟨w.heap.size, 2, none⟩ = some (.bool true) ∧ w'.cell? ⟨w.heap.size, 3, none⟩ = some (.bool bo))
    (first
      | go_keep
      | exact HCELL.out _ hqd)
    (first
      | (go_at_call 90
         with_reducible refine (HSA.out _).mono ?_
         rintro e ws ⟨rfl, rfl⟩)
      | (go_at_call 90
         with_reducible refine (HSB.out _).mono ?_
         rintro e ws ⟨rfl, rfl⟩))
  have hpr := nd_pair (HA.out.stay hd) (HBB.out.stay hd) hk1 hk HPM.out (by have := HLL.out; omega) (by have := HLL.out; omega)
  have HPR := hide hpr
  clear hpr hqd
  go_wp2_with fail
  refine HPR.out.mono ?_
  rintro e w90 ⟨gn, rfl, hFn, -, hb90⟩
  have HF := hide (show StOut w k r true true bo ea eb (.returned (.pointer (some ⟨gn, 0, none⟩))) w90 from ⟨some (gn, ⟨m, _, _⟩), rfl, fun x hx => by injection hx with hx; subst hx; exact hFn.node, fun x => by
    rw [JM.apart HAP.out]
    show x ∈ kidEs _ ↔ _
    rw [pair_mem HNE.out]
    simp, below_then hd hb90⟩)
  clear hFn hb90 hd
  go_wp2
  go_ret
  exact HF.out
set_option maxHeartbeats 8000000 in
set_option maxRecDepth 100000 in
theorem st_join_ap_eq_true_false {w : World} {k ga gb r : Nat} {la lb : Int} {bo : Bool} {pa pb : List Nat} {ea eb : List Ent} (hk1 : 1 ≤ k) (hk : k ≤ 16) (hA : NodeOf w k ga la pa ea) (hB : NodeOf w k gb lb pb eb) (hrel : la = lb) (hcA : la < part pa pb) (hcB : lb < part pa pb) :
    Calls Tryz.prog 61 #[.agg #[.int .i64 (r : Int), .bool true, .bool false, .bool bo], .pointer (some ⟨ga, 0, none⟩), .pointer (some ⟨gb, 0, none⟩)] w (StOut w k r true false bo ea eb) := by
  have hps := part_spec pa pb (hA.info.1.1.trans hB.info.1.1.symm) hA.info.1.2 hB.info.1.2
  obtain ⟨m, hm⟩ : ∃ m : Nat, part pa pb = (m : Int) := ⟨(part pa pb).toNat, by have := hA.info.2.2.1; omega⟩
  have hne : addrOf pa m ≠ addrOf pb m := by
    have := hps.2.2.2 (by have := hA.info.2.2.1; omega)
    rw [hm] at this
    simpa using this
  have HPM := hide hm
  have HNE := hide hne
  have HLL := hide (show la < (m : Int) ∧ lb < (m : Int) from ⟨by omega, by omega⟩)
  have HAP := hide (apart_of hA hB (m := m) (by omega) (by omega) hne)
  have ec1 : decide (part pa pb ≤ la) = false := by simp; omega
  have ec2 : decide (part pb pa ≤ lb) = false := by rw [← part_sym hA.info.1 hB.info.1]; simp; omega
  have EC1 := hide ec1
  have EC2 := hide ec2
  have hm64 : (m : Int) < 64 := by have := hps.2.1; omega
  have HMM := hide hm64
  have hb1 := (Below.refl w.heap.size w).alloc (Nat.le_refl _) (.cells #[.int .i64 (r : Int), .bool true, .bool false, .bool bo] 71)
  have hJ := Blk.new w 71 #[.int .i64 (r : Int), .bool true, .bool false, .bool bo]
  have HB := hide hb1
  have HJ := hide hJ
  have HA := hide hA
  have HBB := hide hB
  obtain ⟨a1, a2, a3, a4, a5, a6, a7⟩ := hA.info
  obtain ⟨b1, b2, b3, b4, b5, b6, b7⟩ := hB.info
  have HIA := hide (show Zp k pa ∧ ∀ x ∈ ea, ∀ b : Nat, la < (b : Int) → addrOf x.1 b = addrOf pa b from ⟨a1, fun x hx => (a5 x hx).2.2⟩)
  have HIBB := hide (show Zp k pb ∧ ∀ x ∈ eb, ∀ b : Nat, lb < (b : Int) → addrOf x.1 b = addrOf pb b from ⟨b1, fun x hx => (b5 x hx).2.2⟩)
  have HSYM := hide (part_sym a1 b1)
  clear hb1 hJ a2 a5 a6 a7 b2 b5 b6 b7
  have HSA := hide (fun W => show Calls Tryz.prog 90 #[.pointer (some ⟨ga, 0, none⟩), .bool true] W fun e w' => e = .returned (.pointer (some ⟨ga, 0, none⟩)) ∧ W = w' from st_side W (some (ga, ⟨la, pa, ea⟩)) true)
  have HSB := hide (fun W => show Calls Tryz.prog 90 #[.pointer (some ⟨gb, 0, none⟩), .bool false] W fun e w' => e = .returned (.pointer none) ∧ W = w' from st_side W (some (gb, ⟨lb, pb, eb⟩)) false)
  subst hrel
  have e1 : (la == la) = true := by simp
  have e2 : decide (la < la) = false := by simp
  have hmx : max la la = la := by omega
  have hxb : -1 ≤ la ∧ la < 64 := by omega
  have hx0 : -1 ≤ la := by omega
  have hx1 : la ≤ 62 := by omega
  obtain ⟨M, hM⟩ : ∃ M : Nat, la + 1 = (M : Int) := ⟨(la + 1).toNat, by omega⟩
  have hM64 : M < 64 := by omega
  have HLM := hide (show la < (M : Int) ∧ la < (M : Int) from ⟨by omega, by omega⟩)
  have hadd := fun W (hW : Below w.heap.size w W) => st_add (w := W) (tn := some (ga, ⟨la, pa, ea⟩)) (tk := none) (m := M) (a := addrOf pa M + 1) (pre := pa) hk1 hk hM64 (fun x hx => by injection hx with hx; subst hx; exact HA.out.stay hW) (TopOk.none_ _ _) (fun x hx => ⟨by rw [HIA.out.2 x hx M HLM.out.1]; omega, fun b hb => HIA.out.2 x hx b (by have := HLM.out; omega)⟩) (fun x hx => by simp [esOf] at hx)
  rw [← hM] at hadd
  have HADD := hide (fun W (hW : Below w.heap.size w W) => show Calls Tryz.prog 94 #[.pointer (some ⟨ga, 0, none⟩), .int .i64 (la + 1), .pointer none] W (JdOut W k ea []) from hadd W hW)
  clear hadd
  clear hA hB hcA hcB hps hm hne ec1 ec2 hM hM64 hm64 hxb
  go_enter Tryz.func61, Tryz.ntmps61
  go_wp2_with fail
  refine (nd_level (HA.out.stay HB.out)).mono ?_
  rintro e w2 ⟨rfl, rfl⟩
  go_wp2_with fail
  refine (nd_level (HBB.out.stay HB.out)).mono ?_
  rintro e w3 ⟨rfl, rfl⟩
  go_wp2_with fail
  refine (nd_prefix (HBB.out.stay HB.out) hk).mono ?_
  rintro e w4 ⟨v4, rfl, ho4, hb4⟩
  obtain ⟨A4, c4, rfl, hp4⟩ := Pt.of_own ho4 HIBB.out.1.1 HIBB.out.1.2
  replace HB := hide (below_then HB.out hb4)
  replace HJ := hide (HJ.out.below hb4)
  have HP4 := hide hp4
  clear ho4 hb4 hp4
  have hcv5 := nd_covers (d := c4) (HA.out.stay HB.out) hk1 hk HP4.out
  rw [EC1.out] at hcv5
  have HCV5 := hide hcv5
  clear hcv5
  go_wp2_with fail
  refine HCV5.out.mono ?_
  rintro e w5 ⟨rfl, rfl⟩
  go_wp2_with fail
  refine (nd_level (HA.out.stay HB.out)).mono ?_
  rintro e w6 ⟨rfl, rfl⟩
  go_wp2_with fail
  refine (nd_level (HBB.out.stay HB.out)).mono ?_
  rintro e w7 ⟨rfl, rfl⟩
  go_wp2_with fail
  refine (nd_level (HBB.out.stay HB.out)).mono ?_
  rintro e w8 ⟨rfl, rfl⟩
  go_wp2_with fail
  refine (nd_level (HA.out.stay HB.out)).mono ?_
  rintro e w9 ⟨rfl, rfl⟩
  have hJz := HJ.out
  have j0 := hJz.cell 0
  have j1 := hJz.cell 1
  have j2 := hJz.cell 2
  have j3 := hJz.cell 3
  simp at j0 j1 j2 j3
  have hd : Below w.heap.size w w4.drew := HB.out.drew
  have hqd : Below w4.heap.size w4 w4.drew := (Below.refl _ _).drew
  have HCELL := hide (fun W (hW : Below w4.heap.size w4 W) => And.intro ((HJ.out.below hW).cell 0) (And.intro ((HJ.out.below hW).cell 1) (And.intro ((HJ.out.below hW).cell 2) ((HJ.out.below hW).cell 3))))
  clear hJz
  go_wp2_with fail
  go_region_held3 (fun w' => w'.cell? ⟨w.heap.size, 0, none⟩ = some (.int .i64 (r : Int)) ∧ w'.cell? ⟨w.heap.size, 1, none⟩ = some (.bool true) ∧ w'.cell? ⟨w.heap.size, 2, none⟩ = some (.bool false) ∧ w'.cell? ⟨w.heap.size, 3, none⟩ = some (.bool bo))
    (first
      | go_keep
      | exact HCELL.out _ hqd)
    (first
      | (go_at_call 90
         with_reducible refine (HSA.out _).mono ?_
         rintro e ws ⟨rfl, rfl⟩)
      | (go_at_call 90
         with_reducible refine (HSB.out _).mono ?_
         rintro e ws ⟨rfl, rfl⟩))
  have HD := hide hd
  clear hd hqd
  go_wp2_with fail
  refine (nd_level (HA.out.stay HD.out)).mono ?_
  rintro e w91 ⟨rfl, rfl⟩
  go_wp2_with fail
  refine (nd_level (HBB.out.stay HD.out)).mono ?_
  rintro e w91 ⟨rfl, rfl⟩
  go_wp2_with fail
  refine (HADD.out _ HD.out).mono ?_
  rintro e w92 ⟨tc, rfl, htc, hmc, hb92⟩
  have HF := hide (show StOut w k r true false bo ea eb (.returned (ptrOf tc)) w92 from ⟨tc, rfl, htc, fun x => by rw [JM.apart HAP.out, hmc]; simp, below_then HD.out hb92⟩)
  clear htc hmc hb92
  go_wp2
  go_ret
  exact HF.out
set_option maxHeartbeats 8000000 in
set_option maxRecDepth 100000 in
theorem st_join_ap_eq_false_true {w : World} {k ga gb r : Nat} {la lb : Int} {bo : Bool} {pa pb : List Nat} {ea eb : List Ent} (hk1 : 1 ≤ k) (hk : k ≤ 16) (hA : NodeOf w k ga la pa ea) (hB : NodeOf w k gb lb pb eb) (hrel : la = lb) (hcA : la < part pa pb) (hcB : lb < part pa pb) :
    Calls Tryz.prog 61 #[.agg #[.int .i64 (r : Int), .bool false, .bool true, .bool bo], .pointer (some ⟨ga, 0, none⟩), .pointer (some ⟨gb, 0, none⟩)] w (StOut w k r false true bo ea eb) := by
  have hps := part_spec pa pb (hA.info.1.1.trans hB.info.1.1.symm) hA.info.1.2 hB.info.1.2
  obtain ⟨m, hm⟩ : ∃ m : Nat, part pa pb = (m : Int) := ⟨(part pa pb).toNat, by have := hA.info.2.2.1; omega⟩
  have hne : addrOf pa m ≠ addrOf pb m := by
    have := hps.2.2.2 (by have := hA.info.2.2.1; omega)
    rw [hm] at this
    simpa using this
  have HPM := hide hm
  have HNE := hide hne
  have HLL := hide (show la < (m : Int) ∧ lb < (m : Int) from ⟨by omega, by omega⟩)
  have HAP := hide (apart_of hA hB (m := m) (by omega) (by omega) hne)
  have ec1 : decide (part pa pb ≤ la) = false := by simp; omega
  have ec2 : decide (part pb pa ≤ lb) = false := by rw [← part_sym hA.info.1 hB.info.1]; simp; omega
  have EC1 := hide ec1
  have EC2 := hide ec2
  have hm64 : (m : Int) < 64 := by have := hps.2.1; omega
  have HMM := hide hm64
  have hb1 := (Below.refl w.heap.size w).alloc (Nat.le_refl _) (.cells #[.int .i64 (r : Int), .bool false, .bool true, .bool bo] 71)
  have hJ := Blk.new w 71 #[.int .i64 (r : Int), .bool false, .bool true, .bool bo]
  have HB := hide hb1
  have HJ := hide hJ
  have HA := hide hA
  have HBB := hide hB
  obtain ⟨a1, a2, a3, a4, a5, a6, a7⟩ := hA.info
  obtain ⟨b1, b2, b3, b4, b5, b6, b7⟩ := hB.info
  have HIA := hide (show Zp k pa ∧ ∀ x ∈ ea, ∀ b : Nat, la < (b : Int) → addrOf x.1 b = addrOf pa b from ⟨a1, fun x hx => (a5 x hx).2.2⟩)
  have HIBB := hide (show Zp k pb ∧ ∀ x ∈ eb, ∀ b : Nat, lb < (b : Int) → addrOf x.1 b = addrOf pb b from ⟨b1, fun x hx => (b5 x hx).2.2⟩)
  have HSYM := hide (part_sym a1 b1)
  clear hb1 hJ a2 a5 a6 a7 b2 b5 b6 b7
  have HSA := hide (fun W => show Calls Tryz.prog 90 #[.pointer (some ⟨ga, 0, none⟩), .bool false] W fun e w' => e = .returned (.pointer none) ∧ W = w' from st_side W (some (ga, ⟨la, pa, ea⟩)) false)
  have HSB := hide (fun W => show Calls Tryz.prog 90 #[.pointer (some ⟨gb, 0, none⟩), .bool true] W fun e w' => e = .returned (.pointer (some ⟨gb, 0, none⟩)) ∧ W = w' from st_side W (some (gb, ⟨lb, pb, eb⟩)) true)
  subst hrel
  have e1 : (la == la) = true := by simp
  have e2 : decide (la < la) = false := by simp
  have hmx : max la la = la := by omega
  have hxb : -1 ≤ la ∧ la < 64 := by omega
  have hx0 : -1 ≤ la := by omega
  have hx1 : la ≤ 62 := by omega
  obtain ⟨M, hM⟩ : ∃ M : Nat, la + 1 = (M : Int) := ⟨(la + 1).toNat, by omega⟩
  have hM64 : M < 64 := by omega
  have HLM := hide (show la < (M : Int) ∧ la < (M : Int) from ⟨by omega, by omega⟩)
  have hadd := fun W (hW : Below w.heap.size w W) => st_add (w := W) (tn := none) (tk := some (gb, ⟨la, pb, eb⟩)) (m := M) (a := addrOf pb M) (pre := pb) hk1 hk hM64 (TopOk.none_ _ _) (fun x hx => by injection hx with hx; subst hx; exact HBB.out.stay hW) (fun x hx => by simp [esOf] at hx) (fun x hx => ⟨HIBB.out.2 x hx M HLM.out.2, fun b hb => HIBB.out.2 x hx b (by have := HLM.out; omega)⟩)
  rw [← hM] at hadd
  have HADD := hide (fun W (hW : Below w.heap.size w W) => show Calls Tryz.prog 94 #[.pointer none, .int .i64 (la + 1), .pointer (some ⟨gb, 0, none⟩)] W (JdOut W k [] eb) from hadd W hW)
  clear hadd
  clear hA hB hcA hcB hps hm hne ec1 ec2 hM hM64 hm64 hxb
  go_enter Tryz.func61, Tryz.ntmps61
  go_wp2_with fail
  refine (nd_level (HA.out.stay HB.out)).mono ?_
  rintro e w2 ⟨rfl, rfl⟩
  go_wp2_with fail
  refine (nd_level (HBB.out.stay HB.out)).mono ?_
  rintro e w3 ⟨rfl, rfl⟩
  go_wp2_with fail
  refine (nd_prefix (HBB.out.stay HB.out) hk).mono ?_
  rintro e w4 ⟨v4, rfl, ho4, hb4⟩
  obtain ⟨A4, c4, rfl, hp4⟩ := Pt.of_own ho4 HIBB.out.1.1 HIBB.out.1.2
  replace HB := hide (below_then HB.out hb4)
  replace HJ := hide (HJ.out.below hb4)
  have HP4 := hide hp4
  clear ho4 hb4 hp4
  have hcv5 := nd_covers (d := c4) (HA.out.stay HB.out) hk1 hk HP4.out
  rw [EC1.out] at hcv5
  have HCV5 := hide hcv5
  clear hcv5
  go_wp2_with fail
  refine HCV5.out.mono ?_
  rintro e w5 ⟨rfl, rfl⟩
  go_wp2_with fail
  refine (nd_level (HA.out.stay HB.out)).mono ?_
  rintro e w6 ⟨rfl, rfl⟩
  go_wp2_with fail
  refine (nd_level (HBB.out.stay HB.out)).mono ?_
  rintro e w7 ⟨rfl, rfl⟩
  go_wp2_with fail
  refine (nd_level (HBB.out.stay HB.out)).mono ?_
  rintro e w8 ⟨rfl, rfl⟩
  go_wp2_with fail
  refine (nd_level (HA.out.stay HB.out)).mono ?_
  rintro e w9 ⟨rfl, rfl⟩
  have hJz := HJ.out
  have j0 := hJz.cell 0
  have j1 := hJz.cell 1
  have j2 := hJz.cell 2
  have j3 := hJz.cell 3
  simp at j0 j1 j2 j3
  have hd : Below w.heap.size w w4.drew := HB.out.drew
  have hqd : Below w4.heap.size w4 w4.drew := (Below.refl _ _).drew
  have HCELL := hide (fun W (hW : Below w4.heap.size w4 W) => And.intro ((HJ.out.below hW).cell 0) (And.intro ((HJ.out.below hW).cell 1) (And.intro ((HJ.out.below hW).cell 2) ((HJ.out.below hW).cell 3))))
  clear hJz
  go_wp2_with fail
  go_region_held3 (fun w' => w'.cell? ⟨w.heap.size, 0, none⟩ = some (.int .i64 (r : Int)) ∧ w'.cell? ⟨w.heap.size, 1, none⟩ = some (.bool false) ∧ w'.cell? ⟨w.heap.size, 2, none⟩ = some (.bool true) ∧ w'.cell? ⟨w.heap.size, 3, none⟩ = some (.bool bo))
    (first
      | go_keep
      | exact HCELL.out _ hqd)
    (first
      | (go_at_call 90
         with_reducible refine (HSA.out _).mono ?_
         rintro e ws ⟨rfl, rfl⟩)
      | (go_at_call 90
         with_reducible refine (HSB.out _).mono ?_
         rintro e ws ⟨rfl, rfl⟩))
  have HD := hide hd
  clear hd hqd
  go_wp2_with fail
  refine (nd_level (HA.out.stay HD.out)).mono ?_
  rintro e w91 ⟨rfl, rfl⟩
  go_wp2_with fail
  refine (nd_level (HBB.out.stay HD.out)).mono ?_
  rintro e w91 ⟨rfl, rfl⟩
  go_wp2_with fail
  refine (HADD.out _ HD.out).mono ?_
  rintro e w92 ⟨tc, rfl, htc, hmc, hb92⟩
  have HF := hide (show StOut w k r false true bo ea eb (.returned (ptrOf tc)) w92 from ⟨tc, rfl, htc, fun x => by rw [JM.apart HAP.out, hmc]; simp, below_then HD.out hb92⟩)
  clear htc hmc hb92
  go_wp2
  go_ret
  exact HF.out
set_option maxHeartbeats 8000000 in
set_option maxRecDepth 100000 in
theorem st_join_ap_eq_false_false {w : World} {k ga gb r : Nat} {la lb : Int} {bo : Bool} {pa pb : List Nat} {ea eb : List Ent} (hk1 : 1 ≤ k) (hk : k ≤ 16) (hA : NodeOf w k ga la pa ea) (hB : NodeOf w k gb lb pb eb) (hrel : la = lb) (hcA : la < part pa pb) (hcB : lb < part pa pb) :
    Calls Tryz.prog 61 #[.agg #[.int .i64 (r : Int), .bool false, .bool false, .bool bo], .pointer (some ⟨ga, 0, none⟩), .pointer (some ⟨gb, 0, none⟩)] w (StOut w k r false false bo ea eb) := by
  have hps := part_spec pa pb (hA.info.1.1.trans hB.info.1.1.symm) hA.info.1.2 hB.info.1.2
  obtain ⟨m, hm⟩ : ∃ m : Nat, part pa pb = (m : Int) := ⟨(part pa pb).toNat, by have := hA.info.2.2.1; omega⟩
  have hne : addrOf pa m ≠ addrOf pb m := by
    have := hps.2.2.2 (by have := hA.info.2.2.1; omega)
    rw [hm] at this
    simpa using this
  have HPM := hide hm
  have HNE := hide hne
  have HLL := hide (show la < (m : Int) ∧ lb < (m : Int) from ⟨by omega, by omega⟩)
  have HAP := hide (apart_of hA hB (m := m) (by omega) (by omega) hne)
  have ec1 : decide (part pa pb ≤ la) = false := by simp; omega
  have ec2 : decide (part pb pa ≤ lb) = false := by rw [← part_sym hA.info.1 hB.info.1]; simp; omega
  have EC1 := hide ec1
  have EC2 := hide ec2
  have hm64 : (m : Int) < 64 := by have := hps.2.1; omega
  have HMM := hide hm64
  have hb1 := (Below.refl w.heap.size w).alloc (Nat.le_refl _) (.cells #[.int .i64 (r : Int), .bool false, .bool false, .bool bo] 71)
  have hJ := Blk.new w 71 #[.int .i64 (r : Int), .bool false, .bool false, .bool bo]
  have HB := hide hb1
  have HJ := hide hJ
  have HA := hide hA
  have HBB := hide hB
  obtain ⟨a1, a2, a3, a4, a5, a6, a7⟩ := hA.info
  obtain ⟨b1, b2, b3, b4, b5, b6, b7⟩ := hB.info
  have HIA := hide (show Zp k pa ∧ ∀ x ∈ ea, ∀ b : Nat, la < (b : Int) → addrOf x.1 b = addrOf pa b from ⟨a1, fun x hx => (a5 x hx).2.2⟩)
  have HIBB := hide (show Zp k pb ∧ ∀ x ∈ eb, ∀ b : Nat, lb < (b : Int) → addrOf x.1 b = addrOf pb b from ⟨b1, fun x hx => (b5 x hx).2.2⟩)
  have HSYM := hide (part_sym a1 b1)
  clear hb1 hJ a2 a5 a6 a7 b2 b5 b6 b7
  have HSA := hide (fun W => show Calls Tryz.prog 90 #[.pointer (some ⟨ga, 0, none⟩), .bool false] W fun e w' => e = .returned (.pointer none) ∧ W = w' from st_side W (some (ga, ⟨la, pa, ea⟩)) false)
  have HSB := hide (fun W => show Calls Tryz.prog 90 #[.pointer (some ⟨gb, 0, none⟩), .bool false] W fun e w' => e = .returned (.pointer none) ∧ W = w' from st_side W (some (gb, ⟨lb, pb, eb⟩)) false)
  subst hrel
  have e1 : (la == la) = true := by simp
  have e2 : decide (la < la) = false := by simp
  have hmx : max la la = la := by omega
  have hxb : -1 ≤ la ∧ la < 64 := by omega
  have hx0 : -1 ≤ la := by omega
  have hx1 : la ≤ 62 := by omega
  obtain ⟨M, hM⟩ : ∃ M : Nat, la + 1 = (M : Int) := ⟨(la + 1).toNat, by omega⟩
  have hM64 : M < 64 := by omega
  have HLM := hide (show la < (M : Int) ∧ la < (M : Int) from ⟨by omega, by omega⟩)
  have hadd := fun W (hW : Below w.heap.size w W) => st_add (w := W) (tn := none) (tk := none) (m := M) (a := addrOf pb M) (pre := pb) hk1 hk hM64 (TopOk.none_ _ _) (TopOk.none_ _ _) (fun x hx => by simp [esOf] at hx) (fun x hx => by simp [esOf] at hx)
  rw [← hM] at hadd
  have HADD := hide (fun W (hW : Below w.heap.size w W) => show Calls Tryz.prog 94 #[.pointer none, .int .i64 (la + 1), .pointer none] W (JdOut W k [] []) from hadd W hW)
  clear hadd
  clear hA hB hcA hcB hps hm hne ec1 ec2 hM hM64 hm64 hxb
  go_enter Tryz.func61, Tryz.ntmps61
  go_wp2_with fail
  refine (nd_level (HA.out.stay HB.out)).mono ?_
  rintro e w2 ⟨rfl, rfl⟩
  go_wp2_with fail
  refine (nd_level (HBB.out.stay HB.out)).mono ?_
  rintro e w3 ⟨rfl, rfl⟩
  go_wp2_with fail
  refine (nd_prefix (HBB.out.stay HB.out) hk).mono ?_
  rintro e w4 ⟨v4, rfl, ho4, hb4⟩
  obtain ⟨A4, c4, rfl, hp4⟩ := Pt.of_own ho4 HIBB.out.1.1 HIBB.out.1.2
  replace HB := hide (below_then HB.out hb4)
  replace HJ := hide (HJ.out.below hb4)
  have HP4 := hide hp4
  clear ho4 hb4 hp4
  have hcv5 := nd_covers (d := c4) (HA.out.stay HB.out) hk1 hk HP4.out
  rw [EC1.out] at hcv5
  have HCV5 := hide hcv5
  clear hcv5
  go_wp2_with fail
  refine HCV5.out.mono ?_
  rintro e w5 ⟨rfl, rfl⟩
  go_wp2_with fail
  refine (nd_level (HA.out.stay HB.out)).mono ?_
  rintro e w6 ⟨rfl, rfl⟩
  go_wp2_with fail
  refine (nd_level (HBB.out.stay HB.out)).mono ?_
  rintro e w7 ⟨rfl, rfl⟩
  go_wp2_with fail
  refine (nd_level (HBB.out.stay HB.out)).mono ?_
  rintro e w8 ⟨rfl, rfl⟩
  go_wp2_with fail
  refine (nd_level (HA.out.stay HB.out)).mono ?_
  rintro e w9 ⟨rfl, rfl⟩
  have hJz := HJ.out
  have j0 := hJz.cell 0
  have j1 := hJz.cell 1
  have j2 := hJz.cell 2
  have j3 := hJz.cell 3
  simp at j0 j1 j2 j3
  have hd : Below w.heap.size w w4.drew := HB.out.drew
  have hqd : Below w4.heap.size w4 w4.drew := (Below.refl _ _).drew
  have HCELL := hide (fun W (hW : Below w4.heap.size w4 W) => And.intro ((HJ.out.below hW).cell 0) (And.intro ((HJ.out.below hW).cell 1) (And.intro ((HJ.out.below hW).cell 2) ((HJ.out.below hW).cell 3))))
  clear hJz
  go_wp2_with fail
  go_region_held3 (fun w' => w'.cell? ⟨w.heap.size, 0, none⟩ = some (.int .i64 (r : Int)) ∧ w'.cell? ⟨w.heap.size, 1, none⟩ = some (.bool false) ∧ w'.cell? ⟨w.heap.size, 2, none⟩ = some (.bool false) ∧ w'.cell? ⟨w.heap.size, 3, none⟩ = some (.bool bo))
    (first
      | go_keep
      | exact HCELL.out _ hqd)
    (first
      | (go_at_call 90
         with_reducible refine (HSA.out _).mono ?_
         rintro e ws ⟨rfl, rfl⟩)
      | (go_at_call 90
         with_reducible refine (HSB.out _).mono ?_
         rintro e ws ⟨rfl, rfl⟩))
  have HD := hide hd
  clear hd hqd
  go_wp2_with fail
  refine (nd_level (HA.out.stay HD.out)).mono ?_
  rintro e w91 ⟨rfl, rfl⟩
  go_wp2_with fail
  refine (nd_level (HBB.out.stay HD.out)).mono ?_
  rintro e w91 ⟨rfl, rfl⟩
  go_wp2_with fail
  refine (HADD.out _ HD.out).mono ?_
  rintro e w92 ⟨tc, rfl, htc, hmc, hb92⟩
  have HF := hide (show StOut w k r false false bo ea eb (.returned (ptrOf tc)) w92 from ⟨tc, rfl, htc, fun x => by rw [JM.apart HAP.out, hmc]; simp, below_then HD.out hb92⟩)
  clear htc hmc hb92
  go_wp2
  go_ret
  exact HF.out
set_option maxHeartbeats 8000000 in
set_option maxRecDepth 100000 in
theorem st_join_ap_gt_true_true {w : World} {k ga gb r : Nat} {la lb : Int} {bo : Bool} {pa pb : List Nat} {ea eb : List Ent} (hk1 : 1 ≤ k) (hk : k ≤ 16) (hA : NodeOf w k ga la pa ea) (hB : NodeOf w k gb lb pb eb) (hrel : lb < la) (hcA : la < part pa pb) (hcB : lb < part pa pb) :
    Calls Tryz.prog 61 #[.agg #[.int .i64 (r : Int), .bool true, .bool true, .bool bo], .pointer (some ⟨ga, 0, none⟩), .pointer (some ⟨gb, 0, none⟩)] w (StOut w k r true true bo ea eb) := by
  have hps := part_spec pa pb (hA.info.1.1.trans hB.info.1.1.symm) hA.info.1.2 hB.info.1.2
  obtain ⟨m, hm⟩ : ∃ m : Nat, part pa pb = (m : Int) := ⟨(part pa pb).toNat, by have := hA.info.2.2.1; omega⟩
  have hne : addrOf pa m ≠ addrOf pb m := by
    have := hps.2.2.2 (by have := hA.info.2.2.1; omega)
    rw [hm] at this
    simpa using this
  have HPM := hide hm
  have HNE := hide hne
  have HLL := hide (show la < (m : Int) ∧ lb < (m : Int) from ⟨by omega, by omega⟩)
  have HAP := hide (apart_of hA hB (m := m) (by omega) (by omega) hne)
  have ec1 : decide (part pa pb ≤ la) = false := by simp; omega
  have ec2 : decide (part pb pa ≤ lb) = false := by rw [← part_sym hA.info.1 hB.info.1]; simp; omega
  have EC1 := hide ec1
  have EC2 := hide ec2
  have hm64 : (m : Int) < 64 := by have := hps.2.1; omega
  have HMM := hide hm64
  have hb1 := (Below.refl w.heap.size w).alloc (Nat.le_refl _) (.cells #[.int .i64 (r : Int), .bool true, .bool true, .bool bo] 71)
  have hJ := Blk.new w 71 #[.int .i64 (r : Int), .bool true, .bool true, .bool bo]
  have HB := hide hb1
  have HJ := hide hJ
  have HA := hide hA
  have HBB := hide hB
  obtain ⟨a1, a2, a3, a4, a5, a6, a7⟩ := hA.info
  obtain ⟨b1, b2, b3, b4, b5, b6, b7⟩ := hB.info
  have HIA := hide (show Zp k pa ∧ ∀ x ∈ ea, ∀ b : Nat, la < (b : Int) → addrOf x.1 b = addrOf pa b from ⟨a1, fun x hx => (a5 x hx).2.2⟩)
  have HIBB := hide (show Zp k pb ∧ ∀ x ∈ eb, ∀ b : Nat, lb < (b : Int) → addrOf x.1 b = addrOf pb b from ⟨b1, fun x hx => (b5 x hx).2.2⟩)
  have HSYM := hide (part_sym a1 b1)
  clear hb1 hJ a2 a5 a6 a7 b2 b5 b6 b7
  have HSA := hide (fun W => show Calls Tryz.prog 90 #[.pointer (some ⟨ga, 0, none⟩), .bool true] W fun e w' => e = .returned (.pointer (some ⟨ga, 0, none⟩)) ∧ W = w' from st_side W (some (ga, ⟨la, pa, ea⟩)) true)
  have HSB := hide (fun W => show Calls Tryz.prog 90 #[.pointer (some ⟨gb, 0, none⟩), .bool true] W fun e w' => e = .returned (.pointer (some ⟨gb, 0, none⟩)) ∧ W = w' from st_side W (some (gb, ⟨lb, pb, eb⟩)) true)
  have e1 : (la == lb) = false := by simp; omega
  have e2 : decide (lb < la) = true := by simpa using hrel
  have e3 : decide (la < lb) = false := by simp; omega
  have hmx : max la lb = la := by omega
  have hxb : -1 ≤ la ∧ la < 64 := by omega
  have hx0 : -1 ≤ la := by omega
  have hx1 : la ≤ 62 := by omega
  obtain ⟨M, hM⟩ : ∃ M : Nat, la + 1 = (M : Int) := ⟨(la + 1).toNat, by omega⟩
  have hM64 : M < 64 := by omega
  have HLM := hide (show la < (M : Int) ∧ lb < (M : Int) from ⟨by omega, by omega⟩)
  clear hA hB hcA hcB hps hm hne ec1 ec2 hM hM64 hm64 hxb hrel
  go_enter Tryz.func61, Tryz.ntmps61
  go_wp2_with fail
  refine (nd_level (HA.out.stay HB.out)).mono ?_
  rintro e w2 ⟨rfl, rfl⟩
  go_wp2_with fail
  refine (nd_level (HBB.out.stay HB.out)).mono ?_
  rintro e w3 ⟨rfl, rfl⟩
  go_wp2_with fail
  refine (nd_level (HA.out.stay HB.out)).mono ?_
  rintro e w4 ⟨rfl, rfl⟩
  go_wp2_with fail
  refine (nd_level (HBB.out.stay HB.out)).mono ?_
  rintro e w5 ⟨rfl, rfl⟩
  go_wp2_with fail
  refine (nd_prefix (HBB.out.stay HB.out) hk).mono ?_
  rintro e w6 ⟨v6, rfl, ho6, hb6⟩
  obtain ⟨A6, c6, rfl, hp6⟩ := Pt.of_own ho6 HIBB.out.1.1 HIBB.out.1.2
  replace HB := hide (below_then HB.out hb6)
  replace HJ := hide (HJ.out.below hb6)
  have HP6 := hide hp6
  clear ho6 hb6 hp6
  have hcv7 := nd_covers (d := c6) (HA.out.stay HB.out) hk1 hk HP6.out
  rw [EC1.out] at hcv7
  have HCV7 := hide hcv7
  clear hcv7
  go_wp2_with fail
  refine HCV7.out.mono ?_
  rintro e w7 ⟨rfl, rfl⟩
  go_wp2_with fail
  refine (nd_level (HBB.out.stay HB.out)).mono ?_
  rintro e w8 ⟨rfl, rfl⟩
  go_wp2_with fail
  refine (nd_level (HA.out.stay HB.out)).mono ?_
  rintro e w9 ⟨rfl, rfl⟩
  have hJz := HJ.out
  have j0 := hJz.cell 0
  have j1 := hJz.cell 1
  have j2 := hJz.cell 2
  have j3 := hJz.cell 3
  simp at j0 j1 j2 j3
  have hd : Below w.heap.size w w6.drew := HB.out.drew
  have hqd : Below w6.heap.size w6 w6.drew := (Below.refl _ _).drew
  have HCELL := hide (fun W (hW : Below w6.heap.size w6 W) => And.intro ((HJ.out.below hW).cell 0) (And.intro ((HJ.out.below hW).cell 1) (And.intro ((HJ.out.below hW).cell 2) ((HJ.out.below hW).cell 3))))
  clear hJz
  go_wp2_with fail
  go_region_held3 (fun w' => w'.cell? ⟨w.heap.size, 0, none⟩ = some (.int .i64 (r : Int)) ∧ w'.cell? ⟨w.heap.size, 1, none⟩ = some (.bool true) ∧ w'.cell? ⟨w.heap.size, 2, none⟩ = some (.bool true) ∧ w'.cell? ⟨w.heap.size, 3, none⟩ = some (.bool bo))
    (first
      | go_keep
      | exact HCELL.out _ hqd)
    (first
      | (go_at_call 90
         with_reducible refine (HSA.out _).mono ?_
         rintro e ws ⟨rfl, rfl⟩)
      | (go_at_call 90
         with_reducible refine (HSB.out _).mono ?_
         rintro e ws ⟨rfl, rfl⟩))
  have hpr := nd_pair (HA.out.stay hd) (HBB.out.stay hd) hk1 hk HPM.out (by have := HLL.out; omega) (by have := HLL.out; omega)
  have HPR := hide hpr
  clear hpr hqd
  go_wp2_with fail
  refine HPR.out.mono ?_
  rintro e w90 ⟨gn, rfl, hFn, -, hb90⟩
  have HF := hide (show StOut w k r true true bo ea eb (.returned (.pointer (some ⟨gn, 0, none⟩))) w90 from ⟨some (gn, ⟨m, _, _⟩), rfl, fun x hx => by injection hx with hx; subst hx; exact hFn.node, fun x => by
    rw [JM.apart HAP.out]
    show x ∈ kidEs _ ↔ _
    rw [pair_mem HNE.out]
    simp, below_then hd hb90⟩)
  clear hFn hb90 hd
  go_wp2
  go_ret
  exact HF.out
set_option maxHeartbeats 8000000 in
set_option maxRecDepth 100000 in
theorem st_join_ap_gt_true_false {w : World} {k ga gb r : Nat} {la lb : Int} {bo : Bool} {pa pb : List Nat} {ea eb : List Ent} (hk1 : 1 ≤ k) (hk : k ≤ 16) (hA : NodeOf w k ga la pa ea) (hB : NodeOf w k gb lb pb eb) (hrel : lb < la) (hcA : la < part pa pb) (hcB : lb < part pa pb) :
    Calls Tryz.prog 61 #[.agg #[.int .i64 (r : Int), .bool true, .bool false, .bool bo], .pointer (some ⟨ga, 0, none⟩), .pointer (some ⟨gb, 0, none⟩)] w (StOut w k r true false bo ea eb) := by
  have hps := part_spec pa pb (hA.info.1.1.trans hB.info.1.1.symm) hA.info.1.2 hB.info.1.2
  obtain ⟨m, hm⟩ : ∃ m : Nat, part pa pb = (m : Int) := ⟨(part pa pb).toNat, by have := hA.info.2.2.1; omega⟩
  have hne : addrOf pa m ≠ addrOf pb m := by
    have := hps.2.2.2 (by have := hA.info.2.2.1; omega)
    rw [hm] at this
    simpa using this
  have HPM := hide hm
  have HNE := hide hne
  have HLL := hide (show la < (m : Int) ∧ lb < (m : Int) from ⟨by omega, by omega⟩)
  have HAP := hide (apart_of hA hB (m := m) (by omega) (by omega) hne)
  have ec1 : decide (part pa pb ≤ la) = false := by simp; omega
  have ec2 : decide (part pb pa ≤ lb) = false := by rw [← part_sym hA.info.1 hB.info.1]; simp; omega
  have EC1 := hide ec1
  have EC2 := hide ec2
  have hm64 : (m : Int) < 64 := by have := hps.2.1; omega
  have HMM := hide hm64
  have hb1 := (Below.refl w.heap.size w).alloc (Nat.le_refl _) (.cells #[.int .i64 (r : Int), .bool true, .bool false, .bool bo] 71)
  have hJ := Blk.new w 71 #[.int .i64 (r : Int), .bool true, .bool false, .bool bo]
  have HB := hide hb1
  have HJ := hide hJ
  have HA := hide hA
  have HBB := hide hB
  obtain ⟨a1, a2, a3, a4, a5, a6, a7⟩ := hA.info
  obtain ⟨b1, b2, b3, b4, b5, b6, b7⟩ := hB.info
  have HIA := hide (show Zp k pa ∧ ∀ x ∈ ea, ∀ b : Nat, la < (b : Int) → addrOf x.1 b = addrOf pa b from ⟨a1, fun x hx => (a5 x hx).2.2⟩)
  have HIBB := hide (show Zp k pb ∧ ∀ x ∈ eb, ∀ b : Nat, lb < (b : Int) → addrOf x.1 b = addrOf pb b from ⟨b1, fun x hx => (b5 x hx).2.2⟩)
  have HSYM := hide (part_sym a1 b1)
  clear hb1 hJ a2 a5 a6 a7 b2 b5 b6 b7
  have HSA := hide (fun W => show Calls Tryz.prog 90 #[.pointer (some ⟨ga, 0, none⟩), .bool true] W fun e w' => e = .returned (.pointer (some ⟨ga, 0, none⟩)) ∧ W = w' from st_side W (some (ga, ⟨la, pa, ea⟩)) true)
  have HSB := hide (fun W => show Calls Tryz.prog 90 #[.pointer (some ⟨gb, 0, none⟩), .bool false] W fun e w' => e = .returned (.pointer none) ∧ W = w' from st_side W (some (gb, ⟨lb, pb, eb⟩)) false)
  have e1 : (la == lb) = false := by simp; omega
  have e2 : decide (lb < la) = true := by simpa using hrel
  have e3 : decide (la < lb) = false := by simp; omega
  have hmx : max la lb = la := by omega
  have hxb : -1 ≤ la ∧ la < 64 := by omega
  have hx0 : -1 ≤ la := by omega
  have hx1 : la ≤ 62 := by omega
  obtain ⟨M, hM⟩ : ∃ M : Nat, la + 1 = (M : Int) := ⟨(la + 1).toNat, by omega⟩
  have hM64 : M < 64 := by omega
  have HLM := hide (show la < (M : Int) ∧ lb < (M : Int) from ⟨by omega, by omega⟩)
  have hadd := fun W (hW : Below w.heap.size w W) => st_add (w := W) (tn := some (ga, ⟨la, pa, ea⟩)) (tk := none) (m := M) (a := addrOf pa M + 1) (pre := pa) hk1 hk hM64 (fun x hx => by injection hx with hx; subst hx; exact HA.out.stay hW) (TopOk.none_ _ _) (fun x hx => ⟨by rw [HIA.out.2 x hx M HLM.out.1]; omega, fun b hb => HIA.out.2 x hx b (by have := HLM.out; omega)⟩) (fun x hx => by simp [esOf] at hx)
  rw [← hM] at hadd
  have HADD := hide (fun W (hW : Below w.heap.size w W) => show Calls Tryz.prog 94 #[.pointer (some ⟨ga, 0, none⟩), .int .i64 (la + 1), .pointer none] W (JdOut W k ea []) from hadd W hW)
  clear hadd
  clear hA hB hcA hcB hps hm hne ec1 ec2 hM hM64 hm64 hxb hrel
  go_enter Tryz.func61, Tryz.ntmps61
  go_wp2_with fail
  refine (nd_level (HA.out.stay HB.out)).mono ?_
  rintro e w2 ⟨rfl, rfl⟩
  go_wp2_with fail
  refine (nd_level (HBB.out.stay HB.out)).mono ?_
  rintro e w3 ⟨rfl, rfl⟩
  go_wp2_with fail
  refine (nd_level (HA.out.stay HB.out)).mono ?_
  rintro e w4 ⟨rfl, rfl⟩
  go_wp2_with fail
  refine (nd_level (HBB.out.stay HB.out)).mono ?_
  rintro e w5 ⟨rfl, rfl⟩
  go_wp2_with fail
  refine (nd_prefix (HBB.out.stay HB.out) hk).mono ?_
  rintro e w6 ⟨v6, rfl, ho6, hb6⟩
  obtain ⟨A6, c6, rfl, hp6⟩ := Pt.of_own ho6 HIBB.out.1.1 HIBB.out.1.2
  replace HB := hide (below_then HB.out hb6)
  replace HJ := hide (HJ.out.below hb6)
  have HP6 := hide hp6
  clear ho6 hb6 hp6
  have hcv7 := nd_covers (d := c6) (HA.out.stay HB.out) hk1 hk HP6.out
  rw [EC1.out] at hcv7
  have HCV7 := hide hcv7
  clear hcv7
  go_wp2_with fail
  refine HCV7.out.mono ?_
  rintro e w7 ⟨rfl, rfl⟩
  go_wp2_with fail
  refine (nd_level (HBB.out.stay HB.out)).mono ?_
  rintro e w8 ⟨rfl, rfl⟩
  go_wp2_with fail
  refine (nd_level (HA.out.stay HB.out)).mono ?_
  rintro e w9 ⟨rfl, rfl⟩
  have hJz := HJ.out
  have j0 := hJz.cell 0
  have j1 := hJz.cell 1
  have j2 := hJz.cell 2
  have j3 := hJz.cell 3
  simp at j0 j1 j2 j3
  have hd : Below w.heap.size w w6.drew := HB.out.drew
  have hqd : Below w6.heap.size w6 w6.drew := (Below.refl _ _).drew
  have HCELL := hide (fun W (hW : Below w6.heap.size w6 W) => And.intro ((HJ.out.below hW).cell 0) (And.intro ((HJ.out.below hW).cell 1) (And.intro ((HJ.out.below hW).cell 2) ((HJ.out.below hW).cell 3))))
  clear hJz
  go_wp2_with fail
  go_region_held3 (fun w' => w'.cell? ⟨w.heap.size, 0, none⟩ = some (.int .i64 (r : Int)) ∧ w'.cell? ⟨w.heap.size, 1, none⟩ = some (.bool true) ∧ w'.cell? ⟨w.heap.size, 2, none⟩ = some (.bool false) ∧ w'.cell? ⟨w.heap.size, 3, none⟩ = some (.bool bo))
    (first
      | go_keep
      | exact HCELL.out _ hqd)
    (first
      | (go_at_call 90
         with_reducible refine (HSA.out _).mono ?_
         rintro e ws ⟨rfl, rfl⟩)
      | (go_at_call 90
         with_reducible refine (HSB.out _).mono ?_
         rintro e ws ⟨rfl, rfl⟩))
  have HD := hide hd
  clear hd hqd
  go_wp2_with fail
  refine (nd_level (HA.out.stay HD.out)).mono ?_
  rintro e w91 ⟨rfl, rfl⟩
  go_wp2_with fail
  refine (nd_level (HBB.out.stay HD.out)).mono ?_
  rintro e w91 ⟨rfl, rfl⟩
  go_wp2_with fail
  refine (HADD.out _ HD.out).mono ?_
  rintro e w92 ⟨tc, rfl, htc, hmc, hb92⟩
  have HF := hide (show StOut w k r true false bo ea eb (.returned (ptrOf tc)) w92 from ⟨tc, rfl, htc, fun x => by rw [JM.apart HAP.out, hmc]; simp, below_then HD.out hb92⟩)
  clear htc hmc hb92
  go_wp2
  go_ret
  exact HF.out
set_option maxHeartbeats 8000000 in
set_option maxRecDepth 100000 in
theorem st_join_ap_gt_false_true {w : World} {k ga gb r : Nat} {la lb : Int} {bo : Bool} {pa pb : List Nat} {ea eb : List Ent} (hk1 : 1 ≤ k) (hk : k ≤ 16) (hA : NodeOf w k ga la pa ea) (hB : NodeOf w k gb lb pb eb) (hrel : lb < la) (hcA : la < part pa pb) (hcB : lb < part pa pb) :
    Calls Tryz.prog 61 #[.agg #[.int .i64 (r : Int), .bool false, .bool true, .bool bo], .pointer (some ⟨ga, 0, none⟩), .pointer (some ⟨gb, 0, none⟩)] w (StOut w k r false true bo ea eb) := by
  have hps := part_spec pa pb (hA.info.1.1.trans hB.info.1.1.symm) hA.info.1.2 hB.info.1.2
  obtain ⟨m, hm⟩ : ∃ m : Nat, part pa pb = (m : Int) := ⟨(part pa pb).toNat, by have := hA.info.2.2.1; omega⟩
  have hne : addrOf pa m ≠ addrOf pb m := by
    have := hps.2.2.2 (by have := hA.info.2.2.1; omega)
    rw [hm] at this
    simpa using this
  have HPM := hide hm
  have HNE := hide hne
  have HLL := hide (show la < (m : Int) ∧ lb < (m : Int) from ⟨by omega, by omega⟩)
  have HAP := hide (apart_of hA hB (m := m) (by omega) (by omega) hne)
  have ec1 : decide (part pa pb ≤ la) = false := by simp; omega
  have ec2 : decide (part pb pa ≤ lb) = false := by rw [← part_sym hA.info.1 hB.info.1]; simp; omega
  have EC1 := hide ec1
  have EC2 := hide ec2
  have hm64 : (m : Int) < 64 := by have := hps.2.1; omega
  have HMM := hide hm64
  have hb1 := (Below.refl w.heap.size w).alloc (Nat.le_refl _) (.cells #[.int .i64 (r : Int), .bool false, .bool true, .bool bo] 71)
  have hJ := Blk.new w 71 #[.int .i64 (r : Int), .bool false, .bool true, .bool bo]
  have HB := hide hb1
  have HJ := hide hJ
  have HA := hide hA
  have HBB := hide hB
  obtain ⟨a1, a2, a3, a4, a5, a6, a7⟩ := hA.info
  obtain ⟨b1, b2, b3, b4, b5, b6, b7⟩ := hB.info
  have HIA := hide (show Zp k pa ∧ ∀ x ∈ ea, ∀ b : Nat, la < (b : Int) → addrOf x.1 b = addrOf pa b from ⟨a1, fun x hx => (a5 x hx).2.2⟩)
  have HIBB := hide (show Zp k pb ∧ ∀ x ∈ eb, ∀ b : Nat, lb < (b : Int) → addrOf x.1 b = addrOf pb b from ⟨b1, fun x hx => (b5 x hx).2.2⟩)
  have HSYM := hide (part_sym a1 b1)
  clear hb1 hJ a2 a5 a6 a7 b2 b5 b6 b7
  have HSA := hide (fun W => show Calls Tryz.prog 90 #[.pointer (some ⟨ga, 0, none⟩), .bool false] W fun e w' => e = .returned (.pointer none) ∧ W = w' from st_side W (some (ga, ⟨la, pa, ea⟩)) false)
  have HSB := hide (fun W => show Calls Tryz.prog 90 #[.pointer (some ⟨gb, 0, none⟩), .bool true] W fun e w' => e = .returned (.pointer (some ⟨gb, 0, none⟩)) ∧ W = w' from st_side W (some (gb, ⟨lb, pb, eb⟩)) true)
  have e1 : (la == lb) = false := by simp; omega
  have e2 : decide (lb < la) = true := by simpa using hrel
  have e3 : decide (la < lb) = false := by simp; omega
  have hmx : max la lb = la := by omega
  have hxb : -1 ≤ la ∧ la < 64 := by omega
  have hx0 : -1 ≤ la := by omega
  have hx1 : la ≤ 62 := by omega
  obtain ⟨M, hM⟩ : ∃ M : Nat, la + 1 = (M : Int) := ⟨(la + 1).toNat, by omega⟩
  have hM64 : M < 64 := by omega
  have HLM := hide (show la < (M : Int) ∧ lb < (M : Int) from ⟨by omega, by omega⟩)
  have hadd := fun W (hW : Below w.heap.size w W) => st_add (w := W) (tn := none) (tk := some (gb, ⟨lb, pb, eb⟩)) (m := M) (a := addrOf pb M) (pre := pb) hk1 hk hM64 (TopOk.none_ _ _) (fun x hx => by injection hx with hx; subst hx; exact HBB.out.stay hW) (fun x hx => by simp [esOf] at hx) (fun x hx => ⟨HIBB.out.2 x hx M HLM.out.2, fun b hb => HIBB.out.2 x hx b (by have := HLM.out; omega)⟩)
  rw [← hM] at hadd
  have HADD := hide (fun W (hW : Below w.heap.size w W) => show Calls Tryz.prog 94 #[.pointer none, .int .i64 (la + 1), .pointer (some ⟨gb, 0, none⟩)] W (JdOut W k [] eb) from hadd W hW)
  clear hadd
  clear hA hB hcA hcB hps hm hne ec1 ec2 hM hM64 hm64 hxb hrel
  go_enter Tryz.func61, Tryz.ntmps61
  go_wp2_with fail
  refine (nd_level (HA.out.stay HB.out)).mono ?_
  rintro e w2 ⟨rfl, rfl⟩
  go_wp2_with fail
  refine (nd_level (HBB.out.stay HB.out)).mono ?_
  rintro e w3 ⟨rfl, rfl⟩
  go_wp2_with fail
  refine (nd_level (HA.out.stay HB.out)).mono ?_
  rintro e w4 ⟨rfl, rfl⟩
  go_wp2_with fail
  refine (nd_level (HBB.out.stay HB.out)).mono ?_
  rintro e w5 ⟨rfl, rfl⟩
  go_wp2_with fail
  refine (nd_prefix (HBB.out.stay HB.out) hk).mono ?_
  rintro e w6 ⟨v6, rfl, ho6, hb6⟩
  obtain ⟨A6, c6, rfl, hp6⟩ := Pt.of_own ho6 HIBB.out.1.1 HIBB.out.1.2
  replace HB := hide (below_then HB.out hb6)
  replace HJ := hide (HJ.out.below hb6)
  have HP6 := hide hp6
  clear ho6 hb6 hp6
  have hcv7 := nd_covers (d := c6) (HA.out.stay HB.out) hk1 hk HP6.out
  rw [EC1.out] at hcv7
  have HCV7 := hide hcv7
  clear hcv7
  go_wp2_with fail
  refine HCV7.out.mono ?_
  rintro e w7 ⟨rfl, rfl⟩
  go_wp2_with fail
  refine (nd_level (HBB.out.stay HB.out)).mono ?_
  rintro e w8 ⟨rfl, rfl⟩
  go_wp2_with fail
  refine (nd_level (HA.out.stay HB.out)).mono ?_
  rintro e w9 ⟨rfl, rfl⟩
  have hJz := HJ.out
  have j0 := hJz.cell 0
  have j1 := hJz.cell 1
  have j2 := hJz.cell 2
  have j3 := hJz.cell 3
  simp at j0 j1 j2 j3
  have hd : Below w.heap.size w w6.drew := HB.out.drew
  have hqd : Below w6.heap.size w6 w6.drew := (Below.refl _ _).drew
  have HCELL := hide (fun W (hW : Below w6.heap.size w6 W) => And.intro ((HJ.out.below hW).cell 0) (And.intro ((HJ.out.below hW).cell 1) (And.intro ((HJ.out.below hW).cell 2) ((HJ.out.below hW).cell 3))))
  clear hJz
  go_wp2_with fail
  go_region_held3 (fun w' => w'.cell? ⟨w.heap.size, 0, none⟩ = some (.int .i64 (r : Int)) ∧ w'.cell? ⟨w.heap.size, 1, none⟩ = some (.bool false) ∧ w'.cell? ⟨w.heap.size, 2, none⟩ = some (.bool true) ∧ w'.cell? ⟨w.heap.size, 3, none⟩ = some (.bool bo))
    (first
      | go_keep
      | exact HCELL.out _ hqd)
    (first
      | (go_at_call 90
         with_reducible refine (HSA.out _).mono ?_
         rintro e ws ⟨rfl, rfl⟩)
      | (go_at_call 90
         with_reducible refine (HSB.out _).mono ?_
         rintro e ws ⟨rfl, rfl⟩))
  have HD := hide hd
  clear hd hqd
  go_wp2_with fail
  refine (nd_level (HA.out.stay HD.out)).mono ?_
  rintro e w91 ⟨rfl, rfl⟩
  go_wp2_with fail
  refine (nd_level (HBB.out.stay HD.out)).mono ?_
  rintro e w91 ⟨rfl, rfl⟩
  go_wp2_with fail
  refine (HADD.out _ HD.out).mono ?_
  rintro e w92 ⟨tc, rfl, htc, hmc, hb92⟩
  have HF := hide (show StOut w k r false true bo ea eb (.returned (ptrOf tc)) w92 from ⟨tc, rfl, htc, fun x => by rw [JM.apart HAP.out, hmc]; simp, below_then HD.out hb92⟩)
  clear htc hmc hb92
  go_wp2
  go_ret
  exact HF.out
set_option maxHeartbeats 8000000 in
set_option maxRecDepth 100000 in
theorem st_join_ap_gt_false_false {w : World} {k ga gb r : Nat} {la lb : Int} {bo : Bool} {pa pb : List Nat} {ea eb : List Ent} (hk1 : 1 ≤ k) (hk : k ≤ 16) (hA : NodeOf w k ga la pa ea) (hB : NodeOf w k gb lb pb eb) (hrel : lb < la) (hcA : la < part pa pb) (hcB : lb < part pa pb) :
    Calls Tryz.prog 61 #[.agg #[.int .i64 (r : Int), .bool false, .bool false, .bool bo], .pointer (some ⟨ga, 0, none⟩), .pointer (some ⟨gb, 0, none⟩)] w (StOut w k r false false bo ea eb) := by
  have hps := part_spec pa pb (hA.info.1.1.trans hB.info.1.1.symm) hA.info.1.2 hB.info.1.2
  obtain ⟨m, hm⟩ : ∃ m : Nat, part pa pb = (m : Int) := ⟨(part pa pb).toNat, by have := hA.info.2.2.1; omega⟩
  have hne : addrOf pa m ≠ addrOf pb m := by
    have := hps.2.2.2 (by have := hA.info.2.2.1; omega)
    rw [hm] at this
    simpa using this
  have HPM := hide hm
  have HNE := hide hne
  have HLL := hide (show la < (m : Int) ∧ lb < (m : Int) from ⟨by omega, by omega⟩)
  have HAP := hide (apart_of hA hB (m := m) (by omega) (by omega) hne)
  have ec1 : decide (part pa pb ≤ la) = false := by simp; omega
  have ec2 : decide (part pb pa ≤ lb) = false := by rw [← part_sym hA.info.1 hB.info.1]; simp; omega
  have EC1 := hide ec1
  have EC2 := hide ec2
  have hm64 : (m : Int) < 64 := by have := hps.2.1; omega
  have HMM := hide hm64
  have hb1 := (Below.refl w.heap.size w).alloc (Nat.le_refl _) (.cells #[.int .i64 (r : Int), .bool false, .bool false, .bool bo] 71)
  have hJ := Blk.new w 71 #[.int .i64 (r : Int), .bool false, .bool false, .bool bo]
  have HB := hide hb1
  have HJ := hide hJ
  have HA := hide hA
  have HBB := hide hB
  obtain ⟨a1, a2, a3, a4, a5, a6, a7⟩ := hA.info
  obtain ⟨b1, b2, b3, b4, b5, b6, b7⟩ := hB.info
  have HIA := hide (show Zp k pa ∧ ∀ x ∈ ea, ∀ b : Nat, la < (b : Int) → addrOf x.1 b = addrOf pa b from ⟨a1, fun x hx => (a5 x hx).2.2⟩)
  have HIBB := hide (show Zp k pb ∧ ∀ x ∈ eb, ∀ b : Nat, lb < (b : Int) → addrOf x.1 b = addrOf pb b from ⟨b1, fun x hx => (b5 x hx).2.2⟩)
  have HSYM := hide (part_sym a1 b1)
  clear hb1 hJ a2 a5 a6 a7 b2 b5 b6 b7
  have HSA := hide (fun W => show Calls Tryz.prog 90 #[.pointer (some ⟨ga, 0, none⟩), .bool false] W fun e w' => e = .returned (.pointer none) ∧ W = w' from st_side W (some (ga, ⟨la, pa, ea⟩)) false)
  have HSB := hide (fun W => show Calls Tryz.prog 90 #[.pointer (some ⟨gb, 0, none⟩), .bool false] W fun e w' => e = .returned (.pointer none) ∧ W = w' from st_side W (some (gb, ⟨lb, pb, eb⟩)) false)
  have e1 : (la == lb) = false := by simp; omega
  have e2 : decide (lb < la) = true := by simpa using hrel
  have e3 : decide (la < lb) = false := by simp; omega
  have hmx : max la lb = la := by omega
  have hxb : -1 ≤ la ∧ la < 64 := by omega
  have hx0 : -1 ≤ la := by omega
  have hx1 : la ≤ 62 := by omega
  obtain ⟨M, hM⟩ : ∃ M : Nat, la + 1 = (M : Int) := ⟨(la + 1).toNat, by omega⟩
  have hM64 : M < 64 := by omega
  have HLM := hide (show la < (M : Int) ∧ lb < (M : Int) from ⟨by omega, by omega⟩)
  have hadd := fun W (hW : Below w.heap.size w W) => st_add (w := W) (tn := none) (tk := none) (m := M) (a := addrOf pb M) (pre := pb) hk1 hk hM64 (TopOk.none_ _ _) (TopOk.none_ _ _) (fun x hx => by simp [esOf] at hx) (fun x hx => by simp [esOf] at hx)
  rw [← hM] at hadd
  have HADD := hide (fun W (hW : Below w.heap.size w W) => show Calls Tryz.prog 94 #[.pointer none, .int .i64 (la + 1), .pointer none] W (JdOut W k [] []) from hadd W hW)
  clear hadd
  clear hA hB hcA hcB hps hm hne ec1 ec2 hM hM64 hm64 hxb hrel
  go_enter Tryz.func61, Tryz.ntmps61
  go_wp2_with fail
  refine (nd_level (HA.out.stay HB.out)).mono ?_
  rintro e w2 ⟨rfl, rfl⟩
  go_wp2_with fail
  refine (nd_level (HBB.out.stay HB.out)).mono ?_
  rintro e w3 ⟨rfl, rfl⟩
  go_wp2_with fail
  refine (nd_level (HA.out.stay HB.out)).mono ?_
  rintro e w4 ⟨rfl, rfl⟩
  go_wp2_with fail
  refine (nd_level (HBB.out.stay HB.out)).mono ?_
  rintro e w5 ⟨rfl, rfl⟩
  go_wp2_with fail
  refine (nd_prefix (HBB.out.stay HB.out) hk).mono ?_
  rintro e w6 ⟨v6, rfl, ho6, hb6⟩
  obtain ⟨A6, c6, rfl, hp6⟩ := Pt.of_own ho6 HIBB.out.1.1 HIBB.out.1.2
  replace HB := hide (below_then HB.out hb6)
  replace HJ := hide (HJ.out.below hb6)
  have HP6 := hide hp6
  clear ho6 hb6 hp6
  have hcv7 := nd_covers (d := c6) (HA.out.stay HB.out) hk1 hk HP6.out
  rw [EC1.out] at hcv7
  have HCV7 := hide hcv7
  clear hcv7
  go_wp2_with fail
  refine HCV7.out.mono ?_
  rintro e w7 ⟨rfl, rfl⟩
  go_wp2_with fail
  refine (nd_level (HBB.out.stay HB.out)).mono ?_
  rintro e w8 ⟨rfl, rfl⟩
  go_wp2_with fail
  refine (nd_level (HA.out.stay HB.out)).mono ?_
  rintro e w9 ⟨rfl, rfl⟩
  have hJz := HJ.out
  have j0 := hJz.cell 0
  have j1 := hJz.cell 1
  have j2 := hJz.cell 2
  have j3 := hJz.cell 3
  simp at j0 j1 j2 j3
  have hd : Below w.heap.size w w6.drew := HB.out.drew
  have hqd : Below w6.heap.size w6 w6.drew := (Below.refl _ _).drew
  have HCELL := hide (fun W (hW : Below w6.heap.size w6 W) => And.intro ((HJ.out.below hW).cell 0) (And.intro ((HJ.out.below hW).cell 1) (And.intro ((HJ.out.below hW).cell 2) ((HJ.out.below hW).cell 3))))
  clear hJz
  go_wp2_with fail
  go_region_held3 (fun w' => w'.cell? ⟨w.heap.size, 0, none⟩ = some (.int .i64 (r : Int)) ∧ w'.cell? ⟨w.heap.size, 1, none⟩ = some (.bool false) ∧ w'.cell? ⟨w.heap.size, 2, none⟩ = some (.bool false) ∧ w'.cell? ⟨w.heap.size, 3, none⟩ = some (.bool bo))
    (first
      | go_keep
      | exact HCELL.out _ hqd)
    (first
      | (go_at_call 90
         with_reducible refine (HSA.out _).mono ?_
         rintro e ws ⟨rfl, rfl⟩)
      | (go_at_call 90
         with_reducible refine (HSB.out _).mono ?_
         rintro e ws ⟨rfl, rfl⟩))
  have HD := hide hd
  clear hd hqd
  go_wp2_with fail
  refine (nd_level (HA.out.stay HD.out)).mono ?_
  rintro e w91 ⟨rfl, rfl⟩
  go_wp2_with fail
  refine (nd_level (HBB.out.stay HD.out)).mono ?_
  rintro e w91 ⟨rfl, rfl⟩
  go_wp2_with fail
  refine (HADD.out _ HD.out).mono ?_
  rintro e w92 ⟨tc, rfl, htc, hmc, hb92⟩
  have HF := hide (show StOut w k r false false bo ea eb (.returned (ptrOf tc)) w92 from ⟨tc, rfl, htc, fun x => by rw [JM.apart HAP.out, hmc]; simp, below_then HD.out hb92⟩)
  clear htc hmc hb92
  go_wp2
  go_ret
  exact HF.out
set_option maxHeartbeats 8000000 in
set_option maxRecDepth 100000 in
theorem st_join_ap_lt_true_true {w : World} {k ga gb r : Nat} {la lb : Int} {bo : Bool} {pa pb : List Nat} {ea eb : List Ent} (hk1 : 1 ≤ k) (hk : k ≤ 16) (hA : NodeOf w k ga la pa ea) (hB : NodeOf w k gb lb pb eb) (hrel : la < lb) (hcA : la < part pa pb) (hcB : lb < part pa pb) :
    Calls Tryz.prog 61 #[.agg #[.int .i64 (r : Int), .bool true, .bool true, .bool bo], .pointer (some ⟨ga, 0, none⟩), .pointer (some ⟨gb, 0, none⟩)] w (StOut w k r true true bo ea eb) := by
  have hps := part_spec pa pb (hA.info.1.1.trans hB.info.1.1.symm) hA.info.1.2 hB.info.1.2
  obtain ⟨m, hm⟩ : ∃ m : Nat, part pa pb = (m : Int) := ⟨(part pa pb).toNat, by have := hA.info.2.2.1; omega⟩
  have hne : addrOf pa m ≠ addrOf pb m := by
    have := hps.2.2.2 (by have := hA.info.2.2.1; omega)
    rw [hm] at this
    simpa using this
  have HPM := hide hm
  have HNE := hide hne
  have HLL := hide (show la < (m : Int) ∧ lb < (m : Int) from ⟨by omega, by omega⟩)
  have HAP := hide (apart_of hA hB (m := m) (by omega) (by omega) hne)
  have ec1 : decide (part pa pb ≤ la) = false := by simp; omega
  have ec2 : decide (part pb pa ≤ lb) = false := by rw [← part_sym hA.info.1 hB.info.1]; simp; omega
  have EC1 := hide ec1
  have EC2 := hide ec2
  have hm64 : (m : Int) < 64 := by have := hps.2.1; omega
  have HMM := hide hm64
  have hb1 := (Below.refl w.heap.size w).alloc (Nat.le_refl _) (.cells #[.int .i64 (r : Int), .bool true, .bool true, .bool bo] 71)
  have hJ := Blk.new w 71 #[.int .i64 (r : Int), .bool true, .bool true, .bool bo]
  have HB := hide hb1
  have HJ := hide hJ
  have HA := hide hA
  have HBB := hide hB
  obtain ⟨a1, a2, a3, a4, a5, a6, a7⟩ := hA.info
  obtain ⟨b1, b2, b3, b4, b5, b6, b7⟩ := hB.info
  have HIA := hide (show Zp k pa ∧ ∀ x ∈ ea, ∀ b : Nat, la < (b : Int) → addrOf x.1 b = addrOf pa b from ⟨a1, fun x hx => (a5 x hx).2.2⟩)
  have HIBB := hide (show Zp k pb ∧ ∀ x ∈ eb, ∀ b : Nat, lb < (b : Int) → addrOf x.1 b = addrOf pb b from ⟨b1, fun x hx => (b5 x hx).2.2⟩)
  have HSYM := hide (part_sym a1 b1)
  clear hb1 hJ a2 a5 a6 a7 b2 b5 b6 b7
  have HSA := hide (fun W => show Calls Tryz.prog 90 #[.pointer (some ⟨ga, 0, none⟩), .bool true] W fun e w' => e = .returned (.pointer (some ⟨ga, 0, none⟩)) ∧ W = w' from st_side W (some (ga, ⟨la, pa, ea⟩)) true)
  have HSB := hide (fun W => show Calls Tryz.prog 90 #[.pointer (some ⟨gb, 0, none⟩), .bool true] W fun e w' => e = .returned (.pointer (some ⟨gb, 0, none⟩)) ∧ W = w' from st_side W (some (gb, ⟨lb, pb, eb⟩)) true)
  have e1 : (la == lb) = false := by simp; omega
  have e2 : decide (lb < la) = false := by simp; omega
  have e3 : decide (la < lb) = true := by simpa using hrel
  have hmx : max la lb = lb := by omega
  have hxb : -1 ≤ lb ∧ lb < 64 := by omega
  have hx0 : -1 ≤ lb := by omega
  have hx1 : lb ≤ 62 := by omega
  obtain ⟨M, hM⟩ : ∃ M : Nat, lb + 1 = (M : Int) := ⟨(lb + 1).toNat, by omega⟩
  have hM64 : M < 64 := by omega
  have HLM := hide (show la < (M : Int) ∧ lb < (M : Int) from ⟨by omega, by omega⟩)
  clear hA hB hcA hcB hps hm hne ec1 ec2 hM hM64 hm64 hxb hrel
  go_enter Tryz.func61, Tryz.ntmps61
  go_wp2_with fail
  refine (nd_level (HA.out.stay HB.out)).mono ?_
  rintro e w2 ⟨rfl, rfl⟩
  go_wp2_with fail
  refine (nd_level (HBB.out.stay HB.out)).mono ?_
  rintro e w3 ⟨rfl, rfl⟩
  go_wp2_with fail
  refine (nd_level (HA.out.stay HB.out)).mono ?_
  rintro e w4 ⟨rfl, rfl⟩
  go_wp2_with fail
  refine (nd_level (HBB.out.stay HB.out)).mono ?_
  rintro e w5 ⟨rfl, rfl⟩
  go_wp2_with fail
  refine (nd_level (HBB.out.stay HB.out)).mono ?_
  rintro e w6 ⟨rfl, rfl⟩
  go_wp2_with fail
  refine (nd_level (HA.out.stay HB.out)).mono ?_
  rintro e w7 ⟨rfl, rfl⟩
  go_wp2_with fail
  refine (nd_prefix (HA.out.stay HB.out) hk).mono ?_
  rintro e w8 ⟨v8, rfl, ho8, hb8⟩
  obtain ⟨A8, c8, rfl, hp8⟩ := Pt.of_own ho8 HIA.out.1.1 HIA.out.1.2
  replace HB := hide (below_then HB.out hb8)
  replace HJ := hide (HJ.out.below hb8)
  have HP8 := hide hp8
  clear ho8 hb8 hp8
  have hcv9 := nd_covers (d := c8) (HBB.out.stay HB.out) hk1 hk HP8.out
  rw [EC2.out] at hcv9
  have HCV9 := hide hcv9
  clear hcv9
  go_wp2_with fail
  refine HCV9.out.mono ?_
  rintro e w9 ⟨rfl, rfl⟩
  have hJz := HJ.out
  have j0 := hJz.cell 0
  have j1 := hJz.cell 1
  have j2 := hJz.cell 2
  have j3 := hJz.cell 3
  simp at j0 j1 j2 j3
  have hd : Below w.heap.size w w8.drew := HB.out.drew
  have hqd : Below w8.heap.size w8 w8.drew := (Below.refl _ _).drew
  have HCELL := hide (fun W (hW : Below w8.heap.size w8 W) => And.intro ((HJ.out.below hW).cell 0) (And.intro ((HJ.out.below hW).cell 1) (And.intro ((HJ.out.below hW).cell 2) ((HJ.out.below hW).cell 3))))
  clear hJz
  go_wp2_with fail
  go_region_held3 (fun w' => w'.cell? ⟨w.heap.size, 0, none⟩ = some (.int .i64 (r : Int)) ∧ w'.cell? ⟨w.heap.size, 1, none⟩ = some (.bool true) ∧ w'.cell? ⟨w.heap.size, 2, none⟩ = some (.bool true) ∧ w'.cell? ⟨w.heap.size, 3, none⟩ = some (.bool bo))
    (first
      | go_keep
      | exact HCELL.out _ hqd)
    (first
      | (go_at_call 90
         with_reducible refine (HSA.out _).mono ?_
         rintro e ws ⟨rfl, rfl⟩)
      | (go_at_call 90
         with_reducible refine (HSB.out _).mono ?_
         rintro e ws ⟨rfl, rfl⟩))
  have hpr := nd_pair (HA.out.stay hd) (HBB.out.stay hd) hk1 hk HPM.out (by have := HLL.out; omega) (by have := HLL.out; omega)
  have HPR := hide hpr
  clear hpr hqd
  go_wp2_with fail
  refine HPR.out.mono ?_
  rintro e w90 ⟨gn, rfl, hFn, -, hb90⟩
  have HF := hide (show StOut w k r true true bo ea eb (.returned (.pointer (some ⟨gn, 0, none⟩))) w90 from ⟨some (gn, ⟨m, _, _⟩), rfl, fun x hx => by injection hx with hx; subst hx; exact hFn.node, fun x => by
    rw [JM.apart HAP.out]
    show x ∈ kidEs _ ↔ _
    rw [pair_mem HNE.out]
    simp, below_then hd hb90⟩)
  clear hFn hb90 hd
  go_wp2
  go_ret
  exact HF.out
set_option maxHeartbeats 8000000 in
set_option maxRecDepth 100000 in
theorem st_join_ap_lt_true_false {w : World} {k ga gb r : Nat} {la lb : Int} {bo : Bool} {pa pb : List Nat} {ea eb : List Ent} (hk1 : 1 ≤ k) (hk : k ≤ 16) (hA : NodeOf w k ga la pa ea) (hB : NodeOf w k gb lb pb eb) (hrel : la < lb) (hcA : la < part pa pb) (hcB : lb < part pa pb) :
    Calls Tryz.prog 61 #[.agg #[.int .i64 (r : Int), .bool true, .bool false, .bool bo], .pointer (some ⟨ga, 0, none⟩), .pointer (some ⟨gb, 0, none⟩)] w (StOut w k r true false bo ea eb) := by
  have hps := part_spec pa pb (hA.info.1.1.trans hB.info.1.1.symm) hA.info.1.2 hB.info.1.2
  obtain ⟨m, hm⟩ : ∃ m : Nat, part pa pb = (m : Int) := ⟨(part pa pb).toNat, by have := hA.info.2.2.1; omega⟩
  have hne : addrOf pa m ≠ addrOf pb m := by
    have := hps.2.2.2 (by have := hA.info.2.2.1; omega)
    rw [hm] at this
    simpa using this
  have HPM := hide hm
  have HNE := hide hne
  have HLL := hide (show la < (m : Int) ∧ lb < (m : Int) from ⟨by omega, by omega⟩)
  have HAP := hide (apart_of hA hB (m := m) (by omega) (by omega) hne)
  have ec1 : decide (part pa pb ≤ la) = false := by simp; omega
  have ec2 : decide (part pb pa ≤ lb) = false := by rw [← part_sym hA.info.1 hB.info.1]; simp; omega
  have EC1 := hide ec1
  have EC2 := hide ec2
  have hm64 : (m : Int) < 64 := by have := hps.2.1; omega
  have HMM := hide hm64
  have hb1 := (Below.refl w.heap.size w).alloc (Nat.le_refl _) (.cells #[.int .i64 (r : Int), .bool true, .bool false, .bool bo] 71)
  have hJ := Blk.new w 71 #[.int .i64 (r : Int), .bool true, .bool false, .bool bo]
  have HB := hide hb1
  have HJ := hide hJ
  have HA := hide hA
  have HBB := hide hB
  obtain ⟨a1, a2, a3, a4, a5, a6, a7⟩ := hA.info
  obtain ⟨b1, b2, b3, b4, b5, b6, b7⟩ := hB.info
  have HIA := hide (show Zp k pa ∧ ∀ x ∈ ea, ∀ b : Nat, la < (b : Int) → addrOf x.1 b = addrOf pa b from ⟨a1, fun x hx => (a5 x hx).2.2⟩)
  have HIBB := hide (show Zp k pb ∧ ∀ x ∈ eb, ∀ b : Nat, lb < (b : Int) → addrOf x.1 b = addrOf pb b from ⟨b1, fun x hx => (b5 x hx).2.2⟩)
  have HSYM := hide (part_sym a1 b1)
  clear hb1 hJ a2 a5 a6 a7 b2 b5 b6 b7
  have HSA := hide (fun W => show Calls Tryz.prog 90 #[.pointer (some ⟨ga, 0, none⟩), .bool true] W fun e w' => e = .returned (.pointer (some ⟨ga, 0, none⟩)) ∧ W = w' from st_side W (some (ga, ⟨la, pa, ea⟩)) true)
  have HSB := hide (fun W => show Calls Tryz.prog 90 #[.pointer (some ⟨gb, 0, none⟩), .bool false] W fun e w' => e = .returned (.pointer none) ∧ W = w' from st_side W (some (gb, ⟨lb, pb, eb⟩)) false)
  have e1 : (la == lb) = false := by simp; omega
  have e2 : decide (lb < la) = false := by simp; omega
  have e3 : decide (la < lb) = true := by simpa using hrel
  have hmx : max la lb = lb := by omega
  have hxb : -1 ≤ lb ∧ lb < 64 := by omega
  have hx0 : -1 ≤ lb := by omega
  have hx1 : lb ≤ 62 := by omega
  obtain ⟨M, hM⟩ : ∃ M : Nat, lb + 1 = (M : Int) := ⟨(lb + 1).toNat, by omega⟩
  have hM64 : M < 64 := by omega
  have HLM := hide (show la < (M : Int) ∧ lb < (M : Int) from ⟨by omega, by omega⟩)
  have hadd := fun W (hW : Below w.heap.size w W) => st_add (w := W) (tn := some (ga, ⟨la, pa, ea⟩)) (tk := none) (m := M) (a := addrOf pa M + 1) (pre := pa) hk1 hk hM64 (fun x hx => by injection hx with hx; subst hx; exact HA.out.stay hW) (TopOk.none_ _ _) (fun x hx => ⟨by rw [HIA.out.2 x hx M HLM.out.1]; omega, fun b hb => HIA.out.2 x hx b (by have := HLM.out; omega)⟩) (fun x hx => by simp [esOf] at hx)
  rw [← hM] at hadd
  have HADD := hide (fun W (hW : Below w.heap.size w W) => show Calls Tryz.prog 94 #[.pointer (some ⟨ga, 0, none⟩), .int .i64 (lb + 1), .pointer none] W (JdOut W k ea []) from hadd W hW)
  clear hadd
  clear hA hB hcA hcB hps hm hne ec1 ec2 hM hM64 hm64 hxb hrel
  go_enter Tryz.func61, Tryz.ntmps61
  go_wp2_with fail
  refine (nd_level (HA.out.stay HB.out)).mono ?_
  rintro e w2 ⟨rfl, rfl⟩
  go_wp2_with fail
  refine (nd_level (HBB.out.stay HB.out)).mono ?_
  rintro e w3 ⟨rfl, rfl⟩
  go_wp2_with fail
  refine (nd_level (HA.out.stay HB.out)).mono ?_
  rintro e w4 ⟨rfl, rfl⟩
  go_wp2_with fail
  refine (nd_level (HBB.out.stay HB.out)).mono ?_
  rintro e w5 ⟨rfl, rfl⟩
  go_wp2_with fail
  refine (nd_level (HBB.out.stay HB.out)).mono ?_
  rintro e w6 ⟨rfl, rfl⟩
  go_wp2_with fail
  refine (nd_level (HA.out.stay HB.out)).mono ?_
  rintro e w7 ⟨rfl, rfl⟩
  go_wp2_with fail
  refine (nd_prefix (HA.out.stay HB.out) hk).mono ?_
  rintro e w8 ⟨v8, rfl, ho8, hb8⟩
  obtain ⟨A8, c8, rfl, hp8⟩ := Pt.of_own ho8 HIA.out.1.1 HIA.out.1.2
  replace HB := hide (below_then HB.out hb8)
  replace HJ := hide (HJ.out.below hb8)
  have HP8 := hide hp8
  clear ho8 hb8 hp8
  have hcv9 := nd_covers (d := c8) (HBB.out.stay HB.out) hk1 hk HP8.out
  rw [EC2.out] at hcv9
  have HCV9 := hide hcv9
  clear hcv9
  go_wp2_with fail
  refine HCV9.out.mono ?_
  rintro e w9 ⟨rfl, rfl⟩
  have hJz := HJ.out
  have j0 := hJz.cell 0
  have j1 := hJz.cell 1
  have j2 := hJz.cell 2
  have j3 := hJz.cell 3
  simp at j0 j1 j2 j3
  have hd : Below w.heap.size w w8.drew := HB.out.drew
  have hqd : Below w8.heap.size w8 w8.drew := (Below.refl _ _).drew
  have HCELL := hide (fun W (hW : Below w8.heap.size w8 W) => And.intro ((HJ.out.below hW).cell 0) (And.intro ((HJ.out.below hW).cell 1) (And.intro ((HJ.out.below hW).cell 2) ((HJ.out.below hW).cell 3))))
  clear hJz
  go_wp2_with fail
  go_region_held3 (fun w' => w'.cell? ⟨w.heap.size, 0, none⟩ = some (.int .i64 (r : Int)) ∧ w'.cell? ⟨w.heap.size, 1, none⟩ = some (.bool true) ∧ w'.cell? ⟨w.heap.size, 2, none⟩ = some (.bool false) ∧ w'.cell? ⟨w.heap.size, 3, none⟩ = some (.bool bo))
    (first
      | go_keep
      | exact HCELL.out _ hqd)
    (first
      | (go_at_call 90
         with_reducible refine (HSA.out _).mono ?_
         rintro e ws ⟨rfl, rfl⟩)
      | (go_at_call 90
         with_reducible refine (HSB.out _).mono ?_
         rintro e ws ⟨rfl, rfl⟩))
  have HD := hide hd
  clear hd hqd
  go_wp2_with fail
  refine (nd_level (HA.out.stay HD.out)).mono ?_
  rintro e w91 ⟨rfl, rfl⟩
  go_wp2_with fail
  refine (nd_level (HBB.out.stay HD.out)).mono ?_
  rintro e w91 ⟨rfl, rfl⟩
  go_wp2_with fail
  refine (HADD.out _ HD.out).mono ?_
  rintro e w92 ⟨tc, rfl, htc, hmc, hb92⟩
  have HF := hide (show StOut w k r true false bo ea eb (.returned (ptrOf tc)) w92 from ⟨tc, rfl, htc, fun x => by rw [JM.apart HAP.out, hmc]; simp, below_then HD.out hb92⟩)
  clear htc hmc hb92
  go_wp2
  go_ret
  exact HF.out
set_option maxHeartbeats 8000000 in
set_option maxRecDepth 100000 in
theorem st_join_ap_lt_false_true {w : World} {k ga gb r : Nat} {la lb : Int} {bo : Bool} {pa pb : List Nat} {ea eb : List Ent} (hk1 : 1 ≤ k) (hk : k ≤ 16) (hA : NodeOf w k ga la pa ea) (hB : NodeOf w k gb lb pb eb) (hrel : la < lb) (hcA : la < part pa pb) (hcB : lb < part pa pb) :
    Calls Tryz.prog 61 #[.agg #[.int .i64 (r : Int), .bool false, .bool true, .bool bo], .pointer (some ⟨ga, 0, none⟩), .pointer (some ⟨gb, 0, none⟩)] w (StOut w k r false true bo ea eb) := by
  have hps := part_spec pa pb (hA.info.1.1.trans hB.info.1.1.symm) hA.info.1.2 hB.info.1.2
  obtain ⟨m, hm⟩ : ∃ m : Nat, part pa pb = (m : Int) := ⟨(part pa pb).toNat, by have := hA.info.2.2.1; omega⟩
  have hne : addrOf pa m ≠ addrOf pb m := by
    have := hps.2.2.2 (by have := hA.info.2.2.1; omega)
    rw [hm] at this
    simpa using this
  have HPM := hide hm
  have HNE := hide hne
  have HLL := hide (show la < (m : Int) ∧ lb < (m : Int) from ⟨by omega, by omega⟩)
  have HAP := hide (apart_of hA hB (m := m) (by omega) (by omega) hne)
  have ec1 : decide (part pa pb ≤ la) = false := by simp; omega
  have ec2 : decide (part pb pa ≤ lb) = false := by rw [← part_sym hA.info.1 hB.info.1]; simp; omega
  have EC1 := hide ec1
  have EC2 := hide ec2
  have hm64 : (m : Int) < 64 := by have := hps.2.1; omega
  have HMM := hide hm64
  have hb1 := (Below.refl w.heap.size w).alloc (Nat.le_refl _) (.cells #[.int .i64 (r : Int), .bool false, .bool true, .bool bo] 71)
  have hJ := Blk.new w 71 #[.int .i64 (r : Int), .bool false, .bool true, .bool bo]
  have HB := hide hb1
  have HJ := hide hJ
  have HA := hide hA
  have HBB := hide hB
  obtain ⟨a1, a2, a3, a4, a5, a6, a7⟩ := hA.info
  obtain ⟨b1, b2, b3, b4, b5, b6, b7⟩ := hB.info
  have HIA := hide (show Zp k pa ∧ ∀ x ∈ ea, ∀ b : Nat, la < (b : Int) → addrOf x.1 b = addrOf pa b from ⟨a1, fun x hx => (a5 x hx).2.2⟩)
  have HIBB := hide (show Zp k pb ∧ ∀ x ∈ eb, ∀ b : Nat, lb < (b : Int) → addrOf x.1 b = addrOf pb b from ⟨b1, fun x hx => (b5 x hx).2.2⟩)
  have HSYM := hide (part_sym a1 b1)
  clear hb1 hJ a2 a5 a6 a7 b2 b5 b6 b7
  have HSA := hide (fun W => show Calls Tryz.prog 90 #[.pointer (some ⟨ga, 0, none⟩), .bool false] W fun e w' => e = .returned (.pointer none) ∧ W = w' from st_side W (some (ga, ⟨la, pa, ea⟩)) false)
  have HSB := hide (fun W => show Calls Tryz.prog 90 #[.pointer (some ⟨gb, 0, none⟩), .bool true] W fun e w' => e = .returned (.pointer (some ⟨gb, 0, none⟩)) ∧ W = w' from st_side W (some (gb, ⟨lb, pb, eb⟩)) true)
  have e1 : (la == lb) = false := by simp; omega
  have e2 : decide (lb < la) = false := by simp; omega
  have e3 : decide (la < lb) = true := by simpa using hrel
  have hmx : max la lb = lb := by omega
  have hxb : -1 ≤ lb ∧ lb < 64 := by omega
  have hx0 : -1 ≤ lb := by omega
  have hx1 : lb ≤ 62 := by omega
  obtain ⟨M, hM⟩ : ∃ M : Nat, lb + 1 = (M : Int) := ⟨(lb + 1).toNat, by omega⟩
  have hM64 : M < 64 := by omega
  have HLM := hide (show la < (M : Int) ∧ lb < (M : Int) from ⟨by omega, by omega⟩)
  have hadd := fun W (hW : Below w.heap.size w W) => st_add (w := W) (tn := none) (tk := some (gb, ⟨lb, pb, eb⟩)) (m := M) (a := addrOf pb M) (pre := pb) hk1 hk hM64 (TopOk.none_ _ _) (fun x hx => by injection hx with hx; subst hx; exact HBB.out.stay hW) (fun x hx => by simp [esOf] at hx) (fun x hx => ⟨HIBB.out.2 x hx M HLM.out.2, fun b hb => HIBB.out.2 x hx b (by have := HLM.out; omega)⟩)
  rw [← hM] at hadd
  have HADD := hide (fun W (hW : Below w.heap.size w W) => show Calls Tryz.prog 94 #[.pointer none, .int .i64 (lb + 1), .pointer (some ⟨gb, 0, none⟩)] W (JdOut W k [] eb) from hadd W hW)
  clear hadd
  clear hA hB hcA hcB hps hm hne ec1 ec2 hM hM64 hm64 hxb hrel
  go_enter Tryz.func61, Tryz.ntmps61
  go_wp2_with fail
  refine (nd_level (HA.out.stay HB.out)).mono ?_
  rintro e w2 ⟨rfl, rfl⟩
  go_wp2_with fail
  refine (nd_level (HBB.out.stay HB.out)).mono ?_
  rintro e w3 ⟨rfl, rfl⟩
  go_wp2_with fail
  refine (nd_level (HA.out.stay HB.out)).mono ?_
  rintro e w4 ⟨rfl, rfl⟩
  go_wp2_with fail
  refine (nd_level (HBB.out.stay HB.out)).mono ?_
  rintro e w5 ⟨rfl, rfl⟩
  go_wp2_with fail
  refine (nd_level (HBB.out.stay HB.out)).mono ?_
  rintro e w6 ⟨rfl, rfl⟩
  go_wp2_with fail
  refine (nd_level (HA.out.stay HB.out)).mono ?_
  rintro e w7 ⟨rfl, rfl⟩
  go_wp2_with fail
  refine (nd_prefix (HA.out.stay HB.out) hk).mono ?_
  rintro e w8 ⟨v8, rfl, ho8, hb8⟩
  obtain ⟨A8, c8, rfl, hp8⟩ := Pt.of_own ho8 HIA.out.1.1 HIA.out.1.2
  replace HB := hide (below_then HB.out hb8)
  replace HJ := hide (HJ.out.below hb8)
  have HP8 := hide hp8
  clear ho8 hb8 hp8
  have hcv9 := nd_covers (d := c8) (HBB.out.stay HB.out) hk1 hk HP8.out
  rw [EC2.out] at hcv9
  have HCV9 := hide hcv9
  clear hcv9
  go_wp2_with fail
  refine HCV9.out.mono ?_
  rintro e w9 ⟨rfl, rfl⟩
  have hJz := HJ.out
  have j0 := hJz.cell 0
  have j1 := hJz.cell 1
  have j2 := hJz.cell 2
  have j3 := hJz.cell 3
  simp at j0 j1 j2 j3
  have hd : Below w.heap.size w w8.drew := HB.out.drew
  have hqd : Below w8.heap.size w8 w8.drew := (Below.refl _ _).drew
  have HCELL := hide (fun W (hW : Below w8.heap.size w8 W) => And.intro ((HJ.out.below hW).cell 0) (And.intro ((HJ.out.below hW).cell 1) (And.intro ((HJ.out.below hW).cell 2) ((HJ.out.below hW).cell 3))))
  clear hJz
  go_wp2_with fail
  go_region_held3 (fun w' => w'.cell? ⟨w.heap.size, 0, none⟩ = some (.int .i64 (r : Int)) ∧ w'.cell? ⟨w.heap.size, 1, none⟩ = some (.bool false) ∧ w'.cell? ⟨w.heap.size, 2, none⟩ = some (.bool true) ∧ w'.cell? ⟨w.heap.size, 3, none⟩ = some (.bool bo))
    (first
      | go_keep
      | exact HCELL.out _ hqd)
    (first
      | (go_at_call 90
         with_reducible refine (HSA.out _).mono ?_
         rintro e ws ⟨rfl, rfl⟩)
      | (go_at_call 90
         with_reducible refine (HSB.out _).mono ?_
         rintro e ws ⟨rfl, rfl⟩))
  have HD := hide hd
  clear hd hqd
  go_wp2_with fail
  refine (nd_level (HA.out.stay HD.out)).mono ?_
  rintro e w91 ⟨rfl, rfl⟩
  go_wp2_with fail
  refine (nd_level (HBB.out.stay HD.out)).mono ?_
  rintro e w91 ⟨rfl, rfl⟩
  go_wp2_with fail
  refine (HADD.out _ HD.out).mono ?_
  rintro e w92 ⟨tc, rfl, htc, hmc, hb92⟩
  have HF := hide (show StOut w k r false true bo ea eb (.returned (ptrOf tc)) w92 from ⟨tc, rfl, htc, fun x => by rw [JM.apart HAP.out, hmc]; simp, below_then HD.out hb92⟩)
  clear htc hmc hb92
  go_wp2
  go_ret
  exact HF.out
set_option maxHeartbeats 8000000 in
set_option maxRecDepth 100000 in
theorem st_join_ap_lt_false_false {w : World} {k ga gb r : Nat} {la lb : Int} {bo : Bool} {pa pb : List Nat} {ea eb : List Ent} (hk1 : 1 ≤ k) (hk : k ≤ 16) (hA : NodeOf w k ga la pa ea) (hB : NodeOf w k gb lb pb eb) (hrel : la < lb) (hcA : la < part pa pb) (hcB : lb < part pa pb) :
    Calls Tryz.prog 61 #[.agg #[.int .i64 (r : Int), .bool false, .bool false, .bool bo], .pointer (some ⟨ga, 0, none⟩), .pointer (some ⟨gb, 0, none⟩)] w (StOut w k r false false bo ea eb) := by
  have hps := part_spec pa pb (hA.info.1.1.trans hB.info.1.1.symm) hA.info.1.2 hB.info.1.2
  obtain ⟨m, hm⟩ : ∃ m : Nat, part pa pb = (m : Int) := ⟨(part pa pb).toNat, by have := hA.info.2.2.1; omega⟩
  have hne : addrOf pa m ≠ addrOf pb m := by
    have := hps.2.2.2 (by have := hA.info.2.2.1; omega)
    rw [hm] at this
    simpa using this
  have HPM := hide hm
  have HNE := hide hne
  have HLL := hide (show la < (m : Int) ∧ lb < (m : Int) from ⟨by omega, by omega⟩)
  have HAP := hide (apart_of hA hB (m := m) (by omega) (by omega) hne)
  have ec1 : decide (part pa pb ≤ la) = false := by simp; omega
  have ec2 : decide (part pb pa ≤ lb) = false := by rw [← part_sym hA.info.1 hB.info.1]; simp; omega
  have EC1 := hide ec1
  have EC2 := hide ec2
  have hm64 : (m : Int) < 64 := by have := hps.2.1; omega
  have HMM := hide hm64
  have hb1 := (Below.refl w.heap.size w).alloc (Nat.le_refl _) (.cells #[.int .i64 (r : Int), .bool false, .bool false, .bool bo] 71)
  have hJ := Blk.new w 71 #[.int .i64 (r : Int), .bool false, .bool false, .bool bo]
  have HB := hide hb1
  have HJ := hide hJ
  have HA := hide hA
  have HBB := hide hB
  obtain ⟨a1, a2, a3, a4, a5, a6, a7⟩ := hA.info
  obtain ⟨b1, b2, b3, b4, b5, b6, b7⟩ := hB.info
  have HIA := hide (show Zp k pa ∧ ∀ x ∈ ea, ∀ b : Nat, la < (b : Int) → addrOf x.1 b = addrOf pa b from ⟨a1, fun x hx => (a5 x hx).2.2⟩)
  have HIBB := hide (show Zp k pb ∧ ∀ x ∈ eb, ∀ b : Nat, lb < (b : Int) → addrOf x.1 b = addrOf pb b from ⟨b1, fun x hx => (b5 x hx).2.2⟩)
  have HSYM := hide (part_sym a1 b1)
  clear hb1 hJ a2 a5 a6 a7 b2 b5 b6 b7
  have HSA := hide (fun W => show Calls Tryz.prog 90 #[.pointer (some ⟨ga, 0, none⟩), .bool false] W fun e w' => e = .returned (.pointer none) ∧ W = w' from st_side W (some (ga, ⟨la, pa, ea⟩)) false)
  have HSB := hide (fun W => show Calls Tryz.prog 90 #[.pointer (some ⟨gb, 0, none⟩), .bool false] W fun e w' => e = .returned (.pointer none) ∧ W = w' from st_side W (some (gb, ⟨lb, pb, eb⟩)) false)
  have e1 : (la == lb) = false := by simp; omega
  have e2 : decide (lb < la) = false := by simp; omega
  have e3 : decide (la < lb) = true := by simpa using hrel
  have hmx : max la lb = lb := by omega
  have hxb : -1 ≤ lb ∧ lb < 64 := by omega
  have hx0 : -1 ≤ lb := by omega
  have hx1 : lb ≤ 62 := by omega
  obtain ⟨M, hM⟩ : ∃ M : Nat, lb + 1 = (M : Int) := ⟨(lb + 1).toNat, by omega⟩
  have hM64 : M < 64 := by omega
  have HLM := hide (show la < (M : Int) ∧ lb < (M : Int) from ⟨by omega, by omega⟩)
  have hadd := fun W (hW : Below w.heap.size w W) => st_add (w := W) (tn := none) (tk := none) (m := M) (a := addrOf pb M) (pre := pb) hk1 hk hM64 (TopOk.none_ _ _) (TopOk.none_ _ _) (fun x hx => by simp [esOf] at hx) (fun x hx => by simp [esOf] at hx)
  rw [← hM] at hadd
  have HADD := hide (fun W (hW : Below w.heap.size w W) => show Calls Tryz.prog 94 #[.pointer none, .int .i64 (lb + 1), .pointer none] W (JdOut W k [] []) from hadd W hW)
  clear hadd
  clear hA hB hcA hcB hps hm hne ec1 ec2 hM hM64 hm64 hxb hrel
  go_enter Tryz.func61, Tryz.ntmps61
  go_wp2_with fail
  refine (nd_level (HA.out.stay HB.out)).mono ?_
  rintro e w2 ⟨rfl, rfl⟩
  go_wp2_with fail
  refine (nd_level (HBB.out.stay HB.out)).mono ?_
  rintro e w3 ⟨rfl, rfl⟩
  go_wp2_with fail
  refine (nd_level (HA.out.stay HB.out)).mono ?_
  rintro e w4 ⟨rfl, rfl⟩
  go_wp2_with fail
  refine (nd_level (HBB.out.stay HB.out)).mono ?_
  rintro e w5 ⟨rfl, rfl⟩
  go_wp2_with fail
  refine (nd_level (HBB.out.stay HB.out)).mono ?_
  rintro e w6 ⟨rfl, rfl⟩
  go_wp2_with fail
  refine (nd_level (HA.out.stay HB.out)).mono ?_
  rintro e w7 ⟨rfl, rfl⟩
  go_wp2_with fail
  refine (nd_prefix (HA.out.stay HB.out) hk).mono ?_
  rintro e w8 ⟨v8, rfl, ho8, hb8⟩
  obtain ⟨A8, c8, rfl, hp8⟩ := Pt.of_own ho8 HIA.out.1.1 HIA.out.1.2
  replace HB := hide (below_then HB.out hb8)
  replace HJ := hide (HJ.out.below hb8)
  have HP8 := hide hp8
  clear ho8 hb8 hp8
  have hcv9 := nd_covers (d := c8) (HBB.out.stay HB.out) hk1 hk HP8.out
  rw [EC2.out] at hcv9
  have HCV9 := hide hcv9
  clear hcv9
  go_wp2_with fail
  refine HCV9.out.mono ?_
  rintro e w9 ⟨rfl, rfl⟩
  have hJz := HJ.out
  have j0 := hJz.cell 0
  have j1 := hJz.cell 1
  have j2 := hJz.cell 2
  have j3 := hJz.cell 3
  simp at j0 j1 j2 j3
  have hd : Below w.heap.size w w8.drew := HB.out.drew
  have hqd : Below w8.heap.size w8 w8.drew := (Below.refl _ _).drew
  have HCELL := hide (fun W (hW : Below w8.heap.size w8 W) => And.intro ((HJ.out.below hW).cell 0) (And.intro ((HJ.out.below hW).cell 1) (And.intro ((HJ.out.below hW).cell 2) ((HJ.out.below hW).cell 3))))
  clear hJz
  go_wp2_with fail
  go_region_held3 (fun w' => w'.cell? ⟨w.heap.size, 0, none⟩ = some (.int .i64 (r : Int)) ∧ w'.cell? ⟨w.heap.size, 1, none⟩ = some (.bool false) ∧ w'.cell? ⟨w.heap.size, 2, none⟩ = some (.bool false) ∧ w'.cell? ⟨w.heap.size, 3, none⟩ = some (.bool bo))
    (first
      | go_keep
      | exact HCELL.out _ hqd)
    (first
      | (go_at_call 90
         with_reducible refine (HSA.out _).mono ?_
         rintro e ws ⟨rfl, rfl⟩)
      | (go_at_call 90
         with_reducible refine (HSB.out _).mono ?_
         rintro e ws ⟨rfl, rfl⟩))
  have HD := hide hd
  clear hd hqd
  go_wp2_with fail
  refine (nd_level (HA.out.stay HD.out)).mono ?_
  rintro e w91 ⟨rfl, rfl⟩
  go_wp2_with fail
  refine (nd_level (HBB.out.stay HD.out)).mono ?_
  rintro e w91 ⟨rfl, rfl⟩
  go_wp2_with fail
  refine (HADD.out _ HD.out).mono ?_
  rintro e w92 ⟨tc, rfl, htc, hmc, hb92⟩
  have HF := hide (show StOut w k r false false bo ea eb (.returned (ptrOf tc)) w92 from ⟨tc, rfl, htc, fun x => by rw [JM.apart HAP.out, hmc]; simp, below_then HD.out hb92⟩)
  clear htc hmc hb92
  go_wp2
  go_ret
  exact HF.out
theorem st_join_apart {w : World} {k ga gb r : Nat} {la lb : Int} {l rt bo : Bool} {pa pb : List Nat} {ea eb : List Ent} (hk1 : 1 ≤ k) (hk : k ≤ 16) (hA : NodeOf w k ga la pa ea) (hB : NodeOf w k gb lb pb eb) (hcA : la < part pa pb) (hcB : lb < part pa pb) :
    Calls Tryz.prog 61 #[.agg #[.int .i64 (r : Int), .bool l, .bool rt, .bool bo], .pointer (some ⟨ga, 0, none⟩), .pointer (some ⟨gb, 0, none⟩)] w (StOut w k r l rt bo ea eb) := by
  rcases Int.lt_trichotomy la lb with h | h | h
  · cases l <;> cases rt
    · exact st_join_ap_lt_false_false hk1 hk hA hB h hcA hcB
    · exact st_join_ap_lt_false_true hk1 hk hA hB h hcA hcB
    · exact st_join_ap_lt_true_false hk1 hk hA hB h hcA hcB
    · exact st_join_ap_lt_true_true hk1 hk hA hB h hcA hcB
  · cases l <;> cases rt
    · exact st_join_ap_eq_false_false hk1 hk hA hB h hcA hcB
    · exact st_join_ap_eq_false_true hk1 hk hA hB h hcA hcB
    · exact st_join_ap_eq_true_false hk1 hk hA hB h hcA hcB
    · exact st_join_ap_eq_true_true hk1 hk hA hB h hcA hcB
  · cases l <;> cases rt
    · exact st_join_ap_gt_false_false hk1 hk hA hB h hcA hcB
    · exact st_join_ap_gt_false_true hk1 hk hA hB h hcA hcB
    · exact st_join_ap_gt_true_false hk1 hk hA hB h hcA hcB
    · exact st_join_ap_gt_true_true hk1 hk hA hB h hcA hcB
theorem st_join_step {k r N : Nat} {l rt bo : Bool} (hk1 : 1 ≤ k) (hk : k ≤ 16) (h1 : 1 ≤ r) (h6 : r ≤ 6) (H : StHyp k r N l rt bo) : StHyp k r (N + 1) l rt bo := by
  intro w ta tb hN hA hB
  cases ta with
  | none => exact st_join_nl w k r l rt bo tb hB
  | some x =>
    cases tb with
    | none => exact st_join_nr w k r l rt bo x hA
    | some y =>
      obtain ⟨ga, la, pa, ea⟩ := x
      obtain ⟨gb, lb, pb, eb⟩ := y
      have hNA := hA _ rfl
      have hNB := hB _ rfl
      simp only [esOf] at hNA hNB hN
      have hz := part_sym hNA.info.1 hNB.info.1
      rcases Int.lt_trichotomy la lb with h | h | h
      · by_cases hc : part pa pb ≤ lb
        · rcases hNB.cases' with ⟨_, _, _, h0, _⟩ | ⟨m, ks, hm, hes, hF⟩
          · have := hNA.info.2.2.1
            omega
          · subst hm hes
            exact st_join_r hk1 hk hNA hF H (by first | omega | (simp only [esOf]; omega)) h (by omega)
        · exact st_join_apart hk1 hk hNA hNB (by omega) (by omega)
      · subst h
        by_cases hc : part pa pb ≤ la
        · rcases hNA.cases' with ⟨_, _, va, h0, hes, _⟩ | ⟨m, ks, hm, hes, hF⟩
          · rcases hNB.cases' with ⟨_, _, vb, _, hes', _⟩ | ⟨m, ks, hm, _⟩
            · have hpp : pa = pb := part_neg hNA.info.1 hNB.info.1 (show part pa pb < 0 by omega)
              subst hpp h0 hes hes'
              refine (st_join_leaf (l := l) (rt := rt) (bo := bo) hk1 hk h1 h6 hNA hNB).mono ?_
              rintro e w' ⟨tc, rfl, htc, hmc, hb⟩
              exact ⟨tc, rfl, htc, fun x => by rw [hmc]; exact JM.leaf.symm, hb⟩
            · omega
          · rcases hNB.cases' with ⟨_, _, _, h0', _⟩ | ⟨m', ks', hm', hes', hF'⟩
            · omega
            · obtain rfl : m' = m := by omega
              subst hm hes hes'
              exact st_join_even hk1 hk hF hF' H (by first | omega | (simp only [esOf]; omega)) hc
        · exact st_join_apart hk1 hk hNA hNB (by omega) (by omega)
      · by_cases hc : part pa pb ≤ la
        · rcases hNA.cases' with ⟨_, _, _, h0, _⟩ | ⟨m, ks, hm, hes, hF⟩
          · have := hNB.info.2.2.1
            omega
          · subst hm hes
            exact st_join_l hk1 hk hF hNB H (by first | omega | (simp only [esOf]; omega)) h hc
        · exact st_join_apart hk1 hk hNA hNB (by omega) (by omega)
theorem st_hyp {k r : Nat} {l rt bo : Bool} (hk1 : 1 ≤ k) (hk : k ≤ 16) (h1 : 1 ≤ r) (h6 : r ≤ 6) : ∀ N, StHyp k r N l rt bo
  | 0 => fun _ _ _ h => absurd h (Nat.not_lt_zero _)
  | N + 1 => st_join_step hk1 hk h1 h6 (st_hyp hk1 hk h1 h6 N)
theorem st_join {w : World} {k r : Nat} {l rt bo : Bool} {ta tb : Option (Nat × NT)} (hk1 : 1 ≤ k) (hk : k ≤ 16) (h1 : 1 ≤ r) (h6 : r ≤ 6) (hA : TopOk w k ta) (hB : TopOk w k tb) :
    Calls Tryz.prog 61 #[.agg #[.int .i64 (r : Int), .bool l, .bool rt, .bool bo], ptrOf ta, ptrOf tb] w (StOut w k r l rt bo (esOf ta) (esOf tb)) :=
  st_hyp hk1 hk h1 h6 _ w ta tb (Nat.lt_succ_self _) hA hB
end Go.Proofs.YtfkpanpageeklaaGreat
