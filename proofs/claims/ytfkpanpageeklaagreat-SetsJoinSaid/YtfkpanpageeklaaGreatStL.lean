/- sets: two nodes joined. -/
import Derived.Test.YtfkpanpageeklaaGreatStK
import Derived.Test.YtfkpanpageeklaaGreatStD
set_option linter.unusedSimpArgs false
set_option linter.unusedVariables false
namespace Go.Proofs.YtfkpanpageeklaaGreat
open Go.RowKit
theorem TopOk.kid {w : World} {k g m : Nat} {pre : List Nat} {ks : List Kid} (h : Fork w k g m pre ks) (a : Nat) : TopOk w k (kidAt ks a) := by
  intro x hx
  obtain ⟨q, hq, _, rfl⟩ := kidAt_some hx
  exact (h.kid q hq).1
theorem kid_small' {w : World} {k g m : Nat} {pre : List Nat} {ks : List Kid} (h : Fork w k g m pre ks) (a : Nat) : (esOf (kidAt ks a)).length < (kidEs ks).length := by
  cases hk : kidAt ks a with
  | none => exact List.length_pos_iff.2 h.node.info.2.1
  | some x =>
    obtain ⟨q, hq, _, rfl⟩ := kidAt_some hk
    exact kid_small h hq
theorem apart_of {w w' : World} {k ga gb m : Nat} {la lb : Int} {pa pb : List Nat} {ea eb : List Ent} (hA : NodeOf w k ga la pa ea) (hB : NodeOf w' k gb lb pb eb) (h1 : la < (m : Int)) (h2 : lb < (m : Int)) (hne : addrOf pa m ≠ addrOf pb m) : Apart ea eb := by
  intro x hx y hy hxy
  have e1 := (hA.info.2.2.2.2.1 x hx).2.2 m h1
  have e2 := (hB.info.2.2.2.2.1 y hy).2.2 m h2
  rw [hxy] at e1
  exact hne (e1.symm.trans e2)
theorem JM.even_agree {w : World} {k g m r : Nat} {l rt bo : Bool} {pre z : List Nat} {ks : List Kid} {eb : List Ent} (h : Fork w k g m pre ks) (hz : Zp k z) (hc : part pre z ≤ (m : Int)) (hb : ∀ y ∈ eb, ∀ b, m ≤ b → addrOf y.1 b = addrOf z b) {x : Ent} :
    (JM r l rt bo (esOf (kidAt ks (addrOf z m))) eb x → addrOf x.1 m = addrOf z m ∧ ∀ b, m < b → addrOf x.1 b = addrOf pre b) ∧ (JM r l rt bo eb (esOf (kidAt ks (addrOf z m))) x → addrOf x.1 m = addrOf z m ∧ ∀ b, m < b → addrOf x.1 b = addrOf pre b) := by
  have key : ((∃ v, (x.1, v) ∈ esOf (kidAt ks (addrOf z m))) ∨ ∃ v, (x.1, v) ∈ eb) → addrOf x.1 m = addrOf z m ∧ ∀ b, m < b → addrOf x.1 b = addrOf pre b := by
    intro hh
    have h1 : ∀ b, m ≤ b → addrOf x.1 b = addrOf z b := by
      rcases hh with ⟨v, hv⟩ | ⟨v, hv⟩
      · exact kid_agree (x := (x.1, v)) h hz hc hv
      · exact hb (x.1, v) hv
    exact ⟨h1 m (Nat.le_refl _), fun b hb' => (h1 b (by omega)).trans (h.fk'.agree hz hc b hb').symm⟩
  exact ⟨fun hx => key hx.has, fun hx => key hx.has.symm⟩
set_option maxHeartbeats 8000000 in
set_option maxRecDepth 100000 in
theorem st_join_nl (w : World) (k r : Nat) (l rt bo : Bool) (tb : Option (Nat × NT)) (hB : TopOk w k tb) :
    Calls Tryz.prog 61 #[.agg #[.int .i64 (r : Int), .bool l, .bool rt, .bool bo], .pointer none, ptrOf tb] w (StOut w k r l rt bo [] (esOf tb)) := by
  have hb1 := (Below.refl w.heap.size w).alloc (Nat.le_refl _) (.cells #[.int .i64 (r : Int), .bool l, .bool rt, .bool bo] 71)
  have hJ := Blk.new w 71 #[.int .i64 (r : Int), .bool l, .bool rt, .bool bo]
  have j2 := hJ.cell 2
  simp at j2
  have HF := hide (show StOut w k r l rt bo [] (esOf tb) (.returned (ptrOf (if rt then tb else none))) (w.alloc (.cells #[.int .i64 (r : Int), .bool l, .bool rt, .bool bo] 71)) from ⟨if rt then tb else none, rfl, by
    cases rt with
    | true => exact hB.stay hb1
    | false => exact TopOk.none_ _ _, fun x => by
    rw [JM.nil_l]
    cases rt <;> simp [esOf], hb1⟩)
  have HS := hide (fun W => st_side W tb rt)
  clear hb1 hJ hB
  generalize (if rt then tb else none) = tR at *
  go_enter Tryz.func61, Tryz.ntmps61
  go_wp2_with fail
  refine (HS.out _).mono ?_
  rintro e w1 ⟨rfl, rfl⟩
  go_wp2
  go_ret
  exact HF.out
set_option maxHeartbeats 8000000 in
set_option maxRecDepth 100000 in
theorem st_join_nr (w : World) (k r : Nat) (l rt bo : Bool) (x : Nat × NT) (hA : TopOk w k (some x)) :
    Calls Tryz.prog 61 #[.agg #[.int .i64 (r : Int), .bool l, .bool rt, .bool bo], ptrOf (some x), .pointer none] w (StOut w k r l rt bo (esOf (some x)) []) := by
  have hb1 := (Below.refl w.heap.size w).alloc (Nat.le_refl _) (.cells #[.int .i64 (r : Int), .bool l, .bool rt, .bool bo] 71)
  have hJ := Blk.new w 71 #[.int .i64 (r : Int), .bool l, .bool rt, .bool bo]
  have j1 := hJ.cell 1
  simp at j1
  have HF := hide (show StOut w k r l rt bo (esOf (some x)) [] (.returned (ptrOf (if l then some x else none))) (w.alloc (.cells #[.int .i64 (r : Int), .bool l, .bool rt, .bool bo] 71)) from ⟨if l then some x else none, rfl, by
    cases l with
    | true => exact hA.stay hb1
    | false => exact TopOk.none_ _ _, fun y => by
    rw [JM.nil_r]
    cases l <;> simp [esOf], hb1⟩)
  have HS := hide (fun W => st_side W (some x) l)
  clear hb1 hJ hA
  generalize (if l then some x else none) = tR at *
  obtain ⟨g, n⟩ := x
  replace HS := hide (fun W => show Calls Tryz.prog 90 #[.pointer (some ⟨g, 0, none⟩), .bool l] W fun e w' => e = .returned (ptrOf tR) ∧ W = w' from HS.out W)
  show Calls Tryz.prog 61 #[.agg #[.int .i64 (r : Int), .bool l, .bool rt, .bool bo], .pointer (some ⟨g, 0, none⟩), .pointer none] w (StOut w k r l rt bo (esOf (some (g, n))) [])
  go_enter Tryz.func61, Tryz.ntmps61
  go_wp2_with fail
  refine (HS.out _).mono ?_
  rintro e w1 ⟨rfl, rfl⟩
  go_wp2
  go_ret
  exact HF.out
set_option maxHeartbeats 8000000 in
set_option maxRecDepth 100000 in
theorem st_join_even {w : World} {k ga gb r m N : Nat} {l rt bo : Bool} {pa pb : List Nat} {ksa ksb : List Kid} (hk1 : 1 ≤ k) (hk : k ≤ 16) (hA : Fork w k ga m pa ksa) (hB : Fork w k gb m pb ksb) (H : StHyp k r N l rt bo) (hN : (kidEs ksa).length + (kidEs ksb).length ≤ N) (hc : part pa pb ≤ (m : Int)) :
    Calls Tryz.prog 61 #[.agg #[.int .i64 (r : Int), .bool l, .bool rt, .bool bo], .pointer (some ⟨ga, 0, none⟩), .pointer (some ⟨gb, 0, none⟩)] w (StOut w k r l rt bo (kidEs ksa) (kidEs ksb)) := by
  have hag := hA.fk'.agree hB.node.info.1 hc
  have HKS := hide (fun W (hW : Below w.heap.size w W) => st_kids (w := W) hk1 hk H (hA.stay hW) (hB.stay hW) hag hN)
  obtain ⟨A0, c0, gs0, -, -, hB0⟩ := hA.head
  have HFB0 := hide hB0
  have EC1 := hide (show decide (part pa pb ≤ (m : Int)) = true by simpa using hc)
  replace hA := hA.node
  replace hB := hB.node
  have hb1 := (Below.refl w.heap.size w).alloc (Nat.le_refl _) (.cells #[.int .i64 (r : Int), .bool l, .bool rt, .bool bo] 71)
  have hJ := Blk.new w 71 #[.int .i64 (r : Int), .bool l, .bool rt, .bool bo]
  have HB := hide hb1
  have HJ := hide hJ
  have HA := hide hA
  have HBB := hide hB
  obtain ⟨a1, a2, a3, a4, a5, a6, a7⟩ := hA.info
  obtain ⟨b1, b2, b3, b4, b5, b6, b7⟩ := hB.info
  have HIA := hide (show Zp k pa ∧ ∀ x ∈ kidEs ksa, ∀ b : Nat, (m : Int) < (b : Int) → addrOf x.1 b = addrOf pa b from ⟨a1, fun x hx => (a5 x hx).2.2⟩)
  have HIBB := hide (show Zp k pb ∧ ∀ x ∈ kidEs ksb, ∀ b : Nat, (m : Int) < (b : Int) → addrOf x.1 b = addrOf pb b from ⟨b1, fun x hx => (b5 x hx).2.2⟩)
  have HSYM := hide (part_sym a1 b1)
  clear hb1 hJ a2 a5 a6 a7 b2 b5 b6 b7
  have e1 : ((m : Int) == (m : Int)) = true := by simp
  clear H hN hA hB hag hc hB0
  go_enter Tryz.func61, Tryz.ntmps61
  go_wp2_with fail
  refine (nd_level (HA.out.stay HB.out)).mono ?_
  rintro e w2 ⟨rfl, rfl⟩
  go_wp2_with fail
  refine (nd_level (HBB.out.stay HB.out)).mono ?_
  rintro e w3 ⟨rfl, rfl⟩
  go_wp2_with fail
  refine (nd_prefix (HBB.out.stay HB.out) hk).mono ?_
  rintro e w4 ⟨v4, rfl, ho4, hb4⟩
  obtain ⟨A4, c4, rfl, hp4⟩ := Pt.of_own ho4 HIBB.out.1.1 HIBB.out.1.2
  replace HB := hide (below_then HB.out hb4)
  replace HJ := hide (HJ.out.below hb4)
  have HP4 := hide hp4
  clear ho4 hb4 hp4
  have hcv5 := nd_covers (d := c4) (HA.out.stay HB.out) hk1 hk HP4.out
  rw [EC1.out] at hcv5
  have HCV5 := hide hcv5
  clear hcv5
  go_wp2_with fail
  refine HCV5.out.mono ?_
  rintro e w5 ⟨rfl, rfl⟩
  go_wp2_with fail
  refine (nd_entry_fork (HFB0.out.below HB.out)).mono ?_
  rintro e w20 ⟨rfl, hb20⟩
  have hal20 := below_then hb20 ((Below.refl w20.heap.size w20).alloc (Nat.le_refl _) (.cells #[.slice none 0 0, .int .u64 0] 83))
  replace HB := hide (below_then HB.out hal20)
  replace HJ := hide (HJ.out.below hal20)
  have HKD := hide (HKS.out _ HB.out)
  have hJ20 := HJ.out
  have j0 := hJ20.cell 0
  have j1 := hJ20.cell 1
  have j2 := hJ20.cell 2
  have j3 := hJ20.cell 3
  simp at j0 j1 j2 j3
  clear hb20 hal20 hJ20
  go_wp2_with fail
  refine HKD.out.mono ?_
  rintro e w21 ⟨tc, rfl, htc, hmc, hb21⟩
  have HF := hide (show StOut w k r l rt bo (kidEs ksa) (kidEs ksb) (.returned (ptrOf tc)) w21 from ⟨tc, rfl, htc, hmc, below_then HB.out hb21⟩)
  clear htc hmc hb21
  go_wp2
  go_ret
  exact HF.out
set_option maxHeartbeats 8000000 in
set_option maxRecDepth 100000 in
theorem st_join_l {w : World} {k ga gb r m N : Nat} {lb : Int} {l rt bo : Bool} {pa pb : List Nat} {ks : List Kid} {eb : List Ent} (hk1 : 1 ≤ k) (hk : k ≤ 16) (hA : Fork w k ga m pa ks) (hB : NodeOf w k gb lb pb eb) (H : StHyp k r N l rt bo) (hN : (kidEs ks).length + eb.length ≤ N) (hl : lb < (m : Int)) (hc : part pa pb ≤ (m : Int)) :
    Calls Tryz.prog 61 #[.agg #[.int .i64 (r : Int), .bool l, .bool rt, .bool bo], .pointer (some ⟨ga, 0, none⟩), .pointer (some ⟨gb, 0, none⟩)] w (StOut w k r l rt bo (kidEs ks) eb) := by
  have hz := hB.info.1
  have hbz : ∀ y ∈ eb, ∀ b, m ≤ b → addrOf y.1 b = addrOf pb b := fun y hy b hb => (hB.info.2.2.2.2.1 y hy).2.2 b (by omega)
  have HFK := hide hA
  have hm64 := hA.lv
  have HAG := hide (fun x => JM.even_agree (r := r) (l := l) (rt := rt) (bo := bo) (x := x) hA hz hc hbz)
  have HAT := hide (fun y hy => hbz y hy m (Nat.le_refl _))
  have HLT := hide (addr_lt_pow hz m)
  have HJN := hide (fun W (hW : Below w.heap.size w W) => show Calls Tryz.prog 61 #[.agg #[.int .i64 (r : Int), .bool l, .bool rt, .bool bo], ptrOf (kidAt ks (addrOf pb m)), .pointer (some ⟨gb, 0, none⟩)] W (StOut W k r l rt bo (esOf (kidAt ks (addrOf pb m))) eb) from H W (kidAt ks (addrOf pb m)) (some (gb, ⟨lb, pb, eb⟩)) (by have := kid_small' hA (addrOf pb m); simp only [esOf] at this ⊢; omega) ((TopOk.kid hA _).stay hW) (fun x hx => by injection hx with hx; subst hx; exact hB.stay hW))
  have EC1 := hide (show decide (part pa pb ≤ (m : Int)) = true by simpa using hc)
  replace hA := hA.node
  have hb1 := (Below.refl w.heap.size w).alloc (Nat.le_refl _) (.cells #[.int .i64 (r : Int), .bool l, .bool rt, .bool bo] 71)
  have hJ := Blk.new w 71 #[.int .i64 (r : Int), .bool l, .bool rt, .bool bo]
  have HB := hide hb1
  have HJ := hide hJ
  have HA := hide hA
  have HBB := hide hB
  obtain ⟨a1, a2, a3, a4, a5, a6, a7⟩ := hA.info
  obtain ⟨b1, b2, b3, b4, b5, b6, b7⟩ := hB.info
  have HIA := hide (show Zp k pa ∧ ∀ x ∈ kidEs ks, ∀ b : Nat, (m : Int) < (b : Int) → addrOf x.1 b = addrOf pa b from ⟨a1, fun x hx => (a5 x hx).2.2⟩)
  have HIBB := hide (show Zp k pb ∧ ∀ x ∈ eb, ∀ b : Nat, lb < (b : Int) → addrOf x.1 b = addrOf pb b from ⟨b1, fun x hx => (b5 x hx).2.2⟩)
  have HSYM := hide (part_sym a1 b1)
  clear hb1 hJ a2 a5 a6 a7 b2 b5 b6 b7
  have e1 : ((m : Int) == lb) = false := by simp; omega
  have e2 : decide (lb < (m : Int)) = true := by simpa using hl
  clear H hN hA hB hc hl hz hbz
  go_enter Tryz.func61, Tryz.ntmps61
  go_wp2_with fail
  refine (nd_level (HA.out.stay HB.out)).mono ?_
  rintro e w2 ⟨rfl, rfl⟩
  go_wp2_with fail
  refine (nd_level (HBB.out.stay HB.out)).mono ?_
  rintro e w3 ⟨rfl, rfl⟩
  go_wp2_with fail
  refine (nd_level (HA.out.stay HB.out)).mono ?_
  rintro e w4 ⟨rfl, rfl⟩
  go_wp2_with fail
  refine (nd_level (HBB.out.stay HB.out)).mono ?_
  rintro e w5 ⟨rfl, rfl⟩
  go_wp2_with fail
  refine (nd_prefix (HBB.out.stay HB.out) hk).mono ?_
  rintro e w6 ⟨v6, rfl, ho6, hb6⟩
  obtain ⟨A6, c6, rfl, hp6⟩ := Pt.of_own ho6 HIBB.out.1.1 HIBB.out.1.2
  replace HB := hide (below_then HB.out hb6)
  replace HJ := hide (HJ.out.below hb6)
  have HP6 := hide hp6
  clear ho6 hb6 hp6
  have hcv7 := nd_covers (d := c6) (HA.out.stay HB.out) hk1 hk HP6.out
  rw [EC1.out] at hcv7
  have HCV7 := hide hcv7
  clear hcv7
  go_wp2_with fail
  refine HCV7.out.mono ?_
  rintro e w7 ⟨rfl, rfl⟩
  go_wp2_with fail
  refine (nd_prefix (HBB.out.stay HB.out) hk).mono ?_
  rintro e w8 ⟨v8, rfl, ho8, hb8⟩
  obtain ⟨A8, c8, rfl, hp8⟩ := Pt.of_own ho8 HIBB.out.1.1 HIBB.out.1.2
  replace HB := hide (below_then HB.out hb8)
  replace HJ := hide (HJ.out.below hb8)
  have HP8 := hide hp8
  clear ho8 hb8 hp8
  go_wp2_with fail
  refine (nd_level (HA.out.stay HB.out)).mono ?_
  rintro e w9 ⟨rfl, rfl⟩
  go_wp2_with fail
  refine (zb_addr A8 k pb c8 m _ HP8.out hk1 hk hm64).mono ?_
  rintro e w30 ⟨rfl, rfl⟩
  have hJz := HJ.out
  have j0 := hJz.cell 0
  have j1 := hJz.cell 1
  have j2 := hJz.cell 2
  have j3 := hJz.cell 3
  simp at j0 j1 j2 j3
  have hd : Below w.heap.size w w8.drew := HB.out.drew
  have hqd : Below w8.heap.size w8 w8.drew := (Below.refl _ _).drew
  have HCELL := hide (fun W (hW : Below w8.heap.size w8 W) => And.intro ((HJ.out.below hW).cell 0) (And.intro ((HJ.out.below hW).cell 1) (And.intro ((HJ.out.below hW).cell 2) ((HJ.out.below hW).cell 3))))
  clear hJz
  go_wp2_with fail
  go_region_held3 (fun w' => w'.cell? ⟨w.heap.size, 0, none⟩ = some (.int .i64 (r : Int)) ∧ w'.cell? ⟨w.heap.size, 1, none⟩ = some (.bool l) ∧ w'.cell? ⟨w.heap.size, 2, none⟩ = some (.bool rt) ∧ w'.cell? ⟨w.heap.size, 3, none⟩ = some (.bool bo))
    (first
      | go_keep
      | exact HCELL.out _ hqd)
    (first
      | (go_at_call 64
         refine (nd_kid_at (HFK.out.stay hd) (addrOf pb m)).mono ?_
         rintro e w40 ⟨rfl, hb40⟩
         replace hd := below_then hd hb40
         replace hqd := hqd.trans (hb40.mono hqd.size)
         clear hb40)
      | (go_at_call 61
         refine (HJN.out _ hd).mono ?_
         rintro e w41 ⟨tc, rfl, htc, hmc, hb41⟩
         have HTC := hide htc
         have HMC := hide hmc
         replace hd := below_then hd hb41
         replace hqd := hqd.trans (hb41.mono hqd.size)
         clear htc hmc hb41)
      | (go_at_call 93
         refine (st_inner hk1 hk (HFK.out.stay hd) HTC.out HLT.out (fun x hx => (HAG.out x).1 ((HMC.out x).1 hx)) l).mono ?_
         rintro e w42 ⟨td, rfl, htd, hmd, hb42⟩
         have HTD := hide htd
         have HMD := hide hmd
         replace hd := below_then hd hb42
         replace hqd := hqd.trans (hb42.mono hqd.size)
         clear htd hmd hb42))
  all_goals
    have HF := hide (show StOut w k r l rt bo (kidEs ks) eb (.returned (ptrOf td)) w42 from ⟨td, rfl, HTD.out, fun x => by rw [HMD.out, HMC.out, JM.below_l HFK.out HAT.out], hd⟩)
    clear hd hqd
    go_wp2
    go_ret
    exact HF.out
set_option maxHeartbeats 8000000 in
set_option maxRecDepth 100000 in
theorem st_join_r {w : World} {k ga gb r m N : Nat} {la : Int} {l rt bo : Bool} {pa pb : List Nat} {ea : List Ent} {ks : List Kid} (hk1 : 1 ≤ k) (hk : k ≤ 16) (hA : NodeOf w k ga la pa ea) (hB : Fork w k gb m pb ks) (H : StHyp k r N l rt bo) (hN : ea.length + (kidEs ks).length ≤ N) (hl : la < (m : Int)) (hc : part pb pa ≤ (m : Int)) :
    Calls Tryz.prog 61 #[.agg #[.int .i64 (r : Int), .bool l, .bool rt, .bool bo], .pointer (some ⟨ga, 0, none⟩), .pointer (some ⟨gb, 0, none⟩)] w (StOut w k r l rt bo ea (kidEs ks)) := by
  have hz := hA.info.1
  have hbz : ∀ y ∈ ea, ∀ b, m ≤ b → addrOf y.1 b = addrOf pa b := fun y hy b hb => (hA.info.2.2.2.2.1 y hy).2.2 b (by omega)
  have HFK := hide hB
  have hm64 := hB.lv
  have HAG := hide (fun x => JM.even_agree (r := r) (l := l) (rt := rt) (bo := bo) (x := x) hB hz hc hbz)
  have HAT := hide (fun y hy => hbz y hy m (Nat.le_refl _))
  have HLT := hide (addr_lt_pow hz m)
  have HJN := hide (fun W (hW : Below w.heap.size w W) => show Calls Tryz.prog 61 #[.agg #[.int .i64 (r : Int), .bool l, .bool rt, .bool bo], .pointer (some ⟨ga, 0, none⟩), ptrOf (kidAt ks (addrOf pa m))] W (StOut W k r l rt bo ea (esOf (kidAt ks (addrOf pa m)))) from H W (some (ga, ⟨la, pa, ea⟩)) (kidAt ks (addrOf pa m)) (by have := kid_small' hB (addrOf pa m); simp only [esOf] at this ⊢; omega) (fun x hx => by injection hx with hx; subst hx; exact hA.stay hW) ((TopOk.kid hB _).stay hW))
  have EC1 := hide (show decide (part pb pa ≤ (m : Int)) = true by simpa using hc)
  replace hB := hB.node
  have hb1 := (Below.refl w.heap.size w).alloc (Nat.le_refl _) (.cells #[.int .i64 (r : Int), .bool l, .bool rt, .bool bo] 71)
  have hJ := Blk.new w 71 #[.int .i64 (r : Int), .bool l, .bool rt, .bool bo]
  have HB := hide hb1
  have HJ := hide hJ
  have HA := hide hA
  have HBB := hide hB
  obtain ⟨a1, a2, a3, a4, a5, a6, a7⟩ := hA.info
  obtain ⟨b1, b2, b3, b4, b5, b6, b7⟩ := hB.info
  have HIA := hide (show Zp k pa ∧ ∀ x ∈ ea, ∀ b : Nat, la < (b : Int) → addrOf x.1 b = addrOf pa b from ⟨a1, fun x hx => (a5 x hx).2.2⟩)
  have HIBB := hide (show Zp k pb ∧ ∀ x ∈ kidEs ks, ∀ b : Nat, (m : Int) < (b : Int) → addrOf x.1 b = addrOf pb b from ⟨b1, fun x hx => (b5 x hx).2.2⟩)
  have HSYM := hide (part_sym a1 b1)
  clear hb1 hJ a2 a5 a6 a7 b2 b5 b6 b7
  have e1 : (la == (m : Int)) = false := by simp; omega
  have e2 : decide ((m : Int) < la) = false := by simp; omega
  have e3 : decide (la < (m : Int)) = true := by simpa using hl
  clear H hN hA hB hc hl hz hbz
  go_enter Tryz.func61, Tryz.ntmps61
  go_wp2_with fail
  refine (nd_level (HA.out.stay HB.out)).mono ?_
  rintro e w2 ⟨rfl, rfl⟩
  go_wp2_with fail
  refine (nd_level (HBB.out.stay HB.out)).mono ?_
  rintro e w3 ⟨rfl, rfl⟩
  go_wp2_with fail
  refine (nd_level (HA.out.stay HB.out)).mono ?_
  rintro e w4 ⟨rfl, rfl⟩
  go_wp2_with fail
  refine (nd_level (HBB.out.stay HB.out)).mono ?_
  rintro e w5 ⟨rfl, rfl⟩
  go_wp2_with fail
  refine (nd_level (HBB.out.stay HB.out)).mono ?_
  rintro e w6 ⟨rfl, rfl⟩
  go_wp2_with fail
  refine (nd_level (HA.out.stay HB.out)).mono ?_
  rintro e w7 ⟨rfl, rfl⟩
  go_wp2_with fail
  refine (nd_prefix (HA.out.stay HB.out) hk).mono ?_
  rintro e w8 ⟨v8, rfl, ho8, hb8⟩
  obtain ⟨A8, c8, rfl, hp8⟩ := Pt.of_own ho8 HIA.out.1.1 HIA.out.1.2
  replace HB := hide (below_then HB.out hb8)
  replace HJ := hide (HJ.out.below hb8)
  have HP8 := hide hp8
  clear ho8 hb8 hp8
  have hcv9 := nd_covers (d := c8) (HBB.out.stay HB.out) hk1 hk HP8.out
  rw [EC1.out] at hcv9
  have HCV9 := hide hcv9
  clear hcv9
  go_wp2_with fail
  refine HCV9.out.mono ?_
  rintro e w9 ⟨rfl, rfl⟩
  go_wp2_with fail
  refine (nd_prefix (HA.out.stay HB.out) hk).mono ?_
  rintro e w10 ⟨v10, rfl, ho10, hb10⟩
  obtain ⟨A10, c10, rfl, hp10⟩ := Pt.of_own ho10 HIA.out.1.1 HIA.out.1.2
  replace HB := hide (below_then HB.out hb10)
  replace HJ := hide (HJ.out.below hb10)
  have HP10 := hide hp10
  clear ho10 hb10 hp10
  go_wp2_with fail
  refine (nd_level (HBB.out.stay HB.out)).mono ?_
  rintro e w11 ⟨rfl, rfl⟩
  go_wp2_with fail
  refine (zb_addr A10 k pa c10 m _ HP10.out hk1 hk hm64).mono ?_
  rintro e w30 ⟨rfl, rfl⟩
  have hJz := HJ.out
  have j0 := hJz.cell 0
  have j1 := hJz.cell 1
  have j2 := hJz.cell 2
  have j3 := hJz.cell 3
  simp at j0 j1 j2 j3
  have hd : Below w.heap.size w w10.drew := HB.out.drew
  have hqd : Below w10.heap.size w10 w10.drew := (Below.refl _ _).drew
  have HCELL := hide (fun W (hW : Below w10.heap.size w10 W) => And.intro ((HJ.out.below hW).cell 0) (And.intro ((HJ.out.below hW).cell 1) (And.intro ((HJ.out.below hW).cell 2) ((HJ.out.below hW).cell 3))))
  clear hJz
  go_wp2_with fail
  go_region_held3 (fun w' => w'.cell? ⟨w.heap.size, 0, none⟩ = some (.int .i64 (r : Int)) ∧ w'.cell? ⟨w.heap.size, 1, none⟩ = some (.bool l) ∧ w'.cell? ⟨w.heap.size, 2, none⟩ = some (.bool rt) ∧ w'.cell? ⟨w.heap.size, 3, none⟩ = some (.bool bo))
    (first
      | go_keep
      | exact HCELL.out _ hqd)
    (first
      | (go_at_call 64
         refine (nd_kid_at (HFK.out.stay hd) (addrOf pa m)).mono ?_
         rintro e w40 ⟨rfl, hb40⟩
         replace hd := below_then hd hb40
         replace hqd := hqd.trans (hb40.mono hqd.size)
         clear hb40)
      | (go_at_call 61
         refine (HJN.out _ hd).mono ?_
         rintro e w41 ⟨tc, rfl, htc, hmc, hb41⟩
         have HTC := hide htc
         have HMC := hide hmc
         replace hd := below_then hd hb41
         replace hqd := hqd.trans (hb41.mono hqd.size)
         clear htc hmc hb41)
      | (go_at_call 93
         refine (st_inner hk1 hk (HFK.out.stay hd) HTC.out HLT.out (fun x hx => (HAG.out x).2 ((HMC.out x).1 hx)) rt).mono ?_
         rintro e w42 ⟨td, rfl, htd, hmd, hb42⟩
         have HTD := hide htd
         have HMD := hide hmd
         replace hd := below_then hd hb42
         replace hqd := hqd.trans (hb42.mono hqd.size)
         clear htd hmd hb42))
  all_goals
    have HF := hide (show StOut w k r l rt bo ea (kidEs ks) (.returned (ptrOf td)) w42 from ⟨td, rfl, HTD.out, fun x => by rw [HMD.out, HMC.out, JM.below_r HFK.out HAT.out], hd⟩)
    clear hd hqd
    go_wp2
    go_ret
    exact HF.out
end Go.Proofs.YtfkpanpageeklaaGreat
