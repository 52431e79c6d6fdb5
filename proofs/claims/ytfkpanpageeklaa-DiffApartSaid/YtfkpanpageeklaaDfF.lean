/- diff: two nodes. -/
import Derived.Test.YtfkpanpageeklaaDfEb
set_option linter.unusedSimpArgs false
set_option linter.unusedVariables false
namespace Go.Proofs.Ytfkpanpageeklaa
open Go.RowKit
/-- The three boxes of a walk through two nodes. -/
structure BoxSt (s bo : Nat) (va vb : Value) (W : World) : Prop where
  l : Blk W s 74 #[tellV bo]
  a : Blk W (s + 1) 60 #[va]
  b : Blk W (s + 1 + 1) 60 #[vb]
section
variable {s bo : Nat} {va vb : Value} {W W' : World}
theorem BoxSt.keep (h : BoxSt s bo va vb W) (hk : KeepC W W') : BoxSt s bo va vb W' := ⟨h.l.keep (hk _ (by decide) (by decide)), h.a.keep (hk _ (by decide) (by decide)), h.b.keep (hk _ (by decide) (by decide))⟩
theorem BoxSt.cells (h : BoxSt s bo va vb W) : W.cell? ⟨s, 0, none⟩ = some (tellV bo) ∧ W.cell? ⟨s + 1, 0, none⟩ = some va ∧ W.cell? ⟨s + 1 + 1, 0, none⟩ = some vb := ⟨h.l.cell 0, h.a.cell 0, h.b.cell 0⟩
end
def boxW (w : World) (bo : Nat) (va vb : Value) : World := ((w.alloc (.cells #[tellV bo] 74)).alloc (.cells #[va] 60)).alloc (.cells #[vb] 60)
theorem box_below (w : World) (bo : Nat) (va vb : Value) : Below w.heap.size w (boxW w bo va vb) :=
  below_alloc (below_alloc ((Below.refl w.heap.size w).alloc (Nat.le_refl _) _) (Nat.le_refl _) _) (Nat.le_refl _) _
theorem box_st (w : World) (bo : Nat) (va vb : Value) : BoxSt w.heap.size bo va vb (boxW w bo va vb) := by
  have h1 := Blk.new w 74 #[tellV bo]
  have h2 := Blk.new (w.alloc (.cells #[tellV bo] 74)) 60 #[va]
  have h3 := Blk.new ((w.alloc (.cells #[tellV bo] 74)).alloc (.cells #[va] 60)) 60 #[vb]
  refine ⟨(h1.alloc _).alloc _, ?_, ?_⟩
  · have := h2.alloc (.cells #[vb] 60)
    simpa [boxW] using this
  · simpa [boxW] using h3
theorem ptr_ns (b : Nat) (w : World) : (binOp .eql 60 (.pointer none) (.pointer (some ⟨b, 0, none⟩))).run Try.prog w = .ok (.bool false) w := by
  have h : ∀ d : Nat, (Op.equalIn (d + 1) 60 (.pointer none) (.pointer (some ⟨b, 0, none⟩))).run Try.prog w = .ok false w := fun d => by
    simp [Op.equalIn, run_underlying Try.underlying60, sizeOf, typeInfo]
  simp only [binOp]
  simp [Op.equal, Op.maxDepth, h 9999]
theorem NodeOf.atk {w : World} {k g m : Nat} {lv : Int} {pre : List Nat} {es : List Ent} (h : NodeOf w k g lv pre es) (hl : lv < (m : Int)) : AtK m pre (addrOf pre m) (addrOf pre m + 1) es := by
  intro x hx
  have h1 := (h.info.2.2.2.2.1 x hx).2.2
  exact ⟨fun b hb => h1 b (by omega), by rw [h1 m hl]; omega, by rw [h1 m hl]; omega⟩
set_option maxHeartbeats 8000000 in
set_option maxRecDepth 100000 in
theorem df_clo1 {W : World} {s bo : Nat} {va vb kid : Value} {Q : Ending → World → Prop} (hB : BoxSt s bo va vb W) (hQ : ∀ e w', Q e w' → e = .returned (.tuple #[])) (H : Calls Try.prog 37 #[.agg #[tellV bo], kid, vb] W Q) :
    Calls Try.prog 66 #[kid, .pointer (some ⟨s, 0, none⟩), .pointer (some ⟨s + 1 + 1, 0, none⟩)] W Q := by
  obtain ⟨l0, a0, b0⟩ := hB.cells
  have HH := hide H
  have HQ := hide hQ
  clear hB H hQ
  generalize tellV bo = tv at *
  go_enter Try.func66, Try.ntmps66
  go_wp2_with fail
  refine HH.out.mono ?_
  rintro e w1 hq
  obtain rfl := HQ.out e w1 hq
  have HF := hide hq
  clear hq
  go_wp2
  go_end0
  exact HF.out
set_option maxHeartbeats 8000000 in
set_option maxRecDepth 100000 in
theorem df_clo2 {W : World} {s bo : Nat} {va vb kid : Value} {Q : Ending → World → Prop} (hB : BoxSt s bo va vb W) (hQ : ∀ e w', Q e w' → e = .returned (.tuple #[])) (H : Calls Try.prog 37 #[.agg #[tellV bo], va, kid] W Q) :
    Calls Try.prog 67 #[kid, .pointer (some ⟨s, 0, none⟩), .pointer (some ⟨s + 1, 0, none⟩)] W Q := by
  obtain ⟨l0, a0, b0⟩ := hB.cells
  have HH := hide H
  have HQ := hide hQ
  clear hB H hQ
  generalize tellV bo = tv at *
  go_enter Try.func67, Try.ntmps67
  go_wp2_with fail
  refine HH.out.mono ?_
  rintro e w1 hq
  obtain rfl := HQ.out e w1 hq
  have HF := hide hq
  clear hq
  go_wp2
  go_end0
  exact HF.out
set_option maxHeartbeats 8000000 in
set_option maxRecDepth 100000 in
theorem df_both_nn {w0 w : World} {k bo : Nat} {rows : List CR} (hC : ColC w0.heap.size w bo rows) (hb : Below w0.heap.size w0 w) :
    Calls Try.prog 37 #[.agg #[tellV bo], .pointer none, .pointer none] w (DfOut true w0 w k bo rows [] []) := by
  generalize htv : tellV bo = tv
  have HTV := hide htv
  have hbx := box_st w bo (.pointer none) (.pointer none)
  have hbb := box_below w bo (.pointer none) (.pointer none)
  unfold boxW at hbx hbb
  obtain ⟨l0, a0, b0⟩ := hbx.cells
  have HBX := hide hbx
  have HB := hide hbb
  have HC := hide hC
  have HBW := hide hb
  rw [htv] at hbx hbb l0 HBX HB
  clear hbx hbb hC hb htv
  have HF := hide (fun W (h : W = ((w.alloc (.cells #[tv] 74)).alloc (.cells #[.pointer none] 60)).alloc (.cells #[.pointer none] 60)) => show DfOut true w0 w k bo rows [] [] (.returned (.tuple #[])) W from by
    subst h
    exact ((DfSt.start HC.out HBW.out).stay HB.out).out)
  go_enter Try.func37, Try.ntmps37
  go_wp2
  go_end0
  exact HF.out _ rfl
set_option maxHeartbeats 8000000 in
set_option maxRecDepth 100000 in
theorem df_both_nl {w0 w : World} {k gb bo : Nat} {lb : Int} {pb : List Nat} {eb : List Ent} {rows : List CR} (hk : k ≤ 16) (hB : NodeOf w0 k gb lb pb eb) (hle : eb.length ≤ 60000) (hC : ColC w0.heap.size w bo rows) (hb : Below w0.heap.size w0 w) (hl : rows.length + eb.length ≤ 200000) :
    Calls Try.prog 37 #[.agg #[tellV bo], .pointer none, .pointer (some ⟨gb, 0, none⟩)] w (DfOut true w0 w k bo rows [] eb) := by
  generalize htv : tellV bo = tv
  have HTV := hide htv
  have hbx := box_st w bo (.pointer none) (.pointer (some ⟨gb, 0, none⟩))
  have hbb := box_below w bo (.pointer none) (.pointer (some ⟨gb, 0, none⟩))
  unfold boxW at hbx hbb
  obtain ⟨l0, a0, b0⟩ := hbx.cells
  have HBX := hide hbx
  have HB := hide hbb
  have HC := hide hC
  have HBW := hide hb
  rw [htv] at hbx hbb l0 HBX HB
  clear hbx hbb hC hb htv
  have hall := df_all (d := false) (bo := bo) hB hk (Col.below HC.out HB.out) (HBW.out.trans (HB.out.mono HBW.out.size)) hl (by omega)
  unfold asV at hall
  simp only [if_true, Bool.false_eq_true, if_false] at hall
  rw [HTV.out] at hall
  have HCON := hide hall
  have hns := ptr_ns
  clear hall hB hle hl
  go_enter Try.func37, Try.ntmps37
  go_wp2_with fail
  refine HCON.out.mono ?_
  rintro e we hde
  have HF := hide (DfOut.from_ hde.flip (KeepC.below HB.out))
  obtain ⟨rows9, rfl, -⟩ := hde
  clear HCON
  go_wp2
  go_end0
  exact HF.out
set_option maxHeartbeats 8000000 in
set_option maxRecDepth 100000 in
theorem df_both_nr {w0 w : World} {k ga bo : Nat} {la : Int} {pa : List Nat} {ea : List Ent} {rows : List CR} (hk : k ≤ 16) (hA : NodeOf w0 k ga la pa ea) (hle : ea.length ≤ 60000) (hC : ColC w0.heap.size w bo rows) (hb : Below w0.heap.size w0 w) (hl : rows.length + ea.length ≤ 200000) :
    Calls Try.prog 37 #[.agg #[tellV bo], .pointer (some ⟨ga, 0, none⟩), .pointer none] w (DfOut true w0 w k bo rows ea []) := by
  generalize htv : tellV bo = tv
  have HTV := hide htv
  have hbx := box_st w bo (.pointer (some ⟨ga, 0, none⟩)) (.pointer none)
  have hbb := box_below w bo (.pointer (some ⟨ga, 0, none⟩)) (.pointer none)
  unfold boxW at hbx hbb
  obtain ⟨l0, a0, b0⟩ := hbx.cells
  have HBX := hide hbx
  have HB := hide hbb
  have HC := hide hC
  have HBW := hide hb
  rw [htv] at hbx hbb l0 HBX HB
  clear hbx hbb hC hb htv
  have hall := df_all (d := true) (bo := bo) hA hk (Col.below HC.out HB.out) (HBW.out.trans (HB.out.mono HBW.out.size)) hl (by omega)
  unfold asV at hall
  simp only [if_true, Bool.false_eq_true, if_false] at hall
  rw [HTV.out] at hall
  have HCON := hide hall
  have hns := ptr_ns
  clear hall hA hle hl
  go_enter Try.func37, Try.ntmps37
  go_wp2_with fail
  refine HCON.out.mono ?_
  rintro e we hde
  have HF := hide (DfOut.from_ hde (KeepC.below HB.out))
  obtain ⟨rows9, rfl, -⟩ := hde
  clear HCON
  go_wp2
  go_end0
  exact HF.out
set_option maxHeartbeats 8000000 in
set_option maxRecDepth 100000 in
theorem df_both_same {w0 w : World} {k g bo : Nat} {es : List Ent} {rows : List CR} (hC : ColC w0.heap.size w bo rows) (hb : Below w0.heap.size w0 w) :
    Calls Try.prog 37 #[.agg #[tellV bo], .pointer (some ⟨g, 0, none⟩), .pointer (some ⟨g, 0, none⟩)] w (DfOut true w0 w k bo rows es es) := by
  generalize htv : tellV bo = tv
  have HTV := hide htv
  have hbx := box_st w bo (.pointer (some ⟨g, 0, none⟩)) (.pointer (some ⟨g, 0, none⟩))
  have hbb := box_below w bo (.pointer (some ⟨g, 0, none⟩)) (.pointer (some ⟨g, 0, none⟩))
  unfold boxW at hbx hbb
  obtain ⟨l0, a0, b0⟩ := hbx.cells
  have HBX := hide hbx
  have HB := hide hbb
  have HC := hide hC
  have HBW := hide hb
  rw [htv] at hbx hbb l0 HBX HB
  clear hbx hbb hC hb htv
  have HF := hide (fun W (h : W = ((w.alloc (.cells #[tv] 74)).alloc (.cells #[.pointer (some ⟨g, 0, none⟩)] 60)).alloc (.cells #[.pointer (some ⟨g, 0, none⟩)] 60)) => show DfOut true w0 w k bo rows es es (.returned (.tuple #[])) W from by
    subst h
    have h := (DfSt.start (d := true) (k := k) HC.out HBW.out).stay HB.out
    exact ⟨[], rfl, ⟨Chgs.same es, Nat.zero_le _, h.col, h.ok, h.keep, h.below⟩⟩)
  have hps := ptr_same ⟨g, 0, none⟩
  go_enter Try.func37, Try.ntmps37
  go_wp2
  go_end0
  exact HF.out _ rfl
set_option maxHeartbeats 8000000 in
set_option maxRecDepth 100000 in
theorem df_both_leaf {w0 w : World} {k va vb ga gb bo : Nat} {p : List Nat} {rows : List CR} (hk1 : 1 ≤ k) (hk : k ≤ 16) (hA : NodeOf w0 k ga (-1) p [(p, va)]) (hB : NodeOf w0 k gb (-1) p [(p, vb)]) (hC : ColC w0.heap.size w bo rows) (hb : Below w0.heap.size w0 w) (hl : rows.length ≤ 200000) (hgg : ga ≠ gb) :
    Calls Try.prog 37 #[.agg #[tellV bo], .pointer (some ⟨ga, 0, none⟩), .pointer (some ⟨gb, 0, none⟩)] w (DfOut true w0 w k bo rows [(p, va)] [(p, vb)]) := by
  have EC1 := hide (show decide (part p p ≤ (-1 : Int)) = true by rw [part_self hA.info.1]; rfl)
  obtain ⟨_, _, _, _, hna, -⟩ := hA.head
  obtain ⟨_, _, _, _, hnb, -⟩ := hB.head
  have HPO := hide (fun W (hW : Below w.heap.size w W) => ptr_other hgg ((hna.below hb).below hW) ((hnb.below hb).below hW))
  have hbx := box_st w bo (.pointer (some ⟨ga, 0, none⟩)) (.pointer (some ⟨gb, 0, none⟩))
  have hbb := box_below w bo (.pointer (some ⟨ga, 0, none⟩)) (.pointer (some ⟨gb, 0, none⟩))
  have HA := hide (hA.stay hb)
  have HBB := hide (hB.stay hb)
  have HA0 := hide hA
  have HB00 := hide hB
  have HC := hide hC
  have HBW := hide hb
  have HL := hide hl
  have HZA := hide hA.info.1
  have HZBB := hide hB.info.1
  have HSYM := hide (part_sym hA.info.1 hB.info.1)
  generalize htv : tellV bo = tv
  have HTV := hide htv
  have hmf : ∀ (fn : Fn) (first cap : Array Value) (w : World), (Instr.makeFunc fn first cap).run Try.prog w = .ok (.func fn first cap) w := fun _ _ _ _ => rfl
  obtain ⟨l0, a0, b0⟩ := hbx.cells
  rw [htv] at l0
  have hpo := HPO.out _ hbb
  unfold boxW at hbx hbb l0 a0 b0 hpo
  rw [htv] at hbx hbb l0 a0 b0 hpo
  clear htv hA hB hC hb hl
  go_enter Try.func37, Try.ntmps37
  go_upto_region 12 with fail
  generalize ((w.alloc (.cells #[tv] 74)).alloc (.cells #[.pointer (some ⟨ga, 0, none⟩)] 60)).alloc (.cells #[.pointer (some ⟨gb, 0, none⟩)] 60) = wb at *
  have HBX := hide hbx
  have HB := hide hbb
  clear hbx hbb l0 a0 b0 hpo
  obtain ⟨l0, a0, b0⟩ := HBX.out.cells
  rw [HTV.out] at l0
  have hd : Below w.heap.size w wb.drew := HB.out.drew
  have hqd : Below wb.heap.size wb wb.drew := (Below.refl _ _).drew
  have HCELL := hide (fun W (hW : Below wb.heap.size wb W) => (HBX.out.keep (KeepC.below hW)).cells)
  rw [HTV.out] at HCELL
  go_wp2_with fail
  go_region_held3 (fun w' => w'.cell? ⟨w.heap.size, 0, none⟩ = some tv ∧ w'.cell? ⟨w.heap.size + 1, 0, none⟩ = some (.pointer (some ⟨ga, 0, none⟩)) ∧ w'.cell? ⟨w.heap.size + 1 + 1, 0, none⟩ = some (.pointer (some ⟨gb, 0, none⟩)))
    (first
      | go_keep
      | exact HCELL.out _ hqd)
    (first
      | (go_at_call 60
         with_reducible refine (nd_level (HA.out.stay hd)).mono ?_
         rintro e wl ⟨rfl, rfl⟩)
      | (go_at_call 60
         with_reducible refine (nd_level (HBB.out.stay hd)).mono ?_
         rintro e wl ⟨rfl, rfl⟩)
      | (go_at_call 62
         refine (nd_prefix (HBB.out.stay hd) hk).mono ?_
         rintro e w20 ⟨v20, rfl, ho20, hb20⟩
         obtain ⟨A20, c20, rfl, hp20⟩ := Pt.of_own ho20 HZBB.out.1 HZBB.out.2
         have HP20 := hide hp20
         replace hd := below_then hd hb20
         replace hqd := hqd.trans (hb20.mono hqd.size)
         clear ho20 hb20 hp20)
      | (go_at_call 61
         have hcv := nd_covers (d := c20) (HA.out.stay hd) hk1 hk HP20.out
         rw [EC1.out] at hcv
         refine hcv.mono ?_
         clear hcv
         rintro e wc ⟨rfl, rfl⟩))
  replace HBX := hide (HBX.out.keep (KeepC.below hqd))
  replace HB := hide hd
  clear hd hqd HCELL l0 a0 b0
  have hcon := df_even_leaf hk HA0.out HB00.out (Col.below HC.out HB.out) (HBW.out.trans (HB.out.mono HBW.out.size)) HL.out
  rw [HTV.out] at hcon
  have HCON := hide hcon
  clear hcon
  obtain ⟨l0, a0, b0⟩ := HBX.out.cells
  rw [HTV.out] at l0
  go_wp2_with fail
  refine HCON.out.mono ?_
  rintro e we hde
  have HF := hide (DfOut.from_ hde (KeepC.below HB.out))
  obtain ⟨rows9, rfl, -⟩ := hde
  clear l0 a0 b0 HCON
  go_wp2
  go_end0
  exact HF.out
set_option maxHeartbeats 8000000 in
set_option maxRecDepth 100000 in
theorem df_both_even {w0 w : World} {k N ga gb bo : Nat} {pa pb : List Nat} {m : Nat} {ksa ksb : List Kid} {rows : List CR} (hk1 : 1 ≤ k) (hk : k ≤ 16) (hA : Fork w0 k ga m pa ksa) (hB : Fork w0 k gb m pb ksb) (hla : (kidEs ksa).length ≤ 60000) (hlb : (kidEs ksb).length ≤ 60000) (hC : ColC w0.heap.size w bo rows) (hb : Below w0.heap.size w0 w) (hl : rows.length + (kidEs ksa).length + (kidEs ksb).length ≤ 200000) (hgg : ga ≠ gb) (H : DfHyp w0 k N) (hN : (kidEs ksa).length + (kidEs ksb).length ≤ N) (hc : part pa pb ≤ (m : Int)) :
    Calls Try.prog 37 #[.agg #[tellV bo], .pointer (some ⟨ga, 0, none⟩), .pointer (some ⟨gb, 0, none⟩)] w (DfOut true w0 w k bo rows (kidEs ksa) (kidEs ksb)) := by
  have HFA := hide hA
  have HFB := hide hB
  have HIH := hide (And.intro H hN)
  have hag := hA.fk'.agree hB.node.info.1 hc
  have HAG := hide hag
  have EC1 := hide (show decide (part pa pb ≤ (m : Int)) = true by simpa using hc)
  have e1 : ((m : Int) == (m : Int)) = true := by simp
  replace hA := hA.node
  replace hB := hB.node
  obtain ⟨_, _, _, _, hna, -⟩ := hA.head
  obtain ⟨_, _, _, _, hnb, -⟩ := hB.head
  have HPO := hide (fun W (hW : Below w.heap.size w W) => ptr_other hgg ((hna.below hb).below hW) ((hnb.below hb).below hW))
  have hbx := box_st w bo (.pointer (some ⟨ga, 0, none⟩)) (.pointer (some ⟨gb, 0, none⟩))
  have hbb := box_below w bo (.pointer (some ⟨ga, 0, none⟩)) (.pointer (some ⟨gb, 0, none⟩))
  have HA := hide (hA.stay hb)
  have HBB := hide (hB.stay hb)
  have HA0 := hide hA
  have HB00 := hide hB
  have HC := hide hC
  have HBW := hide hb
  have HL := hide (And.intro hla (And.intro hlb hl))
  have HZA := hide hA.info.1
  have HZBB := hide hB.info.1
  have HSYM := hide (part_sym hA.info.1 hB.info.1)
  generalize htv : tellV bo = tv
  have HTV := hide htv
  have hmf : ∀ (fn : Fn) (first cap : Array Value) (w : World), (Instr.makeFunc fn first cap).run Try.prog w = .ok (.func fn first cap) w := fun _ _ _ _ => rfl
  obtain ⟨l0, a0, b0⟩ := hbx.cells
  rw [htv] at l0
  have hpo := HPO.out _ hbb
  unfold boxW at hbx hbb l0 a0 b0 hpo
  rw [htv] at hbx hbb l0 a0 b0 hpo
  clear htv hA hB hla hlb hC hb hl H hN hc hag
  go_enter Try.func37, Try.ntmps37
  go_upto_region 12 with fail
  generalize ((w.alloc (.cells #[tv] 74)).alloc (.cells #[.pointer (some ⟨ga, 0, none⟩)] 60)).alloc (.cells #[.pointer (some ⟨gb, 0, none⟩)] 60) = wb at *
  have HBX := hide hbx
  have HB := hide hbb
  clear hbx hbb l0 a0 b0 hpo
  obtain ⟨l0, a0, b0⟩ := HBX.out.cells
  rw [HTV.out] at l0
  have hd : Below w.heap.size w wb.drew := HB.out.drew
  have hqd : Below wb.heap.size wb wb.drew := (Below.refl _ _).drew
  have HCELL := hide (fun W (hW : Below wb.heap.size wb W) => (HBX.out.keep (KeepC.below hW)).cells)
  rw [HTV.out] at HCELL
  go_wp2_with fail
  go_region_held3 (fun w' => w'.cell? ⟨w.heap.size, 0, none⟩ = some tv ∧ w'.cell? ⟨w.heap.size + 1, 0, none⟩ = some (.pointer (some ⟨ga, 0, none⟩)) ∧ w'.cell? ⟨w.heap.size + 1 + 1, 0, none⟩ = some (.pointer (some ⟨gb, 0, none⟩)))
    (first
      | go_keep
      | exact HCELL.out _ hqd)
    (first
      | (go_at_call 60
         with_reducible refine (nd_level (HA.out.stay hd)).mono ?_
         rintro e wl ⟨rfl, rfl⟩)
      | (go_at_call 60
         with_reducible refine (nd_level (HBB.out.stay hd)).mono ?_
         rintro e wl ⟨rfl, rfl⟩)
      | (go_at_call 62
         refine (nd_prefix (HBB.out.stay hd) hk).mono ?_
         rintro e w20 ⟨v20, rfl, ho20, hb20⟩
         obtain ⟨A20, c20, rfl, hp20⟩ := Pt.of_own ho20 HZBB.out.1 HZBB.out.2
         have HP20 := hide hp20
         replace hd := below_then hd hb20
         replace hqd := hqd.trans (hb20.mono hqd.size)
         clear ho20 hb20 hp20)
      | (go_at_call 61
         have hcv := nd_covers (d := c20) (HA.out.stay hd) hk1 hk HP20.out
         rw [EC1.out] at hcv
         refine hcv.mono ?_
         clear hcv
         rintro e wc ⟨rfl, rfl⟩))
  replace HBX := hide (HBX.out.keep (KeepC.below hqd))
  replace HB := hide hd
  clear hd hqd HCELL l0 a0 b0
  have hcon := df_even hk HIH.out.1 HFA.out HFB.out HAG.out HIH.out.2 HL.out.1 HL.out.2.1 (Col.below HC.out HB.out) (HBW.out.trans (HB.out.mono HBW.out.size)) HL.out.2.2
  rw [HTV.out] at hcon
  have HCON := hide hcon
  clear hcon
  obtain ⟨l0, a0, b0⟩ := HBX.out.cells
  rw [HTV.out] at l0
  go_wp2_with fail
  refine HCON.out.mono ?_
  rintro e we hde
  have HF := hide (DfOut.from_ hde (KeepC.below HB.out))
  obtain ⟨rows9, rfl, -⟩ := hde
  clear l0 a0 b0 HCON
  go_wp2
  go_end0
  exact HF.out
theorem TopOk.kidF {w : World} {k g m : Nat} {pre : List Nat} {ks : List Kid} (h : Fork w k g m pre ks) (a : Nat) : TopOk w k (kidAt ks a) := by
  intro x hx
  obtain ⟨q, hq, _, rfl⟩ := kidAt_some hx
  exact (h.kid q hq).1
theorem kid_smallF {w : World} {k g m : Nat} {pre : List Nat} {ks : List Kid} (h : Fork w k g m pre ks) (a : Nat) : (esOf (kidAt ks a)).length < (kidEs ks).length := by
  cases hk : kidAt ks a with
  | none => exact List.length_pos_iff.2 h.node.info.2.1
  | some x =>
    obtain ⟨q, hq, _, rfl⟩ := kidAt_some hk
    exact kid_small h hq
set_option maxHeartbeats 8000000 in
set_option maxRecDepth 100000 in
theorem df_both_l {w0 w : World} {k N ga gb bo : Nat} {lb : Int} {pa pb : List Nat} {m : Nat} {ks : List Kid} {eb : List Ent} {rows : List CR} (hk1 : 1 ≤ k) (hk : k ≤ 16) (hA : Fork w0 k ga m pa ks) (hB : NodeOf w0 k gb lb pb eb) (hla : (kidEs ks).length ≤ 60000) (hlb : eb.length ≤ 60000) (hC : ColC w0.heap.size w bo rows) (hb : Below w0.heap.size w0 w) (hl : rows.length + (kidEs ks).length + eb.length ≤ 200000) (hgg : ga ≠ gb) (H : DfHyp w0 k N) (hN : (kidEs ks).length + eb.length ≤ N) (hl2 : lb < (m : Int)) (hc : part pa pb ≤ (m : Int)) :
    Calls Try.prog 37 #[.agg #[tellV bo], .pointer (some ⟨ga, 0, none⟩), .pointer (some ⟨gb, 0, none⟩)] w (DfOut true w0 w k bo rows (kidEs ks) eb) := by
  have HFA := hide hA
  have HIH := hide (And.intro H hN)
  have hm64 := hA.lv
  have hz := hB.info.1
  have HA16 := hide (pow_le_16 (addr_lt_pow hz m) hk)
  have HEO := hide (show AtK m pa (addrOf pb m) (addrOf pb m + 1) eb from (hB.atk hl2).zag (hA.fk'.agree hz hc))
  have EC1 := hide (show decide (part pa pb ≤ (m : Int)) = true by simpa using hc)
  have e1 : ((m : Int) == lb) = false := by simp; omega
  have e2 : decide (lb < (m : Int)) = true := by simpa using hl2
  replace hA := hA.node
  obtain ⟨_, _, _, _, hna, -⟩ := hA.head
  obtain ⟨_, _, _, _, hnb, -⟩ := hB.head
  have HPO := hide (fun W (hW : Below w.heap.size w W) => ptr_other hgg ((hna.below hb).below hW) ((hnb.below hb).below hW))
  have hbx := box_st w bo (.pointer (some ⟨ga, 0, none⟩)) (.pointer (some ⟨gb, 0, none⟩))
  have hbb := box_below w bo (.pointer (some ⟨ga, 0, none⟩)) (.pointer (some ⟨gb, 0, none⟩))
  have HA := hide (hA.stay hb)
  have HBB := hide (hB.stay hb)
  have HA0 := hide hA
  have HB00 := hide hB
  have HC := hide hC
  have HBW := hide hb
  have HL := hide (And.intro hla (And.intro hlb hl))
  have HZA := hide hA.info.1
  have HZBB := hide hB.info.1
  have HSYM := hide (part_sym hA.info.1 hB.info.1)
  generalize htv : tellV bo = tv
  have HTV := hide htv
  have hmf : ∀ (fn : Fn) (first cap : Array Value) (w : World), (Instr.makeFunc fn first cap).run Try.prog w = .ok (.func fn first cap) w := fun _ _ _ _ => rfl
  obtain ⟨l0, a0, b0⟩ := hbx.cells
  rw [htv] at l0
  have hpo := HPO.out _ hbb
  unfold boxW at hbx hbb l0 a0 b0 hpo
  rw [htv] at hbx hbb l0 a0 b0 hpo
  clear htv hA hB hla hlb hC hb hl H hN hl2 hc hz
  go_enter Try.func37, Try.ntmps37
  go_upto_region 12 with fail
  generalize ((w.alloc (.cells #[tv] 74)).alloc (.cells #[.pointer (some ⟨ga, 0, none⟩)] 60)).alloc (.cells #[.pointer (some ⟨gb, 0, none⟩)] 60) = wb at *
  have HBX := hide hbx
  have HB := hide hbb
  clear hbx hbb l0 a0 b0 hpo
  obtain ⟨l0, a0, b0⟩ := HBX.out.cells
  rw [HTV.out] at l0
  go_wp2_with fail
  go_quiet ((first
      | (go_at_call 60
         exact Calls.quiet_of_same (still_of (nd_level (HA.out.stay (below_drewN HB.out _)))))
      | (go_at_call 60
         exact Calls.quiet_of_same (still_of (nd_level (HBB.out.stay (below_drewN HB.out _)))))))
  rename Nat => nq
  replace HBX := hide (HBX.out.keep (KeepC.below (below_drewN (Below.refl _ _) nq)))
  replace HB := hide (below_drewN HB.out nq)
  clear l0 a0 b0
  generalize wb.drewN nq = wq10 at *
  obtain ⟨l0, a0, b0⟩ := HBX.out.cells
  rw [HTV.out] at l0
  have hd : Below w.heap.size w wq10.drew := HB.out.drew
  have hqd : Below wq10.heap.size wq10 wq10.drew := (Below.refl _ _).drew
  have HCELL := hide (fun W (hW : Below wq10.heap.size wq10 W) => (HBX.out.keep (KeepC.below hW)).cells)
  rw [HTV.out] at HCELL
  go_wp2_with fail
  go_region_held3 (fun w' => w'.cell? ⟨w.heap.size, 0, none⟩ = some tv ∧ w'.cell? ⟨w.heap.size + 1, 0, none⟩ = some (.pointer (some ⟨ga, 0, none⟩)) ∧ w'.cell? ⟨w.heap.size + 1 + 1, 0, none⟩ = some (.pointer (some ⟨gb, 0, none⟩)))
    (first
      | go_keep
      | exact HCELL.out _ hqd)
    (first
      | (go_at_call 60
         with_reducible refine (nd_level (HA.out.stay hd)).mono ?_
         rintro e wl ⟨rfl, rfl⟩)
      | (go_at_call 60
         with_reducible refine (nd_level (HBB.out.stay hd)).mono ?_
         rintro e wl ⟨rfl, rfl⟩)
      | (go_at_call 62
         refine (nd_prefix (HBB.out.stay hd) hk).mono ?_
         rintro e w20 ⟨v20, rfl, ho20, hb20⟩
         obtain ⟨A20, c20, rfl, hp20⟩ := Pt.of_own ho20 HZBB.out.1 HZBB.out.2
         have HP20 := hide hp20
         replace hd := below_then hd hb20
         replace hqd := hqd.trans (hb20.mono hqd.size)
         clear ho20 hb20 hp20)
      | (go_at_call 61
         have hcv := nd_covers (d := c20) (HA.out.stay hd) hk1 hk HP20.out
         rw [EC1.out] at hcv
         refine hcv.mono ?_
         clear hcv
         rintro e wc ⟨rfl, rfl⟩))
  replace HBX := hide (HBX.out.keep (KeepC.below hqd))
  replace HB := hide hd
  clear hd hqd HCELL l0 a0 b0
  obtain ⟨l0, a0, b0⟩ := HBX.out.cells
  rw [HTV.out] at l0
  have hd : Below w.heap.size w w20.drew := HB.out.drew
  have hqd : Below w20.heap.size w20 w20.drew := (Below.refl _ _).drew
  have HCELL := hide (fun W (hW : Below w20.heap.size w20 W) => (HBX.out.keep (KeepC.below hW)).cells)
  rw [HTV.out] at HCELL
  go_wp2_with fail
  go_region_held3 (fun w' => w'.cell? ⟨w.heap.size, 0, none⟩ = some tv ∧ w'.cell? ⟨w.heap.size + 1, 0, none⟩ = some (.pointer (some ⟨ga, 0, none⟩)) ∧ w'.cell? ⟨w.heap.size + 1 + 1, 0, none⟩ = some (.pointer (some ⟨gb, 0, none⟩)))
    (first
      | go_keep
      | exact HCELL.out _ hqd)
    (first
      | (go_at_call 62
         refine (nd_prefix (HBB.out.stay hd) hk).mono ?_
         rintro e w22 ⟨v22, rfl, ho22, hb22⟩
         obtain ⟨A22, c22, rfl, hp22⟩ := Pt.of_own ho22 HZBB.out.1 HZBB.out.2
         have HP22 := hide hp22
         replace hd := below_then hd hb22
         replace hqd := hqd.trans (hb22.mono hqd.size)
         clear ho22 hb22 hp22)
      | (go_at_call 60
         with_reducible refine (nd_level (HA.out.stay hd)).mono ?_
         rintro e wl ⟨rfl, rfl⟩)
      | (go_at_call 64
         refine (zb_addr A22 k pb c22 m _ HP22.out hk1 hk hm64).mono ?_
         rintro e wx ⟨rfl, rfl⟩))
  replace HBX := hide (HBX.out.keep (KeepC.below hqd))
  replace HB := hide hd
  clear hd hqd HCELL l0 a0 b0
  have hcon := df_beside (d := true) (f := 66) (p1 := .pointer (some ⟨w.heap.size, 0, none⟩)) (p2 := .pointer (some ⟨w.heap.size + 1 + 1, 0, none⟩)) HFA.out hk HA16.out HEO.out (Col.below HC.out HB.out) (HBW.out.trans (HB.out.mono HBW.out.size)) (by have := HL.out; omega) (by have := HL.out; omega) (fun _ _ => by kernel_rfl)
    (fun W rows1 hcW hbW hkW hlW => df_clo1 (kid := ptrOf (kidAt ks (addrOf pb m))) (HBX.out.keep hkW) (fun e w' h => h.choose_spec.1) (HIH.out.1 W bo rows1 (kidAt ks (addrOf pb m)) (some (gb, ⟨lb, pb, eb⟩)) (by have := kid_smallF HFA.out (addrOf pb m); have := HIH.out.2; have h3 : (esOf (some ((gb, ⟨lb, pb, eb⟩) : Nat × NT))).length = eb.length := rfl; omega) (TopOk.kidF HFA.out _) (fun x hx => by injection hx with hx; subst hx; exact HB00.out) (by have := kid_smallF HFA.out (addrOf pb m); have := HL.out; have h3 : (esOf (some ((gb, ⟨lb, pb, eb⟩) : Nat × NT))).length = eb.length := rfl; omega) (by have := kid_smallF HFA.out (addrOf pb m); have := HL.out; have h3 : (esOf (some ((gb, ⟨lb, pb, eb⟩) : Nat × NT))).length = eb.length := rfl; omega) hcW hbW (by have h3 : (esOf (some ((gb, ⟨lb, pb, eb⟩) : Nat × NT))).length = eb.length := rfl; omega)))
  unfold asV at hcon
  simp only [if_true, Bool.false_eq_true, if_false] at hcon
  rw [HTV.out] at hcon
  have HCON := hide hcon
  clear hcon
  obtain ⟨l0, a0, b0⟩ := HBX.out.cells
  rw [HTV.out] at l0
  go_wp2_with fail
  refine HCON.out.mono ?_
  rintro e we hde
  have HF := hide (DfOut.from_ hde (KeepC.below HB.out))
  obtain ⟨rows9, rfl, -⟩ := hde
  clear l0 a0 b0 HCON
  go_wp2
  go_end0
  exact HF.out
set_option maxHeartbeats 8000000 in
set_option maxRecDepth 100000 in
theorem df_both_r {w0 w : World} {k N ga gb bo : Nat} {la : Int} {pa pb : List Nat} {m : Nat} {ea : List Ent} {ks : List Kid} {rows : List CR} (hk1 : 1 ≤ k) (hk : k ≤ 16) (hA : NodeOf w0 k ga la pa ea) (hB : Fork w0 k gb m pb ks) (hla : ea.length ≤ 60000) (hlb : (kidEs ks).length ≤ 60000) (hC : ColC w0.heap.size w bo rows) (hb : Below w0.heap.size w0 w) (hl : rows.length + ea.length + (kidEs ks).length ≤ 200000) (hgg : ga ≠ gb) (H : DfHyp w0 k N) (hN : ea.length + (kidEs ks).length ≤ N) (hl2 : la < (m : Int)) (hc : part pb pa ≤ (m : Int)) :
    Calls Try.prog 37 #[.agg #[tellV bo], .pointer (some ⟨ga, 0, none⟩), .pointer (some ⟨gb, 0, none⟩)] w (DfOut true w0 w k bo rows ea (kidEs ks)) := by
  have HFB := hide hB
  have HIH := hide (And.intro H hN)
  have hm64 := hB.lv
  have hz := hA.info.1
  have HA16 := hide (pow_le_16 (addr_lt_pow hz m) hk)
  have HEO := hide (show AtK m pb (addrOf pa m) (addrOf pa m + 1) ea from (hA.atk hl2).zag (hB.fk'.agree hz hc))
  have EC1 := hide (show decide (part pb pa ≤ (m : Int)) = true by simpa using hc)
  have e1 : (la == (m : Int)) = false := by simp; omega
  have e2 : decide ((m : Int) < la) = false := by simp; omega
  have e3 : decide (la < (m : Int)) = true := by simpa using hl2
  replace hB := hB.node
  obtain ⟨_, _, _, _, hna, -⟩ := hA.head
  obtain ⟨_, _, _, _, hnb, -⟩ := hB.head
  have HPO := hide (fun W (hW : Below w.heap.size w W) => ptr_other hgg ((hna.below hb).below hW) ((hnb.below hb).below hW))
  have hbx := box_st w bo (.pointer (some ⟨ga, 0, none⟩)) (.pointer (some ⟨gb, 0, none⟩))
  have hbb := box_below w bo (.pointer (some ⟨ga, 0, none⟩)) (.pointer (some ⟨gb, 0, none⟩))
  have HA := hide (hA.stay hb)
  have HBB := hide (hB.stay hb)
  have HA0 := hide hA
  have HB00 := hide hB
  have HC := hide hC
  have HBW := hide hb
  have HL := hide (And.intro hla (And.intro hlb hl))
  have HZA := hide hA.info.1
  have HZBB := hide hB.info.1
  have HSYM := hide (part_sym hA.info.1 hB.info.1)
  generalize htv : tellV bo = tv
  have HTV := hide htv
  have hmf : ∀ (fn : Fn) (first cap : Array Value) (w : World), (Instr.makeFunc fn first cap).run Try.prog w = .ok (.func fn first cap) w := fun _ _ _ _ => rfl
  obtain ⟨l0, a0, b0⟩ := hbx.cells
  rw [htv] at l0
  have hpo := HPO.out _ hbb
  unfold boxW at hbx hbb l0 a0 b0 hpo
  rw [htv] at hbx hbb l0 a0 b0 hpo
  clear htv hA hB hla hlb hC hb hl H hN hl2 hc hz
  go_enter Try.func37, Try.ntmps37
  go_upto_region 12 with fail
  generalize ((w.alloc (.cells #[tv] 74)).alloc (.cells #[.pointer (some ⟨ga, 0, none⟩)] 60)).alloc (.cells #[.pointer (some ⟨gb, 0, none⟩)] 60) = wb at *
  have HBX := hide hbx
  have HB := hide hbb
  clear hbx hbb l0 a0 b0 hpo
  obtain ⟨l0, a0, b0⟩ := HBX.out.cells
  rw [HTV.out] at l0
  go_wp2_with fail
  go_quiet ((first
      | (go_at_call 60
         exact Calls.quiet_of_same (still_of (nd_level (HA.out.stay (below_drewN HB.out _)))))
      | (go_at_call 60
         exact Calls.quiet_of_same (still_of (nd_level (HBB.out.stay (below_drewN HB.out _)))))))
  rename Nat => nq
  replace HBX := hide (HBX.out.keep (KeepC.below (below_drewN (Below.refl _ _) nq)))
  replace HB := hide (below_drewN HB.out nq)
  clear l0 a0 b0
  generalize wb.drewN nq = wq10 at *
  obtain ⟨l0, a0, b0⟩ := HBX.out.cells
  rw [HTV.out] at l0
  go_wp2_with fail
  go_quiet ((first
      | (go_at_call 60
         exact Calls.quiet_of_same (still_of (nd_level (HA.out.stay (below_drewN HB.out _)))))
      | (go_at_call 60
         exact Calls.quiet_of_same (still_of (nd_level (HBB.out.stay (below_drewN HB.out _)))))))
  rename Nat => nq
  replace HBX := hide (HBX.out.keep (KeepC.below (below_drewN (Below.refl _ _) nq)))
  replace HB := hide (below_drewN HB.out nq)
  clear l0 a0 b0
  generalize wq10.drewN nq = wq11 at *
  obtain ⟨l0, a0, b0⟩ := HBX.out.cells
  rw [HTV.out] at l0
  have hd : Below w.heap.size w wq11.drew := HB.out.drew
  have hqd : Below wq11.heap.size wq11 wq11.drew := (Below.refl _ _).drew
  have HCELL := hide (fun W (hW : Below wq11.heap.size wq11 W) => (HBX.out.keep (KeepC.below hW)).cells)
  rw [HTV.out] at HCELL
  go_wp2_with fail
  go_region_held3 (fun w' => w'.cell? ⟨w.heap.size, 0, none⟩ = some tv ∧ w'.cell? ⟨w.heap.size + 1, 0, none⟩ = some (.pointer (some ⟨ga, 0, none⟩)) ∧ w'.cell? ⟨w.heap.size + 1 + 1, 0, none⟩ = some (.pointer (some ⟨gb, 0, none⟩)))
    (first
      | go_keep
      | exact HCELL.out _ hqd)
    (first
      | (go_at_call 60
         with_reducible refine (nd_level (HA.out.stay hd)).mono ?_
         rintro e wl ⟨rfl, rfl⟩)
      | (go_at_call 60
         with_reducible refine (nd_level (HBB.out.stay hd)).mono ?_
         rintro e wl ⟨rfl, rfl⟩)
      | (go_at_call 62
         refine (nd_prefix (HA.out.stay hd) hk).mono ?_
         rintro e w20 ⟨v20, rfl, ho20, hb20⟩
         obtain ⟨A20, c20, rfl, hp20⟩ := Pt.of_own ho20 HZA.out.1 HZA.out.2
         have HP20 := hide hp20
         replace hd := below_then hd hb20
         replace hqd := hqd.trans (hb20.mono hqd.size)
         clear ho20 hb20 hp20)
      | (go_at_call 61
         have hcv := nd_covers (d := c20) (HBB.out.stay hd) hk1 hk HP20.out
         rw [EC1.out] at hcv
         refine hcv.mono ?_
         clear hcv
         rintro e wc ⟨rfl, rfl⟩))
  replace HBX := hide (HBX.out.keep (KeepC.below hqd))
  replace HB := hide hd
  clear hd hqd HCELL l0 a0 b0
  obtain ⟨l0, a0, b0⟩ := HBX.out.cells
  rw [HTV.out] at l0
  have hd : Below w.heap.size w w20.drew := HB.out.drew
  have hqd : Below w20.heap.size w20 w20.drew := (Below.refl _ _).drew
  have HCELL := hide (fun W (hW : Below w20.heap.size w20 W) => (HBX.out.keep (KeepC.below hW)).cells)
  rw [HTV.out] at HCELL
  go_wp2_with fail
  go_region_held3 (fun w' => w'.cell? ⟨w.heap.size, 0, none⟩ = some tv ∧ w'.cell? ⟨w.heap.size + 1, 0, none⟩ = some (.pointer (some ⟨ga, 0, none⟩)) ∧ w'.cell? ⟨w.heap.size + 1 + 1, 0, none⟩ = some (.pointer (some ⟨gb, 0, none⟩)))
    (first
      | go_keep
      | exact HCELL.out _ hqd)
    (first
      | (go_at_call 62
         refine (nd_prefix (HA.out.stay hd) hk).mono ?_
         rintro e w22 ⟨v22, rfl, ho22, hb22⟩
         obtain ⟨A22, c22, rfl, hp22⟩ := Pt.of_own ho22 HZA.out.1 HZA.out.2
         have HP22 := hide hp22
         replace hd := below_then hd hb22
         replace hqd := hqd.trans (hb22.mono hqd.size)
         clear ho22 hb22 hp22)
      | (go_at_call 60
         with_reducible refine (nd_level (HBB.out.stay hd)).mono ?_
         rintro e wl ⟨rfl, rfl⟩)
      | (go_at_call 64
         refine (zb_addr A22 k pa c22 m _ HP22.out hk1 hk hm64).mono ?_
         rintro e wx ⟨rfl, rfl⟩))
  replace HBX := hide (HBX.out.keep (KeepC.below hqd))
  replace HB := hide hd
  clear hd hqd HCELL l0 a0 b0
  have hcon := df_beside (d := false) (f := 67) (p1 := .pointer (some ⟨w.heap.size, 0, none⟩)) (p2 := .pointer (some ⟨w.heap.size + 1, 0, none⟩)) HFB.out hk HA16.out HEO.out (Col.below HC.out HB.out) (HBW.out.trans (HB.out.mono HBW.out.size)) (by have := HL.out; omega) (by have := HL.out; omega) (fun _ _ => by kernel_rfl)
    (fun W rows1 hcW hbW hkW hlW => df_clo2 (kid := ptrOf (kidAt ks (addrOf pa m))) (HBX.out.keep hkW) (fun e w' h => h.choose_spec.1) (Calls.mono (HIH.out.1 W bo rows1 (some (ga, ⟨la, pa, ea⟩)) (kidAt ks (addrOf pa m)) (by have := kid_smallF HFB.out (addrOf pa m); have := HIH.out.2; have h3 : (esOf (some ((ga, ⟨la, pa, ea⟩) : Nat × NT))).length = ea.length := rfl; omega) (fun x hx => by injection hx with hx; subst hx; exact HA0.out) (TopOk.kidF HFB.out _) (by have := kid_smallF HFB.out (addrOf pa m); have := HL.out; have h3 : (esOf (some ((ga, ⟨la, pa, ea⟩) : Nat × NT))).length = ea.length := rfl; omega) (by have := kid_smallF HFB.out (addrOf pa m); have := HL.out; have h3 : (esOf (some ((ga, ⟨la, pa, ea⟩) : Nat × NT))).length = ea.length := rfl; omega) hcW hbW (by have h3 : (esOf (some ((ga, ⟨la, pa, ea⟩) : Nat × NT))).length = ea.length := rfl; omega)) fun e w' h => h.flip))
  unfold asV at hcon
  simp only [if_true, Bool.false_eq_true, if_false] at hcon
  rw [HTV.out] at hcon
  have HCON := hide hcon
  clear hcon
  obtain ⟨l0, a0, b0⟩ := HBX.out.cells
  rw [HTV.out] at l0
  go_wp2_with fail
  refine HCON.out.mono ?_
  rintro e we hde
  have HF := hide (DfOut.from_ hde.flip (KeepC.below HB.out))
  obtain ⟨rows9, rfl, -⟩ := hde
  clear l0 a0 b0 HCON
  go_wp2
  go_end0
  exact HF.out
end Go.Proofs.Ytfkpanpageeklaa
