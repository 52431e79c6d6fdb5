/- PastMoves: contracts and plain laws that the statement leans on (DfF DfG DfH PsD R12s PsE RwN). No condition. -/
import Derived.Test.YtghnpflaafdcdaaGreatPPastMoves6
set_option linter.unusedSimpArgs false
set_option linter.unusedVariables false
namespace Go.Proofs.YtghnpflaafdcdaaGreat
open Go.RowKit
/-- The three boxes of a walk through two nodes. -/
structure BoxSt (s bo : Nat) (va vb : Value) (W : World) : Prop where
  l : Blk W s 110 #[tellV bo]
  a : Blk W (s + 1) 82 #[va]
  b : Blk W (s + 1 + 1) 82 #[vb]
section
variable {s bo : Nat} {va vb : Value} {W W' : World}
theorem BoxSt.keep (h : BoxSt s bo va vb W) (hk : KeepC W W') : BoxSt s bo va vb W' := ⟨h.l.keep (hk _ (by decide) (by decide)), h.a.keep (hk _ (by decide) (by decide)), h.b.keep (hk _ (by decide) (by decide))⟩
theorem BoxSt.cells (h : BoxSt s bo va vb W) : W.cell? ⟨s, 0, none⟩ = some (tellV bo) ∧ W.cell? ⟨s + 1, 0, none⟩ = some va ∧ W.cell? ⟨s + 1 + 1, 0, none⟩ = some vb := ⟨h.l.cell 0, h.a.cell 0, h.b.cell 0⟩
end
def boxW (w : World) (bo : Nat) (va vb : Value) : World := ((w.alloc (.cells #[tellV bo] 110)).alloc (.cells #[va] 82)).alloc (.cells #[vb] 82)
theorem box_below (w : World) (bo : Nat) (va vb : Value) : Below w.heap.size w (boxW w bo va vb) :=
  below_alloc (below_alloc ((Below.refl w.heap.size w).alloc (Nat.le_refl _) _) (Nat.le_refl _) _) (Nat.le_refl _) _
theorem box_st (w : World) (bo : Nat) (va vb : Value) : BoxSt w.heap.size bo va vb (boxW w bo va vb) := by
  have h1 := Blk.new w 110 #[tellV bo]
  have h2 := Blk.new (w.alloc (.cells #[tellV bo] 110)) 82 #[va]
  have h3 := Blk.new ((w.alloc (.cells #[tellV bo] 110)).alloc (.cells #[va] 82)) 82 #[vb]
  refine ⟨(h1.alloc _).alloc _, ?_, ?_⟩
  · have := h2.alloc (.cells #[vb] 82)
    simpa [boxW] using this
  · simpa [boxW] using h3
theorem ptr_ns (b : Nat) (w : World) : (binOp .eql 82 (.pointer none) (.pointer (some ⟨b, 0, none⟩))).run Tryz.prog w = .ok (.bool false) w := by
  have h : ∀ d : Nat, (Op.equalIn (d + 1) 82 (.pointer none) (.pointer (some ⟨b, 0, none⟩))).run Tryz.prog w = .ok false w := fun d => by
    simp [Op.equalIn, run_underlying Tryz.underlying82, sizeOf, typeInfo]
  simp only [binOp]
  simp [Op.equal, Op.maxDepth, h 9999]
theorem NodeOf.atk {w : World} {k g m : Nat} {lv : Int} {pre : List Nat} {es : List Ent} (h : NodeOf w k g lv pre es) (hl : lv < (m : Int)) : AtK m pre (addrOf pre m) (addrOf pre m + 1) es := by
  intro x hx
  have h1 := (h.info.2.2.2.2.1 x hx).2.2
  exact ⟨fun b hb => h1 b (by omega), by rw [h1 m hl]; omega, by rw [h1 m hl]; omega⟩
set_option maxHeartbeats 8000000 in
set_option maxRecDepth 100000 in
theorem df_clo1 {W : World} {s bo : Nat} {va vb kid : Value} {Q : Ending → World → Prop} (hB : BoxSt s bo va vb W) (hQ : ∀ e w', Q e w' → e = .returned (.tuple #[])) (H : Calls Tryz.prog 56 #[.agg #[tellV bo], kid, vb] W Q) :
    Calls Tryz.prog 87 #[kid, .pointer (some ⟨s, 0, none⟩), .pointer (some ⟨s + 1 + 1, 0, none⟩)] W Q := by
  obtain ⟨l0, a0, b0⟩ := hB.cells
  have HH := hide H
  have HQ := hide hQ
  clear hB H hQ
  generalize tellV bo = tv at *
  go_enter Tryz.func87, Tryz.ntmps87
  go_wp2_with fail
  refine HH.out.mono ?_
  rintro e w1 hq
  obtain rfl := HQ.out e w1 hq
  have HF := hide hq
  clear hq
  go_wp2
  go_end0
  exact HF.out
set_option maxHeartbeats 8000000 in
set_option maxRecDepth 100000 in
theorem df_clo2 {W : World} {s bo : Nat} {va vb kid : Value} {Q : Ending → World → Prop} (hB : BoxSt s bo va vb W) (hQ : ∀ e w', Q e w' → e = .returned (.tuple #[])) (H : Calls Tryz.prog 56 #[.agg #[tellV bo], va, kid] W Q) :
    Calls Tryz.prog 88 #[kid, .pointer (some ⟨s, 0, none⟩), .pointer (some ⟨s + 1, 0, none⟩)] W Q := by
  obtain ⟨l0, a0, b0⟩ := hB.cells
  have HH := hide H
  have HQ := hide hQ
  clear hB H hQ
  generalize tellV bo = tv at *
  go_enter Tryz.func88, Tryz.ntmps88
  go_wp2_with fail
  refine HH.out.mono ?_
  rintro e w1 hq
  obtain rfl := HQ.out e w1 hq
  have HF := hide hq
  clear hq
  go_wp2
  go_end0
  exact HF.out
set_option maxHeartbeats 8000000 in
set_option maxRecDepth 100000 in
theorem df_both_nn {w0 w : World} {k bo : Nat} {rows : List CR} (hC : ColC w0.heap.size w bo rows) (hb : Below w0.heap.size w0 w) :
    Calls Tryz.prog 56 #[.agg #[tellV bo], .pointer none, .pointer none] w (DfOut true w0 w k bo rows [] []) := by
  generalize htv : tellV bo = tv
  have HTV := hide htv
  have hbx := box_st w bo (.pointer none) (.pointer none)
  have hbb := box_below w bo (.pointer none) (.pointer none)
  unfold boxW at hbx hbb
  obtain ⟨l0, a0, b0⟩ := hbx.cells
  have HBX := hide hbx
  have HB := hide hbb
  have HC := hide hC
  have HBW := hide hb
  rw [htv] at hbx hbb l0 HBX HB
  clear hbx hbb hC hb htv
  have HF := hide (fun W (h : W = ((w.alloc (.cells #[tv] 110)).alloc (.cells #[.pointer none] 82)).alloc (.cells #[.pointer none] 82)) => show DfOut true w0 w k bo rows [] [] (.returned (.tuple #[])) W from by
    subst h
    exact ((DfSt.start HC.out HBW.out).stay HB.out).out)
  go_enter Tryz.func56, Tryz.ntmps56
  go_wp2
  go_end0
  exact HF.out _ rfl
set_option maxHeartbeats 8000000 in
set_option maxRecDepth 100000 in
theorem df_both_nl {w0 w : World} {k gb bo : Nat} {lb : Int} {pb : List Nat} {eb : List Ent} {rows : List CR} (hk : k ≤ 16) (hB : NodeOf w0 k gb lb pb eb) (hle : eb.length ≤ 60000) (hC : ColC w0.heap.size w bo rows) (hb : Below w0.heap.size w0 w) (hl : rows.length + eb.length ≤ 200000) :
    Calls Tryz.prog 56 #[.agg #[tellV bo], .pointer none, .pointer (some ⟨gb, 0, none⟩)] w (DfOut true w0 w k bo rows [] eb) := by
  generalize htv : tellV bo = tv
  have HTV := hide htv
  have hbx := box_st w bo (.pointer none) (.pointer (some ⟨gb, 0, none⟩))
  have hbb := box_below w bo (.pointer none) (.pointer (some ⟨gb, 0, none⟩))
  unfold boxW at hbx hbb
  obtain ⟨l0, a0, b0⟩ := hbx.cells
  have HBX := hide hbx
  have HB := hide hbb
  have HC := hide hC
  have HBW := hide hb
  rw [htv] at hbx hbb l0 HBX HB
  clear hbx hbb hC hb htv
  have hall := df_all (d := false) (bo := bo) hB hk (Col.below HC.out HB.out) (HBW.out.trans (HB.out.mono HBW.out.size)) hl (by omega)
  unfold asV at hall
  simp only [if_true, Bool.false_eq_true, if_false] at hall
  rw [HTV.out] at hall
  have HCON := hide hall
  have hns := ptr_ns
  clear hall hB hle hl
  go_enter Tryz.func56, Tryz.ntmps56
  go_wp2_with fail
  refine HCON.out.mono ?_
  rintro e we hde
  have HF := hide (DfOut.from_ hde.flip (KeepC.below HB.out))
  obtain ⟨rows9, rfl, -⟩ := hde
  clear HCON
  go_wp2
  go_end0
  exact HF.out
set_option maxHeartbeats 8000000 in
set_option maxRecDepth 100000 in
theorem df_both_nr {w0 w : World} {k ga bo : Nat} {la : Int} {pa : List Nat} {ea : List Ent} {rows : List CR} (hk : k ≤ 16) (hA : NodeOf w0 k ga la pa ea) (hle : ea.length ≤ 60000) (hC : ColC w0.heap.size w bo rows) (hb : Below w0.heap.size w0 w) (hl : rows.length + ea.length ≤ 200000) :
    Calls Tryz.prog 56 #[.agg #[tellV bo], .pointer (some ⟨ga, 0, none⟩), .pointer none] w (DfOut true w0 w k bo rows ea []) := by
  generalize htv : tellV bo = tv
  have HTV := hide htv
  have hbx := box_st w bo (.pointer (some ⟨ga, 0, none⟩)) (.pointer none)
  have hbb := box_below w bo (.pointer (some ⟨ga, 0, none⟩)) (.pointer none)
  unfold boxW at hbx hbb
  obtain ⟨l0, a0, b0⟩ := hbx.cells
  have HBX := hide hbx
  have HB := hide hbb
  have HC := hide hC
  have HBW := hide hb
  rw [htv] at hbx hbb l0 HBX HB
  clear hbx hbb hC hb htv
  have hall := df_all (d := true) (bo := bo) hA hk (Col.below HC.out HB.out) (HBW.out.trans (HB.out.mono HBW.out.size)) hl (by omega)
  unfold asV at hall
  simp only [if_true, Bool.false_eq_true, if_false] at hall
  rw [HTV.out] at hall
  have HCON := hide hall
  have hns := ptr_ns
  clear hall hA hle hl
  go_enter Tryz.func56, Tryz.ntmps56
  go_wp2_with fail
  refine HCON.out.mono ?_
  rintro e we hde
  have HF := hide (DfOut.from_ hde (KeepC.below HB.out))
  obtain ⟨rows9, rfl, -⟩ := hde
  clear HCON
  go_wp2
  go_end0
  exact HF.out
set_option maxHeartbeats 8000000 in
set_option maxRecDepth 100000 in
theorem df_both_same {w0 w : World} {k g bo : Nat} {es : List Ent} {rows : List CR} (hC : ColC w0.heap.size w bo rows) (hb : Below w0.heap.size w0 w) :
    Calls Tryz.prog 56 #[.agg #[tellV bo], .pointer (some ⟨g, 0, none⟩), .pointer (some ⟨g, 0, none⟩)] w (DfOut true w0 w k bo rows es es) := by
  generalize htv : tellV bo = tv
  have HTV := hide htv
  have hbx := box_st w bo (.pointer (some ⟨g, 0, none⟩)) (.pointer (some ⟨g, 0, none⟩))
  have hbb := box_below w bo (.pointer (some ⟨g, 0, none⟩)) (.pointer (some ⟨g, 0, none⟩))
  unfold boxW at hbx hbb
  obtain ⟨l0, a0, b0⟩ := hbx.cells
  have HBX := hide hbx
  have HB := hide hbb
  have HC := hide hC
  have HBW := hide hb
  rw [htv] at hbx hbb l0 HBX HB
  clear hbx hbb hC hb htv
  have HF := hide (fun W (h : W = ((w.alloc (.cells #[tv] 110)).alloc (.cells #[.pointer (some ⟨g, 0, none⟩)] 82)).alloc (.cells #[.pointer (some ⟨g, 0, none⟩)] 82)) => show DfOut true w0 w k bo rows es es (.returned (.tuple #[])) W from by
    subst h
    have h := (DfSt.start (d := true) (k := k) HC.out HBW.out).stay HB.out
    exact ⟨[], rfl, ⟨Chgs.same es, Nat.zero_le _, h.col, h.ok, h.keep, h.below⟩⟩)
  have hps := ptr_same ⟨g, 0, none⟩
  go_enter Tryz.func56, Tryz.ntmps56
  go_wp2
  go_end0
  exact HF.out _ rfl
set_option maxHeartbeats 8000000 in
set_option maxRecDepth 100000 in
theorem df_both_leaf {w0 w : World} {k va vb ga gb bo : Nat} {p : List Nat} {rows : List CR} (hk1 : 1 ≤ k) (hk : k ≤ 16) (hA : NodeOf w0 k ga (-1) p [(p, va)]) (hB : NodeOf w0 k gb (-1) p [(p, vb)]) (hC : ColC w0.heap.size w bo rows) (hb : Below w0.heap.size w0 w) (hl : rows.length ≤ 200000) (hgg : ga ≠ gb) :
    Calls Tryz.prog 56 #[.agg #[tellV bo], .pointer (some ⟨ga, 0, none⟩), .pointer (some ⟨gb, 0, none⟩)] w (DfOut true w0 w k bo rows [(p, va)] [(p, vb)]) := by
  have EC1 := hide (show decide (part p p ≤ (-1 : Int)) = true by rw [part_self hA.info.1]; rfl)
  obtain ⟨_, _, _, _, hna, -⟩ := hA.head
  obtain ⟨_, _, _, _, hnb, -⟩ := hB.head
  have HPO := hide (fun W (hW : Below w.heap.size w W) => ptr_other hgg ((hna.below hb).below hW) ((hnb.below hb).below hW))
  have hbx := box_st w bo (.pointer (some ⟨ga, 0, none⟩)) (.pointer (some ⟨gb, 0, none⟩))
  have hbb := box_below w bo (.pointer (some ⟨ga, 0, none⟩)) (.pointer (some ⟨gb, 0, none⟩))
  have HA := hide (hA.stay hb)
  have HBB := hide (hB.stay hb)
  have HA0 := hide hA
  have HB00 := hide hB
  have HC := hide hC
  have HBW := hide hb
  have HL := hide hl
  have HZA := hide hA.info.1
  have HZBB := hide hB.info.1
  have HSYM := hide (part_sym hA.info.1 hB.info.1)
  generalize htv : tellV bo = tv
  have HTV := hide htv
  have hmf : ∀ (fn : Fn) (first cap : Array Value) (w : World), (Instr.makeFunc fn first cap).run Tryz.prog w = .ok (.func fn first cap) w := fun _ _ _ _ => rfl
  obtain ⟨l0, a0, b0⟩ := hbx.cells
  rw [htv] at l0
  have hpo := HPO.out _ hbb
  unfold boxW at hbx hbb l0 a0 b0 hpo
  rw [htv] at hbx hbb l0 a0 b0 hpo
  clear htv hA hB hC hb hl
  go_enter Tryz.func56, Tryz.ntmps56
  go_upto_region 12 with fail
  generalize ((w.alloc (.cells #[tv] 110)).alloc (.cells #[.pointer (some ⟨ga, 0, none⟩)] 82)).alloc (.cells #[.pointer (some ⟨gb, 0, none⟩)] 82) = wb at *
  have HBX := hide hbx
  have HB := hide hbb
  clear hbx hbb l0 a0 b0 hpo
  obtain ⟨l0, a0, b0⟩ := HBX.out.cells
  rw [HTV.out] at l0
  have hd : Below w.heap.size w wb.drew := HB.out.drew
  have hqd : Below wb.heap.size wb wb.drew := (Below.refl _ _).drew
  have HCELL := hide (fun W (hW : Below wb.heap.size wb W) => (HBX.out.keep (KeepC.below hW)).cells)
  rw [HTV.out] at HCELL
  go_wp2_with fail
  go_region_held3 (fun w' => w'.cell? ⟨w.heap.size, 0, none⟩ = some tv ∧ w'.cell? ⟨w.heap.size + 1, 0, none⟩ = some (.pointer (some ⟨ga, 0, none⟩)) ∧ w'.cell? ⟨w.heap.size + 1 + 1, 0, none⟩ = some (.pointer (some ⟨gb, 0, none⟩)))
    (first
      | go_keep
      | exact HCELL.out _ hqd)
    (first
      | (go_at_call 51
         with_reducible refine (nd_level (HA.out.stay hd)).mono ?_
         rintro e wl ⟨rfl, rfl⟩)
      | (go_at_call 51
         with_reducible refine (nd_level (HBB.out.stay hd)).mono ?_
         rintro e wl ⟨rfl, rfl⟩)
      | (go_at_call 64
         refine (nd_prefix (HBB.out.stay hd) hk).mono ?_
         rintro e w20 ⟨v20, rfl, ho20, hb20⟩
         obtain ⟨A20, c20, rfl, hp20⟩ := Pt.of_own ho20 HZBB.out.1 HZBB.out.2
         have HP20 := hide hp20
         replace hd := below_then hd hb20
         replace hqd := hqd.trans (hb20.mono hqd.size)
         clear ho20 hb20 hp20)
      | (go_at_call 66
         have hcv := nd_covers (d := c20) (HA.out.stay hd) hk1 hk HP20.out
         rw [EC1.out] at hcv
         refine hcv.mono ?_
         clear hcv
         rintro e wc ⟨rfl, rfl⟩))
  replace HBX := hide (HBX.out.keep (KeepC.below hqd))
  replace HB := hide hd
  clear hd hqd HCELL l0 a0 b0
  have hcon := df_even_leaf hk HA0.out HB00.out (Col.below HC.out HB.out) (HBW.out.trans (HB.out.mono HBW.out.size)) HL.out
  rw [HTV.out] at hcon
  have HCON := hide hcon
  clear hcon
  obtain ⟨l0, a0, b0⟩ := HBX.out.cells
  rw [HTV.out] at l0
  go_wp2_with fail
  refine HCON.out.mono ?_
  rintro e we hde
  have HF := hide (DfOut.from_ hde (KeepC.below HB.out))
  obtain ⟨rows9, rfl, -⟩ := hde
  clear l0 a0 b0 HCON
  go_wp2
  go_end0
  exact HF.out
set_option maxHeartbeats 8000000 in
set_option maxRecDepth 100000 in
theorem df_both_even {w0 w : World} {k N ga gb bo : Nat} {pa pb : List Nat} {m : Nat} {ksa ksb : List Kid} {rows : List CR} (hk1 : 1 ≤ k) (hk : k ≤ 16) (hA : Fork w0 k ga m pa ksa) (hB : Fork w0 k gb m pb ksb) (hla : (kidEs ksa).length ≤ 60000) (hlb : (kidEs ksb).length ≤ 60000) (hC : ColC w0.heap.size w bo rows) (hb : Below w0.heap.size w0 w) (hl : rows.length + (kidEs ksa).length + (kidEs ksb).length ≤ 200000) (hgg : ga ≠ gb) (H : DfHyp w0 k N) (hN : (kidEs ksa).length + (kidEs ksb).length ≤ N) (hc : part pa pb ≤ (m : Int)) :
    Calls Tryz.prog 56 #[.agg #[tellV bo], .pointer (some ⟨ga, 0, none⟩), .pointer (some ⟨gb, 0, none⟩)] w (DfOut true w0 w k bo rows (kidEs ksa) (kidEs ksb)) := by
  have HFA := hide hA
  have HFB := hide hB
  have HIH := hide (And.intro H hN)
  have hag := hA.fk'.agree hB.node.info.1 hc
  have HAG := hide hag
  have EC1 := hide (show decide (part pa pb ≤ (m : Int)) = true by simpa using hc)
  have e1 : ((m : Int) == (m : Int)) = true := by simp
  replace hA := hA.node
  replace hB := hB.node
  obtain ⟨_, _, _, _, hna, -⟩ := hA.head
  obtain ⟨_, _, _, _, hnb, -⟩ := hB.head
  have HPO := hide (fun W (hW : Below w.heap.size w W) => ptr_other hgg ((hna.below hb).below hW) ((hnb.below hb).below hW))
  have hbx := box_st w bo (.pointer (some ⟨ga, 0, none⟩)) (.pointer (some ⟨gb, 0, none⟩))
  have hbb := box_below w bo (.pointer (some ⟨ga, 0, none⟩)) (.pointer (some ⟨gb, 0, none⟩))
  have HA := hide (hA.stay hb)
  have HBB := hide (hB.stay hb)
  have HA0 := hide hA
  have HB00 := hide hB
  have HC := hide hC
  have HBW := hide hb
  have HL := hide (And.intro hla (And.intro hlb hl))
  have HZA := hide hA.info.1
  have HZBB := hide hB.info.1
  have HSYM := hide (part_sym hA.info.1 hB.info.1)
  generalize htv : tellV bo = tv
  have HTV := hide htv
  have hmf : ∀ (fn : Fn) (first cap : Array Value) (w : World), (Instr.makeFunc fn first cap).run Tryz.prog w = .ok (.func fn first cap) w := fun _ _ _ _ => rfl
  obtain ⟨l0, a0, b0⟩ := hbx.cells
  rw [htv] at l0
  have hpo := HPO.out _ hbb
  unfold boxW at hbx hbb l0 a0 b0 hpo
  rw [htv] at hbx hbb l0 a0 b0 hpo
  clear htv hA hB hla hlb hC hb hl H hN hc hag
  go_enter Tryz.func56, Tryz.ntmps56
  go_upto_region 12 with fail
  generalize ((w.alloc (.cells #[tv] 110)).alloc (.cells #[.pointer (some ⟨ga, 0, none⟩)] 82)).alloc (.cells #[.pointer (some ⟨gb, 0, none⟩)] 82) = wb at *
  have HBX := hide hbx
  have HB := hide hbb
  clear hbx hbb l0 a0 b0 hpo
  obtain ⟨l0, a0, b0⟩ := HBX.out.cells
  rw [HTV.out] at l0
  have hd : Below w.heap.size w wb.drew := HB.out.drew
  have hqd : Below wb.heap.size wb wb.drew := (Below.refl _ _).drew
  have HCELL := hide (fun W (hW : Below wb.heap.size wb W) => (HBX.out.keep (KeepC.below hW)).cells)
  rw [HTV.out] at HCELL
  go_wp2_with fail
  go_region_held3 (fun w' => w'.cell? ⟨w.heap.size, 0, none⟩ = some tv ∧ w'.cell? ⟨w.heap.size + 1, 0, none⟩ = some (.pointer (some ⟨ga, 0, none⟩)) ∧ w'.cell? ⟨w.heap.size + 1 + 1, 0, none⟩ = some (.pointer (some ⟨gb, 0, none⟩)))
    (first
      | go_keep
      | exact HCELL.out _ hqd)
    (first
      | (go_at_call 51
         with_reducible refine (nd_level (HA.out.stay hd)).mono ?_
         rintro e wl ⟨rfl, rfl⟩)
      | (go_at_call 51
         with_reducible refine (nd_level (HBB.out.stay hd)).mono ?_
         rintro e wl ⟨rfl, rfl⟩)
      | (go_at_call 64
         refine (nd_prefix (HBB.out.stay hd) hk).mono ?_
         rintro e w20 ⟨v20, rfl, ho20, hb20⟩
         obtain ⟨A20, c20, rfl, hp20⟩ := Pt.of_own ho20 HZBB.out.1 HZBB.out.2
         have HP20 := hide hp20
         replace hd := below_then hd hb20
         replace hqd := hqd.trans (hb20.mono hqd.size)
         clear ho20 hb20 hp20)
      | (go_at_call 66
         have hcv := nd_covers (d := c20) (HA.out.stay hd) hk1 hk HP20.out
         rw [EC1.out] at hcv
         refine hcv.mono ?_
         clear hcv
         rintro e wc ⟨rfl, rfl⟩))
  replace HBX := hide (HBX.out.keep (KeepC.below hqd))
  replace HB := hide hd
  clear hd hqd HCELL l0 a0 b0
  have hcon := df_even hk HIH.out.1 HFA.out HFB.out HAG.out HIH.out.2 HL.out.1 HL.out.2.1 (Col.below HC.out HB.out) (HBW.out.trans (HB.out.mono HBW.out.size)) HL.out.2.2
  rw [HTV.out] at hcon
  have HCON := hide hcon
  clear hcon
  obtain ⟨l0, a0, b0⟩ := HBX.out.cells
  rw [HTV.out] at l0
  go_wp2_with fail
  refine HCON.out.mono ?_
  rintro e we hde
  have HF := hide (DfOut.from_ hde (KeepC.below HB.out))
  obtain ⟨rows9, rfl, -⟩ := hde
  clear l0 a0 b0 HCON
  go_wp2
  go_end0
  exact HF.out
theorem TopOk.kidF {w : World} {k g m : Nat} {pre : List Nat} {ks : List Kid} (h : Fork w k g m pre ks) (a : Nat) : TopOk w k (kidAt ks a) := by
  intro x hx
  obtain ⟨q, hq, _, rfl⟩ := kidAt_some hx
  exact (h.kid q hq).1
theorem kid_smallF {w : World} {k g m : Nat} {pre : List Nat} {ks : List Kid} (h : Fork w k g m pre ks) (a : Nat) : (esOf (kidAt ks a)).length < (kidEs ks).length := by
  cases hk : kidAt ks a with
  | none => exact List.length_pos_iff.2 h.node.info.2.1
  | some x =>
    obtain ⟨q, hq, _, rfl⟩ := kidAt_some hk
    exact kid_small h hq
set_option maxHeartbeats 8000000 in
set_option maxRecDepth 100000 in
theorem df_both_l {w0 w : World} {k N ga gb bo : Nat} {lb : Int} {pa pb : List Nat} {m : Nat} {ks : List Kid} {eb : List Ent} {rows : List CR} (hk1 : 1 ≤ k) (hk : k ≤ 16) (hA : Fork w0 k ga m pa ks) (hB : NodeOf w0 k gb lb pb eb) (hla : (kidEs ks).length ≤ 60000) (hlb : eb.length ≤ 60000) (hC : ColC w0.heap.size w bo rows) (hb : Below w0.heap.size w0 w) (hl : rows.length + (kidEs ks).length + eb.length ≤ 200000) (hgg : ga ≠ gb) (H : DfHyp w0 k N) (hN : (kidEs ks).length + eb.length ≤ N) (hl2 : lb < (m : Int)) (hc : part pa pb ≤ (m : Int)) :
    Calls Tryz.prog 56 #[.agg #[tellV bo], .pointer (some ⟨ga, 0, none⟩), .pointer (some ⟨gb, 0, none⟩)] w (DfOut true w0 w k bo rows (kidEs ks) eb) := by
  have HFA := hide hA
  have HIH := hide (And.intro H hN)
  have hm64 := hA.lv
  have hz := hB.info.1
  have HA16 := hide (pow_le_16 (addr_lt_pow hz m) hk)
  have HEO := hide (show AtK m pa (addrOf pb m) (addrOf pb m + 1) eb from (hB.atk hl2).zag (hA.fk'.agree hz hc))
  have EC1 := hide (show decide (part pa pb ≤ (m : Int)) = true by simpa using hc)
  have e1 : ((m : Int) == lb) = false := by simp; omega
  have e2 : decide (lb < (m : Int)) = true := by simpa using hl2
  replace hA := hA.node
  obtain ⟨_, _, _, _, hna, -⟩ := hA.head
  obtain ⟨_, _, _, _, hnb, -⟩ := hB.head
  have HPO := hide (fun W (hW : Below w.heap.size w W) => ptr_other hgg ((hna.below hb).below hW) ((hnb.below hb).below hW))
  have hbx := box_st w bo (.pointer (some ⟨ga, 0, none⟩)) (.pointer (some ⟨gb, 0, none⟩))
  have hbb := box_below w bo (.pointer (some ⟨ga, 0, none⟩)) (.pointer (some ⟨gb, 0, none⟩))
  have HA := hide (hA.stay hb)
  have HBB := hide (hB.stay hb)
  have HA0 := hide hA
  have HB00 := hide hB
  have HC := hide hC
  have HBW := hide hb
  have HL := hide (And.intro hla (And.intro hlb hl))
  have HZA := hide hA.info.1
  have HZBB := hide hB.info.1
  have HSYM := hide (part_sym hA.info.1 hB.info.1)
  generalize htv : tellV bo = tv
  have HTV := hide htv
  have hmf : ∀ (fn : Fn) (first cap : Array Value) (w : World), (Instr.makeFunc fn first cap).run Tryz.prog w = .ok (.func fn first cap) w := fun _ _ _ _ => rfl
  obtain ⟨l0, a0, b0⟩ := hbx.cells
  rw [htv] at l0
  have hpo := HPO.out _ hbb
  unfold boxW at hbx hbb l0 a0 b0 hpo
  rw [htv] at hbx hbb l0 a0 b0 hpo
  clear htv hA hB hla hlb hC hb hl H hN hl2 hc hz
  go_enter Tryz.func56, Tryz.ntmps56
  go_upto_region 12 with fail
  generalize ((w.alloc (.cells #[tv] 110)).alloc (.cells #[.pointer (some ⟨ga, 0, none⟩)] 82)).alloc (.cells #[.pointer (some ⟨gb, 0, none⟩)] 82) = wb at *
  have HBX := hide hbx
  have HB := hide hbb
  clear hbx hbb l0 a0 b0 hpo
  obtain ⟨l0, a0, b0⟩ := HBX.out.cells
  rw [HTV.out] at l0
  go_wp2_with fail
  go_quiet ((first
      | (go_at_call 51
         exact Calls.quiet_of_same (still_of (nd_level (HA.out.stay (below_drewN HB.out _)))))
      | (go_at_call 51
         exact Calls.quiet_of_same (still_of (nd_level (HBB.out.stay (below_drewN HB.out _)))))))
  rename Nat => nq
  replace HBX := hide (HBX.out.keep (KeepC.below (below_drewN (Below.refl _ _) nq)))
  replace HB := hide (below_drewN HB.out nq)
  clear l0 a0 b0
  generalize wb.drewN nq = wq10 at *
  obtain ⟨l0, a0, b0⟩ := HBX.out.cells
  rw [HTV.out] at l0
  have hd : Below w.heap.size w wq10.drew := HB.out.drew
  have hqd : Below wq10.heap.size wq10 wq10.drew := (Below.refl _ _).drew
  have HCELL := hide (fun W (hW : Below wq10.heap.size wq10 W) => (HBX.out.keep (KeepC.below hW)).cells)
  rw [HTV.out] at HCELL
  go_wp2_with fail
  go_region_held3 (fun w' => w'.cell? ⟨w.heap.size, 0, none⟩ = some tv ∧ w'.cell? ⟨w.heap.size + 1, 0, none⟩ = some (.pointer (some ⟨ga, 0, none⟩)) ∧ w'.cell? ⟨w.heap.size + 1 + 1, 0, none⟩ = some (.pointer (some ⟨gb, 0, none⟩)))
    (first
      | go_keep
      | exact HCELL.out _ hqd)
    (first
      | (go_at_call 51
         with_reducible refine (nd_level (HA.out.stay hd)).mono ?_
         rintro e wl ⟨rfl, rfl⟩)
      | (go_at_call 51
         with_reducible refine (nd_level (HBB.out.stay hd)).mono ?_
         rintro e wl ⟨rfl, rfl⟩)
      | (go_at_call 64
         refine (nd_prefix (HBB.out.stay hd) hk).mono ?_
         rintro e w20 ⟨v20, rfl, ho20, hb20⟩
         obtain ⟨A20, c20, rfl, hp20⟩ := Pt.of_own ho20 HZBB.out.1 HZBB.out.2
         have HP20 := hide hp20
         replace hd := below_then hd hb20
         replace hqd := hqd.trans (hb20.mono hqd.size)
         clear ho20 hb20 hp20)
      | (go_at_call 66
         have hcv := nd_covers (d := c20) (HA.out.stay hd) hk1 hk HP20.out
         rw [EC1.out] at hcv
         refine hcv.mono ?_
         clear hcv
         rintro e wc ⟨rfl, rfl⟩))
  replace HBX := hide (HBX.out.keep (KeepC.below hqd))
  replace HB := hide hd
  clear hd hqd HCELL l0 a0 b0
  obtain ⟨l0, a0, b0⟩ := HBX.out.cells
  rw [HTV.out] at l0
  have hd : Below w.heap.size w w20.drew := HB.out.drew
  have hqd : Below w20.heap.size w20 w20.drew := (Below.refl _ _).drew
  have HCELL := hide (fun W (hW : Below w20.heap.size w20 W) => (HBX.out.keep (KeepC.below hW)).cells)
  rw [HTV.out] at HCELL
  go_wp2_with fail
  go_region_held3 (fun w' => w'.cell? ⟨w.heap.size, 0, none⟩ = some tv ∧ w'.cell? ⟨w.heap.size + 1, 0, none⟩ = some (.pointer (some ⟨ga, 0, none⟩)) ∧ w'.cell? ⟨w.heap.size + 1 + 1, 0, none⟩ = some (.pointer (some ⟨gb, 0, none⟩)))
    (first
      | go_keep
      | exact HCELL.out _ hqd)
    (first
      | (go_at_call 64
         refine (nd_prefix (HBB.out.stay hd) hk).mono ?_
         rintro e w22 ⟨v22, rfl, ho22, hb22⟩
         obtain ⟨A22, c22, rfl, hp22⟩ := Pt.of_own ho22 HZBB.out.1 HZBB.out.2
         have HP22 := hide hp22
         replace hd := below_then hd hb22
         replace hqd := hqd.trans (hb22.mono hqd.size)
         clear ho22 hb22 hp22)
      | (go_at_call 51
         with_reducible refine (nd_level (HA.out.stay hd)).mono ?_
         rintro e wl ⟨rfl, rfl⟩)
      | (go_at_call 50
         refine (zb_addr A22 k pb c22 m _ HP22.out hk1 hk hm64).mono ?_
         rintro e wx ⟨rfl, rfl⟩))
  replace HBX := hide (HBX.out.keep (KeepC.below hqd))
  replace HB := hide hd
  clear hd hqd HCELL l0 a0 b0
  have hcon := df_beside (d := true) (f := 87) (p1 := .pointer (some ⟨w.heap.size, 0, none⟩)) (p2 := .pointer (some ⟨w.heap.size + 1 + 1, 0, none⟩)) HFA.out hk HA16.out HEO.out (Col.below HC.out HB.out) (HBW.out.trans (HB.out.mono HBW.out.size)) (by have := HL.out; omega) (by have := HL.out; omega) (fun _ _ => by kernel_rfl)
    (fun W rows1 hcW hbW hkW hlW => df_clo1 (kid := ptrOf (kidAt ks (addrOf pb m))) (HBX.out.keep hkW) (fun e w' h => h.choose_spec.1) (HIH.out.1 W bo rows1 (kidAt ks (addrOf pb m)) (some (gb, ⟨lb, pb, eb⟩)) (by have := kid_smallF HFA.out (addrOf pb m); have := HIH.out.2; have h3 : (esOf (some ((gb, ⟨lb, pb, eb⟩) : Nat × NT))).length = eb.length := rfl; omega) (TopOk.kidF HFA.out _) (fun x hx => by injection hx with hx; subst hx; exact HB00.out) (by have := kid_smallF HFA.out (addrOf pb m); have := HL.out; have h3 : (esOf (some ((gb, ⟨lb, pb, eb⟩) : Nat × NT))).length = eb.length := rfl; omega) (by have := kid_smallF HFA.out (addrOf pb m); have := HL.out; have h3 : (esOf (some ((gb, ⟨lb, pb, eb⟩) : Nat × NT))).length = eb.length := rfl; omega) hcW hbW (by have h3 : (esOf (some ((gb, ⟨lb, pb, eb⟩) : Nat × NT))).length = eb.length := rfl; omega)))
  unfold asV at hcon
  simp only [if_true, Bool.false_eq_true, if_false] at hcon
  rw [HTV.out] at hcon
  have HCON := hide hcon
  clear hcon
  obtain ⟨l0, a0, b0⟩ := HBX.out.cells
  rw [HTV.out] at l0
  go_wp2_with fail
  refine HCON.out.mono ?_
  rintro e we hde
  have HF := hide (DfOut.from_ hde (KeepC.below HB.out))
  obtain ⟨rows9, rfl, -⟩ := hde
  clear l0 a0 b0 HCON
  go_wp2
  go_end0
  exact HF.out
set_option maxHeartbeats 8000000 in
set_option maxRecDepth 100000 in
theorem df_both_r {w0 w : World} {k N ga gb bo : Nat} {la : Int} {pa pb : List Nat} {m : Nat} {ea : List Ent} {ks : List Kid} {rows : List CR} (hk1 : 1 ≤ k) (hk : k ≤ 16) (hA : NodeOf w0 k ga la pa ea) (hB : Fork w0 k gb m pb ks) (hla : ea.length ≤ 60000) (hlb : (kidEs ks).length ≤ 60000) (hC : ColC w0.heap.size w bo rows) (hb : Below w0.heap.size w0 w) (hl : rows.length + ea.length + (kidEs ks).length ≤ 200000) (hgg : ga ≠ gb) (H : DfHyp w0 k N) (hN : ea.length + (kidEs ks).length ≤ N) (hl2 : la < (m : Int)) (hc : part pb pa ≤ (m : Int)) :
    Calls Tryz.prog 56 #[.agg #[tellV bo], .pointer (some ⟨ga, 0, none⟩), .pointer (some ⟨gb, 0, none⟩)] w (DfOut true w0 w k bo rows ea (kidEs ks)) := by
  have HFB := hide hB
  have HIH := hide (And.intro H hN)
  have hm64 := hB.lv
  have hz := hA.info.1
  have HA16 := hide (pow_le_16 (addr_lt_pow hz m) hk)
  have HEO := hide (show AtK m pb (addrOf pa m) (addrOf pa m + 1) ea from (hA.atk hl2).zag (hB.fk'.agree hz hc))
  have EC1 := hide (show decide (part pb pa ≤ (m : Int)) = true by simpa using hc)
  have e1 : (la == (m : Int)) = false := by simp; omega
  have e2 : decide ((m : Int) < la) = false := by simp; omega
  have e3 : decide (la < (m : Int)) = true := by simpa using hl2
  replace hB := hB.node
  obtain ⟨_, _, _, _, hna, -⟩ := hA.head
  obtain ⟨_, _, _, _, hnb, -⟩ := hB.head
  have HPO := hide (fun W (hW : Below w.heap.size w W) => ptr_other hgg ((hna.below hb).below hW) ((hnb.below hb).below hW))
  have hbx := box_st w bo (.pointer (some ⟨ga, 0, none⟩)) (.pointer (some ⟨gb, 0, none⟩))
  have hbb := box_below w bo (.pointer (some ⟨ga, 0, none⟩)) (.pointer (some ⟨gb, 0, none⟩))
  have HA := hide (hA.stay hb)
  have HBB := hide (hB.stay hb)
  have HA0 := hide hA
  have HB00 := hide hB
  have HC := hide hC
  have HBW := hide hb
  have HL := hide (And.intro hla (And.intro hlb hl))
  have HZA := hide hA.info.1
  have HZBB := hide hB.info.1
  have HSYM := hide (part_sym hA.info.1 hB.info.1)
  generalize htv : tellV bo = tv
  have HTV := hide htv
  have hmf : ∀ (fn : Fn) (first cap : Array Value) (w : World), (Instr.makeFunc fn first cap).run Tryz.prog w = .ok (.func fn first cap) w := fun _ _ _ _ => rfl
  obtain ⟨l0, a0, b0⟩ := hbx.cells
  rw [htv] at l0
  have hpo := HPO.out _ hbb
  unfold boxW at hbx hbb l0 a0 b0 hpo
  rw [htv] at hbx hbb l0 a0 b0 hpo
  clear htv hA hB hla hlb hC hb hl H hN hl2 hc hz
  go_enter Tryz.func56, Tryz.ntmps56
  go_upto_region 12 with fail
  generalize ((w.alloc (.cells #[tv] 110)).alloc (.cells #[.pointer (some ⟨ga, 0, none⟩)] 82)).alloc (.cells #[.pointer (some ⟨gb, 0, none⟩)] 82) = wb at *
  have HBX := hide hbx
  have HB := hide hbb
  clear hbx hbb l0 a0 b0 hpo
  obtain ⟨l0, a0, b0⟩ := HBX.out.cells
  rw [HTV.out] at l0
  go_wp2_with fail
  go_quiet ((first
      | (go_at_call 51
         exact Calls.quiet_of_same (still_of (nd_level (HA.out.stay (below_drewN HB.out _)))))
      | (go_at_call 51
         exact Calls.quiet_of_same (still_of (nd_level (HBB.out.stay (below_drewN HB.out _)))))))
  rename Nat => nq
  replace HBX := hide (HBX.out.keep (KeepC.below (below_drewN (Below.refl _ _) nq)))
  replace HB := hide (below_drewN HB.out nq)
  clear l0 a0 b0
  generalize wb.drewN nq = wq10 at *
  obtain ⟨l0, a0, b0⟩ := HBX.out.cells
  rw [HTV.out] at l0
  go_wp2_with fail
  go_quiet ((first
      | (go_at_call 51
         exact Calls.quiet_of_same (still_of (nd_level (HA.out.stay (below_drewN HB.out _)))))
      | (go_at_call 51
         exact Calls.quiet_of_same (still_of (nd_level (HBB.out.stay (below_drewN HB.out _)))))))
  rename Nat => nq
  replace HBX := hide (HBX.out.keep (KeepC.below (below_drewN (Below.refl _ _) nq)))
  replace HB := hide (below_drewN HB.out nq)
  clear l0 a0 b0
  generalize wq10.drewN nq = wq11 at *
  obtain ⟨l0, a0, b0⟩ := HBX.out.cells
  rw [HTV.out] at l0
  have hd : Below w.heap.size w wq11.drew := HB.out.drew
  have hqd : Below wq11.heap.size wq11 wq11.drew := (Below.refl _ _).drew
  have HCELL := hide (fun W (hW : Below wq11.heap.size wq11 W) => (HBX.out.keep (KeepC.below hW)).cells)
  rw [HTV.out] at HCELL
  go_wp2_with fail
  go_region_held3 (fun w' => w'.cell? ⟨w.heap.size, 0, none⟩ = some tv ∧ w'.cell? ⟨w.heap.size + 1, 0, none⟩ = some (.pointer (some ⟨ga, 0, none⟩)) ∧ w'.cell? ⟨w.heap.size + 1 + 1, 0, none⟩ = some (.pointer (some ⟨gb, 0, none⟩)))
    (first
      | go_keep
      | exact HCELL.out _ hqd)
    (first
      | (go_at_call 51
         with_reducible refine (nd_level (HA.out.stay hd)).mono ?_
         rintro e wl ⟨rfl, rfl⟩)
      | (go_at_call 51
         with_reducible refine (nd_level (HBB.out.stay hd)).mono ?_
         rintro e wl ⟨rfl, rfl⟩)
      | (go_at_call 64
         refine (nd_prefix (HA.out.stay hd) hk).mono ?_
         rintro e w20 ⟨v20, rfl, ho20, hb20⟩
         obtain ⟨A20, c20, rfl, hp20⟩ := Pt.of_own ho20 HZA.out.1 HZA.out.2
         have HP20 := hide hp20
         replace hd := below_then hd hb20
         replace hqd := hqd.trans (hb20.mono hqd.size)
         clear ho20 hb20 hp20)
      | (go_at_call 66
         have hcv := nd_covers (d := c20) (HBB.out.stay hd) hk1 hk HP20.out
         rw [EC1.out] at hcv
         refine hcv.mono ?_
         clear hcv
         rintro e wc ⟨rfl, rfl⟩))
  replace HBX := hide (HBX.out.keep (KeepC.below hqd))
  replace HB := hide hd
  clear hd hqd HCELL l0 a0 b0
  obtain ⟨l0, a0, b0⟩ := HBX.out.cells
  rw [HTV.out] at l0
  have hd : Below w.heap.size w w20.drew := HB.out.drew
  have hqd : Below w20.heap.size w20 w20.drew := (Below.refl _ _).drew
  have HCELL := hide (fun W (hW : Below w20.heap.size w20 W) => (HBX.out.keep (KeepC.below hW)).cells)
  rw [HTV.out] at HCELL
  go_wp2_with fail
  go_region_held3 (fun w' => w'.cell? ⟨w.heap.size, 0, none⟩ = some tv ∧ w'.cell? ⟨w.heap.size + 1, 0, none⟩ = some (.pointer (some ⟨ga, 0, none⟩)) ∧ w'.cell? ⟨w.heap.size + 1 + 1, 0, none⟩ = some (.pointer (some ⟨gb, 0, none⟩)))
    (first
      | go_keep
      | exact HCELL.out _ hqd)
    (first
      | (go_at_call 64
         refine (nd_prefix (HA.out.stay hd) hk).mono ?_
         rintro e w22 ⟨v22, rfl, ho22, hb22⟩
         obtain ⟨A22, c22, rfl, hp22⟩ := Pt.of_own ho22 HZA.out.1 HZA.out.2
         have HP22 := hide hp22
         replace hd := below_then hd hb22
         replace hqd := hqd.trans (hb22.mono hqd.size)
         clear ho22 hb22 hp22)
      | (go_at_call 51
         with_reducible refine (nd_level (HBB.out.stay hd)).mono ?_
         rintro e wl ⟨rfl, rfl⟩)
      | (go_at_call 50
         refine (zb_addr A22 k pa c22 m _ HP22.out hk1 hk hm64).mono ?_
         rintro e wx ⟨rfl, rfl⟩))
  replace HBX := hide (HBX.out.keep (KeepC.below hqd))
  replace HB := hide hd
  clear hd hqd HCELL l0 a0 b0
  have hcon := df_beside (d := false) (f := 88) (p1 := .pointer (some ⟨w.heap.size, 0, none⟩)) (p2 := .pointer (some ⟨w.heap.size + 1, 0, none⟩)) HFB.out hk HA16.out HEO.out (Col.below HC.out HB.out) (HBW.out.trans (HB.out.mono HBW.out.size)) (by have := HL.out; omega) (by have := HL.out; omega) (fun _ _ => by kernel_rfl)
    (fun W rows1 hcW hbW hkW hlW => df_clo2 (kid := ptrOf (kidAt ks (addrOf pa m))) (HBX.out.keep hkW) (fun e w' h => h.choose_spec.1) (Calls.mono (HIH.out.1 W bo rows1 (some (ga, ⟨la, pa, ea⟩)) (kidAt ks (addrOf pa m)) (by have := kid_smallF HFB.out (addrOf pa m); have := HIH.out.2; have h3 : (esOf (some ((ga, ⟨la, pa, ea⟩) : Nat × NT))).length = ea.length := rfl; omega) (fun x hx => by injection hx with hx; subst hx; exact HA0.out) (TopOk.kidF HFB.out _) (by have := kid_smallF HFB.out (addrOf pa m); have := HL.out; have h3 : (esOf (some ((ga, ⟨la, pa, ea⟩) : Nat × NT))).length = ea.length := rfl; omega) (by have := kid_smallF HFB.out (addrOf pa m); have := HL.out; have h3 : (esOf (some ((ga, ⟨la, pa, ea⟩) : Nat × NT))).length = ea.length := rfl; omega) hcW hbW (by have h3 : (esOf (some ((ga, ⟨la, pa, ea⟩) : Nat × NT))).length = ea.length := rfl; omega)) fun e w' h => h.flip))
  unfold asV at hcon
  simp only [if_true, Bool.false_eq_true, if_false] at hcon
  rw [HTV.out] at hcon
  have HCON := hide hcon
  clear hcon
  obtain ⟨l0, a0, b0⟩ := HBX.out.cells
  rw [HTV.out] at l0
  go_wp2_with fail
  refine HCON.out.mono ?_
  rintro e we hde
  have HF := hide (DfOut.from_ hde.flip (KeepC.below HB.out))
  obtain ⟨rows9, rfl, -⟩ := hde
  clear l0 a0 b0 HCON
  go_wp2
  go_end0
  exact HF.out
end Go.Proofs.YtghnpflaafdcdaaGreat
set_option linter.unusedSimpArgs false
set_option linter.unusedVariables false
namespace Go.Proofs.YtghnpflaafdcdaaGreat
open Go.RowKit
set_option maxHeartbeats 8000000 in
set_option maxRecDepth 100000 in
theorem df_both_ap_eq_a {w0 w : World} {k ga gb bo : Nat} {la lb : Int} {pa pb : List Nat} {ea eb : List Ent} {rows : List CR} (hk1 : 1 ≤ k) (hk : k ≤ 16) (hA : NodeOf w0 k ga la pa ea) (hB : NodeOf w0 k gb lb pb eb) (hla : ea.length ≤ 60000) (hlb : eb.length ≤ 60000) (hC : ColC w0.heap.size w bo rows) (hb : Below w0.heap.size w0 w) (hl : rows.length + ea.length + eb.length ≤ 200000) (hgg : ga ≠ gb) (hrel : la = lb) (m : Nat) (hm : part pa pb = (m : Int)) (hcA : la < (m : Int)) (hcB : lb < (m : Int)) (hlt : addrOf pa m < addrOf pb m) :
    Calls Tryz.prog 56 #[.agg #[tellV bo], .pointer (some ⟨ga, 0, none⟩), .pointer (some ⟨gb, 0, none⟩)] w (DfOut true w0 w k bo rows ea eb) := by
  subst hrel
  have hps := part_spec pa pb (hA.info.1.1.trans hB.info.1.1.symm) hA.info.1.2 hB.info.1.2
  have hagr : ∀ b, m < b → addrOf pa b = addrOf pb b := fun b hb => hps.2.2.1 b (by omega)
  have ec1 : decide (part pa pb ≤ la) = false := by simp; omega
  have ec2 : decide (part pb pa ≤ la) = false := by rw [← part_sym hA.info.1 hB.info.1]; simp; omega
  have EC1 := hide ec1
  have EC2 := hide ec2
  have hcm : decide (cmp pa pb < 0) = true := by
    have := (cmp_lt hA.info.1 hB.info.1).2 ⟨m, hagr, hlt⟩
    rw [this]
    rfl
  have HAH := hide (show Ahead ea eb from (hA.atk hcA).ahead ((hB.atk hcB).zag hagr) (by omega))
  have e1 : (la == la) = true := by simp
  have e2 : decide (la < la) = false := by simp
  obtain ⟨_, _, _, _, hna, -⟩ := hA.head
  obtain ⟨_, _, _, _, hnb, -⟩ := hB.head
  have HPO := hide (fun W (hW : Below w.heap.size w W) => ptr_other hgg ((hna.below hb).below hW) ((hnb.below hb).below hW))
  have hbx := box_st w bo (.pointer (some ⟨ga, 0, none⟩)) (.pointer (some ⟨gb, 0, none⟩))
  have hbb := box_below w bo (.pointer (some ⟨ga, 0, none⟩)) (.pointer (some ⟨gb, 0, none⟩))
  have HA := hide (hA.stay hb)
  have HBB := hide (hB.stay hb)
  have HA0 := hide hA
  have HB00 := hide hB
  have HC := hide hC
  have HBW := hide hb
  have HL := hide (And.intro hla (And.intro hlb hl))
  have HZA := hide hA.info.1
  have HZBB := hide hB.info.1
  have HSYM := hide (part_sym hA.info.1 hB.info.1)
  generalize htv : tellV bo = tv
  have HTV := hide htv
  have hmf : ∀ (fn : Fn) (first cap : Array Value) (w : World), (Instr.makeFunc fn first cap).run Tryz.prog w = .ok (.func fn first cap) w := fun _ _ _ _ => rfl
  obtain ⟨l0, a0, b0⟩ := hbx.cells
  rw [htv] at l0
  have hpo := HPO.out _ hbb
  unfold boxW at hbx hbb l0 a0 b0 hpo
  rw [htv] at hbx hbb l0 a0 b0 hpo
  clear htv hA hB hla hlb hC hb hl hm hcA hcB hlt hps hagr ec1 ec2
  go_enter Tryz.func56, Tryz.ntmps56
  go_upto_region 12 with fail
  generalize ((w.alloc (.cells #[tv] 110)).alloc (.cells #[.pointer (some ⟨ga, 0, none⟩)] 82)).alloc (.cells #[.pointer (some ⟨gb, 0, none⟩)] 82) = wb at *
  have HBX := hide hbx
  have HB := hide hbb
  clear hbx hbb l0 a0 b0 hpo
  obtain ⟨l0, a0, b0⟩ := HBX.out.cells
  rw [HTV.out] at l0
  have hd : Below w.heap.size w wb.drew := HB.out.drew
  have hqd : Below wb.heap.size wb wb.drew := (Below.refl _ _).drew
  have HCELL := hide (fun W (hW : Below wb.heap.size wb W) => (HBX.out.keep (KeepC.below hW)).cells)
  rw [HTV.out] at HCELL
  go_wp2_with fail
  go_region_held3 (fun w' => w'.cell? ⟨w.heap.size, 0, none⟩ = some tv ∧ w'.cell? ⟨w.heap.size + 1, 0, none⟩ = some (.pointer (some ⟨ga, 0, none⟩)) ∧ w'.cell? ⟨w.heap.size + 1 + 1, 0, none⟩ = some (.pointer (some ⟨gb, 0, none⟩)))
    (first
      | go_keep
      | exact HCELL.out _ hqd)
    (first
      | (go_at_call 51
         with_reducible refine (nd_level (HA.out.stay hd)).mono ?_
         rintro e wl ⟨rfl, rfl⟩)
      | (go_at_call 51
         with_reducible refine (nd_level (HBB.out.stay hd)).mono ?_
         rintro e wl ⟨rfl, rfl⟩)
      | (go_at_call 64
         refine (nd_prefix (HBB.out.stay hd) hk).mono ?_
         rintro e w20 ⟨v20, rfl, ho20, hb20⟩
         obtain ⟨A20, c20, rfl, hp20⟩ := Pt.of_own ho20 HZBB.out.1 HZBB.out.2
         have HP20 := hide hp20
         replace hd := below_then hd hb20
         replace hqd := hqd.trans (hb20.mono hqd.size)
         clear ho20 hb20 hp20)
      | (go_at_call 66
         have hcv := nd_covers (d := c20) (HA.out.stay hd) hk1 hk HP20.out
         rw [EC1.out] at hcv
         refine hcv.mono ?_
         clear hcv
         rintro e wc ⟨rfl, rfl⟩))
  replace HBX := hide (HBX.out.keep (KeepC.below hqd))
  replace HB := hide hd
  clear hd hqd HCELL l0 a0 b0
  obtain ⟨l0, a0, b0⟩ := HBX.out.cells
  rw [HTV.out] at l0
  go_wp2_with fail
  go_quiet ((first
      | (go_at_call 51
         exact Calls.quiet_of_same (still_of (nd_level (HA.out.stay (below_drewN HB.out _)))))
      | (go_at_call 51
         exact Calls.quiet_of_same (still_of (nd_level (HBB.out.stay (below_drewN HB.out _)))))))
  rename Nat => nq
  replace HBX := hide (HBX.out.keep (KeepC.below (below_drewN (Below.refl _ _) nq)))
  replace HB := hide (below_drewN HB.out nq)
  clear l0 a0 b0
  generalize w20.drewN nq = wq10 at *
  obtain ⟨l0, a0, b0⟩ := HBX.out.cells
  rw [HTV.out] at l0
  go_wp2_with fail
  go_quiet ((first
      | (go_at_call 51
         exact Calls.quiet_of_same (still_of (nd_level (HA.out.stay (below_drewN HB.out _)))))
      | (go_at_call 51
         exact Calls.quiet_of_same (still_of (nd_level (HBB.out.stay (below_drewN HB.out _)))))))
  rename Nat => nq
  replace HBX := hide (HBX.out.keep (KeepC.below (below_drewN (Below.refl _ _) nq)))
  replace HB := hide (below_drewN HB.out nq)
  clear l0 a0 b0
  generalize wq10.drewN nq = wq11 at *
  obtain ⟨l0, a0, b0⟩ := HBX.out.cells
  rw [HTV.out] at l0
  have hd : Below w.heap.size w wq11.drew := HB.out.drew
  have hqd : Below wq11.heap.size wq11 wq11.drew := (Below.refl _ _).drew
  have HCELL := hide (fun W (hW : Below wq11.heap.size wq11 W) => (HBX.out.keep (KeepC.below hW)).cells)
  rw [HTV.out] at HCELL
  go_wp2_with fail
  go_region_held3 (fun w' => w'.cell? ⟨w.heap.size, 0, none⟩ = some tv ∧ w'.cell? ⟨w.heap.size + 1, 0, none⟩ = some (.pointer (some ⟨ga, 0, none⟩)) ∧ w'.cell? ⟨w.heap.size + 1 + 1, 0, none⟩ = some (.pointer (some ⟨gb, 0, none⟩)))
    (first
      | go_keep
      | exact HCELL.out _ hqd)
    (first
      | (go_at_call 64
         with_reducible refine (nd_prefix (HA.out.stay hd) hk).mono ?_
         rintro e w22 ⟨v22, rfl, ho22, hb22⟩
         obtain ⟨A22, c22, rfl, hp22⟩ := Pt.of_own ho22 HZA.out.1 HZA.out.2
         have HP22 := hide hp22
         replace hd := below_then hd hb22
         replace hqd := hqd.trans (hb22.mono hqd.size)
         clear ho22 hb22 hp22)
      | (go_at_call 64
         with_reducible refine (nd_prefix (HBB.out.stay hd) hk).mono ?_
         rintro e w24 ⟨v24, rfl, ho24, hb24⟩
         obtain ⟨A24, c24, rfl, hp24⟩ := Pt.of_own ho24 HZBB.out.1 HZBB.out.2
         have HP24 := hide hp24
         have HB24 := hide hb24
         replace hd := below_then hd hb24
         replace hqd := hqd.trans (hb24.mono hqd.size)
         clear ho24 hb24 hp24)
      | (go_at_call 89
         refine (zb_cmp A22 A24 k c22 c24 pa pb _ (HP22.out.below HB24.out) HP24.out hk1 hk).mono ?_
         rintro e wx ⟨rfl, rfl⟩))
  replace HBX := hide (HBX.out.keep (KeepC.below hqd))
  replace HB := hide hd
  clear hd hqd HCELL l0 a0 b0
  have hcon := df_all (d := true) (bo := bo) HA0.out hk (Col.below HC.out HB.out) (HBW.out.trans (HB.out.mono HBW.out.size)) (by have := HL.out; omega) (by have := HL.out; omega)
  unfold asV at hcon
  simp only [if_true, Bool.false_eq_true, if_false] at hcon
  rw [HTV.out] at hcon
  have HCON := hide hcon
  clear hcon
  obtain ⟨l0, a0, b0⟩ := HBX.out.cells
  rw [HTV.out] at l0
  go_wp2_with fail
  refine HCON.out.mono ?_
  rintro e we hde
  have HBX2 := hide (HBX.out.keep hde.keepC)
  obtain ⟨rows1, rfl, hs1⟩ := DfOut.from_ hde (KeepC.below HB.out)
  have HS1 := hide hs1
  clear l0 a0 b0 HCON hde hs1
  have hcon := df_all (d := false) (bo := bo) HB00.out hk HS1.out.col HS1.out.below (by have := HL.out; have := HS1.out.len; simp only [List.length_append, List.length_nil] at *; omega) (by have := HL.out; omega)
  unfold asV at hcon
  simp only [if_true, Bool.false_eq_true, if_false] at hcon
  rw [HTV.out] at hcon
  have HCON := hide hcon
  clear hcon
  obtain ⟨l0, a0, b0⟩ := HBX2.out.cells
  rw [HTV.out] at l0
  go_wp2_with fail
  refine HCON.out.mono ?_
  rintro e we2 hde
  obtain ⟨rows2, rfl, hs2⟩ := HS1.out.next hde.flip (Ahead.nil_r _) HAH.out (Ahead.nil_l _) (Ahead.nil_l _)
  have HF := hide (show DfOut true w0 w k bo rows ea eb (.returned (.tuple #[])) we2 from by simpa using hs2.out)
  clear l0 a0 b0 HCON hde hs2
  go_wp2
  first
    | go_end0
    | ((try simp only [Exit.inBlock, Exit.then]); refine bodyPost_ret (results_none rfl _ _ _) rfl ?_)
  exact HF.out
set_option maxHeartbeats 8000000 in
set_option maxRecDepth 100000 in
theorem df_both_ap_eq_b {w0 w : World} {k ga gb bo : Nat} {la lb : Int} {pa pb : List Nat} {ea eb : List Ent} {rows : List CR} (hk1 : 1 ≤ k) (hk : k ≤ 16) (hA : NodeOf w0 k ga la pa ea) (hB : NodeOf w0 k gb lb pb eb) (hla : ea.length ≤ 60000) (hlb : eb.length ≤ 60000) (hC : ColC w0.heap.size w bo rows) (hb : Below w0.heap.size w0 w) (hl : rows.length + ea.length + eb.length ≤ 200000) (hgg : ga ≠ gb) (hrel : la = lb) (m : Nat) (hm : part pa pb = (m : Int)) (hcA : la < (m : Int)) (hcB : lb < (m : Int)) (hlt : addrOf pb m < addrOf pa m) :
    Calls Tryz.prog 56 #[.agg #[tellV bo], .pointer (some ⟨ga, 0, none⟩), .pointer (some ⟨gb, 0, none⟩)] w (DfOut true w0 w k bo rows ea eb) := by
  subst hrel
  have hps := part_spec pa pb (hA.info.1.1.trans hB.info.1.1.symm) hA.info.1.2 hB.info.1.2
  have hagr : ∀ b, m < b → addrOf pa b = addrOf pb b := fun b hb => hps.2.2.1 b (by omega)
  have ec1 : decide (part pa pb ≤ la) = false := by simp; omega
  have ec2 : decide (part pb pa ≤ la) = false := by rw [← part_sym hA.info.1 hB.info.1]; simp; omega
  have EC1 := hide ec1
  have EC2 := hide ec2
  have hcm : decide (cmp pa pb < 0) = false := by
    have := (cmp_gt hA.info.1 hB.info.1).2 ⟨m, fun b hb => (hagr b hb).symm, hlt⟩
    rw [this]
    rfl
  have HAH := hide (show Ahead eb ea from ((hB.atk hcB).zag hagr).ahead (hA.atk hcA) (by omega))
  have e1 : (la == la) = true := by simp
  have e2 : decide (la < la) = false := by simp
  obtain ⟨_, _, _, _, hna, -⟩ := hA.head
  obtain ⟨_, _, _, _, hnb, -⟩ := hB.head
  have HPO := hide (fun W (hW : Below w.heap.size w W) => ptr_other hgg ((hna.below hb).below hW) ((hnb.below hb).below hW))
  have hbx := box_st w bo (.pointer (some ⟨ga, 0, none⟩)) (.pointer (some ⟨gb, 0, none⟩))
  have hbb := box_below w bo (.pointer (some ⟨ga, 0, none⟩)) (.pointer (some ⟨gb, 0, none⟩))
  have HA := hide (hA.stay hb)
  have HBB := hide (hB.stay hb)
  have HA0 := hide hA
  have HB00 := hide hB
  have HC := hide hC
  have HBW := hide hb
  have HL := hide (And.intro hla (And.intro hlb hl))
  have HZA := hide hA.info.1
  have HZBB := hide hB.info.1
  have HSYM := hide (part_sym hA.info.1 hB.info.1)
  generalize htv : tellV bo = tv
  have HTV := hide htv
  have hmf : ∀ (fn : Fn) (first cap : Array Value) (w : World), (Instr.makeFunc fn first cap).run Tryz.prog w = .ok (.func fn first cap) w := fun _ _ _ _ => rfl
  obtain ⟨l0, a0, b0⟩ := hbx.cells
  rw [htv] at l0
  have hpo := HPO.out _ hbb
  unfold boxW at hbx hbb l0 a0 b0 hpo
  rw [htv] at hbx hbb l0 a0 b0 hpo
  clear htv hA hB hla hlb hC hb hl hm hcA hcB hlt hps hagr ec1 ec2
  go_enter Tryz.func56, Tryz.ntmps56
  go_upto_region 12 with fail
  generalize ((w.alloc (.cells #[tv] 110)).alloc (.cells #[.pointer (some ⟨ga, 0, none⟩)] 82)).alloc (.cells #[.pointer (some ⟨gb, 0, none⟩)] 82) = wb at *
  have HBX := hide hbx
  have HB := hide hbb
  clear hbx hbb l0 a0 b0 hpo
  obtain ⟨l0, a0, b0⟩ := HBX.out.cells
  rw [HTV.out] at l0
  have hd : Below w.heap.size w wb.drew := HB.out.drew
  have hqd : Below wb.heap.size wb wb.drew := (Below.refl _ _).drew
  have HCELL := hide (fun W (hW : Below wb.heap.size wb W) => (HBX.out.keep (KeepC.below hW)).cells)
  rw [HTV.out] at HCELL
  go_wp2_with fail
  go_region_held3 (fun w' => w'.cell? ⟨w.heap.size, 0, none⟩ = some tv ∧ w'.cell? ⟨w.heap.size + 1, 0, none⟩ = some (.pointer (some ⟨ga, 0, none⟩)) ∧ w'.cell? ⟨w.heap.size + 1 + 1, 0, none⟩ = some (.pointer (some ⟨gb, 0, none⟩)))
    (first
      | go_keep
      | exact HCELL.out _ hqd)
    (first
      | (go_at_call 51
         with_reducible refine (nd_level (HA.out.stay hd)).mono ?_
         rintro e wl ⟨rfl, rfl⟩)
      | (go_at_call 51
         with_reducible refine (nd_level (HBB.out.stay hd)).mono ?_
         rintro e wl ⟨rfl, rfl⟩)
      | (go_at_call 64
         refine (nd_prefix (HBB.out.stay hd) hk).mono ?_
         rintro e w20 ⟨v20, rfl, ho20, hb20⟩
         obtain ⟨A20, c20, rfl, hp20⟩ := Pt.of_own ho20 HZBB.out.1 HZBB.out.2
         have HP20 := hide hp20
         replace hd := below_then hd hb20
         replace hqd := hqd.trans (hb20.mono hqd.size)
         clear ho20 hb20 hp20)
      | (go_at_call 66
         have hcv := nd_covers (d := c20) (HA.out.stay hd) hk1 hk HP20.out
         rw [EC1.out] at hcv
         refine hcv.mono ?_
         clear hcv
         rintro e wc ⟨rfl, rfl⟩))
  replace HBX := hide (HBX.out.keep (KeepC.below hqd))
  replace HB := hide hd
  clear hd hqd HCELL l0 a0 b0
  obtain ⟨l0, a0, b0⟩ := HBX.out.cells
  rw [HTV.out] at l0
  go_wp2_with fail
  go_quiet ((first
      | (go_at_call 51
         exact Calls.quiet_of_same (still_of (nd_level (HA.out.stay (below_drewN HB.out _)))))
      | (go_at_call 51
         exact Calls.quiet_of_same (still_of (nd_level (HBB.out.stay (below_drewN HB.out _)))))))
  rename Nat => nq
  replace HBX := hide (HBX.out.keep (KeepC.below (below_drewN (Below.refl _ _) nq)))
  replace HB := hide (below_drewN HB.out nq)
  clear l0 a0 b0
  generalize w20.drewN nq = wq10 at *
  obtain ⟨l0, a0, b0⟩ := HBX.out.cells
  rw [HTV.out] at l0
  go_wp2_with fail
  go_quiet ((first
      | (go_at_call 51
         exact Calls.quiet_of_same (still_of (nd_level (HA.out.stay (below_drewN HB.out _)))))
      | (go_at_call 51
         exact Calls.quiet_of_same (still_of (nd_level (HBB.out.stay (below_drewN HB.out _)))))))
  rename Nat => nq
  replace HBX := hide (HBX.out.keep (KeepC.below (below_drewN (Below.refl _ _) nq)))
  replace HB := hide (below_drewN HB.out nq)
  clear l0 a0 b0
  generalize wq10.drewN nq = wq11 at *
  obtain ⟨l0, a0, b0⟩ := HBX.out.cells
  rw [HTV.out] at l0
  have hd : Below w.heap.size w wq11.drew := HB.out.drew
  have hqd : Below wq11.heap.size wq11 wq11.drew := (Below.refl _ _).drew
  have HCELL := hide (fun W (hW : Below wq11.heap.size wq11 W) => (HBX.out.keep (KeepC.below hW)).cells)
  rw [HTV.out] at HCELL
  go_wp2_with fail
  go_region_held3 (fun w' => w'.cell? ⟨w.heap.size, 0, none⟩ = some tv ∧ w'.cell? ⟨w.heap.size + 1, 0, none⟩ = some (.pointer (some ⟨ga, 0, none⟩)) ∧ w'.cell? ⟨w.heap.size + 1 + 1, 0, none⟩ = some (.pointer (some ⟨gb, 0, none⟩)))
    (first
      | go_keep
      | exact HCELL.out _ hqd)
    (first
      | (go_at_call 64
         with_reducible refine (nd_prefix (HA.out.stay hd) hk).mono ?_
         rintro e w22 ⟨v22, rfl, ho22, hb22⟩
         obtain ⟨A22, c22, rfl, hp22⟩ := Pt.of_own ho22 HZA.out.1 HZA.out.2
         have HP22 := hide hp22
         replace hd := below_then hd hb22
         replace hqd := hqd.trans (hb22.mono hqd.size)
         clear ho22 hb22 hp22)
      | (go_at_call 64
         with_reducible refine (nd_prefix (HBB.out.stay hd) hk).mono ?_
         rintro e w24 ⟨v24, rfl, ho24, hb24⟩
         obtain ⟨A24, c24, rfl, hp24⟩ := Pt.of_own ho24 HZBB.out.1 HZBB.out.2
         have HP24 := hide hp24
         have HB24 := hide hb24
         replace hd := below_then hd hb24
         replace hqd := hqd.trans (hb24.mono hqd.size)
         clear ho24 hb24 hp24)
      | (go_at_call 89
         refine (zb_cmp A22 A24 k c22 c24 pa pb _ (HP22.out.below HB24.out) HP24.out hk1 hk).mono ?_
         rintro e wx ⟨rfl, rfl⟩))
  replace HBX := hide (HBX.out.keep (KeepC.below hqd))
  replace HB := hide hd
  clear hd hqd HCELL l0 a0 b0
  have hcon := df_all (d := false) (bo := bo) HB00.out hk (Col.below HC.out HB.out) (HBW.out.trans (HB.out.mono HBW.out.size)) (by have := HL.out; omega) (by have := HL.out; omega)
  unfold asV at hcon
  simp only [if_true, Bool.false_eq_true, if_false] at hcon
  rw [HTV.out] at hcon
  have HCON := hide hcon
  clear hcon
  obtain ⟨l0, a0, b0⟩ := HBX.out.cells
  rw [HTV.out] at l0
  go_wp2_with fail
  refine HCON.out.mono ?_
  rintro e we hde
  have HBX2 := hide (HBX.out.keep hde.keepC)
  obtain ⟨rows1, rfl, hs1⟩ := DfOut.from_ hde.flip (KeepC.below HB.out)
  have HS1 := hide hs1
  clear l0 a0 b0 HCON hde hs1
  have hcon := df_all (d := true) (bo := bo) HA0.out hk HS1.out.col HS1.out.below (by have := HL.out; have := HS1.out.len; simp only [List.length_append, List.length_nil] at *; omega) (by have := HL.out; omega)
  unfold asV at hcon
  simp only [if_true, Bool.false_eq_true, if_false] at hcon
  rw [HTV.out] at hcon
  have HCON := hide hcon
  clear hcon
  obtain ⟨l0, a0, b0⟩ := HBX2.out.cells
  rw [HTV.out] at l0
  go_wp2_with fail
  refine HCON.out.mono ?_
  rintro e we2 hde
  obtain ⟨rows2, rfl, hs2⟩ := HS1.out.next hde (Ahead.nil_l _) (Ahead.nil_l _) HAH.out (Ahead.nil_r _)
  have HF := hide (show DfOut true w0 w k bo rows ea eb (.returned (.tuple #[])) we2 from by simpa using hs2.out)
  clear l0 a0 b0 HCON hde hs2
  go_wp2
  first
    | go_end0
    | ((try simp only [Exit.inBlock, Exit.then]); refine bodyPost_ret (results_none rfl _ _ _) rfl ?_)
  exact HF.out
set_option maxHeartbeats 8000000 in
set_option maxRecDepth 100000 in
theorem df_both_ap_gt_a {w0 w : World} {k ga gb bo : Nat} {la lb : Int} {pa pb : List Nat} {ea eb : List Ent} {rows : List CR} (hk1 : 1 ≤ k) (hk : k ≤ 16) (hA : NodeOf w0 k ga la pa ea) (hB : NodeOf w0 k gb lb pb eb) (hla : ea.length ≤ 60000) (hlb : eb.length ≤ 60000) (hC : ColC w0.heap.size w bo rows) (hb : Below w0.heap.size w0 w) (hl : rows.length + ea.length + eb.length ≤ 200000) (hgg : ga ≠ gb) (hrel : lb < la) (m : Nat) (hm : part pa pb = (m : Int)) (hcA : la < (m : Int)) (hcB : lb < (m : Int)) (hlt : addrOf pa m < addrOf pb m) :
    Calls Tryz.prog 56 #[.agg #[tellV bo], .pointer (some ⟨ga, 0, none⟩), .pointer (some ⟨gb, 0, none⟩)] w (DfOut true w0 w k bo rows ea eb) := by
  have hps := part_spec pa pb (hA.info.1.1.trans hB.info.1.1.symm) hA.info.1.2 hB.info.1.2
  have hagr : ∀ b, m < b → addrOf pa b = addrOf pb b := fun b hb => hps.2.2.1 b (by omega)
  have ec1 : decide (part pa pb ≤ la) = false := by simp; omega
  have ec2 : decide (part pb pa ≤ lb) = false := by rw [← part_sym hA.info.1 hB.info.1]; simp; omega
  have EC1 := hide ec1
  have EC2 := hide ec2
  have hcm : decide (cmp pa pb < 0) = true := by
    have := (cmp_lt hA.info.1 hB.info.1).2 ⟨m, hagr, hlt⟩
    rw [this]
    rfl
  have HAH := hide (show Ahead ea eb from (hA.atk hcA).ahead ((hB.atk hcB).zag hagr) (by omega))
  have e1 : (la == lb) = false := by simp; omega
  have e2 : decide (lb < la) = true := by simpa using hrel
  have e3 : decide (la < lb) = false := by simp; omega
  obtain ⟨_, _, _, _, hna, -⟩ := hA.head
  obtain ⟨_, _, _, _, hnb, -⟩ := hB.head
  have HPO := hide (fun W (hW : Below w.heap.size w W) => ptr_other hgg ((hna.below hb).below hW) ((hnb.below hb).below hW))
  have hbx := box_st w bo (.pointer (some ⟨ga, 0, none⟩)) (.pointer (some ⟨gb, 0, none⟩))
  have hbb := box_below w bo (.pointer (some ⟨ga, 0, none⟩)) (.pointer (some ⟨gb, 0, none⟩))
  have HA := hide (hA.stay hb)
  have HBB := hide (hB.stay hb)
  have HA0 := hide hA
  have HB00 := hide hB
  have HC := hide hC
  have HBW := hide hb
  have HL := hide (And.intro hla (And.intro hlb hl))
  have HZA := hide hA.info.1
  have HZBB := hide hB.info.1
  have HSYM := hide (part_sym hA.info.1 hB.info.1)
  generalize htv : tellV bo = tv
  have HTV := hide htv
  have hmf : ∀ (fn : Fn) (first cap : Array Value) (w : World), (Instr.makeFunc fn first cap).run Tryz.prog w = .ok (.func fn first cap) w := fun _ _ _ _ => rfl
  obtain ⟨l0, a0, b0⟩ := hbx.cells
  rw [htv] at l0
  have hpo := HPO.out _ hbb
  unfold boxW at hbx hbb l0 a0 b0 hpo
  rw [htv] at hbx hbb l0 a0 b0 hpo
  clear htv hA hB hla hlb hC hb hl hm hcA hcB hlt hps hagr ec1 ec2 hrel
  go_enter Tryz.func56, Tryz.ntmps56
  go_upto_region 12 with fail
  generalize ((w.alloc (.cells #[tv] 110)).alloc (.cells #[.pointer (some ⟨ga, 0, none⟩)] 82)).alloc (.cells #[.pointer (some ⟨gb, 0, none⟩)] 82) = wb at *
  have HBX := hide hbx
  have HB := hide hbb
  clear hbx hbb l0 a0 b0 hpo
  obtain ⟨l0, a0, b0⟩ := HBX.out.cells
  rw [HTV.out] at l0
  go_wp2_with fail
  go_quiet ((first
      | (go_at_call 51
         exact Calls.quiet_of_same (still_of (nd_level (HA.out.stay (below_drewN HB.out _)))))
      | (go_at_call 51
         exact Calls.quiet_of_same (still_of (nd_level (HBB.out.stay (below_drewN HB.out _)))))))
  rename Nat => nq
  replace HBX := hide (HBX.out.keep (KeepC.below (below_drewN (Below.refl _ _) nq)))
  replace HB := hide (below_drewN HB.out nq)
  clear l0 a0 b0
  generalize wb.drewN nq = wq10 at *
  obtain ⟨l0, a0, b0⟩ := HBX.out.cells
  rw [HTV.out] at l0
  have hd : Below w.heap.size w wq10.drew := HB.out.drew
  have hqd : Below wq10.heap.size wq10 wq10.drew := (Below.refl _ _).drew
  have HCELL := hide (fun W (hW : Below wq10.heap.size wq10 W) => (HBX.out.keep (KeepC.below hW)).cells)
  rw [HTV.out] at HCELL
  go_wp2_with fail
  go_region_held3 (fun w' => w'.cell? ⟨w.heap.size, 0, none⟩ = some tv ∧ w'.cell? ⟨w.heap.size + 1, 0, none⟩ = some (.pointer (some ⟨ga, 0, none⟩)) ∧ w'.cell? ⟨w.heap.size + 1 + 1, 0, none⟩ = some (.pointer (some ⟨gb, 0, none⟩)))
    (first
      | go_keep
      | exact HCELL.out _ hqd)
    (first
      | (go_at_call 51
         with_reducible refine (nd_level (HA.out.stay hd)).mono ?_
         rintro e wl ⟨rfl, rfl⟩)
      | (go_at_call 51
         with_reducible refine (nd_level (HBB.out.stay hd)).mono ?_
         rintro e wl ⟨rfl, rfl⟩)
      | (go_at_call 64
         refine (nd_prefix (HBB.out.stay hd) hk).mono ?_
         rintro e w20 ⟨v20, rfl, ho20, hb20⟩
         obtain ⟨A20, c20, rfl, hp20⟩ := Pt.of_own ho20 HZBB.out.1 HZBB.out.2
         have HP20 := hide hp20
         replace hd := below_then hd hb20
         replace hqd := hqd.trans (hb20.mono hqd.size)
         clear ho20 hb20 hp20)
      | (go_at_call 66
         have hcv := nd_covers (d := c20) (HA.out.stay hd) hk1 hk HP20.out
         rw [EC1.out] at hcv
         refine hcv.mono ?_
         clear hcv
         rintro e wc ⟨rfl, rfl⟩))
  replace HBX := hide (HBX.out.keep (KeepC.below hqd))
  replace HB := hide hd
  clear hd hqd HCELL l0 a0 b0
  obtain ⟨l0, a0, b0⟩ := HBX.out.cells
  rw [HTV.out] at l0
  go_wp2_with fail
  go_quiet ((first
      | (go_at_call 51
         exact Calls.quiet_of_same (still_of (nd_level (HA.out.stay (below_drewN HB.out _)))))
      | (go_at_call 51
         exact Calls.quiet_of_same (still_of (nd_level (HBB.out.stay (below_drewN HB.out _)))))))
  rename Nat => nq
  replace HBX := hide (HBX.out.keep (KeepC.below (below_drewN (Below.refl _ _) nq)))
  replace HB := hide (below_drewN HB.out nq)
  clear l0 a0 b0
  generalize w20.drewN nq = wq11 at *
  obtain ⟨l0, a0, b0⟩ := HBX.out.cells
  rw [HTV.out] at l0
  have hd : Below w.heap.size w wq11.drew := HB.out.drew
  have hqd : Below wq11.heap.size wq11 wq11.drew := (Below.refl _ _).drew
  have HCELL := hide (fun W (hW : Below wq11.heap.size wq11 W) => (HBX.out.keep (KeepC.below hW)).cells)
  rw [HTV.out] at HCELL
  go_wp2_with fail
  go_region_held3 (fun w' => w'.cell? ⟨w.heap.size, 0, none⟩ = some tv ∧ w'.cell? ⟨w.heap.size + 1, 0, none⟩ = some (.pointer (some ⟨ga, 0, none⟩)) ∧ w'.cell? ⟨w.heap.size + 1 + 1, 0, none⟩ = some (.pointer (some ⟨gb, 0, none⟩)))
    (first
      | go_keep
      | exact HCELL.out _ hqd)
    (first
      | (go_at_call 64
         with_reducible refine (nd_prefix (HA.out.stay hd) hk).mono ?_
         rintro e w22 ⟨v22, rfl, ho22, hb22⟩
         obtain ⟨A22, c22, rfl, hp22⟩ := Pt.of_own ho22 HZA.out.1 HZA.out.2
         have HP22 := hide hp22
         replace hd := below_then hd hb22
         replace hqd := hqd.trans (hb22.mono hqd.size)
         clear ho22 hb22 hp22)
      | (go_at_call 64
         with_reducible refine (nd_prefix (HBB.out.stay hd) hk).mono ?_
         rintro e w24 ⟨v24, rfl, ho24, hb24⟩
         obtain ⟨A24, c24, rfl, hp24⟩ := Pt.of_own ho24 HZBB.out.1 HZBB.out.2
         have HP24 := hide hp24
         have HB24 := hide hb24
         replace hd := below_then hd hb24
         replace hqd := hqd.trans (hb24.mono hqd.size)
         clear ho24 hb24 hp24)
      | (go_at_call 89
         refine (zb_cmp A22 A24 k c22 c24 pa pb _ (HP22.out.below HB24.out) HP24.out hk1 hk).mono ?_
         rintro e wx ⟨rfl, rfl⟩))
  replace HBX := hide (HBX.out.keep (KeepC.below hqd))
  replace HB := hide hd
  clear hd hqd HCELL l0 a0 b0
  have hcon := df_all (d := true) (bo := bo) HA0.out hk (Col.below HC.out HB.out) (HBW.out.trans (HB.out.mono HBW.out.size)) (by have := HL.out; omega) (by have := HL.out; omega)
  unfold asV at hcon
  simp only [if_true, Bool.false_eq_true, if_false] at hcon
  rw [HTV.out] at hcon
  have HCON := hide hcon
  clear hcon
  obtain ⟨l0, a0, b0⟩ := HBX.out.cells
  rw [HTV.out] at l0
  go_wp2_with fail
  refine HCON.out.mono ?_
  rintro e we hde
  have HBX2 := hide (HBX.out.keep hde.keepC)
  obtain ⟨rows1, rfl, hs1⟩ := DfOut.from_ hde (KeepC.below HB.out)
  have HS1 := hide hs1
  clear l0 a0 b0 HCON hde hs1
  have hcon := df_all (d := false) (bo := bo) HB00.out hk HS1.out.col HS1.out.below (by have := HL.out; have := HS1.out.len; simp only [List.length_append, List.length_nil] at *; omega) (by have := HL.out; omega)
  unfold asV at hcon
  simp only [if_true, Bool.false_eq_true, if_false] at hcon
  rw [HTV.out] at hcon
  have HCON := hide hcon
  clear hcon
  obtain ⟨l0, a0, b0⟩ := HBX2.out.cells
  rw [HTV.out] at l0
  go_wp2_with fail
  refine HCON.out.mono ?_
  rintro e we2 hde
  obtain ⟨rows2, rfl, hs2⟩ := HS1.out.next hde.flip (Ahead.nil_r _) HAH.out (Ahead.nil_l _) (Ahead.nil_l _)
  have HF := hide (show DfOut true w0 w k bo rows ea eb (.returned (.tuple #[])) we2 from by simpa using hs2.out)
  clear l0 a0 b0 HCON hde hs2
  go_wp2
  first
    | go_end0
    | ((try simp only [Exit.inBlock, Exit.then]); refine bodyPost_ret (results_none rfl _ _ _) rfl ?_)
  exact HF.out
set_option maxHeartbeats 8000000 in
set_option maxRecDepth 100000 in
theorem df_both_ap_gt_b {w0 w : World} {k ga gb bo : Nat} {la lb : Int} {pa pb : List Nat} {ea eb : List Ent} {rows : List CR} (hk1 : 1 ≤ k) (hk : k ≤ 16) (hA : NodeOf w0 k ga la pa ea) (hB : NodeOf w0 k gb lb pb eb) (hla : ea.length ≤ 60000) (hlb : eb.length ≤ 60000) (hC : ColC w0.heap.size w bo rows) (hb : Below w0.heap.size w0 w) (hl : rows.length + ea.length + eb.length ≤ 200000) (hgg : ga ≠ gb) (hrel : lb < la) (m : Nat) (hm : part pa pb = (m : Int)) (hcA : la < (m : Int)) (hcB : lb < (m : Int)) (hlt : addrOf pb m < addrOf pa m) :
    Calls Tryz.prog 56 #[.agg #[tellV bo], .pointer (some ⟨ga, 0, none⟩), .pointer (some ⟨gb, 0, none⟩)] w (DfOut true w0 w k bo rows ea eb) := by
  have hps := part_spec pa pb (hA.info.1.1.trans hB.info.1.1.symm) hA.info.1.2 hB.info.1.2
  have hagr : ∀ b, m < b → addrOf pa b = addrOf pb b := fun b hb => hps.2.2.1 b (by omega)
  have ec1 : decide (part pa pb ≤ la) = false := by simp; omega
  have ec2 : decide (part pb pa ≤ lb) = false := by rw [← part_sym hA.info.1 hB.info.1]; simp; omega
  have EC1 := hide ec1
  have EC2 := hide ec2
  have hcm : decide (cmp pa pb < 0) = false := by
    have := (cmp_gt hA.info.1 hB.info.1).2 ⟨m, fun b hb => (hagr b hb).symm, hlt⟩
    rw [this]
    rfl
  have HAH := hide (show Ahead eb ea from ((hB.atk hcB).zag hagr).ahead (hA.atk hcA) (by omega))
  have e1 : (la == lb) = false := by simp; omega
  have e2 : decide (lb < la) = true := by simpa using hrel
  have e3 : decide (la < lb) = false := by simp; omega
  obtain ⟨_, _, _, _, hna, -⟩ := hA.head
  obtain ⟨_, _, _, _, hnb, -⟩ := hB.head
  have HPO := hide (fun W (hW : Below w.heap.size w W) => ptr_other hgg ((hna.below hb).below hW) ((hnb.below hb).below hW))
  have hbx := box_st w bo (.pointer (some ⟨ga, 0, none⟩)) (.pointer (some ⟨gb, 0, none⟩))
  have hbb := box_below w bo (.pointer (some ⟨ga, 0, none⟩)) (.pointer (some ⟨gb, 0, none⟩))
  have HA := hide (hA.stay hb)
  have HBB := hide (hB.stay hb)
  have HA0 := hide hA
  have HB00 := hide hB
  have HC := hide hC
  have HBW := hide hb
  have HL := hide (And.intro hla (And.intro hlb hl))
  have HZA := hide hA.info.1
  have HZBB := hide hB.info.1
  have HSYM := hide (part_sym hA.info.1 hB.info.1)
  generalize htv : tellV bo = tv
  have HTV := hide htv
  have hmf : ∀ (fn : Fn) (first cap : Array Value) (w : World), (Instr.makeFunc fn first cap).run Tryz.prog w = .ok (.func fn first cap) w := fun _ _ _ _ => rfl
  obtain ⟨l0, a0, b0⟩ := hbx.cells
  rw [htv] at l0
  have hpo := HPO.out _ hbb
  unfold boxW at hbx hbb l0 a0 b0 hpo
  rw [htv] at hbx hbb l0 a0 b0 hpo
  clear htv hA hB hla hlb hC hb hl hm hcA hcB hlt hps hagr ec1 ec2 hrel
  go_enter Tryz.func56, Tryz.ntmps56
  go_upto_region 12 with fail
  generalize ((w.alloc (.cells #[tv] 110)).alloc (.cells #[.pointer (some ⟨ga, 0, none⟩)] 82)).alloc (.cells #[.pointer (some ⟨gb, 0, none⟩)] 82) = wb at *
  have HBX := hide hbx
  have HB := hide hbb
  clear hbx hbb l0 a0 b0 hpo
  obtain ⟨l0, a0, b0⟩ := HBX.out.cells
  rw [HTV.out] at l0
  go_wp2_with fail
  go_quiet ((first
      | (go_at_call 51
         exact Calls.quiet_of_same (still_of (nd_level (HA.out.stay (below_drewN HB.out _)))))
      | (go_at_call 51
         exact Calls.quiet_of_same (still_of (nd_level (HBB.out.stay (below_drewN HB.out _)))))))
  rename Nat => nq
  replace HBX := hide (HBX.out.keep (KeepC.below (below_drewN (Below.refl _ _) nq)))
  replace HB := hide (below_drewN HB.out nq)
  clear l0 a0 b0
  generalize wb.drewN nq = wq10 at *
  obtain ⟨l0, a0, b0⟩ := HBX.out.cells
  rw [HTV.out] at l0
  have hd : Below w.heap.size w wq10.drew := HB.out.drew
  have hqd : Below wq10.heap.size wq10 wq10.drew := (Below.refl _ _).drew
  have HCELL := hide (fun W (hW : Below wq10.heap.size wq10 W) => (HBX.out.keep (KeepC.below hW)).cells)
  rw [HTV.out] at HCELL
  go_wp2_with fail
  go_region_held3 (fun w' => w'.cell? ⟨w.heap.size, 0, none⟩ = some tv ∧ w'.cell? ⟨w.heap.size + 1, 0, none⟩ = some (.pointer (some ⟨ga, 0, none⟩)) ∧ w'.cell? ⟨w.heap.size + 1 + 1, 0, none⟩ = some (.pointer (some ⟨gb, 0, none⟩)))
    (first
      | go_keep
      | exact HCELL.out _ hqd)
    (first
      | (go_at_call 51
         with_reducible refine (nd_level (HA.out.stay hd)).mono ?_
         rintro e wl ⟨rfl, rfl⟩)
      | (go_at_call 51
         with_reducible refine (nd_level (HBB.out.stay hd)).mono ?_
         rintro e wl ⟨rfl, rfl⟩)
      | (go_at_call 64
         refine (nd_prefix (HBB.out.stay hd) hk).mono ?_
         rintro e w20 ⟨v20, rfl, ho20, hb20⟩
         obtain ⟨A20, c20, rfl, hp20⟩ := Pt.of_own ho20 HZBB.out.1 HZBB.out.2
         have HP20 := hide hp20
         replace hd := below_then hd hb20
         replace hqd := hqd.trans (hb20.mono hqd.size)
         clear ho20 hb20 hp20)
      | (go_at_call 66
         have hcv := nd_covers (d := c20) (HA.out.stay hd) hk1 hk HP20.out
         rw [EC1.out] at hcv
         refine hcv.mono ?_
         clear hcv
         rintro e wc ⟨rfl, rfl⟩))
  replace HBX := hide (HBX.out.keep (KeepC.below hqd))
  replace HB := hide hd
  clear hd hqd HCELL l0 a0 b0
  obtain ⟨l0, a0, b0⟩ := HBX.out.cells
  rw [HTV.out] at l0
  go_wp2_with fail
  go_quiet ((first
      | (go_at_call 51
         exact Calls.quiet_of_same (still_of (nd_level (HA.out.stay (below_drewN HB.out _)))))
      | (go_at_call 51
         exact Calls.quiet_of_same (still_of (nd_level (HBB.out.stay (below_drewN HB.out _)))))))
  rename Nat => nq
  replace HBX := hide (HBX.out.keep (KeepC.below (below_drewN (Below.refl _ _) nq)))
  replace HB := hide (below_drewN HB.out nq)
  clear l0 a0 b0
  generalize w20.drewN nq = wq11 at *
  obtain ⟨l0, a0, b0⟩ := HBX.out.cells
  rw [HTV.out] at l0
  have hd : Below w.heap.size w wq11.drew := HB.out.drew
  have hqd : Below wq11.heap.size wq11 wq11.drew := (Below.refl _ _).drew
  have HCELL := hide (fun W (hW : Below wq11.heap.size wq11 W) => (HBX.out.keep (KeepC.below hW)).cells)
  rw [HTV.out] at HCELL
  go_wp2_with fail
  go_region_held3 (fun w' => w'.cell? ⟨w.heap.size, 0, none⟩ = some tv ∧ w'.cell? ⟨w.heap.size + 1, 0, none⟩ = some (.pointer (some ⟨ga, 0, none⟩)) ∧ w'.cell? ⟨w.heap.size + 1 + 1, 0, none⟩ = some (.pointer (some ⟨gb, 0, none⟩)))
    (first
      | go_keep
      | exact HCELL.out _ hqd)
    (first
      | (go_at_call 64
         with_reducible refine (nd_prefix (HA.out.stay hd) hk).mono ?_
         rintro e w22 ⟨v22, rfl, ho22, hb22⟩
         obtain ⟨A22, c22, rfl, hp22⟩ := Pt.of_own ho22 HZA.out.1 HZA.out.2
         have HP22 := hide hp22
         replace hd := below_then hd hb22
         replace hqd := hqd.trans (hb22.mono hqd.size)
         clear ho22 hb22 hp22)
      | (go_at_call 64
         with_reducible refine (nd_prefix (HBB.out.stay hd) hk).mono ?_
         rintro e w24 ⟨v24, rfl, ho24, hb24⟩
         obtain ⟨A24, c24, rfl, hp24⟩ := Pt.of_own ho24 HZBB.out.1 HZBB.out.2
         have HP24 := hide hp24
         have HB24 := hide hb24
         replace hd := below_then hd hb24
         replace hqd := hqd.trans (hb24.mono hqd.size)
         clear ho24 hb24 hp24)
      | (go_at_call 89
         refine (zb_cmp A22 A24 k c22 c24 pa pb _ (HP22.out.below HB24.out) HP24.out hk1 hk).mono ?_
         rintro e wx ⟨rfl, rfl⟩))
  replace HBX := hide (HBX.out.keep (KeepC.below hqd))
  replace HB := hide hd
  clear hd hqd HCELL l0 a0 b0
  have hcon := df_all (d := false) (bo := bo) HB00.out hk (Col.below HC.out HB.out) (HBW.out.trans (HB.out.mono HBW.out.size)) (by have := HL.out; omega) (by have := HL.out; omega)
  unfold asV at hcon
  simp only [if_true, Bool.false_eq_true, if_false] at hcon
  rw [HTV.out] at hcon
  have HCON := hide hcon
  clear hcon
  obtain ⟨l0, a0, b0⟩ := HBX.out.cells
  rw [HTV.out] at l0
  go_wp2_with fail
  refine HCON.out.mono ?_
  rintro e we hde
  have HBX2 := hide (HBX.out.keep hde.keepC)
  obtain ⟨rows1, rfl, hs1⟩ := DfOut.from_ hde.flip (KeepC.below HB.out)
  have HS1 := hide hs1
  clear l0 a0 b0 HCON hde hs1
  have hcon := df_all (d := true) (bo := bo) HA0.out hk HS1.out.col HS1.out.below (by have := HL.out; have := HS1.out.len; simp only [List.length_append, List.length_nil] at *; omega) (by have := HL.out; omega)
  unfold asV at hcon
  simp only [if_true, Bool.false_eq_true, if_false] at hcon
  rw [HTV.out] at hcon
  have HCON := hide hcon
  clear hcon
  obtain ⟨l0, a0, b0⟩ := HBX2.out.cells
  rw [HTV.out] at l0
  go_wp2_with fail
  refine HCON.out.mono ?_
  rintro e we2 hde
  obtain ⟨rows2, rfl, hs2⟩ := HS1.out.next hde (Ahead.nil_l _) (Ahead.nil_l _) HAH.out (Ahead.nil_r _)
  have HF := hide (show DfOut true w0 w k bo rows ea eb (.returned (.tuple #[])) we2 from by simpa using hs2.out)
  clear l0 a0 b0 HCON hde hs2
  go_wp2
  first
    | go_end0
    | ((try simp only [Exit.inBlock, Exit.then]); refine bodyPost_ret (results_none rfl _ _ _) rfl ?_)
  exact HF.out
set_option maxHeartbeats 8000000 in
set_option maxRecDepth 100000 in
theorem df_both_ap_lt_a {w0 w : World} {k ga gb bo : Nat} {la lb : Int} {pa pb : List Nat} {ea eb : List Ent} {rows : List CR} (hk1 : 1 ≤ k) (hk : k ≤ 16) (hA : NodeOf w0 k ga la pa ea) (hB : NodeOf w0 k gb lb pb eb) (hla : ea.length ≤ 60000) (hlb : eb.length ≤ 60000) (hC : ColC w0.heap.size w bo rows) (hb : Below w0.heap.size w0 w) (hl : rows.length + ea.length + eb.length ≤ 200000) (hgg : ga ≠ gb) (hrel : la < lb) (m : Nat) (hm : part pa pb = (m : Int)) (hcA : la < (m : Int)) (hcB : lb < (m : Int)) (hlt : addrOf pa m < addrOf pb m) :
    Calls Tryz.prog 56 #[.agg #[tellV bo], .pointer (some ⟨ga, 0, none⟩), .pointer (some ⟨gb, 0, none⟩)] w (DfOut true w0 w k bo rows ea eb) := by
  have hps := part_spec pa pb (hA.info.1.1.trans hB.info.1.1.symm) hA.info.1.2 hB.info.1.2
  have hagr : ∀ b, m < b → addrOf pa b = addrOf pb b := fun b hb => hps.2.2.1 b (by omega)
  have ec1 : decide (part pa pb ≤ la) = false := by simp; omega
  have ec2 : decide (part pb pa ≤ lb) = false := by rw [← part_sym hA.info.1 hB.info.1]; simp; omega
  have EC1 := hide ec1
  have EC2 := hide ec2
  have hcm : decide (cmp pa pb < 0) = true := by
    have := (cmp_lt hA.info.1 hB.info.1).2 ⟨m, hagr, hlt⟩
    rw [this]
    rfl
  have HAH := hide (show Ahead ea eb from (hA.atk hcA).ahead ((hB.atk hcB).zag hagr) (by omega))
  have e1 : (la == lb) = false := by simp; omega
  have e2 : decide (lb < la) = false := by simp; omega
  have e3 : decide (la < lb) = true := by simpa using hrel
  obtain ⟨_, _, _, _, hna, -⟩ := hA.head
  obtain ⟨_, _, _, _, hnb, -⟩ := hB.head
  have HPO := hide (fun W (hW : Below w.heap.size w W) => ptr_other hgg ((hna.below hb).below hW) ((hnb.below hb).below hW))
  have hbx := box_st w bo (.pointer (some ⟨ga, 0, none⟩)) (.pointer (some ⟨gb, 0, none⟩))
  have hbb := box_below w bo (.pointer (some ⟨ga, 0, none⟩)) (.pointer (some ⟨gb, 0, none⟩))
  have HA := hide (hA.stay hb)
  have HBB := hide (hB.stay hb)
  have HA0 := hide hA
  have HB00 := hide hB
  have HC := hide hC
  have HBW := hide hb
  have HL := hide (And.intro hla (And.intro hlb hl))
  have HZA := hide hA.info.1
  have HZBB := hide hB.info.1
  have HSYM := hide (part_sym hA.info.1 hB.info.1)
  generalize htv : tellV bo = tv
  have HTV := hide htv
  have hmf : ∀ (fn : Fn) (first cap : Array Value) (w : World), (Instr.makeFunc fn first cap).run Tryz.prog w = .ok (.func fn first cap) w := fun _ _ _ _ => rfl
  obtain ⟨l0, a0, b0⟩ := hbx.cells
  rw [htv] at l0
  have hpo := HPO.out _ hbb
  unfold boxW at hbx hbb l0 a0 b0 hpo
  rw [htv] at hbx hbb l0 a0 b0 hpo
  clear htv hA hB hla hlb hC hb hl hm hcA hcB hlt hps hagr ec1 ec2 hrel
  go_enter Tryz.func56, Tryz.ntmps56
  go_upto_region 12 with fail
  generalize ((w.alloc (.cells #[tv] 110)).alloc (.cells #[.pointer (some ⟨ga, 0, none⟩)] 82)).alloc (.cells #[.pointer (some ⟨gb, 0, none⟩)] 82) = wb at *
  have HBX := hide hbx
  have HB := hide hbb
  clear hbx hbb l0 a0 b0 hpo
  obtain ⟨l0, a0, b0⟩ := HBX.out.cells
  rw [HTV.out] at l0
  go_wp2_with fail
  go_quiet ((first
      | (go_at_call 51
         exact Calls.quiet_of_same (still_of (nd_level (HA.out.stay (below_drewN HB.out _)))))
      | (go_at_call 51
         exact Calls.quiet_of_same (still_of (nd_level (HBB.out.stay (below_drewN HB.out _)))))))
  rename Nat => nq
  replace HBX := hide (HBX.out.keep (KeepC.below (below_drewN (Below.refl _ _) nq)))
  replace HB := hide (below_drewN HB.out nq)
  clear l0 a0 b0
  generalize wb.drewN nq = wq10 at *
  obtain ⟨l0, a0, b0⟩ := HBX.out.cells
  rw [HTV.out] at l0
  go_wp2_with fail
  go_quiet ((first
      | (go_at_call 51
         exact Calls.quiet_of_same (still_of (nd_level (HA.out.stay (below_drewN HB.out _)))))
      | (go_at_call 51
         exact Calls.quiet_of_same (still_of (nd_level (HBB.out.stay (below_drewN HB.out _)))))))
  rename Nat => nq
  replace HBX := hide (HBX.out.keep (KeepC.below (below_drewN (Below.refl _ _) nq)))
  replace HB := hide (below_drewN HB.out nq)
  clear l0 a0 b0
  generalize wq10.drewN nq = wq11 at *
  obtain ⟨l0, a0, b0⟩ := HBX.out.cells
  rw [HTV.out] at l0
  have hd : Below w.heap.size w wq11.drew := HB.out.drew
  have hqd : Below wq11.heap.size wq11 wq11.drew := (Below.refl _ _).drew
  have HCELL := hide (fun W (hW : Below wq11.heap.size wq11 W) => (HBX.out.keep (KeepC.below hW)).cells)
  rw [HTV.out] at HCELL
  go_wp2_with fail
  go_region_held3 (fun w' => w'.cell? ⟨w.heap.size, 0, none⟩ = some tv ∧ w'.cell? ⟨w.heap.size + 1, 0, none⟩ = some (.pointer (some ⟨ga, 0, none⟩)) ∧ w'.cell? ⟨w.heap.size + 1 + 1, 0, none⟩ = some (.pointer (some ⟨gb, 0, none⟩)))
    (first
      | go_keep
      | exact HCELL.out _ hqd)
    (first
      | (go_at_call 51
         with_reducible refine (nd_level (HA.out.stay hd)).mono ?_
         rintro e wl ⟨rfl, rfl⟩)
      | (go_at_call 51
         with_reducible refine (nd_level (HBB.out.stay hd)).mono ?_
         rintro e wl ⟨rfl, rfl⟩)
      | (go_at_call 64
         refine (nd_prefix (HA.out.stay hd) hk).mono ?_
         rintro e w20 ⟨v20, rfl, ho20, hb20⟩
         obtain ⟨A20, c20, rfl, hp20⟩ := Pt.of_own ho20 HZA.out.1 HZA.out.2
         have HP20 := hide hp20
         replace hd := below_then hd hb20
         replace hqd := hqd.trans (hb20.mono hqd.size)
         clear ho20 hb20 hp20)
      | (go_at_call 66
         have hcv := nd_covers (d := c20) (HBB.out.stay hd) hk1 hk HP20.out
         rw [EC2.out] at hcv
         refine hcv.mono ?_
         clear hcv
         rintro e wc ⟨rfl, rfl⟩))
  replace HBX := hide (HBX.out.keep (KeepC.below hqd))
  replace HB := hide hd
  clear hd hqd HCELL l0 a0 b0
  obtain ⟨l0, a0, b0⟩ := HBX.out.cells
  rw [HTV.out] at l0
  have hd : Below w.heap.size w w20.drew := HB.out.drew
  have hqd : Below w20.heap.size w20 w20.drew := (Below.refl _ _).drew
  have HCELL := hide (fun W (hW : Below w20.heap.size w20 W) => (HBX.out.keep (KeepC.below hW)).cells)
  rw [HTV.out] at HCELL
  go_wp2_with fail
  go_region_held3 (fun w' => w'.cell? ⟨w.heap.size, 0, none⟩ = some tv ∧ w'.cell? ⟨w.heap.size + 1, 0, none⟩ = some (.pointer (some ⟨ga, 0, none⟩)) ∧ w'.cell? ⟨w.heap.size + 1 + 1, 0, none⟩ = some (.pointer (some ⟨gb, 0, none⟩)))
    (first
      | go_keep
      | exact HCELL.out _ hqd)
    (first
      | (go_at_call 64
         with_reducible refine (nd_prefix (HA.out.stay hd) hk).mono ?_
         rintro e w22 ⟨v22, rfl, ho22, hb22⟩
         obtain ⟨A22, c22, rfl, hp22⟩ := Pt.of_own ho22 HZA.out.1 HZA.out.2
         have HP22 := hide hp22
         replace hd := below_then hd hb22
         replace hqd := hqd.trans (hb22.mono hqd.size)
         clear ho22 hb22 hp22)
      | (go_at_call 64
         with_reducible refine (nd_prefix (HBB.out.stay hd) hk).mono ?_
         rintro e w24 ⟨v24, rfl, ho24, hb24⟩
         obtain ⟨A24, c24, rfl, hp24⟩ := Pt.of_own ho24 HZBB.out.1 HZBB.out.2
         have HP24 := hide hp24
         have HB24 := hide hb24
         replace hd := below_then hd hb24
         replace hqd := hqd.trans (hb24.mono hqd.size)
         clear ho24 hb24 hp24)
      | (go_at_call 89
         refine (zb_cmp A22 A24 k c22 c24 pa pb _ (HP22.out.below HB24.out) HP24.out hk1 hk).mono ?_
         rintro e wx ⟨rfl, rfl⟩))
  replace HBX := hide (HBX.out.keep (KeepC.below hqd))
  replace HB := hide hd
  clear hd hqd HCELL l0 a0 b0
  have hcon := df_all (d := true) (bo := bo) HA0.out hk (Col.below HC.out HB.out) (HBW.out.trans (HB.out.mono HBW.out.size)) (by have := HL.out; omega) (by have := HL.out; omega)
  unfold asV at hcon
  simp only [if_true, Bool.false_eq_true, if_false] at hcon
  rw [HTV.out] at hcon
  have HCON := hide hcon
  clear hcon
  obtain ⟨l0, a0, b0⟩ := HBX.out.cells
  rw [HTV.out] at l0
  go_wp2_with fail
  refine HCON.out.mono ?_
  rintro e we hde
  have HBX2 := hide (HBX.out.keep hde.keepC)
  obtain ⟨rows1, rfl, hs1⟩ := DfOut.from_ hde (KeepC.below HB.out)
  have HS1 := hide hs1
  clear l0 a0 b0 HCON hde hs1
  have hcon := df_all (d := false) (bo := bo) HB00.out hk HS1.out.col HS1.out.below (by have := HL.out; have := HS1.out.len; simp only [List.length_append, List.length_nil] at *; omega) (by have := HL.out; omega)
  unfold asV at hcon
  simp only [if_true, Bool.false_eq_true, if_false] at hcon
  rw [HTV.out] at hcon
  have HCON := hide hcon
  clear hcon
  obtain ⟨l0, a0, b0⟩ := HBX2.out.cells
  rw [HTV.out] at l0
  go_wp2_with fail
  refine HCON.out.mono ?_
  rintro e we2 hde
  obtain ⟨rows2, rfl, hs2⟩ := HS1.out.next hde.flip (Ahead.nil_r _) HAH.out (Ahead.nil_l _) (Ahead.nil_l _)
  have HF := hide (show DfOut true w0 w k bo rows ea eb (.returned (.tuple #[])) we2 from by simpa using hs2.out)
  clear l0 a0 b0 HCON hde hs2
  go_wp2
  first
    | go_end0
    | ((try simp only [Exit.inBlock, Exit.then]); refine bodyPost_ret (results_none rfl _ _ _) rfl ?_)
  exact HF.out
set_option maxHeartbeats 8000000 in
set_option maxRecDepth 100000 in
theorem df_both_ap_lt_b {w0 w : World} {k ga gb bo : Nat} {la lb : Int} {pa pb : List Nat} {ea eb : List Ent} {rows : List CR} (hk1 : 1 ≤ k) (hk : k ≤ 16) (hA : NodeOf w0 k ga la pa ea) (hB : NodeOf w0 k gb lb pb eb) (hla : ea.length ≤ 60000) (hlb : eb.length ≤ 60000) (hC : ColC w0.heap.size w bo rows) (hb : Below w0.heap.size w0 w) (hl : rows.length + ea.length + eb.length ≤ 200000) (hgg : ga ≠ gb) (hrel : la < lb) (m : Nat) (hm : part pa pb = (m : Int)) (hcA : la < (m : Int)) (hcB : lb < (m : Int)) (hlt : addrOf pb m < addrOf pa m) :
    Calls Tryz.prog 56 #[.agg #[tellV bo], .pointer (some ⟨ga, 0, none⟩), .pointer (some ⟨gb, 0, none⟩)] w (DfOut true w0 w k bo rows ea eb) := by
  have hps := part_spec pa pb (hA.info.1.1.trans hB.info.1.1.symm) hA.info.1.2 hB.info.1.2
  have hagr : ∀ b, m < b → addrOf pa b = addrOf pb b := fun b hb => hps.2.2.1 b (by omega)
  have ec1 : decide (part pa pb ≤ la) = false := by simp; omega
  have ec2 : decide (part pb pa ≤ lb) = false := by rw [← part_sym hA.info.1 hB.info.1]; simp; omega
  have EC1 := hide ec1
  have EC2 := hide ec2
  have hcm : decide (cmp pa pb < 0) = false := by
    have := (cmp_gt hA.info.1 hB.info.1).2 ⟨m, fun b hb => (hagr b hb).symm, hlt⟩
    rw [this]
    rfl
  have HAH := hide (show Ahead eb ea from ((hB.atk hcB).zag hagr).ahead (hA.atk hcA) (by omega))
  have e1 : (la == lb) = false := by simp; omega
  have e2 : decide (lb < la) = false := by simp; omega
  have e3 : decide (la < lb) = true := by simpa using hrel
  obtain ⟨_, _, _, _, hna, -⟩ := hA.head
  obtain ⟨_, _, _, _, hnb, -⟩ := hB.head
  have HPO := hide (fun W (hW : Below w.heap.size w W) => ptr_other hgg ((hna.below hb).below hW) ((hnb.below hb).below hW))
  have hbx := box_st w bo (.pointer (some ⟨ga, 0, none⟩)) (.pointer (some ⟨gb, 0, none⟩))
  have hbb := box_below w bo (.pointer (some ⟨ga, 0, none⟩)) (.pointer (some ⟨gb, 0, none⟩))
  have HA := hide (hA.stay hb)
  have HBB := hide (hB.stay hb)
  have HA0 := hide hA
  have HB00 := hide hB
  have HC := hide hC
  have HBW := hide hb
  have HL := hide (And.intro hla (And.intro hlb hl))
  have HZA := hide hA.info.1
  have HZBB := hide hB.info.1
  have HSYM := hide (part_sym hA.info.1 hB.info.1)
  generalize htv : tellV bo = tv
  have HTV := hide htv
  have hmf : ∀ (fn : Fn) (first cap : Array Value) (w : World), (Instr.makeFunc fn first cap).run Tryz.prog w = .ok (.func fn first cap) w := fun _ _ _ _ => rfl
  obtain ⟨l0, a0, b0⟩ := hbx.cells
  rw [htv] at l0
  have hpo := HPO.out _ hbb
  unfold boxW at hbx hbb l0 a0 b0 hpo
  rw [htv] at hbx hbb l0 a0 b0 hpo
  clear htv hA hB hla hlb hC hb hl hm hcA hcB hlt hps hagr ec1 ec2 hrel
  go_enter Tryz.func56, Tryz.ntmps56
  go_upto_region 12 with fail
  generalize ((w.alloc (.cells #[tv] 110)).alloc (.cells #[.pointer (some ⟨ga, 0, none⟩)] 82)).alloc (.cells #[.pointer (some ⟨gb, 0, none⟩)] 82) = wb at *
  have HBX := hide hbx
  have HB := hide hbb
  clear hbx hbb l0 a0 b0 hpo
  obtain ⟨l0, a0, b0⟩ := HBX.out.cells
  rw [HTV.out] at l0
  go_wp2_with fail
  go_quiet ((first
      | (go_at_call 51
         exact Calls.quiet_of_same (still_of (nd_level (HA.out.stay (below_drewN HB.out _)))))
      | (go_at_call 51
         exact Calls.quiet_of_same (still_of (nd_level (HBB.out.stay (below_drewN HB.out _)))))))
  rename Nat => nq
  replace HBX := hide (HBX.out.keep (KeepC.below (below_drewN (Below.refl _ _) nq)))
  replace HB := hide (below_drewN HB.out nq)
  clear l0 a0 b0
  generalize wb.drewN nq = wq10 at *
  obtain ⟨l0, a0, b0⟩ := HBX.out.cells
  rw [HTV.out] at l0
  go_wp2_with fail
  go_quiet ((first
      | (go_at_call 51
         exact Calls.quiet_of_same (still_of (nd_level (HA.out.stay (below_drewN HB.out _)))))
      | (go_at_call 51
         exact Calls.quiet_of_same (still_of (nd_level (HBB.out.stay (below_drewN HB.out _)))))))
  rename Nat => nq
  replace HBX := hide (HBX.out.keep (KeepC.below (below_drewN (Below.refl _ _) nq)))
  replace HB := hide (below_drewN HB.out nq)
  clear l0 a0 b0
  generalize wq10.drewN nq = wq11 at *
  obtain ⟨l0, a0, b0⟩ := HBX.out.cells
  rw [HTV.out] at l0
  have hd : Below w.heap.size w wq11.drew := HB.out.drew
  have hqd : Below wq11.heap.size wq11 wq11.drew := (Below.refl _ _).drew
  have HCELL := hide (fun W (hW : Below wq11.heap.size wq11 W) => (HBX.out.keep (KeepC.below hW)).cells)
  rw [HTV.out] at HCELL
  go_wp2_with fail
  go_region_held3 (fun w' => w'.cell? ⟨w.heap.size, 0, none⟩ = some tv ∧ w'.cell? ⟨w.heap.size + 1, 0, none⟩ = some (.pointer (some ⟨ga, 0, none⟩)) ∧ w'.cell? ⟨w.heap.size + 1 + 1, 0, none⟩ = some (.pointer (some ⟨gb, 0, none⟩)))
    (first
      | go_keep
      | exact HCELL.out _ hqd)
    (first
      | (go_at_call 51
         with_reducible refine (nd_level (HA.out.stay hd)).mono ?_
         rintro e wl ⟨rfl, rfl⟩)
      | (go_at_call 51
         with_reducible refine (nd_level (HBB.out.stay hd)).mono ?_
         rintro e wl ⟨rfl, rfl⟩)
      | (go_at_call 64
         refine (nd_prefix (HA.out.stay hd) hk).mono ?_
         rintro e w20 ⟨v20, rfl, ho20, hb20⟩
         obtain ⟨A20, c20, rfl, hp20⟩ := Pt.of_own ho20 HZA.out.1 HZA.out.2
         have HP20 := hide hp20
         replace hd := below_then hd hb20
         replace hqd := hqd.trans (hb20.mono hqd.size)
         clear ho20 hb20 hp20)
      | (go_at_call 66
         have hcv := nd_covers (d := c20) (HBB.out.stay hd) hk1 hk HP20.out
         rw [EC2.out] at hcv
         refine hcv.mono ?_
         clear hcv
         rintro e wc ⟨rfl, rfl⟩))
  replace HBX := hide (HBX.out.keep (KeepC.below hqd))
  replace HB := hide hd
  clear hd hqd HCELL l0 a0 b0
  obtain ⟨l0, a0, b0⟩ := HBX.out.cells
  rw [HTV.out] at l0
  have hd : Below w.heap.size w w20.drew := HB.out.drew
  have hqd : Below w20.heap.size w20 w20.drew := (Below.refl _ _).drew
  have HCELL := hide (fun W (hW : Below w20.heap.size w20 W) => (HBX.out.keep (KeepC.below hW)).cells)
  rw [HTV.out] at HCELL
  go_wp2_with fail
  go_region_held3 (fun w' => w'.cell? ⟨w.heap.size, 0, none⟩ = some tv ∧ w'.cell? ⟨w.heap.size + 1, 0, none⟩ = some (.pointer (some ⟨ga, 0, none⟩)) ∧ w'.cell? ⟨w.heap.size + 1 + 1, 0, none⟩ = some (.pointer (some ⟨gb, 0, none⟩)))
    (first
      | go_keep
      | exact HCELL.out _ hqd)
    (first
      | (go_at_call 64
         with_reducible refine (nd_prefix (HA.out.stay hd) hk).mono ?_
         rintro e w22 ⟨v22, rfl, ho22, hb22⟩
         obtain ⟨A22, c22, rfl, hp22⟩ := Pt.of_own ho22 HZA.out.1 HZA.out.2
         have HP22 := hide hp22
         replace hd := below_then hd hb22
         replace hqd := hqd.trans (hb22.mono hqd.size)
         clear ho22 hb22 hp22)
      | (go_at_call 64
         with_reducible refine (nd_prefix (HBB.out.stay hd) hk).mono ?_
         rintro e w24 ⟨v24, rfl, ho24, hb24⟩
         obtain ⟨A24, c24, rfl, hp24⟩ := Pt.of_own ho24 HZBB.out.1 HZBB.out.2
         have HP24 := hide hp24
         have HB24 := hide hb24
         replace hd := below_then hd hb24
         replace hqd := hqd.trans (hb24.mono hqd.size)
         clear ho24 hb24 hp24)
      | (go_at_call 89
         refine (zb_cmp A22 A24 k c22 c24 pa pb _ (HP22.out.below HB24.out) HP24.out hk1 hk).mono ?_
         rintro e wx ⟨rfl, rfl⟩))
  replace HBX := hide (HBX.out.keep (KeepC.below hqd))
  replace HB := hide hd
  clear hd hqd HCELL l0 a0 b0
  have hcon := df_all (d := false) (bo := bo) HB00.out hk (Col.below HC.out HB.out) (HBW.out.trans (HB.out.mono HBW.out.size)) (by have := HL.out; omega) (by have := HL.out; omega)
  unfold asV at hcon
  simp only [if_true, Bool.false_eq_true, if_false] at hcon
  rw [HTV.out] at hcon
  have HCON := hide hcon
  clear hcon
  obtain ⟨l0, a0, b0⟩ := HBX.out.cells
  rw [HTV.out] at l0
  go_wp2_with fail
  refine HCON.out.mono ?_
  rintro e we hde
  have HBX2 := hide (HBX.out.keep hde.keepC)
  obtain ⟨rows1, rfl, hs1⟩ := DfOut.from_ hde.flip (KeepC.below HB.out)
  have HS1 := hide hs1
  clear l0 a0 b0 HCON hde hs1
  have hcon := df_all (d := true) (bo := bo) HA0.out hk HS1.out.col HS1.out.below (by have := HL.out; have := HS1.out.len; simp only [List.length_append, List.length_nil] at *; omega) (by have := HL.out; omega)
  unfold asV at hcon
  simp only [if_true, Bool.false_eq_true, if_false] at hcon
  rw [HTV.out] at hcon
  have HCON := hide hcon
  clear hcon
  obtain ⟨l0, a0, b0⟩ := HBX2.out.cells
  rw [HTV.out] at l0
  go_wp2_with fail
  refine HCON.out.mono ?_
  rintro e we2 hde
  obtain ⟨rows2, rfl, hs2⟩ := HS1.out.next hde (Ahead.nil_l _) (Ahead.nil_l _) HAH.out (Ahead.nil_r _)
  have HF := hide (show DfOut true w0 w k bo rows ea eb (.returned (.tuple #[])) we2 from by simpa using hs2.out)
  clear l0 a0 b0 HCON hde hs2
  go_wp2
  first
    | go_end0
    | ((try simp only [Exit.inBlock, Exit.then]); refine bodyPost_ret (results_none rfl _ _ _) rfl ?_)
  exact HF.out
theorem df_both_apart {w0 w : World} {k ga gb bo : Nat} {la lb : Int} {pa pb : List Nat} {ea eb : List Ent} {rows : List CR} (hk1 : 1 ≤ k) (hk : k ≤ 16) (hA : NodeOf w0 k ga la pa ea) (hB : NodeOf w0 k gb lb pb eb) (hla : ea.length ≤ 60000) (hlb : eb.length ≤ 60000) (hC : ColC w0.heap.size w bo rows) (hb : Below w0.heap.size w0 w) (hl : rows.length + ea.length + eb.length ≤ 200000) (hgg : ga ≠ gb) (hcA : la < part pa pb) (hcB : lb < part pa pb) :
    Calls Tryz.prog 56 #[.agg #[tellV bo], .pointer (some ⟨ga, 0, none⟩), .pointer (some ⟨gb, 0, none⟩)] w (DfOut true w0 w k bo rows ea eb) := by
  have hps := part_spec pa pb (hA.info.1.1.trans hB.info.1.1.symm) hA.info.1.2 hB.info.1.2
  obtain ⟨m, hm⟩ : ∃ m : Nat, part pa pb = (m : Int) := ⟨(part pa pb).toNat, by have := hA.info.2.2.1; omega⟩
  have hne : addrOf pa m ≠ addrOf pb m := by
    have := hps.2.2.2 (by have := hA.info.2.2.1; omega)
    rw [hm] at this
    simpa using this
  rcases Int.lt_trichotomy la lb with h | h | h <;> rcases Nat.lt_or_gt_of_ne hne with hl' | hl'
  · exact df_both_ap_lt_a hk1 hk hA hB hla hlb hC hb hl hgg h m hm (by omega) (by omega) hl'
  · exact df_both_ap_lt_b hk1 hk hA hB hla hlb hC hb hl hgg h m hm (by omega) (by omega) hl'
  · exact df_both_ap_eq_a hk1 hk hA hB hla hlb hC hb hl hgg h m hm (by omega) (by omega) hl'
  · exact df_both_ap_eq_b hk1 hk hA hB hla hlb hC hb hl hgg h m hm (by omega) (by omega) hl'
  · exact df_both_ap_gt_a hk1 hk hA hB hla hlb hC hb hl hgg h m hm (by omega) (by omega) hl'
  · exact df_both_ap_gt_b hk1 hk hA hB hla hlb hC hb hl hgg h m hm (by omega) (by omega) hl'
theorem df_both_step {w0 : World} {k N : Nat} (hk1 : 1 ≤ k) (hk : k ≤ 16) (H : DfHyp w0 k N) : DfHyp w0 k (N + 1) := by
  intro w bo rows ta tb hN hA hB hla hlb hC hb hl
  cases ta with
  | none =>
    cases tb with
    | none => exact df_both_nn hC hb
    | some y =>
      obtain ⟨gb, lb, pb, eb⟩ := y
      exact df_both_nl hk (hB _ rfl) hlb hC hb (by simp only [esOf, List.length_nil] at hl ⊢; omega)
  | some x =>
    obtain ⟨ga, la, pa, ea⟩ := x
    have hNA := hA _ rfl
    cases tb with
    | none => exact df_both_nr hk hNA hla hC hb (by simp only [esOf, List.length_nil] at hl ⊢; omega)
    | some y =>
      obtain ⟨gb, lb, pb, eb⟩ := y
      have hNB := hB _ rfl
      simp only [esOf] at hNA hNB hN hla hlb hl
      have hgoal : Calls Tryz.prog 56 #[.agg #[tellV bo], .pointer (some ⟨ga, 0, none⟩), .pointer (some ⟨gb, 0, none⟩)] w (DfOut true w0 w k bo rows ea eb) := by
        by_cases hgg : ga = gb
        · subst hgg
          have := node_uniq hk1 hk hNA hNB
          subst this
          exact df_both_same hC hb
        have hz := part_sym hNA.info.1 hNB.info.1
        rcases Int.lt_trichotomy la lb with h | h | h
        · by_cases hc : part pa pb ≤ lb
          · rcases hNB.cases' with ⟨_, _, _, h0, _⟩ | ⟨m, ks, hm, hes, hF⟩
            · have := hNA.info.2.2.1
              omega
            · subst hm hes
              exact df_both_r hk1 hk hNA hF hla hlb hC hb hl hgg H (by omega) h (by omega)
          · exact df_both_apart hk1 hk hNA hNB hla hlb hC hb hl hgg (by omega) (by omega)
        · subst h
          by_cases hc : part pa pb ≤ la
          · rcases hNA.cases' with ⟨_, _, va, h0, hes, _⟩ | ⟨m, ks, hm, hes, hF⟩
            · rcases hNB.cases' with ⟨_, _, vb, _, hes', _⟩ | ⟨m, ks, hm, _⟩
              · have hpp : pa = pb := part_neg hNA.info.1 hNB.info.1 (show part pa pb < 0 by omega)
                subst hpp h0 hes hes'
                exact df_both_leaf hk1 hk hNA hNB hC hb (by omega) hgg
              · omega
            · rcases hNB.cases' with ⟨_, _, _, h0', _⟩ | ⟨m', ks', hm', hes', hF'⟩
              · omega
              · obtain rfl : m' = m := by omega
                subst hm hes hes'
                exact df_both_even hk1 hk hF hF' hla hlb hC hb hl hgg H (by omega) hc
          · exact df_both_apart hk1 hk hNA hNB hla hlb hC hb hl hgg (by omega) (by omega)
        · by_cases hc : part pa pb ≤ la
          · rcases hNA.cases' with ⟨_, _, _, h0, _⟩ | ⟨m, ks, hm, hes, hF⟩
            · have := hNB.info.2.2.1
              omega
            · subst hm hes
              exact df_both_l hk1 hk hF hNB hla hlb hC hb hl hgg H (by omega) h hc
          · exact df_both_apart hk1 hk hNA hNB hla hlb hC hb hl hgg (by omega) (by omega)
      exact hgoal
theorem df_hyp {w0 : World} {k : Nat} (hk1 : 1 ≤ k) (hk : k ≤ 16) : ∀ N, DfHyp w0 k N
  | 0 => fun _ _ _ _ _ h => absurd h (Nat.not_lt_zero _)
  | N + 1 => df_both_step hk1 hk (df_hyp hk1 hk N)
end Go.Proofs.YtghnpflaafdcdaaGreat
set_option linter.unusedSimpArgs false
set_option linter.unusedVariables false
namespace Go.Proofs.YtghnpflaafdcdaaGreat
open Go.RowKit
theorem rootq {w : World} {t k : Nat} {top : Option (Nat × NT)} (h : TreeBlk w t k (top.map fun y => ⟨y.1, 0, none⟩)) : Calls Tryz.prog 37 #[.pointer (some ⟨t, 0, none⟩)] w fun e w' => e = .returned (ptrOf top) ∧ w = w' := by
  have h1 := tr_root h
  cases top <;> exact h1
def dcCode (k k' : Nat) : Int := if k = k' then 0 else 2
set_option maxHeartbeats 8000000 in
set_option maxRecDepth 100000 in
theorem df_check {w : World} {a b k k' : Nat} {ra rb : Option Addr} (hA : TreeBlk w a k ra) (hB : TreeBlk w b k' rb) : Calls Tryz.prog 54 #[.pointer (some ⟨a, 0, none⟩), .pointer (some ⟨b, 0, none⟩)] w fun e w' => e = .returned (.int .i64 (dcCode k k')) ∧ w = w' := by
  have HK := hide (tr_k hA)
  have HK' := hide (tr_k hB)
  clear hA hB
  by_cases hk : k = k'
  · have e1 : ((k : Int) != (k' : Int)) = false := by simp; omega
    have HF := hide (show dcCode k k' = 0 by simp [dcCode, hk])
    clear hk
    go_enter Tryz.func54, Tryz.ntmps54
    go_wp2_with fail
    refine HK.out.mono ?_
    rintro e w1 ⟨rfl, rfl⟩
    go_wp2_with fail
    refine HK'.out.mono ?_
    rintro e w1 ⟨rfl, rfl⟩
    go_wp2
    go_ret
    exact ⟨by rw [HF.out]; rfl, rfl⟩
  · have e1 : ((k : Int) != (k' : Int)) = true := by simp; omega
    have HF := hide (show dcCode k k' = 2 by simp [dcCode, hk])
    clear hk
    go_enter Tryz.func54, Tryz.ntmps54
    go_wp2_with fail
    refine HK.out.mono ?_
    rintro e w1 ⟨rfl, rfl⟩
    go_wp2_with fail
    refine HK'.out.mono ?_
    rintro e w1 ⟨rfl, rfl⟩
    go_wp2
    go_ret
    exact ⟨by rw [HF.out]; rfl, rfl⟩
/-- What Changes gives. -/
def DcOut (w : World) (k : Nat) (ea eb : List Ent) (e : Ending) (w' : World) : Prop :=
  ∃ (A : Option Addr) (c : Nat) (rows : List CR), e = .returned (.tuple #[.slice A rows.length c, .int .i64 0]) ∧ Chgs ea eb (ces rows) ∧ w'.ownsRow w.heap.size 73 5 (.slice A rows.length c) rows.length (rows.flatMap chv) ∧ (∀ r ∈ rows, r.okT w' ∧ r.n = k) ∧ Below w.heap.size w w'
set_option maxHeartbeats 8000000 in
set_option maxRecDepth 100000 in
theorem df_changes {w : World} {k a b : Nat} {ea eb : List Ent} (hA : TreeOf w k a ea) (hB : TreeOf w k b eb) (hla : ea.length ≤ 60000) (hlb : eb.length ≤ 60000) :
    Calls Tryz.prog 33 #[.pointer (some ⟨a, 0, none⟩), .pointer (some ⟨b, 0, none⟩)] w (DcOut w k ea eb) := by
  obtain ⟨ta, hTA, hTopA, hea, hk1, hk⟩ := hA.top
  obtain ⟨tb, hTB, hTopB, heb, -, -⟩ := hB.top
  have hck := df_check hTA hTB
  rw [show dcCode k k = 0 by simp [dcCode]] at hck
  have HCK := hide hck
  have hal := (Below.refl w.heap.size w).alloc (Nat.le_refl _) (.cells #[.slice none 0 0] 50)
  have HAL := hide hal
  have HRA := hide (rootq (Blk.below hTA hal))
  have HRB := hide (rootq (Blk.below hTB hal))
  have HBO := hide (show Calls Tryz.prog 56 #[.agg #[.func (.func 55) #[] #[.pointer (some ⟨w.heap.size, 0, none⟩)]], ptrOf ta, ptrOf tb] (w.alloc (.cells #[.slice none 0 0] 50)) (DfOut true w (w.alloc (.cells #[.slice none 0 0] 50)) k w.heap.size [] (esOf ta) (esOf tb)) from
    df_hyp hk1 hk _ (w.alloc (.cells #[.slice none 0 0] 50)) w.heap.size [] ta tb (Nat.lt_succ_self _) hTopA hTopB (by rw [hea]; exact hla) (by rw [heb]; exact hlb) (Col.start _ _ _ _ w) hal (by rw [hea, heb]; simp only [List.length_nil]; omega))
  have hmf : ∀ (fn : Fn) (first cap : Array Value) (w : World), (Instr.makeFunc fn first cap).run Tryz.prog w = .ok (.func fn first cap) w := fun _ _ _ _ => rfl
  have HEE := hide (And.intro hea heb)
  clear hA hB hTA hTB hTopA hTopB hck hal hea heb
  go_enter Tryz.func33, Tryz.ntmps33
  go_wp2_with fail
  refine HCK.out.mono ?_
  rintro e w1 ⟨rfl, rfl⟩
  go_wp2_with fail
  refine HRA.out.mono ?_
  rintro e w1 ⟨rfl, rfl⟩
  go_wp2_with fail
  refine HRB.out.mono ?_
  rintro e w1 ⟨rfl, rfl⟩
  go_wp2_with fail
  refine HBO.out.mono ?_
  rintro e w2 ⟨rows, rfl, hs⟩
  have hcol := hs.col
  rw [List.nil_append] at hcol
  obtain ⟨A, c, z0, z1, z2, hBk, ho⟩ := hcol.cell
  have HF := hide (show DcOut w k ea eb (.returned (.tuple #[.slice A rows.length c, .int .i64 0])) w2 from ⟨A, c, rows, rfl, by have := hs.chg; rw [HEE.out.1, HEE.out.2] at this; exact this, ho, hs.ok, hs.below⟩)
  clear hs hcol hBk ho z1 z2
  go_wp2
  go_ret2
  exact HF.out
end Go.Proofs.YtghnpflaafdcdaaGreat
set_option linter.unusedSimpArgs false
set_option linter.unusedVariables false
namespace Go.Proofs.YtghnpflaafdcdaaGreat
open Go.RowKit
/-- A block without points' numbers, without bools: of another type than nodes, slots, trees. -/
def FarB (w : World) (p : Nat) : Prop := ∃ t cs, Blk w p t cs ∧ t ≠ 114 ∧ t ≠ 158 ∧ t ≠ 101 ∧ ∀ (i : Nat) v, cs[i]? = some v → (∀ z : Int, v ≠ .int .u64 z) ∧ ∀ b, v ≠ .bool b
section
variable {w w' : World} {p k : Nat}
theorem Pt.exF {A : Option Addr} {z : List Nat} (h : Pt w A k z) (hP : FarB w p) (hx : Ex p w w') : Pt w' A k z := by
  obtain ⟨t, cs, hB, -, -, -, hcs⟩ := hP
  refine ⟨h.1, h.2.1.ex hx fun hn o hc => ?_, h.2.2⟩
  have h1 := h.1
  cases z with
  | nil => simp at h1; omega
  | cons y ys =>
    have h2 := hc 0 (.int .u64 (y : Int)) (by simp [u64s])
    rw [hB.cell] at h2
    exact (hcs _ _ h2).1 _ rfl
theorem SlotsAt_n.exF {g : Nat} {L : Th} (h : SlotsAt_n w g k L) (hP : FarB w p) (hx : Ex p w w') : SlotsAt_n w' g k L := by
  obtain ⟨t, cs, hB, -, hne, -, hcs⟩ := hP
  obtain ⟨h1, h2, h3, h4, A, m, c, h5, h6, h7⟩ := h
  refine ⟨h1, h2, h3, h4, A, m, c, hx.blk h5 (h5.ne_ hB (Ne.symm hne)), h6.ex hx fun hn o hc => ?_, h7⟩
  have hl := h6.1
  rcases hcs0 : cellsOf (.pointer none) k L with _ | ⟨q, qs⟩
  · rw [hcs0] at hl
    simp [clv_nil] at hl
    omega
  · rw [hcs0] at hc
    have h8 := hc 2 (.bool q.h) (by rw [clv_cons]; simp [Cl.vals])
    rw [hB.cell] at h8
    exact (hcs _ _ h8).2 _ rfl
theorem NodeOf.exF {g : Nat} {lv : Int} {pre : List Nat} {es : List Ent} (h : NodeOf w k g lv pre es) (hP : FarB w p) (hx : Ex p w w') : NodeOf w' k g lv pre es := by
  induction h with
  | leaf hv hp hc hB =>
    obtain ⟨t, cs, hB', hne, -⟩ := id hP
    exact .leaf hv (hp.exF hP hx) hc (hx.blk hB (hB.ne_ hB' (Ne.symm hne)))
  | fork ks hlv hp hc hz hk hl ha hs h2 hS hB ih =>
    obtain ⟨t, cs, hB', hne, -⟩ := id hP
    exact .fork ks hlv (hp.exF hP hx) hc hz ih hl ha hs h2 (hS.exF hP hx) (hx.blk hB (hB.ne_ hB' (Ne.symm hne)))
theorem TreeOf.exF {t : Nat} {es : List Ent} (h : TreeOf w k t es) (hP : FarB w p) (hx : Ex p w w') : TreeOf w' k t es := by
  obtain ⟨h1, h2, h3⟩ := h
  obtain ⟨tc, cs, hB', -, -, hne, -⟩ := id hP
  refine ⟨h1, h2, ?_⟩
  rcases h3 with ⟨h3, h4⟩ | ⟨g, lv, pre, h3, h4⟩
  · exact .inl ⟨hx.blk h3 (Blk.ne_ h3 hB' (Ne.symm hne)), h4⟩
  · exact .inr ⟨g, lv, pre, hx.blk h3 (Blk.ne_ h3 hB' (Ne.symm hne)), h4.exF hP hx⟩
theorem EntsAt.exF {A : Option Addr} {n : Nat} {rows : List ER} (h : EntsAt w A n rows) (hP : FarB w p) (hx : Ex p w w') : EntsAt w' A n rows := by
  refine ⟨h.1.ex hx fun hn o hc => ?_, fun r hr => ?_⟩
  · obtain ⟨t, cs, hB, -, -, -, hcs⟩ := hP
    have hl := h.len
    cases rows with
    | nil => simp at hl; omega
    | cons r rs =>
      have h2 := hc 1 (.int .u64 (r.v : Int)) (by simp [entv])
      rw [hB.cell] at h2
      exact (hcs _ _ h2).1 _ rfl
  · have := h.2 r hr
    exact ⟨this.1.exF hP hx, this.2⟩
theorem PastBlk.far (h : PastBlk w p) : FarB w p := by
  obtain ⟨A, n, c, a, hB⟩ := h
  refine ⟨_, _, hB, by decide, by decide, by decide, fun i v hv => ?_⟩
  rcases i with _ | _ | i
  · simp at hv; subst hv; exact ⟨fun z h => (by cases h), fun b h => (by cases h)⟩
  · simp at hv; subst hv; exact ⟨fun z h => (by cases h), fun b h => (by cases h)⟩
  · simp at hv
end
/-- One pointer to a tree, in a row of them, is set anew. -/
structure Set1 (b o t0 : Nat) (w w' : World) : Prop where
  blk : ∃ cs, Blk w b 24 cs ∧ cs[o]? = some (.pointer (some ⟨t0, 0, none⟩))
  set : ∃ u, w' = w.setCell ⟨b, o, none⟩ u
section
variable {w w' : World} {b o t0 k : Nat}
theorem Set1.blkOf (h : Set1 b o t0 w w') {g : Nat} {t : TypeId} {cs : Array Value} (hg : Blk w g t cs) (hne : t ≠ 24) : Blk w' g t cs := by
  obtain ⟨⟨cs', hB, -⟩, u, rfl⟩ := h
  exact hg.set_ b o u (hg.ne_ hB hne)
theorem Set1.rw (h : Set1 b o t0 w w') {sz n : Nat} {A : Option Addr} {vs : List Value} (hr : Rw w sz A n vs) (hv : Value.pointer (some ⟨t0, 0, none⟩) ∉ vs) : Rw w' sz A n vs := by
  obtain ⟨⟨cs, hB, hc⟩, u, rfl⟩ := h
  refine ⟨hr.1, fun hn => ?_⟩
  obtain ⟨b', o', h1, hl, h2⟩ := hr.2 hn
  refine ⟨b', o', h1, by simpa using hl, fun j v hj => ?_⟩
  have h3 := h2 j v hj
  rw [World.cell?_setCell_other]
  · exact h3
  · intro he
    injection he with e1 e2
    subst e1 e2
    rw [hB.cell, hc] at h3
    injection h3 with h3
    subst h3
    exact hv (List.mem_of_getElem? hj)
theorem Set1.keep (h : Set1 b o t0 w w') {t : TypeId} (hne : t ≠ 24) : Keep t w w' := by
  obtain ⟨⟨cs, hB, -⟩, u, rfl⟩ := h
  exact Keep.set hB hne u
theorem Pt.set1 {A : Option Addr} {z : List Nat} (h : Pt w A k z) (hx : Set1 b o t0 w w') : Pt w' A k z := by
  refine ⟨h.1, hx.rw h.2.1 (fun hm => ?_), h.2.2⟩
  obtain ⟨x, -, hx⟩ := List.mem_map.1 hm
  cases hx
theorem SlotsAt_n.set1 {g : Nat} {L : Th} (h : SlotsAt_n w g k L) (hx : Set1 b o t0 w w') (hL : ∀ t ∈ L, t.2 ≠ .pointer (some ⟨t0, 0, none⟩)) : SlotsAt_n w' g k L := by
  obtain ⟨h1, h2, h3, h4, A, m, c, h5, h6, h7⟩ := h
  refine ⟨h1, h2, h3, h4, A, m, c, hx.blkOf h5 (by decide), hx.rw h6 (fun hm => ?_), h7⟩
  obtain ⟨q, hq, hv⟩ := List.mem_flatMap.1 hm
  have hqx : q.x ≠ .pointer (some ⟨t0, 0, none⟩) := by
    unfold cellsOf at hq
    split at hq
    · obtain ⟨i, -, rfl⟩ := List.mem_map.1 hq
      unfold cellAt
      split
      · rename_i t ht
        exact hL t (List.mem_of_find?_eq_some ht)
      · intro h
        cases h
    · obtain ⟨t, ht, rfl⟩ := List.mem_map.1 hq
      exact hL t ht
  simp only [Cl.vals, List.mem_cons, List.not_mem_nil, or_false] at hv
  rcases hv with h | h | h
  · cases h
  · exact hqx h.symm
  · cases h
theorem NodeOf.blkAt {g : Nat} {lv : Int} {pre : List Nat} {es : List Ent} (h : NodeOf w k g lv pre es) : ∃ cs, Blk w g 114 cs := by
  cases h with
  | leaf _ _ _ hB => exact ⟨_, hB⟩
  | fork _ _ _ _ _ _ _ _ _ _ _ hB => exact ⟨_, hB⟩
theorem NodeOf.set1 {g : Nat} {lv : Int} {pre : List Nat} {es : List Ent} (h : NodeOf w k g lv pre es) (hx : Set1 b o t0 w w') {k0 : Nat} {r0 : Option Addr} (hT : TreeBlk w t0 k0 r0) : NodeOf w' k g lv pre es := by
  induction h with
  | leaf hv hp hc hB => exact .leaf hv (hp.set1 hx) hc (hx.blkOf hB (by decide))
  | fork ks hlv hp hc hz hk hl ha hs h2 hS hB ih =>
    refine .fork ks hlv (hp.set1 hx) hc hz ih hl ha hs h2 (hS.set1 hx fun t ht => ?_) (hx.blkOf hB (by decide))
    obtain ⟨q, hq, rfl⟩ := List.mem_map.1 ht
    intro he
    injection he with he
    injection he with he
    injection he with he
    obtain ⟨cs, hB'⟩ := (hk q hq).blkAt
    rw [he] at hB'
    exact absurd (Blk.eq_ hB' hT).1 (by decide)
theorem TreeOf.set1 {t : Nat} {es : List Ent} (h : TreeOf w k t es) (hx : Set1 b o t0 w w') {k0 : Nat} {r0 : Option Addr} (hT : TreeBlk w t0 k0 r0) : TreeOf w' k t es := by
  obtain ⟨h1, h2, h3⟩ := h
  refine ⟨h1, h2, ?_⟩
  rcases h3 with ⟨h3, h4⟩ | ⟨g, lv, pre, h3, h4⟩
  · exact .inl ⟨hx.blkOf h3 (by decide), h4⟩
  · exact .inr ⟨g, lv, pre, hx.blkOf h3 (by decide), h4.set1 hx hT⟩
theorem EntsAt.set1 {A : Option Addr} {n : Nat} {rows : List ER} (h : EntsAt w A n rows) (hx : Set1 b o t0 w w') : EntsAt w' A n rows := by
  refine ⟨hx.rw h.1 (fun hm => ?_), fun r hr => ⟨(h.2 r hr).1.set1 hx, (h.2 r hr).2⟩⟩
  obtain ⟨q, hq, hv⟩ := List.mem_flatMap.1 hm
  simp [entv] at hv
end
/-- What a law needs of a change: trees, lists of entries, rows of lists stay. -/
structure St22 (w w' : World) : Prop where
  tree : ∀ k t es, TreeOf w k t es → TreeOf w' k t es
  ents : ∀ A n rows, EntsAt w A n rows → EntsAt w' A n rows
  keepL : Keep 32 w w'
section
variable {w w' w'' : World} {p : Nat}
theorem St22.trans (h : St22 w w') (h' : St22 w' w'') : St22 w w'' := ⟨fun k t es H => h'.tree k t es (h.tree k t es H), fun A n rows H => h'.ents A n rows (h.ents A n rows H), h.keepL.trans h'.keepL⟩
theorem St22.below (hb : Below w.heap.size w w') : St22 w w' := ⟨fun _ _ _ H => H.stay hb, fun _ _ _ H => H.below hb, Keep.below hb⟩
theorem St22.ex (hx : Ex p w w') (hP : FarB w p) {t : TypeId} {cs : Array Value} (hB : Blk w p t cs) (hne : 32 ≠ t) : St22 w w' :=
  ⟨fun _ _ _ H => H.exF hP hx, fun _ _ _ H => H.exF hP hx, hx.keep hB hne⟩
theorem St22.set1 {b o t0 k0 : Nat} {r0 : Option Addr} (hx : Set1 b o t0 w w') (hT : TreeBlk w t0 k0 r0) : St22 w w' :=
  ⟨fun _ _ _ H => H.set1 hx hT, fun _ _ _ H => H.set1 hx, hx.keep (by decide)⟩
theorem St22.now (h : St22 w w') {k t : Nat} {A : Option Addr} {n c : Nat} (hN : Now w k t A n c) : Now w' k t A n c := by
  obtain ⟨rows, es, h1, h2, h3⟩ := hN
  exact ⟨rows, es, h.tree _ _ _ h1, h.ents _ _ _ h2, h3⟩
end
set_option maxHeartbeats 4000000 in
set_option maxRecDepth 100000 in
theorem ps_amend {B : Nat} {w : World} {p a t t0 k : Nat} {ts : List Nat} {root root0 : Option Addr} (h : PastAt B w p ts a) (ht : ts[a]? = some t0) (hT : TreeBlk w t k root) (hT0 : TreeBlk w t0 k root0) (hk : k ≤ 16) :
    Calls Tryz.prog 9 #[.pointer (some ⟨p, 0, none⟩), .pointer (some ⟨t, 0, none⟩)] w fun e w' => e = .returned (.int .i64 0) ∧ PastAt B w' p (ts.set a t) a ∧ ∃ w1 w2 b o, Below w.heap.size w w1 ∧ Set1 b o t0 w1 w2 ∧ B ≤ b ∧ Below w2.heap.size w2 w' := by
  have hc := ps_check h ht hT hT0 hk hk
  rw [if_pos rfl] at hc
  have HC := hide hc
  have HP := hide h
  have HTT := hide ht
  clear h ht hT hT0 hc
  go_enter Tryz.func9, Tryz.ntmps9
  go_wp2_with fail
  refine HC.out.mono ?_
  rintro e w1 ⟨rfl, hb⟩
  obtain ⟨h1, h2, A, c, hB, h4, h5, h6, h7⟩ := HP.out.below hb
  obtain ⟨b, o, cs, rfl, hBb, hBl⟩ := h6 (by omega)
  have y0 := hB.cell 0
  have y1 := hB.cell 1
  simp at y0 y1
  have hcell : w1.cell? ⟨b, o + a, none⟩ = some (.pointer (some ⟨t0, 0, none⟩)) := by
    obtain ⟨b', o', e, hl, hcc⟩ := h7.2 (by omega)
    injection e with e
    injection e with e1 e2
    subst e1 e2
    exact hcc a _ (by unfold ptrs; rw [List.getElem?_map, HTT.out]; rfl)
  have z0 := hBl.frozen (o + a)
  have hbl := hBl.lt
  have hi0 : (0 : Int) ≤ (a : Int) := by omega
  have hi1 : (a : Int) < (ts.length : Int) := by omega
  have hd := (Below.refl w1.heap.size w1).drew
  have hpb : p ≠ b := hB.ne_ hBl (by decide)
  have hf := (show ∀ W, Below w1.heap.size w1 W → PastAt B (W.setCell ⟨b, o + a, none⟩ (.pointer (some ⟨t, 0, none⟩))) p (ts.set a t) a ∧ ∃ w2 b2 o2, Below w.heap.size w w2 ∧ Set1 b2 o2 t0 w2 (W.setCell ⟨b, o + a, none⟩ (.pointer (some ⟨t, 0, none⟩))) ∧ B ≤ b2 by
    intro W hW
    have hl := @List.length_set _ ts a t
    refine ⟨⟨by rw [hl]; exact h1, by rw [hl]; exact h2, some ⟨b, o, none⟩, c, by rw [hl]; exact (hB.below hW).set_ _ _ _ hpb, by rw [hl]; exact h4, h5, fun _ => ⟨b, o, _, rfl, hBb, (hBl.below hW).set1 _⟩, ?_⟩, W, b, o + a, below_then hb hW, ⟨⟨cs, hBl.below hW, by rw [← hBl.cell]; exact hcell⟩, _, rfl⟩, hBb⟩
    rw [hl]
    have h7' := h7.below hW
    refine ⟨by simp [ptrs], fun hn => ⟨b, o, rfl, by simpa using Nat.lt_of_lt_of_le hbl hW.size, fun j u hu => ?_⟩⟩
    obtain ⟨b', o', e, hl', hcc⟩ := h7'.2 hn
    injection e with e
    injection e with e1 e2
    subst e1 e2
    unfold ptrs at hu
    rw [List.map_set] at hu
    by_cases hj : j = a
    · subst hj
      rw [List.getElem?_set_self (by rw [List.length_map]; omega)] at hu
      injection hu with hu
      subst hu
      exact World.cell?_setCell_same _ _ _ ((hW.cell (p := ⟨b, o + j, none⟩) hbl).trans hcell)
    · rw [List.getElem?_set_ne (Ne.symm hj)] at hu
      rw [World.cell?_setCell_other]
      · exact hcc j u hu
      · intro he
        injection he with _ he
        omega)
  have HF := hide (show ∀ W, Below (w1.setCell ⟨b, o + a, none⟩ (.pointer (some ⟨t, 0, none⟩))).heap.size (w1.setCell ⟨b, o + a, none⟩ (.pointer (some ⟨t, 0, none⟩))) W → PastAt B W p (ts.set a t) a ∧ ∃ w2 w3 b2 o2, Below w.heap.size w w2 ∧ Set1 b2 o2 t0 w2 w3 ∧ B ≤ b2 ∧ Below w3.heap.size w3 W from fun W hW => by
    obtain ⟨g1, w2, b2, o2, g2, g3, g4⟩ := hf w1 (Below.refl _ _)
    exact ⟨g1.below hW, w2, _, b2, o2, g2, g3, g4, hW⟩)
  clear hB h6 h7 hBl hpb hf
  have HB := hide hb
  clear hb
  go_wp2_with fail
  go_region_with (fail)
  all_goals
    go_wp2
    go_ret
    exact ⟨rfl, HF.out _ (Below.refl _ _).drew⟩
end Go.Proofs.YtghnpflaafdcdaaGreat
set_option linter.unusedSimpArgs false
set_option linter.unusedVariables false
namespace Go.Proofs.YtghnpflaafdcdaaGreat
open Go.RowKit
/-- A slice of changes. -/
def ChgsAt (w : World) (A : Option Addr) (n : Nat) (rows : List CR) : Prop := Rw w 5 A n (rows.flatMap chv) ∧ ∀ r ∈ rows, r.ok w
section
variable {w w' : World} {A : Option Addr} {n : Nat} {rows : List CR}
theorem ChgsAt.below (h : ChgsAt w A n rows) (hb : Below w.heap.size w w') : ChgsAt w' A n rows := ⟨h.1.below hb, fun r hr => (h.2 r hr).below hb⟩
theorem ChgsAt.len (h : ChgsAt w A n rows) : rows.length = n := by
  have := h.1.1
  rw [flat_length chv_len] at this
  omega
theorem ChgsAt.at_ {i : Nat} (h : ChgsAt w A n rows) (hi : i < n) :
    ∃ b o r, A = some ⟨b, o, none⟩ ∧ b < w.heap.size ∧ rows[i]? = some r ∧ r.ok w ∧ w.cell? ⟨b, o + i * 5, none⟩ = some (.slice r.A r.n r.c) ∧ w.cell? ⟨b, o + i * 5 + 1, none⟩ = some (.bool r.had) ∧ w.cell? ⟨b, o + i * 5 + 2, none⟩ = some (.bool r.has) ∧ w.cell? ⟨b, o + i * 5 + 3, none⟩ = some (.int .u64 (r.old : Int)) ∧ w.cell? ⟨b, o + i * 5 + 4, none⟩ = some (.int .u64 (r.new : Int)) := by
  obtain ⟨b, o, r, hA, hb, hr, hc⟩ := h.1.elem chv_len hi (by omega)
  exact ⟨b, o, r, hA, hb, hr, h.2 r (List.mem_of_getElem? hr), hc 0 _ rfl, by rw [Nat.add_assoc]; exact hc 1 _ rfl, by rw [Nat.add_assoc]; exact hc 2 _ rfl, by rw [Nat.add_assoc]; exact hc 3 _ rfl, by rw [Nat.add_assoc]; exact hc 4 _ rfl⟩
theorem ChgsAt.of_own {base c : Nat} (h : w.ownsRow base 73 5 (.slice A rows.length c) rows.length (rows.flatMap chv)) (hr : ∀ r ∈ rows, r.ok w) : ChgsAt w A rows.length rows := ⟨(own_rw h).2, hr⟩
end
set_option maxHeartbeats 8000000 in
set_option maxRecDepth 100000 in
theorem ref12_same {w : World} {A B : Option Addr} {n c d : Nat} {ra rb : List CR} (hA : ChgsAt w A n ra) (hB : ChgsAt w B n rb) (he : ces ra = ces rb) (hn : n ≤ 200000) (hna : ∀ r ∈ ra, r.n ≤ 65536) (hnb : ∀ r ∈ rb, r.n ≤ 65536) :
    Calls Tryz.prog 19 #[.slice A n c, .slice B n d] w fun e w' => e = .returned (.bool true) ∧ Below w.heap.size w w' := by
  have HA := hide hA
  have HB := hide hB
  have HE := hide he
  have HNA := hide hna
  have HNB := hide hnb
  have e1 : ((n : Int) != (n : Int)) = false := by simp
  clear hA hB he hna hnb
  go_enter Tryz.func19, Tryz.ntmps19
  go_wp2
  go_loopw [5] (fun x wr => ∃ (j : Nat), x = .int .i64 (j : Int) ∧ j ≤ n ∧ Below w.heap.size w wr) (fun x _ => n - (intOf x).toNat)
  case atStart => exact ⟨0, rfl, Nat.zero_le _, Below.refl _ _⟩
  case round =>
    obtain ⟨j, rfl, hj, hb⟩ := hrel
    have HBL := hide hb
    rename World => wz
    by_cases hjn : j < n
    · obtain ⟨b1, o1, r, rfl, hb1, hr, hok1, x0, x1, x2, x3, x4⟩ := (HA.out.below hb).at_ hjn
      obtain ⟨b2, o2, s, rfl, hb2, hs, hok2, y0, y1, y2, y3, y4⟩ := (HB.out.below hb).at_ hjn
      have hrn := HNA.out r (List.mem_of_getElem? hr)
      have hsn := HNB.out s (List.mem_of_getElem? hs)
      have hce : r.ce = s.ce := by
        have h1 := congrArg (fun l : List CE => l[j]?) HE.out
        simp only [ces, List.getElem?_map, hr, hs, Option.map_some, Option.some.injEq] at h1
        exact h1
      unfold CR.ce at hce
      injection hce with hp1 hp2 hp3 hp4 hp5
      have hsp := fun (W : World) (hW : Below wz.heap.size wz W) => same_pt (c := r.c) (d := s.c) (hok1.1.below hW) (hok2.1.below hW) (by omega) (by omega)
      rw [hp1, show decide (s.p = s.p) = true by simp] at hsp
      have HSP := hide hsp
      rw [hp2] at x1
      rw [hp3] at x2
      rw [hp4] at x3
      rw [hp5] at x4
      have f1 : (s.had != s.had) = false := by simp
      have f2 : (s.has != s.has) = false := by simp
      have f3 : ((s.old : Int) != (s.old : Int)) = false := by simp
      have f4 : ((s.new : Int) != (s.new : Int)) = false := by simp
      clear hr hs hok1 hok2 hb hp1 hp2 hp3 hp4 hp5 hsp hrn hsn
      go_wp2_with fail
      go_region_held3 (fun w' => w'.cell? ⟨b1, o1 + j * 5, none⟩ = some (.slice r.A r.n r.c) ∧ w'.cell? ⟨b1, o1 + j * 5 + 1, none⟩ = some (.bool s.had) ∧ w'.cell? ⟨b1, o1 + j * 5 + 2, none⟩ = some (.bool s.has) ∧ w'.cell? ⟨b1, o1 + j * 5 + 3, none⟩ = some (.int .u64 (s.old : Int)) ∧ w'.cell? ⟨b1, o1 + j * 5 + 4, none⟩ = some (.int .u64 (s.new : Int)) ∧ w'.cell? ⟨b2, o2 + j * 5, none⟩ = some (.slice s.A s.n s.c) ∧ w'.cell? ⟨b2, o2 + j * 5 + 1, none⟩ = some (.bool s.had) ∧ w'.cell? ⟨b2, o2 + j * 5 + 2, none⟩ = some (.bool s.has) ∧ w'.cell? ⟨b2, o2 + j * 5 + 3, none⟩ = some (.int .u64 (s.old : Int)) ∧ w'.cell? ⟨b2, o2 + j * 5 + 4, none⟩ = some (.int .u64 (s.new : Int)))
        (first
          | go_keep
          | exact hk5)
        (first
          | (go_at_call 34
             refine (HSP.out wz.drew (Below.refl _ wz).drew).mono ?_
             rintro e w5 ⟨rfl, hb5⟩
             have hd5 : Below wz.heap.size wz w5 := (Below.refl _ wz).drew.trans hb5
             have hk5 := And.intro ((hd5.cell (p := ⟨b1, o1 + j * 5, none⟩) hb1).trans x0) (And.intro ((hd5.cell (p := ⟨b1, o1 + j * 5 + 1, none⟩) hb1).trans x1) (And.intro ((hd5.cell (p := ⟨b1, o1 + j * 5 + 2, none⟩) hb1).trans x2) (And.intro ((hd5.cell (p := ⟨b1, o1 + j * 5 + 3, none⟩) hb1).trans x3) (And.intro ((hd5.cell (p := ⟨b1, o1 + j * 5 + 4, none⟩) hb1).trans x4) (And.intro ((hd5.cell (p := ⟨b2, o2 + j * 5, none⟩) hb2).trans y0) (And.intro ((hd5.cell (p := ⟨b2, o2 + j * 5 + 1, none⟩) hb2).trans y1) (And.intro ((hd5.cell (p := ⟨b2, o2 + j * 5 + 2, none⟩) hb2).trans y2) (And.intro ((hd5.cell (p := ⟨b2, o2 + j * 5 + 3, none⟩) hb2).trans y3) (((hd5.cell (p := ⟨b2, o2 + j * 5 + 4, none⟩) hb2).trans y4))))))))))))
      all_goals
        go_wp2
        go_roundw
        case rel => exact ⟨j + 1, by go_num, by omega, below_then HBL.out hd5⟩
        case measure => simp [intOf]; omega
    · go_wp2
      go_ret
      exact ⟨rfl, HBL.out⟩
end Go.Proofs.YtghnpflaafdcdaaGreat
set_option linter.unusedSimpArgs false
set_option linter.unusedVariables false
namespace Go.Proofs.YtghnpflaafdcdaaGreat
open Go.RowKit
def ScOut (w : World) (k : Nat) (ea eb : List Ent) (e : Ending) (w' : World) : Prop := ∃ (A : Option Addr) (c : Nat) (rows : List CR), e = .returned (.tuple #[.slice A rows.length c, .int .i64 0]) ∧ Chgs ea eb (ces rows) ∧ ChgsAt w' A rows.length rows ∧ (∀ r ∈ rows, r.n = k) ∧ Below w.heap.size w w'
theorem DcOut.sc {w w' : World} {k : Nat} {ea eb : List Ent} {e : Ending} (h : DcOut w k ea eb e w') : ScOut w k ea eb e w' := by
  obtain ⟨A, c, rows, h1, h2, h3, h4, h5⟩ := h
  exact ⟨A, c, rows, h1, h2, ChgsAt.of_own h3 (fun r hr => (h4 r hr).1.1), fun r hr => (h4 r hr).2, h5⟩
set_option maxHeartbeats 4000000 in
set_option maxRecDepth 100000 in
theorem ps_since_arg {B : Nat} {w : World} {p a : Nat} {ts : List Nat} {n : Int} (h : PastAt B w p ts a) (hn : n < 1 ∨ (a : Int) < n) :
    Calls Tryz.prog 18 #[.pointer (some ⟨p, 0, none⟩), .int .i64 n] w fun e w' => e = .returned (.tuple #[.slice none 0 0, .int .i64 3]) ∧ Below w.heap.size w w' := by
  have HL := hide (ps_len h)
  have h1 := h.1
  have h2 := h.2.1
  clear h
  go_enter Tryz.func18, Tryz.ntmps18
  go_wp2_with fail
  refine HL.out.mono ?_
  rintro e w1 ⟨rfl, hb⟩
  have HB := hide hb
  clear hb
  by_cases hl : n < 1
  · have e1 : decide (n < 1) = true := by simpa using hl
    clear hn
    go_wp2
    go_ret2
    exact ⟨rfl, HB.out⟩
  · have e1 : decide (n < 1) = false := by simpa using hl
    have e2 : decide ((a : Int) < n) = true := by simp; omega
    clear hn
    go_wp2
    go_ret2
    exact ⟨rfl, HB.out⟩
set_option maxHeartbeats 4000000 in
set_option maxRecDepth 100000 in
theorem ps_since {B : Nat} {w : World} {p a n t t1 k : Nat} {ts : List Nat} {ea eb : List Ent} (h : PastAt B w p ts a) (ht : ts[a]? = some t) (hn1 : 1 ≤ n) (hna : n ≤ a) (ht1 : ts[a - n]? = some t1) (hT1 : TreeOf w k t1 ea) (hT : TreeOf w k t eb) (hla : ea.length ≤ 60000) (hlb : eb.length ≤ 60000) :
    Calls Tryz.prog 18 #[.pointer (some ⟨p, 0, none⟩), .int .i64 (n : Int)] w (ScOut w k ea eb) := by
  have HL := hide (ps_len h)
  have HP := hide h
  have HT := hide (And.intro ht ht1)
  have HTT := hide (And.intro hT1 (And.intro hT (And.intro hla hlb)))
  clear ht ht1 hT1 hT hla hlb
  have h1 := h.1
  have h2 := h.2.1
  clear h
  go_enter Tryz.func18, Tryz.ntmps18
  go_wp2_with fail
  refine HL.out.mono ?_
  rintro e w1 ⟨rfl, hb⟩
  have HB := hide hb
  obtain ⟨-, -, A, c, hB, h4, h5, h6, h7⟩ := HP.out.below hb
  have y0 := hB.cell 0
  have y1 := hB.cell 1
  simp at y0 y1
  obtain ⟨b, o, rfl, hl, hcc⟩ := h7.2 (by omega)
  have hcell : w1.cell? ⟨b, o + (a - n), none⟩ = some (.pointer (some ⟨t1, 0, none⟩)) := hcc (a - n) _ (by unfold ptrs; rw [List.getElem?_map, HT.out.2]; rfl)
  obtain ⟨m, hm⟩ : ∃ m, m = a - n := ⟨_, rfl⟩
  rw [← hm] at hcell
  have e1 : decide ((n : Int) < 1) = false := by simp; omega
  have e2 : decide ((a : Int) < (n : Int)) = false := by simp; omega
  have e3 : IntKind.i64.wrap ((a : Int) - (n : Int)) = (m : Int) := by
    rw [wrap_i64_sm (by omega) (by omega)]
    omega
  have hi0 : (0 : Int) ≤ (m : Int) := by omega
  have hi1 : (m : Int) < (ts.length : Int) := by omega
  have hd := (Below.refl w1.heap.size w1).drew
  have HP1 := hide (HP.out.below (below_then HB.out hd))
  have HN := hide (ps_now HP1.out HT.out.1)
  have HC := hide (fun W (hW : Below w1.heap.size w1 W) => df_changes (HTT.out.1.stay (below_then HB.out hW)) (HTT.out.2.1.stay (below_then HB.out hW)) HTT.out.2.2.1 HTT.out.2.2.2)
  have hpl := hB.lt
  have HK := hide (fun W (hW : Below w1.heap.size w1 W) => (⟨(hW.cell (p := ⟨p, 0, none⟩) hpl).trans y0, (hW.cell (p := ⟨p, 1, none⟩) hpl).trans y1, (hW.cell (p := ⟨b, o + m, none⟩) hl).trans hcell⟩ : W.cell? ⟨p, 0, none⟩ = some (.slice (some ⟨b, o, none⟩) ts.length c) ∧ W.cell? ⟨p, 1, none⟩ = some (.int .i64 (a : Int)) ∧ W.cell? ⟨b, o + m, none⟩ = some (.pointer (some ⟨t1, 0, none⟩))))
  clear hB h6 h7 hcc hb hm h1 h2 h4 h5 hpl
  have HD := hide hd
  clear hd
  go_wp2_with fail
  go_region_held3 (fun w' => w'.cell? ⟨p, 0, none⟩ = some (.slice (some ⟨b, o, none⟩) ts.length c) ∧ w'.cell? ⟨p, 1, none⟩ = some (.int .i64 (a : Int)) ∧ w'.cell? ⟨b, o + m, none⟩ = some (.pointer (some ⟨t1, 0, none⟩)))
    (first | go_keep | exact hK3 | exact hK4)
    (first
      | (refine HN.out.mono ?_
         rintro e w3 ⟨rfl, hb3⟩
         have hb13 := below_then HD.out hb3
         have hK3 := HK.out _ hb13)
      | (refine (HC.out _ hb13).mono ?_
         intro e w4 hsc4
         replace hsc4 := hsc4.sc
         obtain ⟨A4, c4, rows4, rfl, hch4, hat4, hk4, hb4⟩ := hsc4
         have hK4 := HK.out _ (below_then hb13 hb4)))
  go_wp2
  go_ret2
  exact ⟨A4, c4, rows4, rfl, hch4, hat4, hk4, below_then HB.out (below_then hb13 hb4)⟩
end Go.Proofs.YtghnpflaafdcdaaGreat
set_option linter.unusedSimpArgs false
set_option linter.unusedVariables false
namespace Go.Proofs.YtghnpflaafdcdaaGreat
open Go.RowKit
theorem rw_grown {w w' : World} {sz n : Nat} {A : Option Addr} {vs : List Value} {ob : Option Nat} (h : Rw w sz A n vs) (hg : w.grownBy w' ob) (hne : 0 < n → ∀ b o, A = some ⟨b, o, none⟩ → b < w.heap.size → ob ≠ some b) : Rw w' sz A n vs := by
  refine ⟨h.1, fun hn => ?_⟩
  obtain ⟨b, o, h1, hl, hc⟩ := h.2 hn
  refine ⟨b, o, h1, Nat.lt_of_lt_of_le hl hg.size, fun j u hu => ?_⟩
  rw [World.cell?_of_block (w := w) (a := ⟨b, o + j, none⟩) (hg.block b hl fun he => hne hn b o h1 hl he.symm)]
  exact hc j u hu
section
variable {P : Program} (w : World)
theorem step_app_n {ops : Array Oper} {o : Oper} {a : Act} {K : Act → World → Prop} {Q : Exit → Act → World → Prop} {E : Prop} (hgd : o.guard = none) (s x : Operand) (t : TypeId)
    (ho : o.op = .call { callee := .builtin .append, args := #[s, x], argTypes := #[t, t] })
    (base : Nat) (e : TypeId) (z : Value) (size bytes : Nat) (ht : P.underlying t = some (.slice e)) (hinfo : (P.info? e).map (fun i => (i.zero, i.size, i.bytes)) = some (some z, size, bytes)) (hzs : z.cells.size = size) (hsz : 0 < size)
    (v : Value) (n : Nat) (xs : List Value) (hs : a.eval s = v) (hown : w.ownsRow base e size v n xs)
    (A : Option Addr) (m c : Nat) (news : List Value) (hx : a.eval x = .slice A m c) (w0 : World) (hb : Below base w0 w) (hbase : base ≤ w0.heap.size) (hr : Rw w size A m news) (h1 : ∀ u ∈ news, u.oneCell' = true)
    (h63 : n + m ≤ maxLen) (hbytes : (n + m) * bytes ≤ 140737488355328)
    (h : ∀ v' w', w'.ownsRow base e size v' (n + m) (xs ++ news) → Below base w0 w' → w.grownBy w' v.ownBlock → (v'.ownBlock = v.ownBlock ∨ v'.ownBlock = some w.heap.size) → K (a.put o.dst v') w') :
    if Region.wanted o (yielded ops a.tmps) = true then Oper.wp P o a w K Q else E := by
  obtain ⟨i, hi, hz, hsize, hby⟩ := info_parts hinfo
  exact step_append_any w hgd s x t ho base e i z size bytes ht hi hz hsize hby hzs hsz v n xs hs hown A m c news hx hr h1 h63 hbytes (Nat.le_trans hbase hb.size) fun v' w' g1 g2 g3 => h v' w' g1 (below_own hb g2 (Nat.le_trans hbase hb.size) (own_base hown)) g2 g3
theorem app_bn {ops : Array Oper} {rest : List Oper} {o : Oper} {a : Act} {Q : Exit → Act → World → Prop} (hgd : o.guard = none) (s x : Operand) (t : TypeId)
    (ho : o.op = .call { callee := .builtin .append, args := #[s, x], argTypes := #[t, t] })
    (base : Nat) (e : TypeId) (z : Value) (size bytes : Nat) (ht : P.underlying t = some (.slice e)) (hinfo : (P.info? e).map (fun i => (i.zero, i.size, i.bytes)) = some (some z, size, bytes)) (hzs : z.cells.size = size) (hsz : 0 < size)
    (v : Value) (n : Nat) (xs : List Value) (hs : a.eval s = v) (hown : w.ownsRow base e size v n xs)
    (A : Option Addr) (m c : Nat) (news : List Value) (hx : a.eval x = .slice A m c) (w0 : World) (hb : Below base w0 w) (hbase : base ≤ w0.heap.size) (hr : Rw w size A m news) (h1 : ∀ u ∈ news, u.oneCell' = true)
    (h63 : n + m ≤ maxLen) (hbytes : (n + m) * bytes ≤ 140737488355328)
    (h : ∀ v' w', w'.ownsRow base e size v' (n + m) (xs ++ news) → Below base w0 w' → w.grownBy w' v.ownBlock → (v'.ownBlock = v.ownBlock ∨ v'.ownBlock = some w.heap.size) → wpList P ops Q rest (a.put o.dst v') w') : wpList P ops Q (o :: rest) a w := by
  obtain ⟨i, hi, hz, hsize, hby⟩ := info_parts hinfo
  exact wpList_append_any w hgd s x t ho base e i z size bytes ht hi hz hsize hby hzs hsz v n xs hs hown A m c news hx hr h1 h63 hbytes (Nat.le_trans hbase hb.size) fun v' w' g1 g2 g3 => h v' w' g1 (below_own hb g2 (Nat.le_trans hbase hb.size) (own_base hown)) g2 g3
end
/-- A growing row's block: the one it began with, or a later one. -/
def NewB (g0 base : Nat) (v : Value) : Prop := ∀ g, v.ownBlock = some g → g = g0 ∨ base ≤ g
theorem NewB.step {g0 base : Nat} {v v' : Value} {w : World} (h : NewB g0 base v) (hv : v'.ownBlock = v.ownBlock ∨ v'.ownBlock = some w.heap.size) (hb : base ≤ w.heap.size) : NewB g0 base v' := by
  intro g hg
  rcases hv with e | e
  · exact h g (e.symm.trans hg)
  · rw [e] at hg
    injection hg with hg
    exact .inr (by omega)
/-- A row that lies in neither stays. -/
theorem rw_beside {w w' w1 w2 : World} {sz n base0 : Nat} {A : Option Addr} {vs : List Value} {v : Value} {e : TypeId} (h : Rw w sz A n vs) (h2 : Rw w2 sz A n vs) (hs : 0 < sz) (hn : NewB base0 w2.heap.size v) (hg : w.grownBy w' v.ownBlock) (h0 : Blk w2 base0 e #[]) : Rw w' sz A n vs := by
  refine rw_grown h hg fun hn0 b o hA hbl hv => ?_
  obtain ⟨b', o', h1, hl, hc⟩ := h2.2 hn0
  rw [hA] at h1
  injection h1 with h1
  injection h1 with h3 h4
  subst h3 h4
  rcases hn b hv with rfl | hge
  · have hlen : 0 < vs.length := by
      rw [h2.1]
      exact Nat.mul_pos hn0 hs
    have := hc 0 vs[0] (List.getElem?_eq_getElem hlen)
    rw [h0.cell] at this
    simp at this
  · omega
end Go.Proofs.YtghnpflaafdcdaaGreat
