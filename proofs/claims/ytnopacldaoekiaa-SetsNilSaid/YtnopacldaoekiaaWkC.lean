/- walk: the first and the last entry below a node. -/
import Derived.Test.YtnopacldaoekiaaPlW
import Derived.Test.YtnopacldaoekiaaKe
set_option linter.unusedSimpArgs false
set_option linter.unusedVariables false
namespace Go.Proofs.Ytnopacldaoekiaa
open Go.RowKit
/-- An answer: an entry, or none. -/
def EntIs (w' : World) (k : Nat) (o : Option Ent) (r : ER) (ok : Bool) : Prop := r.okT w' ∧ ((ok = true ∧ r.n = k ∧ o = some r.e) ∨ (ok = false ∧ r = ⟨none, 0, 0, [], 0⟩ ∧ o = none))
def EntOut (w : World) (k : Nat) (o : Option Ent) (e : Ending) (w' : World) : Prop :=
  ∃ (r : ER) (ok : Bool), e = .returned (.tuple #[.agg #[.slice r.A r.n r.c, .int .u64 (r.v : Int)], .bool ok]) ∧ EntIs w' k o r ok ∧ Below w.heap.size w w'
theorem EntIs.keep {w w' : World} {k : Nat} {o : Option Ent} {r : ER} {ok : Bool} (h : EntIs w k o r ok) (hk : Keep 25 w w') : EntIs w' k o r ok := ⟨h.1.keep hk, h.2⟩
theorem EntIs.below {w w' : World} {k : Nat} {o : Option Ent} {r : ER} {ok : Bool} (h : EntIs w k o r ok) (hb : Below w.heap.size w w') : EntIs w' k o r ok := h.keep (Keep.below hb)
/-- The level that a pointer's node tells. -/
def nlv (w : World) : Value → Nat
  | .pointer (some a) => match w.cell? a with
    | some (.int _ x) => (x + 1).toNat
    | _ => 0
  | _ => 0
theorem nlv_node {w : World} {k g : Nat} {lv : Int} {pre : List Nat} {es : List Ent} (h : NodeOf w k g lv pre es) : nlv w (.pointer (some ⟨g, 0, none⟩)) = (lv + 1).toNat := by
  obtain ⟨A, c, v, kids, hB, -⟩ := h.head
  have := hB.cell 0
  simp [nodeCells] at this
  unfold nlv
  simp only
  rw [this]
theorem two_pow_pred {k : Nat} (hk : k ≤ 16) : 1 ≤ 2 ^ k ∧ 2 ^ k ≤ 65536 := ⟨Nat.one_le_two_pow, Nat.pow_le_pow_right (n := 2) (by omega) hk⟩
theorem wrap_pow1 {k : Nat} (hk : k ≤ 16) : wrap64 (wrap64 ((2 : Int) ^ k) - 1) = ((2 ^ k - 1 : Nat) : Int) := by
  have h1 : ((2 : Int) ^ k) = ((2 ^ k : Nat) : Int) := by simp
  obtain ⟨h2, h3⟩ := two_pow_pred hk
  rw [h1]
  generalize 2 ^ k = x at *
  unfold wrap64
  omega
set_option maxHeartbeats 2000000 in
set_option maxRecDepth 100000 in
theorem walk_first_nil (w : World) (k : Nat) : Calls Try.prog 21 #[.pointer none] w (EntOut w k none) := by
  have b1 := (Below.refl w.heap.size w).alloc (Nat.le_refl _) (.cells #[.slice none 0 0, .int .u64 0] 27)
  have hN := Blk.new w 27 #[.slice none 0 0, .int .u64 0]
  have HB := hide b1
  have HN := hide hN
  have HE := hide (nd_entry_nil (w.alloc (.cells #[.slice none 0 0, .int .u64 0] 27)))
  clear b1 hN
  go_enter Try.func21, Try.ntmps21
  go_wp2
  refine wp_scope_goto0 0 (fun a' wr => ∃ (u1 u4 u5 u6 u7 u8 u9 u10 u11 u12 u13 u14 u15 u16 u17 u18 u19 u20 u21 u22 : Value), a' = { tmps := #[.pointer none, u1, .pointer (some ⟨w.heap.size, 0, none⟩), .bool false, u4, u5, u6, u7, u8, u9, u10, u11, u12, u13, u14, u15, u16, u17, u18, u19, u20, u21, u22], defers := [] } ∧ wr = w.alloc (.cells #[.slice none 0 0, .int .u64 0] 27)) (fun _ _ => 0) (by rfl) ?_ ?_
  · exact ⟨_, _, _, _, _, _, _, _, _, _, _, _, _, _, _, _, _, _, _, _, rfl, rfl⟩
  · rintro a' wr ⟨u1, u4, u5, u6, u7, u8, u9, u10, u11, u12, u13, u14, u15, u16, u17, u18, u19, u20, u21, u22, rfl, rfl⟩
    go_wp2_with fail
    refine HE.out.mono ?_
    rintro e w2 ⟨rfl, hb2⟩
    have hal := (Below.refl w2.heap.size w2).alloc (Nat.le_refl _) (.cells #[.slice none 0 0, .int .u64 0] 27)
    have hb3 := HB.out.trans ((below_then hb2 hal).mono (by simp))
    have hN3 := (HN.out.below hb2).alloc (.cells #[.slice none 0 0, .int .u64 0] 27)
    have z0 := hN3.frozen 0
    have z1 := hN3.frozen 1
    have y0 := hN3.cell 0
    have y1 := hN3.cell 1
    simp at y0 y1
    have e3 := (hN3.set1 (i := 0) (.slice none 0 0)).set1 (i := 1) (.int .u64 0)
    have b3 := ((hb3.setCell (p := ⟨w.heap.size, 0, none⟩) (Nat.le_refl _) (.slice none 0 0)).setCell (p := ⟨w.heap.size, 1, none⟩) (Nat.le_refl _) (.int .u64 0))
    have g0 := e3.cell 0
    have g1 := e3.cell 1
    simp at g0 g1
    have HB3 := hide b3
    clear hb2 hal hb3 hN3 e3 b3
    go_wp2
    simp only [Exit.jump]
    refine bodyPost_ret (v := .tuple #[.agg #[.slice none 0 0, .int .u64 0], .bool false]) (by simp [results, Try.results21, go_sem, g0, g1]) rfl ⟨⟨none, 0, 0, [], 0⟩, false, rfl, ⟨ER.okT.nil _, .inr ⟨rfl, rfl, rfl⟩⟩, HB3.out⟩
set_option maxHeartbeats 4000000 in
set_option maxRecDepth 100000 in
theorem walk_first {w : World} {k g : Nat} {lv : Int} {pre : List Nat} {es : List Ent} (h : NodeOf w k g lv pre es) (hk : k ≤ 16) : Calls Try.prog 21 #[.pointer (some ⟨g, 0, none⟩)] w (EntOut w k es.head?) := by
  have b1 := (Below.refl w.heap.size w).alloc (Nat.le_refl _) (.cells #[.slice none 0 0, .int .u64 0] 27)
  have hN := Blk.new w 27 #[.slice none 0 0, .int .u64 0]
  have HB := hide b1
  have HN := hide hN
  have H := hide h
  clear b1 hN h
  go_enter Try.func21, Try.ntmps21
  go_wp2
  refine wp_scope_goto0 0 (fun a' wr => ∃ (g' : Nat) (lv' : Int) (pre' : List Nat) (es' : List Ent) (u1 u4 u5 u6 u7 u8 u9 u10 u11 u12 u13 u14 u15 u16 u17 u18 u19 u20 u21 u22 : Value), a' = { tmps := #[.pointer (some ⟨g', 0, none⟩), u1, .pointer (some ⟨w.heap.size, 0, none⟩), .bool false, u4, u5, u6, u7, u8, u9, u10, u11, u12, u13, u14, u15, u16, u17, u18, u19, u20, u21, u22], defers := [] } ∧ NodeOf w k g' lv' pre' es' ∧ es'.head? = es.head? ∧ Blk wr w.heap.size 27 #[.slice none 0 0, .int .u64 0] ∧ Below w.heap.size w wr) (fun a' _ => nlv w (a'.tmps.getD 0 undef)) (by rfl) ?_ ?_
  · exact ⟨g, lv, pre, es, _, _, _, _, _, _, _, _, _, _, _, _, _, _, _, _, _, _, _, _, rfl, H.out, rfl, HN.out, HB.out⟩
  · rintro a' wr ⟨g', lv', pre', es', u1, u4, u5, u6, u7, u8, u9, u10, u11, u12, u13, u14, u15, u16, u17, u18, u19, u20, u21, u22, rfl, hn, hh, hN, hb⟩
    have HH := hide hh
    have HB := hide hb
    have HN := hide hN
    have HN0 := hide hN
    have HLV := hide (nlv_node hn)
    have hn' := hn
    rcases hn.cases' with ⟨A, c, v, rfl, rfl, hv, hP, hc, hBk⟩ | ⟨m, ks, rfl, rfl, hF⟩
    · have HE := hide (nd_entry_leaf (hBk.below hb) (hP.below hb) hk)
      have HZ := hide hP.zp
      have HV := hide hv
      clear hn hh hN hb hn' hv hP hc hBk
      go_wp2_with fail
      refine HE.out.mono ?_
      rintro e w1 ⟨B, d, rfl, ho, hb1⟩
      have hal := (Below.refl w1.heap.size w1).alloc (Nat.le_refl _) (.cells #[.slice B k d, .int .u64 (v : Int)] 27)
      have hb2 := below_then HB.out (below_then hb1 hal)
      have hN3 := (HN.out.below hb1).alloc (.cells #[.slice B k d, .int .u64 (v : Int)] 27)
      have hok : ER.okT (w1.alloc (.cells #[.slice B k d, .int .u64 (v : Int)] 27)) ⟨B, k, d, pre', v⟩ := (ER.okT.of_own ho HZ.out HV.out).below hal
      have z0 := hN3.frozen 0
      have z1 := hN3.frozen 1
      have y0 := hN3.cell 0
      have y1 := hN3.cell 1
      simp at y0 y1
      have e4 := hN3.set1 (i := 0) (.slice B k d)
      have e3 := e4.set1 (i := 1) (.int .u64 (v : Int))
      have hok3 := (hok.keep (Keep.set hN3 (i := 0) (by decide) (.slice B k d))).keep (Keep.set e4 (i := 1) (by decide) (.int .u64 (v : Int)))
      have b3 := ((hb2.setCell (p := ⟨w.heap.size, 0, none⟩) (Nat.le_refl _) (.slice B k d)).setCell (p := ⟨w.heap.size, 1, none⟩) (Nat.le_refl _) (.int .u64 (v : Int)))
      have g0 := e3.cell 0
      have g1 := e3.cell 1
      simp at g0 g1
      have HB3 := hide b3
      have HOK := hide hok3
      clear ho hb1 hal hb2 hN3 e4 e3 b3 hok hok3 HE
      go_wp2
      simp only [Exit.jump]
      refine bodyPost_ret (v := .tuple #[.agg #[.slice B k d, .int .u64 (v : Int)], .bool true]) (by simp [results, Try.results21, go_sem, g0, g1]) rfl ⟨⟨B, k, d, pre', v⟩, true, rfl, ⟨HOK.out, .inl ⟨rfl, rfl, HH.out.symm⟩⟩, HB3.out⟩
    · obtain ⟨A, c, gs, hp, hS, hBk⟩ := (hF.stay hb).head
      have HE := hide (nd_entry_fork hBk)
      obtain ⟨q, hq⟩ : ∃ q, ks[0]? = some q := ⟨ks[0]'(by have := hF.two; omega), List.getElem?_eq_getElem _⟩
      have hkd := hF.kid q (List.mem_of_getElem? hq)
      have hhd := kidEs_head (fun q hq => (hF.kid q hq).1.info.2.1) hq
      have HF := hide hF
      have HQ := hide hq
      have HKD := hide hkd
      have HHD := hide hhd
      clear hn hh hN hb hn' hp hS hBk hF hq hkd hhd
      go_wp2_with fail
      refine HE.out.mono ?_
      rintro e w1 ⟨rfl, hb1⟩
      have hal := (Below.refl w1.heap.size w1).alloc (Nat.le_refl _) (.cells #[.slice none 0 0, .int .u64 0] 27)
      have hb2 := below_then hb1 hal
      have HB2 := hide hb2
      have hN := nd_from_0 ((HF.out.stay HB.out).stay hb2)
      rw [kPt_some HQ.out, kAt_some HQ.out] at hN
      have HN := hide hN
      clear hb1 hal hb2 hN HE
      go_wp2_with fail
      refine HN.out.mono ?_
      rintro e w3 ⟨rfl, hb3⟩
      have HB3 := hide (below_then HB2.out hb3)
      clear hb3 HN
      go_wp2
      go_step3
      refine ⟨rfl, ⟨q.blk, q.lv, q.pre, q.es, _, _, _, _, _, _, _, _, _, _, _, _, _, _, _, _, _, _, _, _, rfl, HKD.out.1, HHD.out.symm.trans HH.out, HN0.out.below HB3.out, below_then HB.out HB3.out⟩, ?_⟩
      show nlv w (.pointer (some ⟨q.blk, 0, none⟩)) < nlv w (.pointer (some ⟨g', 0, none⟩))
      rw [nlv_node HKD.out.1, HLV.out]
      have := HKD.out.2.1
      have := HKD.out.1.info.2.2.1
      omega
set_option maxHeartbeats 2000000 in
set_option maxRecDepth 100000 in
theorem walk_last_nil (w : World) (k : Nat) : Calls Try.prog 22 #[.pointer none] w (EntOut w k none) := by
  have b1 := (Below.refl w.heap.size w).alloc (Nat.le_refl _) (.cells #[.slice none 0 0, .int .u64 0] 27)
  have hN := Blk.new w 27 #[.slice none 0 0, .int .u64 0]
  have HB := hide b1
  have HN := hide hN
  have HE := hide (nd_entry_nil (w.alloc (.cells #[.slice none 0 0, .int .u64 0] 27)))
  clear b1 hN
  go_enter Try.func22, Try.ntmps22
  go_wp2
  refine wp_scope_goto0 0 (fun a' wr => ∃ (u1 u4 u5 u6 u7 u8 u9 u10 u11 u12 u13 u14 u15 u16 u17 u18 u19 u20 u21 u22 u23 u24 u25 u26 : Value), a' = { tmps := #[.pointer none, u1, .pointer (some ⟨w.heap.size, 0, none⟩), .bool false, u4, u5, u6, u7, u8, u9, u10, u11, u12, u13, u14, u15, u16, u17, u18, u19, u20, u21, u22, u23, u24, u25, u26], defers := [] } ∧ wr = w.alloc (.cells #[.slice none 0 0, .int .u64 0] 27)) (fun _ _ => 0) (by rfl) ?_ ?_
  · exact ⟨_, _, _, _, _, _, _, _, _, _, _, _, _, _, _, _, _, _, _, _, _, _, _, _, rfl, rfl⟩
  · rintro a' wr ⟨u1, u4, u5, u6, u7, u8, u9, u10, u11, u12, u13, u14, u15, u16, u17, u18, u19, u20, u21, u22, u23, u24, u25, u26, rfl, rfl⟩
    go_wp2_with fail
    refine HE.out.mono ?_
    rintro e w2 ⟨rfl, hb2⟩
    have hal := (Below.refl w2.heap.size w2).alloc (Nat.le_refl _) (.cells #[.slice none 0 0, .int .u64 0] 27)
    have hb3 := HB.out.trans ((below_then hb2 hal).mono (by simp))
    have hN3 := (HN.out.below hb2).alloc (.cells #[.slice none 0 0, .int .u64 0] 27)
    have z0 := hN3.frozen 0
    have z1 := hN3.frozen 1
    have y0 := hN3.cell 0
    have y1 := hN3.cell 1
    simp at y0 y1
    have e3 := (hN3.set1 (i := 0) (.slice none 0 0)).set1 (i := 1) (.int .u64 0)
    have b3 := ((hb3.setCell (p := ⟨w.heap.size, 0, none⟩) (Nat.le_refl _) (.slice none 0 0)).setCell (p := ⟨w.heap.size, 1, none⟩) (Nat.le_refl _) (.int .u64 0))
    have g0 := e3.cell 0
    have g1 := e3.cell 1
    simp at g0 g1
    have HB3 := hide b3
    clear hb2 hal hb3 hN3 e3 b3
    go_wp2
    simp only [Exit.jump]
    refine bodyPost_ret (v := .tuple #[.agg #[.slice none 0 0, .int .u64 0], .bool false]) (by simp [results, Try.results22, go_sem, g0, g1]) rfl ⟨⟨none, 0, 0, [], 0⟩, false, rfl, ⟨ER.okT.nil _, .inr ⟨rfl, rfl, rfl⟩⟩, HB3.out⟩
set_option maxHeartbeats 4000000 in
set_option maxRecDepth 100000 in
theorem walk_last {w : World} {k g : Nat} {lv : Int} {pre : List Nat} {es : List Ent} (h : NodeOf w k g lv pre es) (hk : k ≤ 16) : Calls Try.prog 22 #[.pointer (some ⟨g, 0, none⟩)] w (EntOut w k es.getLast?) := by
  have b1 := (Below.refl w.heap.size w).alloc (Nat.le_refl _) (.cells #[.slice none 0 0, .int .u64 0] 27)
  have hN := Blk.new w 27 #[.slice none 0 0, .int .u64 0]
  have HB := hide b1
  have HN := hide hN
  have H := hide h
  clear b1 hN h
  go_enter Try.func22, Try.ntmps22
  go_wp2
  refine wp_scope_goto0 0 (fun a' wr => ∃ (g' : Nat) (lv' : Int) (pre' : List Nat) (es' : List Ent) (u1 u4 u5 u6 u7 u8 u9 u10 u11 u12 u13 u14 u15 u16 u17 u18 u19 u20 u21 u22 u23 u24 u25 u26 : Value), a' = { tmps := #[.pointer (some ⟨g', 0, none⟩), u1, .pointer (some ⟨w.heap.size, 0, none⟩), .bool false, u4, u5, u6, u7, u8, u9, u10, u11, u12, u13, u14, u15, u16, u17, u18, u19, u20, u21, u22, u23, u24, u25, u26], defers := [] } ∧ NodeOf w k g' lv' pre' es' ∧ es'.getLast? = es.getLast? ∧ Blk wr w.heap.size 27 #[.slice none 0 0, .int .u64 0] ∧ Below w.heap.size w wr) (fun a' _ => nlv w (a'.tmps.getD 0 undef)) (by rfl) ?_ ?_
  · exact ⟨g, lv, pre, es, _, _, _, _, _, _, _, _, _, _, _, _, _, _, _, _, _, _, _, _, _, _, _, _, rfl, H.out, rfl, HN.out, HB.out⟩
  · rintro a' wr ⟨g', lv', pre', es', u1, u4, u5, u6, u7, u8, u9, u10, u11, u12, u13, u14, u15, u16, u17, u18, u19, u20, u21, u22, u23, u24, u25, u26, rfl, hn, hh, hN, hb⟩
    have HH := hide hh
    have HB := hide hb
    have HN := hide hN
    have HN0 := hide hN
    have HLV := hide (nlv_node hn)
    have hn' := hn
    rcases hn.cases' with ⟨A, c, v, rfl, rfl, hv, hP, hc, hBk⟩ | ⟨m, ks, rfl, rfl, hF⟩
    · have HE := hide (nd_entry_leaf (hBk.below hb) (hP.below hb) hk)
      have HZ := hide hP.zp
      have HV := hide hv
      clear hn hh hN hb hn' hv hP hc hBk
      go_wp2_with fail
      refine HE.out.mono ?_
      rintro e w1 ⟨B, d, rfl, ho, hb1⟩
      have hal := (Below.refl w1.heap.size w1).alloc (Nat.le_refl _) (.cells #[.slice B k d, .int .u64 (v : Int)] 27)
      have hb2 := below_then HB.out (below_then hb1 hal)
      have hN3 := (HN.out.below hb1).alloc (.cells #[.slice B k d, .int .u64 (v : Int)] 27)
      have hok : ER.okT (w1.alloc (.cells #[.slice B k d, .int .u64 (v : Int)] 27)) ⟨B, k, d, pre', v⟩ := (ER.okT.of_own ho HZ.out HV.out).below hal
      have z0 := hN3.frozen 0
      have z1 := hN3.frozen 1
      have y0 := hN3.cell 0
      have y1 := hN3.cell 1
      simp at y0 y1
      have e4 := hN3.set1 (i := 0) (.slice B k d)
      have e3 := e4.set1 (i := 1) (.int .u64 (v : Int))
      have hok3 := (hok.keep (Keep.set hN3 (i := 0) (by decide) (.slice B k d))).keep (Keep.set e4 (i := 1) (by decide) (.int .u64 (v : Int)))
      have b3 := ((hb2.setCell (p := ⟨w.heap.size, 0, none⟩) (Nat.le_refl _) (.slice B k d)).setCell (p := ⟨w.heap.size, 1, none⟩) (Nat.le_refl _) (.int .u64 (v : Int)))
      have g0 := e3.cell 0
      have g1 := e3.cell 1
      simp at g0 g1
      have HB3 := hide b3
      have HOK := hide hok3
      clear ho hb1 hal hb2 hN3 e4 e3 b3 hok hok3 HE
      go_wp2
      simp only [Exit.jump]
      refine bodyPost_ret (v := .tuple #[.agg #[.slice B k d, .int .u64 (v : Int)], .bool true]) (by simp [results, Try.results22, go_sem, g0, g1]) rfl ⟨⟨B, k, d, pre', v⟩, true, rfl, ⟨HOK.out, .inl ⟨rfl, rfl, HH.out.symm⟩⟩, HB3.out⟩
    · obtain ⟨A, c, gs, hp, hS, hBk⟩ := (hF.stay hb).head
      have HE := hide (nd_entry_fork hBk)
      obtain ⟨q, hq⟩ : ∃ q, ks[ks.length - 1]? = some q := ⟨ks[ks.length - 1]'(by have := hF.two; omega), List.getElem?_eq_getElem _⟩
      have hkd := hF.kid q (List.mem_of_getElem? hq)
      have hhd := kidEs_last (fun q hq => (hF.kid q hq).1.info.2.1) hq
      have hlast : ∀ (i : Nat) (r : Kid), ks[i]? = some r → ks.length - 1 < i → (((2 ^ k - 1 : Nat) : Int)) < (r.at_ : Int) := fun i r hr hi => absurd (List.getElem?_eq_some_iff.1 hr).1 (by omega)
      have hqat : ∀ r, ks[ks.length - 1]? = some r → (r.at_ : Int) ≤ ((2 ^ k - 1 : Nat) : Int) := fun r hr => (by have := (hF.kid r (List.mem_of_getElem? hr)).2.2.2.2; omega)
      have htwo := hF.two
      have HF := hide hF
      have HQ := hide hq
      have HKD := hide hkd
      have HHD := hide hhd
      have HLAST := hide hlast
      have HQAT := hide hqat
      clear hlast hqat
      clear hn hh hN hb hn' hp hS hBk hF hq hkd hhd
      go_wp2_with fail
      refine HE.out.mono ?_
      rintro e w1 ⟨rfl, hb1⟩
      have hal := (Below.refl w1.heap.size w1).alloc (Nat.le_refl _) (.cells #[.slice none 0 0, .int .u64 0] 27)
      have hb2 := below_then hb1 hal
      have HB2 := hide hb2
      have HK := hide (nd_k (((HF.out.stay HB.out).stay hb2).node))
      have hN := nd_upto_j ((HF.out.stay HB.out).stay hb2) (ks.length - 1) (by omega) ((2 ^ k - 1 : Nat) : Int) HQAT.out HLAST.out
      rw [kPt_some HQ.out, kAt_some HQ.out] at hN
      have HN := hide hN
      clear hb1 hal hb2 hN HE
      go_wp2_with fail
      refine HK.out.mono ?_
      rintro e w3 ⟨rfl, rfl⟩
      go_wp2_with fail
      rw [wrap_pow1 hk]
      refine HN.out.mono ?_
      rintro e w3 ⟨rfl, hb3⟩
      have HB3 := hide (below_then HB2.out hb3)
      clear hb3 HN
      go_wp2
      go_step3
      refine ⟨rfl, ⟨q.blk, q.lv, q.pre, q.es, _, _, _, _, _, _, _, _, _, _, _, _, _, _, _, _, _, _, _, _, _, _, _, _, rfl, HKD.out.1, HHD.out.symm.trans HH.out, HN0.out.below HB3.out, below_then HB.out HB3.out⟩, ?_⟩
      show nlv w (.pointer (some ⟨q.blk, 0, none⟩)) < nlv w (.pointer (some ⟨g', 0, none⟩))
      rw [nlv_node HKD.out.1, HLV.out]
      have := HKD.out.2.1
      have := HKD.out.1.info.2.2.1
      omega
end Go.Proofs.Ytnopacldaoekiaa
