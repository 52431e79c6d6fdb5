/- rank: a tree parted at a point; pantilelaw10.RankParts: parted, and joined: the walk. -/
import Derived.Test.YtnopacldaoekiaaGreatRkP
import Derived.Test.YtnopacldaoekiaaGreatLwR
set_option linter.unusedSimpArgs false
set_option linter.unusedVariables false
namespace Go.Proofs.YtnopacldaoekiaaGreat
open Go.RowKit
theorem rk_part_top {w : World} {k : Nat} {top : Option (Nat × NT)} (hk1 : 1 ≤ k) (hk : k ≤ 16) (hT : TopOk w k top) {PA : Option Addr} {pc : Nat} {p : List Nat} (hp : Pt w PA k p) : Calls Tryz.prog 66 #[ptrOf top, .slice PA k pc] w (PtOut w k p (esOf top)) := by
  cases top with
  | some x => exact rk_part hk1 hk _ w x.1 x.2.lv x.2.pre x.2.es (Nat.le_refl _) (hT x rfl) PA pc p hp
  | none =>
    have HF := hide (show PtOut w k p [] (.returned (.tuple #[.pointer none, .pointer none])) w from ⟨none, none, rfl, TopOk.no _ _, TopOk.no _ _, fun x => by simp [esOf], fun x => by simp [esOf], Below.refl _ _⟩)
    clear hT hp
    unfold ptrOf
    simp only [Option.map_none, esOf]
    go_enter Tryz.func66, Tryz.ntmps66
    go_wp2
    go_ret2
    exact HF.out
set_option maxHeartbeats 1000000 in
set_option maxRecDepth 100000 in
theorem rk_Part_dim {w : World} {t k : Nat} {root : Option Addr} (h : TreeBlk w t k root) (A : Option Addr) (n c : Nat) (hn : n ≠ k) : Calls Tryz.prog 19 #[.pointer (some ⟨t, 0, none⟩), .slice A n c] w fun e w' => e = .returned (.tuple #[.pointer none, .pointer none, .int .i64 2]) ∧ w = w' := by
  have HC := hide (rk_check_dim h A n c hn)
  clear h hn
  go_enter Tryz.func19, Tryz.ntmps19
  go_wp2_with fail
  refine HC.out.mono ?_
  rintro e w1 ⟨rfl, rfl⟩
  go_wp2
  refine bodyPost_ret (v := .tuple #[.pointer none, .pointer none, .int .i64 2]) (by simp [results, Tryz.results19, go_sem]) rfl ⟨rfl, rfl⟩
/-- A tree parted at a point. -/
def PartOut (w : World) (k : Nat) (p : List Nat) (es : List Ent) (e : Ending) (w' : World) : Prop :=
  ∃ a b ea eb, e = .returned (.tuple #[.pointer (some ⟨a, 0, none⟩), .pointer (some ⟨b, 0, none⟩), .int .i64 0]) ∧ TreeOf w' k a ea ∧ TreeOf w' k b eb ∧ Cut2 p es ea eb ∧ Below w.heap.size w w'
set_option maxHeartbeats 4000000 in
set_option maxRecDepth 100000 in
theorem rk_Part {w : World} {t k : Nat} {es : List Ent} (hT : TreeOf w k t es) {PA : Option Addr} {pc : Nat} {p : List Nat} (hp : Pt w PA k p) : Calls Tryz.prog 19 #[.pointer (some ⟨t, 0, none⟩), .slice PA k pc] w (PartOut w k p es) := by
  obtain ⟨top, hTB, hTop, hes, hk1, hk⟩ := hT.top
  have HC := hide (rk_check hTB PA pc)
  have HR := hide (tr_root_top hTB)
  have hpt := rk_part_top (pc := pc) hk1 hk hTop hp
  rw [hes] at hpt
  have HPT := hide hpt
  have HTB := hide hTB
  have HSO := hide hT.sorted
  have HZ := hide hp.zp
  clear hTB hTop hes hT hp hpt
  go_enter Tryz.func19, Tryz.ntmps19
  go_wp2_with fail
  refine HC.out.mono ?_
  rintro e w1 ⟨rfl, rfl⟩
  go_wp2_with fail
  refine HR.out.mono ?_
  rintro e w1 ⟨rfl, rfl⟩
  go_wp2_with fail
  refine HPT.out.mono ?_
  rintro e w2 ⟨ta, tb, rfl, hta, htb, hma, hmb, hb2⟩
  have HTA := hide hta
  have HTT := hide htb
  have HMA := hide hma
  have HMB := hide hmb
  have HB2 := hide hb2
  clear hta htb hma hmb hb2 HPT
  go_wp2_with fail
  refine (tr_k (Blk.below HTB.out HB2.out)).mono ?_
  rintro e w3 ⟨rfl, rfl⟩
  have HOA := hide (of_top hk1 hk HTA.out)
  go_wp2_with fail
  refine HOA.out.mono ?_
  rintro e w4 ⟨⟨a, rfl, ha⟩, hb4⟩
  have HA := hide ha
  have HB4 := hide (below_then HB2.out hb4)
  have HTT4 := hide (HTT.out.stay hb4)
  clear ha hb4 HOA
  go_wp2_with fail
  refine (tr_k (Blk.below HTB.out HB4.out)).mono ?_
  rintro e w5 ⟨rfl, rfl⟩
  have HOB := hide (of_top hk1 hk HTT4.out)
  go_wp2_with fail
  refine HOB.out.mono ?_
  rintro e w6 ⟨⟨b, rfl, hb⟩, hb6⟩
  have ha6 := HA.out.stay hb6
  have hord : ∀ x ∈ esOf ta, ∀ y ∈ esOf tb, Zlt x.1 y.1 := fun x hx y hy => by
    have h1 := (HMA.out x).1 hx
    have h2 := (HMB.out y).1 hy
    rcases zlt_tri (HSO.out.2 y h2.1).1 HZ.out with h | h | h
    · exact absurd h h2.2
    · rw [h]
      exact h1.2
    · exact zlt_trans h1.2 h
  have heq : es = esOf ta ++ esOf tb := sorted_ext HSO.out.1 (sorted_app ha6.sorted.1 hb.sorted.1 hord) fun x => by
    rw [List.mem_append, HMA.out, HMB.out]
    exact ⟨fun h => (Classical.em (Zlt x.1 p)).elim (fun h1 => .inl ⟨h, h1⟩) (fun h1 => .inr ⟨h, h1⟩), fun h => h.elim (·.1) (·.1)⟩
  have HF := hide (show PartOut w k p es (.returned (.tuple #[.pointer (some ⟨a, 0, none⟩), .pointer (some ⟨b, 0, none⟩), .int .i64 0])) w6 from ⟨a, b, _, _, rfl, ha6, hb, ⟨heq, fun x hx => ((HMA.out x).1 hx).2, fun x hx => ((HMB.out x).1 hx).2⟩, below_then HB4.out hb6⟩)
  clear hb ha6 hord heq hb6 HOB
  go_wp2
  refine bodyPost_ret (v := .tuple #[.pointer (some ⟨a, 0, none⟩), .pointer (some ⟨b, 0, none⟩), .int .i64 0]) (by simp [results, Tryz.results19, go_sem]) rfl HF.out
theorem EntsAt.to_ {w : World} {A : Option Addr} {n i : Nat} {rows : List ER} (h : EntsAt w A n rows) (hi : i ≤ n) : EntsAt w A i (rows.take i) := by
  refine ⟨?_, fun r hr => h.2 r (List.mem_of_mem_take hr)⟩
  have h1 := h.1.take_ hi
  have h2 : (rows.take i).flatMap entv = (rows.flatMap entv).take (i * 2) := by
    conv => rhs; rw [← List.take_append_drop i rows, List.flatMap_append]
    have hl : ((rows.take i).flatMap entv).length = i * 2 := by
      rw [flat_length entv_len, List.length_take, Nat.min_eq_left (by have := h.len; omega)]
    rw [← hl, List.take_left]
  rw [h2]
  exact h1
theorem EntsAt.lo_ {w : World} {A : Option Addr} {n i c : Nat} {rows : List ER} (h : EntsAt w A n rows) (hi : i ≤ n) (hc : n ≤ c) : EntsAt w (cutA A c 2 i) (n - i) (rows.drop i) := by
  refine ⟨?_, fun r hr => h.2 r (List.mem_of_mem_drop hr)⟩
  have h1 := h.1.cut hi hc
  have h2 : (rows.drop i).flatMap entv = (rows.flatMap entv).drop (i * 2) := by
    conv => rhs; rw [← List.take_append_drop i rows, List.flatMap_append]
    have hl : ((rows.take i).flatMap entv).length = i * 2 := by
      rw [flat_length entv_len, List.length_take, Nat.min_eq_left (by have := h.len; omega)]
    rw [← hl, List.drop_left]
  rw [h2]
  exact h1
set_option maxHeartbeats 16000000 in
set_option maxRecDepth 100000 in
theorem rank_parts (w : World) (k0 : Int) (_ : (Lit.int .i64 k0).wf = true) (AL : Option Addr) (nl cl : Nat) (al : List TA) (hl : ActsAt w AL nl al ∧ nl ≤ cl ∧ cl ≤ maxLen) (A : Option Addr) (n c : Nat) (p : List Nat) (hp : Pt w A n p ∧ n ≤ c ∧ c ≤ maxLen) :
    Calls Tryz.prog 4 #[.int .i64 k0, .slice AL nl cl, .slice A n c] w fun e w' => e = .returned (.bool true) ∧ Below w.heap.size w w' := by
  have HEL := hide hl.1
  have HPT := hide hp.1
  clear hl hp
  go_enter Tryz.func4, Tryz.ntmps4
  go_wp2_with fail
  refine (awake10 w).mono ?_
  rintro e w1 ⟨rfl, hb1⟩
  have HB1 := hide hb1
  have HH := hide (heavy7 AL nl cl 50 al w1 (HEL.out.below hb1) (by omega))
  simp only [Int.cast_ofNat_Int] at HH
  clear hb1
  go_wp2_with fail
  refine HH.out.mono ?_
  rintro e w3 ⟨rfl | ⟨rfl, hnl⟩, hb3⟩
  · have HB3 := hide (below_then HB1.out hb3)
    clear hb3 HH
    go_wp2
    go_ret
    exact ⟨rfl, HB3.out⟩
  have HB3 := hide (below_then HB1.out hb3)
  clear hb3 HH
  by_cases h1 : k0 < 1
  · have e1 : decide (k0 < 1) = true := by simpa using h1
    go_wp2
    go_ret
    exact ⟨rfl, HB3.out⟩
  have e1 : decide (k0 < 1) = false := by simpa using h1
  by_cases h2 : (16 : Int) < k0
  · have e2 : decide ((16 : Int) < k0) = true := by simpa using h2
    go_wp2
    go_ret
    exact ⟨rfl, HB3.out⟩
  have e2 : decide ((16 : Int) < k0) = false := by simpa using h2
  by_cases h3 : 40 < n
  · have e3 : decide ((40 : Int) < (n : Int)) = true := by simp; omega
    go_wp2
    go_ret
    exact ⟨rfl, HB3.out⟩
  have e3 : decide ((40 : Int) < (n : Int)) = false := by simp; omega
  obtain ⟨k, rfl⟩ : ∃ k : Nat, k0 = (k : Int) := ⟨k0.toNat, by omega⟩
  have hk1 : 1 ≤ k := by omega
  have hk16 : k ≤ 16 := by omega
  have hn40 : n ≤ 40 := by omega
  have HG := hide (grown7 (c := cl) hk1 hk16 (HEL.out.below HB3.out) (by omega))
  clear h1 h2 h3
  go_wp2_with fail
  refine HG.out.mono ?_
  rintro e w4 ⟨t, A4, n4, c4, rfl, ⟨rows, es, hT4, hE4, hnc4, hS4, hkk4, hes4⟩, hn4, hb4⟩
  have hlen : es.length = n4 := by rw [← hes4]; unfold ents; rw [List.length_map]; exact hE4.len
  have HT4 := hide hT4
  have HB4 := hide (below_then HB3.out hb4)
  have HE4 := hide hE4
  have HKK := hide hkk4
  have HEN := hide hes4
  have HLEN := hide hlen
  have HNC := hide hnc4
  have hn4b : n4 ≤ 50 := by omega
  clear hT4 hE4 hnc4 hS4 hkk4 hes4 hb4 hlen HG
  by_cases hnk : n = k
  case neg =>
    have e5 : ((n : Int) != (k : Int)) = true := by simp; omega
    obtain ⟨root, hr⟩ := HT4.out.blk
    have HPD := hide (rk_Part_dim hr A n c hnk)
    clear hr hnk
    go_wp2_with fail
    refine HPD.out.mono ?_
    rintro e w5 ⟨rfl, rfl⟩
    go_wp2
    go_ret
    exact ⟨rfl, HB4.out⟩
  subst hnk
  have e5 : ((n : Int) != (n : Int)) = false := by simp
  have HPP := hide (rk_Part (pc := c) HT4.out (HPT.out.below HB4.out))
  go_wp2_with fail
  refine HPP.out.mono ?_
  rintro e w5 ⟨a, b, ea, eb, rfl, hta, htb, hcut, hb5⟩
  have HTA := hide hta
  have HTB := hide htb
  have HCUT := hide hcut
  have HB5 := hide hb5
  have hpl := (hcut.place (fun e he => (HT4.out.sorted.2 e he).1) HPT.out.zp).1
  have hcl : ea.length + eb.length = n4 := by rw [← HLEN.out, hcut.eq, List.length_append]
  have HCL := hide hcl
  have hrf := ref_from8 (c := c4) (d := c) (HE4.out.below hb5) HKK.out (HPT.out.below (below_then HB4.out hb5)) (by omega) (by omega)
  rw [HEN.out, hpl] at hrf
  have HRF := hide hrf
  clear hta htb hcut hb5 hpl hcl hrf HPP
  obtain ⟨m, hm⟩ : ∃ m, ea.length = m := ⟨_, rfl⟩
  rw [hm] at HRF
  have HM := hide hm
  have hm4 : m ≤ n4 := by have := HCL.out; omega
  have hmc : m ≤ c4 := by have := HNC.out; omega
  have hsplit : ents (rows.take m) = ea ∧ ents (rows.drop m) = eb := by
    have h1 := HEN.out
    have h2 := HCUT.out.eq
    unfold ents at h1 ⊢
    rw [List.map_take, List.map_drop, h1, h2, ← hm]
    exact ⟨List.take_left, List.drop_left⟩
  have HSP := hide hsplit
  have r1 := fun W => run_slice_to (P := Tryz.prog) (w := W) Tryz.underlying27 (sz := 2) Tryz.sizeOf37 A4 n4 c4 m hmc
  have r2 := fun W => run_slice_lo (P := Tryz.prog) (w := W) Tryz.underlying27 (sz := 2) Tryz.sizeOf37 A4 n4 c4 m hm4
  clear hm hsplit
  go_wp2_with fail
  refine HRF.out.mono ?_
  rintro e w6 ⟨rfl, rfl⟩
  have HIS7 := hide (is_tree (c := c4) (HTA.out) ((HE4.out.below HB5.out).to_ hm4) hmc (by have := HLEN.out; have := HCL.out; omega) (fun r hr => HKK.out r (List.mem_of_mem_take hr)) HSP.out.1)
  go_wp2_with fail
  refine HIS7.out.mono ?_
  rintro e w7 ⟨rfl, hb7⟩
  have HB7 := hide (below_then HB5.out hb7)
  have HTA7 := hide (HTA.out.stay hb7)
  have HTB7 := hide (HTB.out.stay hb7)
  clear hb7 HIS7
  have HIS8 := hide (is_tree (c := c4 - m) (HTB7.out) ((HE4.out.below HB7.out).lo_ hm4 HNC.out) (by have := HNC.out; omega) (by have := HLEN.out; have := HCL.out; omega) (fun r hr => HKK.out r (List.mem_of_mem_drop hr)) HSP.out.2)
  go_wp2_with fail
  refine HIS8.out.mono ?_
  rintro e w8 ⟨rfl, hb8⟩
  have HB8 := hide (below_then HB7.out hb8)
  have HTA8 := hide (HTA7.out.stay hb8)
  have HTB8 := hide (HTB7.out.stay hb8)
  clear hb8 HIS8
  have hord : ∀ x ∈ ea, ∀ y ∈ eb, Zlt x.1 y.1 := by
    have h := HT4.out.sorted.1
    rw [HCUT.out.eq] at h
    exact (List.pairwise_append.1 h).2.2
  have HORD := hide hord
  have HJ1 := hide (rk_join HTA8.out HTB8.out)
  clear hord r1 r2
  go_wp2_with fail
  refine HJ1.out.mono ?_
  rintro e w9 ⟨hj1, hb9⟩
  rcases hj1 with ⟨⟨x, y, hx, hy, hc⟩, _⟩ | ⟨_, u, rfl, hu⟩
  · exfalso
    have h1 := HORD.out x (List.mem_of_getLast? hx) y (List.mem_of_head? hy)
    rcases (cmp_ge (HTA8.out.sorted.2 x (List.mem_of_getLast? hx)).1 (HTB8.out.sorted.2 y (List.mem_of_head? hy)).1).1 hc with h | h
    · exact zlt_irrefl _ (h ▸ h1)
    · exact zlt_asymm h1 h
  rw [← HCUT.out.eq] at hu
  have HU := hide hu
  have HB9 := hide (below_then HB8.out hb9)
  have HJ2 := hide (rk_join (HTB8.out.stay hb9) (HTA8.out.stay hb9))
  clear hu hb9 HJ1
  go_wp2_with fail
  refine HJ2.out.mono ?_
  rintro e w10 ⟨hj2, hb10⟩
  have HB10 := hide (below_then HB9.out hb10)
  have HU10 := hide (HU.out.stay hb10)
  clear hb10 HJ2
  have hcase : (m = 0 ∨ eb = []) ∨ (0 < m ∧ 0 < eb.length) := by
    rcases Nat.eq_zero_or_pos m with h | h
    · exact .inl (.inl h)
    · rcases Nat.eq_zero_or_pos eb.length with h2 | h2
      · exact .inl (.inr (List.length_eq_zero_iff.1 h2))
      · exact .inr ⟨h, h2⟩
  rcases hj2 with ⟨hcl2, rfl⟩ | ⟨hcl2, v, rfl, hv⟩
  · have hne : 0 < m ∧ m < n4 := by
      obtain ⟨x, y, hx, hy, _⟩ := hcl2
      have h1 := List.length_pos_of_mem (List.mem_of_getLast? hx)
      have h2 := List.length_pos_of_mem (List.mem_of_head? hy)
      have := HM.out
      have := HCL.out
      omega
    have e6 : decide ((0 : Int) < (m : Int)) = true := by simp; omega
    have e7 : decide (m < n4) = true := by simp; omega
    have hne1 := hne.1
    clear hcl2 hcase hne
    have HIS11 := hide (is_tree (c := c4) (HU10.out) (HE4.out.below HB10.out) HNC.out (by have := HLEN.out; have := HCL.out; omega) HKK.out HEN.out)
    go_wp2_with fail
    refine HIS11.out.mono ?_
    rintro e w11 ⟨rfl, hb11⟩
    have HB11 := hide (below_then HB10.out hb11)
    have HQ11 := hide hb11
    clear hb11 HIS11
    have HIS12 := hide (is_tree (c := c4) (HT4.out.stay HB11.out) (HE4.out.below HB11.out) HNC.out (by have := HLEN.out; have := HCL.out; omega) HKK.out HEN.out)
    go_wp2_with fail
    refine HIS12.out.mono ?_
    rintro e w12 ⟨rfl, hb12⟩
    have HB12 := hide (below_then HB11.out hb12)
    have HQ12 := hide hb12
    clear hb12 HIS12
    have HF := hide (below_then HB4.out HB12.out)
    go_wp2
    go_ret
    exact ⟨rfl, HF.out⟩
  · have hz : (m = 0 ∨ m = n4) ∧ eb ++ ea = es := by
      rcases hcase with (h | h) | ⟨h1, h2⟩
      · have h3 : ea = [] := List.length_eq_zero_iff.1 (HM.out.trans h)
        refine ⟨.inl h, ?_⟩
        rw [HCUT.out.eq, h3]
        simp
      · refine ⟨.inr (by have h1 := HCL.out; have h2 := HM.out; rw [h] at h1; simp at h1; omega), ?_⟩
        rw [HCUT.out.eq, h]
        simp
      · exfalso
        refine hcl2 ?_
        have hA1 : ∃ y, ea.head? = some y := by
          cases ea with
          | nil => have := HM.out; simp at this; omega
          | cons y ys => exact ⟨y, rfl⟩
        have hB1 : ∃ x, eb.getLast? = some x := by
          cases h : eb.getLast? with
          | none => rw [List.getLast?_eq_none_iff] at h; subst h; simp at h2
          | some x => exact ⟨x, rfl⟩
        obtain ⟨y, hy⟩ := hA1
        obtain ⟨x, hx⟩ := hB1
        exact ⟨x, y, hx, hy, (cmp_ge (HTB8.out.sorted.2 x (List.mem_of_getLast? hx)).1 (HTA8.out.sorted.2 y (List.mem_of_head? hy)).1).2 (.inr (HORD.out y (List.mem_of_head? hy) x (List.mem_of_getLast? hx)))⟩
    rw [hz.2] at hv
    have HV := hide hv
    have hz1 := hz.1
    clear hv hz hcl2 hcase
    have HIS11 := hide (is_tree (c := c4) (HU10.out) (HE4.out.below HB10.out) HNC.out (by have := HLEN.out; have := HCL.out; omega) HKK.out HEN.out)
    go_wp2_with fail
    refine HIS11.out.mono ?_
    rintro e w11 ⟨rfl, hb11⟩
    have HB11 := hide (below_then HB10.out hb11)
    have HQ11 := hide hb11
    clear hb11 HIS11
    have HIS12 := hide (is_tree (c := c4) (HT4.out.stay HB11.out) (HE4.out.below HB11.out) HNC.out (by have := HLEN.out; have := HCL.out; omega) HKK.out HEN.out)
    go_wp2_with fail
    refine HIS12.out.mono ?_
    rintro e w12 ⟨rfl, hb12⟩
    have HB12 := hide (below_then HB11.out hb12)
    have HQ12 := hide hb12
    clear hb12 HIS12
    have HISV := hide (is_tree (c := c4) ((HV.out.stay HQ11.out).stay HQ12.out) (HE4.out.below HB12.out) HNC.out (by have := HLEN.out; omega) HKK.out HEN.out)
    rcases hz1 with h0 | h0
    · subst h0
      go_wp2_with fail
      refine HISV.out.mono ?_
      rintro e w13 ⟨rfl, hb13⟩
      have HF := hide (below_then HB4.out (below_then HB12.out hb13))
      clear hb13
      go_wp2
      go_ret
      exact ⟨rfl, HF.out⟩
    · have e7 : decide (m < n4) = false := by simp; omega
      clear h0
      by_cases hm0 : 0 < m
      · have e6 : decide ((0 : Int) < (m : Int)) = true := by simp; omega
        go_wp2_with fail
        refine HISV.out.mono ?_
        rintro e w13 ⟨rfl, hb13⟩
        have HF := hide (below_then HB4.out (below_then HB12.out hb13))
        clear hb13
        go_wp2
        go_ret
        exact ⟨rfl, HF.out⟩
      · obtain rfl : m = 0 := by omega
        go_wp2_with fail
        refine HISV.out.mono ?_
        rintro e w13 ⟨rfl, hb13⟩
        have HF := hide (below_then HB4.out (below_then HB12.out hb13))
        clear hb13
        go_wp2
        go_ret
        exact ⟨rfl, HF.out⟩
end Go.Proofs.YtnopacldaoekiaaGreat
