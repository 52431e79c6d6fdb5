/- rank: a node parted at a point. -/
import Derived.Test.YtnopacldaoekiaaGreatRkJ
import Derived.Test.YtnopacldaoekiaaGreatRkA
set_option linter.unusedSimpArgs false
set_option linter.unusedVariables false
namespace Go.Proofs.YtnopacldaoekiaaGreat
open Go.RowKit
/-- Two tops as one: who is in it. -/
def JdOut (w : World) (k : Nat) (ea eb : List Ent) (e : Ending) (w' : World) : Prop :=
  ∃ tc, e = .returned (ptrOf tc) ∧ TopOk w' k tc ∧ (∀ x, x ∈ esOf tc ↔ x ∈ ea ∨ x ∈ eb) ∧ Below w.heap.size w w'
set_option maxHeartbeats 8000000 in
set_option maxRecDepth 100000 in
theorem rk_joined {w : World} {k m a : Nat} {pre : List Nat} {tn tk : Option (Nat × NT)} (hk1 : 1 ≤ k) (hk : k ≤ 16) (hm : m < 64) (hN : TopOk w k tn) (hK : TopOk w k tk)
    (hn : ∀ x ∈ esOf tn, addrOf x.1 m ≠ a ∧ ∀ b, m < b → addrOf x.1 b = addrOf pre b) (hq : ∀ x ∈ esOf tk, addrOf x.1 m = a ∧ ∀ b, m < b → addrOf x.1 b = addrOf pre b) :
    Calls Tryz.prog 111 #[ptrOf tn, .int .i64 (m : Int), ptrOf tk] w (JdOut w k (esOf tn) (esOf tk)) := by
  cases tk with
  | none =>
    have HF := hide (show JdOut w k (esOf tn) [] (.returned (ptrOf tn)) w from ⟨tn, rfl, hN, fun x => by simp, Below.refl _ _⟩)
    clear hN hK hn hq
    cases tn with
    | none =>
      unfold ptrOf at HF ⊢
      simp only [Option.map_none] at HF ⊢
      go_enter Tryz.func111, Tryz.ntmps111
      go_wp2
      go_ret
      exact HF.out
    | some y =>
      unfold ptrOf at HF ⊢
      simp only [Option.map_some, Option.map_none] at HF ⊢
      go_enter Tryz.func111, Tryz.ntmps111
      go_wp2
      go_ret
      exact HF.out
  | some z =>
    obtain ⟨gk, lk, pk, ek⟩ := z
    have hZ := hK _ rfl
    simp only [esOf] at hq hZ ⊢
    cases tn with
    | none =>
      have HF := hide (show JdOut w k [] ek (.returned (.pointer (some ⟨gk, 0, none⟩))) w from ⟨some (gk, ⟨lk, pk, ek⟩), rfl, hK, fun x => by simp [esOf], Below.refl _ _⟩)
      clear hN hK hn hq hZ
      unfold ptrOf
      simp only [Option.map_some, Option.map_none]
      go_enter Tryz.func111, Tryz.ntmps111
      go_wp2
      go_ret
      exact HF.out
    | some y =>
      obtain ⟨gn, ln, pn, en⟩ := y
      have hY := hN _ rfl
      simp only [esOf] at hn hY ⊢
      obtain ⟨x0, hx0⟩ := List.exists_mem_of_ne_nil _ hZ.info.2.1
      have hku := under (m := m) (z := x0.1) hZ (fun x hx b hb => by
        rcases Nat.eq_or_lt_of_le hb with h | h
        · subst h
          rw [(hq x hx).1, (hq x0 hx0).1]
        · rw [(hq x hx).2 b h, (hq x0 hx0).2 b h])
      have hka : addrOf pk m = a := (hku.2 m (Nat.le_refl _)).trans (hq x0 hx0).1
      have hkb : ∀ b, m < b → addrOf pk b = addrOf pre b := fun b hb => (hku.2 b (by omega)).trans ((hq x0 hx0).2 b hb)
      have hnu := under (m := m + 1) (z := pre) hY (fun x hx b hb => (hn x hx).2 b (by omega))
      have hagr : ∀ b, m < b → addrOf pn b = addrOf pk b := fun b hb => (hnu.2 b (by omega)).trans (hkb b hb).symm
      have HLE := hide (nd_level hY)
      rcases Int.lt_or_le ln (m : Int) with hl | hl
      · obtain ⟨x1, hx1⟩ := List.exists_mem_of_ne_nil _ hY.info.2.1
        have hna : addrOf pn m ≠ addrOf pk m := by
          rw [hka, ← (hY.info.2.2.2.2.1 x1 hx1).2.2 m hl]
          exact (hn x1 hx1).1
        have hpm := part_unique hY.info.1 hZ.info.1 hagr hna
        have HPA := hide (nd_pair hY hZ hk1 hk hpm hl hku.1)
        have HNA := hide hna
        have e1 : decide (ln < (m : Int)) = true := by simpa using hl
        clear hN hK hn hq hZ hY hku hka hkb hnu hagr hna hpm hl hx0 hx1
        unfold ptrOf
        simp only [Option.map_some]
        go_enter Tryz.func111, Tryz.ntmps111
        go_wp2_with fail
        refine HLE.out.mono ?_
        rintro e w1 ⟨rfl, rfl⟩
        go_wp2_with fail
        refine HPA.out.mono ?_
        rintro e w2 ⟨g2, rfl, hF, -, hb⟩
        have HF := hide (show JdOut w k en ek (.returned (.pointer (some ⟨g2, 0, none⟩))) w2 from ⟨some (g2, ⟨m, _, _⟩), rfl, fun x hx => by injection hx with hx; subst hx; exact hF.node, pair_mem HNA.out, hb⟩)
        clear hF hb
        go_wp2
        go_ret
        exact HF.out
      · rcases hY.cases' with ⟨_, _, _, h0, _⟩ | ⟨m', ks, hm', hes, hF⟩
        · exfalso
          have := hnu.1
          omega
        have hmm : m' = m := by have := hnu.1; omega
        subst hmm hm' hes
        have HWI := hide (nd_with hF hZ hk1 hk ((part_le_iff hF.node.info.1 hZ.info.1 m' (by omega)).2 fun b hb => hagr b (by omega)) hku.1)
        have HFK := hide hF
        have HKA := hide hka
        have HN := hide (fun x hx => (hn x hx).1)
        have HQ := hide (fun x hx => (hq x hx).1)
        have e1 : decide ((m' : Int) < (m' : Int)) = false := by simp
        clear hN hK hn hq hZ hY hku hka hkb hnu hagr hl hx0 hF
        unfold ptrOf
        simp only [Option.map_some]
        go_enter Tryz.func111, Tryz.ntmps111
        go_wp2_with fail
        refine HLE.out.mono ?_
        rintro e w1 ⟨rfl, rfl⟩
        go_wp2_with fail
        refine HWI.out.mono ?_
        rintro e w2 ⟨g2, rfl, hF2, -, hb⟩
        have HF := hide (show JdOut w k (kidEs ks) ek (.returned (.pointer (some ⟨g2, 0, none⟩))) w2 from ⟨some (g2, ⟨m', _, _⟩), rfl, fun x hx => by injection hx with hx; subst hx; exact hF2.node, fun x => by
          show x ∈ kidEs (insK ks _) ↔ _
          rw [mem_ins hF2 HFK.out]
          simp only
          rw [HKA.out]
          constructor
          · rintro (⟨_, h⟩ | ⟨_, h⟩)
            · exact .inr h
            · exact .inl h
          · rintro (h | h)
            · exact .inr ⟨HN.out x h, h⟩
            · exact .inl ⟨HQ.out x h, h⟩, hb⟩)
        clear hF2 hb
        go_wp2
        go_ret
        exact HF.out
/-- A node parted at a point: what is ahead of it, what is not. -/
def PtOut (w : World) (k : Nat) (p : List Nat) (es : List Ent) (e : Ending) (w' : World) : Prop :=
  ∃ ta tb, e = .returned (.tuple #[ptrOf ta, ptrOf tb]) ∧ TopOk w' k ta ∧ TopOk w' k tb ∧ (∀ x, x ∈ esOf ta ↔ x ∈ es ∧ Zlt x.1 p) ∧ (∀ x, x ∈ esOf tb ↔ x ∈ es ∧ ¬ Zlt x.1 p) ∧ Below w.heap.size w w'
theorem TopOk.one {w : World} {k g : Nat} {lv : Int} {pre : List Nat} {es : List Ent} (h : NodeOf w k g lv pre es) : TopOk w k (some (g, ⟨lv, pre, es⟩)) := fun x hx => by
  injection hx with hx
  subst hx
  exact h
theorem TopOk.no (w : World) (k : Nat) : TopOk w k none := fun x hx => by cases hx
set_option maxHeartbeats 16000000 in
set_option maxRecDepth 100000 in
theorem rk_part {k : Nat} (hk1 : 1 ≤ k) (hk : k ≤ 16) : ∀ (N : Nat) (w : World) (g : Nat) (lv : Int) (pre : List Nat) (es : List Ent), es.length ≤ N → NodeOf w k g lv pre es → ∀ (PA : Option Addr) (pc : Nat) (p : List Nat), Pt w PA k p →
    Calls Tryz.prog 66 #[.pointer (some ⟨g, 0, none⟩), .slice PA k pc] w (PtOut w k p es) := by
  intro N
  induction N with
  | zero =>
    intro w g lv pre es hl hn
    exact absurd (List.length_eq_zero_iff.1 (Nat.le_zero.1 hl)) hn.info.2.1
  | succ N ih =>
  intro w g lv pre es hl hn PA pc p hp
  have HIH := hide ih
  have HP := hide hp
  have HZ := hide hp.zp
  obtain ⟨i1, i2, i3, i4, i5, i6, i7⟩ := hn.info
  have hcvr := nd_covers (d := pc) hn hk1 hk hp
  clear ih
  by_cases hcv : part pre p ≤ lv
  case neg =>
    rw [decide_eq_false hcv] at hcvr
    have HCV := hide hcvr
    rcases miss_side i1 HZ.out i3 (by omega) (fun e he => (i5 e he).2.2) with ⟨hc, hall⟩ | ⟨hc, hall⟩
    · have HAH := hide (rk_ahead (c := pc) hn hk1 hk hp hc rfl)
      have HF0 := hide (fun w' (hb : Below w.heap.size w w') => show PtOut w k p es (.returned (.tuple #[.pointer (some ⟨g, 0, none⟩), .pointer none])) w' from ⟨some (g, ⟨lv, pre, es⟩), none, rfl, TopOk.one (hn.stay hb), TopOk.no _ _, fun x => ⟨fun h => ⟨h, hall x h⟩, fun h => h.1⟩, fun x => ⟨fun h => by simp [esOf] at h, fun h => absurd (hall x h.1) h.2⟩, hb⟩)
      clear hl hn hp i1 i2 i3 i4 i5 i6 i7 hcvr hcv hc hall
      go_enter Tryz.func66, Tryz.ntmps66
      go_wp2_with fail
      refine HCV.out.mono ?_
      rintro e w2 ⟨rfl, rfl⟩
      go_wp2_with fail
      refine HAH.out.mono ?_
      rintro e w2 ⟨rfl, hb2⟩
      simp only [show decide ((-1 : Int) < 0) = true from rfl]
      have HF := hide (HF0.out w2 hb2)
      clear hb2
      go_wp2
      go_ret2
      exact HF.out
    · have HAH := hide (rk_ahead (c := pc) hn hk1 hk hp hc rfl)
      have HF0 := hide (fun w' (hb : Below w.heap.size w w') => show PtOut w k p es (.returned (.tuple #[.pointer none, .pointer (some ⟨g, 0, none⟩)])) w' from ⟨none, some (g, ⟨lv, pre, es⟩), rfl, TopOk.no _ _, TopOk.one (hn.stay hb), fun x => ⟨fun h => by simp [esOf] at h, fun h => absurd h.2 (fun h2 => zlt_asymm h2 (hall x h.1))⟩, fun x => ⟨fun h => ⟨h, fun h2 => zlt_asymm h2 (hall x h)⟩, fun h => h.1⟩, hb⟩)
      have HCV2 := hide (fun W (hW : Below w.heap.size w W) => by have := nd_covers (d := pc) (hn.stay hW) hk1 hk (hp.below hW); rw [decide_eq_false hcv] at this; exact this)
      clear hl hn hp i1 i2 i3 i4 i5 i6 i7 hcvr hcv hc hall
      go_enter Tryz.func66, Tryz.ntmps66
      go_wp2_with fail
      refine HCV.out.mono ?_
      rintro e w2 ⟨rfl, rfl⟩
      go_wp2_with fail
      refine HAH.out.mono ?_
      rintro e w2 ⟨rfl, hb2⟩
      simp only [show decide ((1 : Int) < 0) = false from rfl]
      have HF := hide (HF0.out w2 hb2)
      have HC2 := hide (HCV2.out w2 hb2)
      clear hb2
      go_wp2_with fail
      refine HC2.out.mono ?_
      rintro e w3 ⟨rfl, rfl⟩
      go_wp2
      go_ret2
      exact HF.out
  rw [decide_eq_true hcv] at hcvr
  have HCV := hide hcvr
  have HLE := hide (nd_level hn)
  rcases hn.cases' with ⟨A', c', v, hlv, hes', hv, hP', hc', hB'⟩ | ⟨m, ks, hlv, hes', hF⟩
  · obtain rfl : pre = p := part_neg i1 HZ.out (by omega)
    subst hlv hes'
    have HF := hide (show PtOut w k pre [(pre, v)] (.returned (.tuple #[.pointer none, .pointer (some ⟨g, 0, none⟩)])) w from ⟨none, some (g, ⟨-1, pre, [(pre, v)]⟩), rfl, TopOk.no _ _, TopOk.one hn, fun x => ⟨fun h => by simp [esOf] at h, fun h => by
      obtain ⟨h1, h2⟩ := h
      rw [List.mem_singleton] at h1
      subst h1
      exact absurd h2 (zlt_irrefl _)⟩, fun x => ⟨fun h => ⟨h, by
      have h1 : x ∈ [(pre, v)] := h
      rw [List.mem_singleton] at h1
      subst h1
      exact zlt_irrefl _⟩, fun h => h.1⟩, Below.refl _ _⟩)
    clear hl hn hp i1 i2 i3 i4 i5 i6 i7 hcvr hcv hv hP' hc' hB'
    go_enter Tryz.func66, Tryz.ntmps66
    go_wp2_with fail
    refine HCV.out.mono ?_
    rintro e w2 ⟨rfl, rfl⟩
    go_wp2_with fail
    refine HCV.out.mono ?_
    rintro e w2 ⟨rfl, rfl⟩
    go_wp2_with fail
    refine HLE.out.mono ?_
    rintro e w2 ⟨rfl, rfl⟩
    go_wp2
    go_ret2
    exact HF.out
  subst hlv hes'
  have hm64 := hF.lv
  have hm0 : decide ((m : Int) < 0) = false := by simp
  have HFK := hide hF
  have HLN := hide hl
  have HCVP := hide hcv
  have HSO := hide hF.sorted
  have HAT := hide (fun q (hq : q ∈ ks) => pow_le_16 (hF.kid q hq).2.2.2.2 hk)
  have ha16 : ((addrOf p m : Nat) : Int) ≤ 65535 := by
    have := pow_le_16 (addr_lt_pow HZ.out m) hk
    omega
  have HAD := hide (zb_addr PA k p pc m w hp hk1 hk hm64)
  have H0 := hide (nd_from_0 hF)
  clear hl hn hp i1 i2 i3 i4 i5 i6 i7 hcvr hcv hF
  go_enter Tryz.func66, Tryz.ntmps66
  go_wp2_with fail
  refine HCV.out.mono ?_
  rintro e w2 ⟨rfl, rfl⟩
  go_wp2_with fail
  refine HCV.out.mono ?_
  rintro e w2 ⟨rfl, rfl⟩
  go_wp2_with fail
  refine HLE.out.mono ?_
  rintro e w2 ⟨rfl, rfl⟩
  go_wp2_with fail
  refine HLE.out.mono ?_
  rintro e w2 ⟨rfl, rfl⟩
  go_wp2_with fail
  refine HAD.out.mono ?_
  rintro e w2 ⟨rfl, rfl⟩
  go_wp2_with fail
  refine H0.out.mono ?_
  rintro e w3 ⟨rfl, hb3⟩
  have HB := hide hb3
  clear hb3 H0
  go_wp2
  go_loopw [4, 5, 8, 9] (fun x4 x5 x8 x9 wr => ∃ (ta tb : Option (Nat × NT)) (j : Nat), x4 = ptrOf ta ∧ x5 = ptrOf tb ∧ x8 = .int .i64 ((kAt ks j : Nat) : Int) ∧ x9 = kPt ks j ∧ j ≤ ks.length ∧ TopOk wr k ta ∧ TopOk wr k tb ∧ (∀ x, x ∈ esOf ta ↔ x ∈ kidEs (ks.take j) ∧ Zlt x.1 p) ∧ (∀ x, x ∈ esOf tb ↔ x ∈ kidEs (ks.take j) ∧ ¬ Zlt x.1 p) ∧ Below w.heap.size w wr) (fun _ _ x8 x9 _ => fromM x8 x9)
  case atStart => exact ⟨none, none, 0, rfl, rfl, rfl, rfl, Nat.zero_le _, TopOk.no _ _, TopOk.no _ _, fun x => by simp [kidEs, esOf], fun x => by simp [kidEs, esOf], HB.out⟩
  case round =>
    obtain ⟨ta, tb, j, rfl, rfl, rfl, rfl, hj, hta, htb, hma, hmb, hb⟩ := hrel
    rename World => wz
    have HTA := hide hta
    have HTB := hide htb
    have HMA := hide hma
    have HMB := hide hmb
    clear HB
    have HB := hide hb
    clear hta htb hma hmb hb
    rcases Nat.lt_or_ge j ks.length with hjl | hjl
    case inr =>
      rw [kAt_none hjl, kPt_none hjl]
      have HF := hide (show PtOut w k p (kidEs ks) (.returned (.tuple #[ptrOf ta, ptrOf tb])) wz from ⟨ta, tb, rfl, HTA.out, HTB.out, fun x => by rw [HMA.out, List.take_of_length_le hjl], fun x => by rw [HMB.out, List.take_of_length_le hjl], HB.out⟩)
      clear hjl
      go_wp2
      go_ret2
      exact HF.out
    obtain ⟨q, hq⟩ : ∃ q, ks[j]? = some q := ⟨ks[j], List.getElem?_eq_getElem hjl⟩
    rw [kAt_some hq, kPt_some hq]
    have hqm := List.mem_of_getElem? hq
    have hkq := HFK.out.kid q hqm
    have hqa1 : ((q.at_ : Nat) : Int) ≤ 65535 := by have := HAT.out q hqm; omega
    have hesq := HFK.out.fk'.es q hqm
    have HQ := hide hq
    have HQM := hide hqm
    have HKQ := hide hkq
    -- what was met before lies at other addresses
    have hbef : ∀ x ∈ kidEs (ks.take j), addrOf x.1 m ≠ q.at_ ∧ ∀ b, m < b → addrOf x.1 b = addrOf pre b := fun x hx => by
      obtain ⟨r, hr, hx⟩ := mem_kidEs.1 hx
      have h1 := HFK.out.fk'.es r (List.mem_of_mem_take hr) x hx
      simp only at h1
      refine ⟨?_, h1.2.2⟩
      rw [h1.2.1]
      obtain ⟨i, hi, rfl⟩ := List.mem_iff_getElem.1 hr
      rw [List.length_take] at hi
      have h2 := List.pairwise_iff_getElem.1 HSO.out i j (by omega) (List.getElem?_eq_some_iff.1 HQ.out).1 (by omega)
      rw [(List.getElem?_eq_some_iff.1 HQ.out).2] at h2
      rw [List.getElem_take]
      omega
    have HBEF := hide hbef
    have HEQ := hide (show ∀ x ∈ q.es, addrOf x.1 m = q.at_ ∧ ∀ b, m < b → addrOf x.1 b = addrOf pre b from fun x hx => (hesq x hx).2)
    have hKT := fun W (hW : Below w.heap.size w W) => TopOk.one (hkq.1.stay hW)
    have HKT := hide hKT
    have HLV := hide (fun W (hW : Below w.heap.size w W) => nd_level (HFK.out.stay hW).node)
    clear hq hqm hkq hesq hbef hKT
    rcases Nat.lt_trichotomy q.at_ (addrOf p m) with hqa | hqa | hqa
    · have hlt := HFK.out.fk'.kid_lt HZ.out HCVP.out HQM.out hqa
      have HLT := hide hlt
      have e5 : decide (q.at_ < addrOf p m) = true := by simpa using hqa
      clear hlt
      go_wp2_with fail
      refine (HLV.out _ HB.out).mono ?_
      rintro e w5 ⟨rfl, rfl⟩
      have hjd := rk_joined (m := m) (a := q.at_) (pre := pre) hk1 hk hm64 HTA.out (HKT.out _ HB.out) (fun x hx => HBEF.out x ((HMA.out x).1 hx).1) (fun x hx => HEQ.out x hx)
      have HJD := hide (show Calls Tryz.prog 111 #[ptrOf ta, .int .i64 (m : Int), .pointer (some ⟨q.blk, 0, none⟩)] _ (JdOut _ k (esOf ta) q.es) from hjd)
      clear hjd
      go_wp2_with fail
      refine HJD.out.mono ?_
      rintro e w6 ⟨tc, rfl, htc, hmc, hb6⟩
      have HTC := hide htc
      have HMC := hide hmc
      have HTB2 := hide (HTB.out.stay hb6)
      have HB2 := hide (below_then HB.out hb6)
      have HNX := hide (nd_from_next (HFK.out.stay HB2.out) HQ.out)
      clear htc hmc hb6 HJD
      go_wp2_with fail
      refine HNX.out.mono ?_
      rintro e w7 ⟨rfl, hb7⟩
      have HTC := hide (HTC.out.stay hb7)
      have HTB2 := hide (HTB2.out.stay hb7)
      have HB3 := hide (below_then HB2.out hb7)
      clear hb7 HNX
      go_wp2
      go_roundw
      case rel =>
        refine ⟨tc, tb, j + 1, rfl, rfl, rfl, rfl, by have := (List.getElem?_eq_some_iff.1 HQ.out).1; omega, HTC.out, HTB2.out, fun x => ?_, fun x => ?_, HB3.out⟩
        · rw [HMC.out, HMA.out, kidEs_take HQ.out, List.mem_append]
          exact ⟨fun h => h.elim (fun h => ⟨.inl h.1, h.2⟩) (fun h => ⟨.inr h, HLT.out x h⟩), fun h => h.1.elim (fun h1 => .inl ⟨h1, h.2⟩) .inr⟩
        · rw [HMB.out, kidEs_take HQ.out, List.mem_append]
          exact ⟨fun h => ⟨.inl h.1, h.2⟩, fun h => h.1.elim (fun h1 => ⟨h1, h.2⟩) (fun h1 => absurd (HLT.out x h1) h.2)⟩
      case measure => exact fromM_lt HSO.out HAT.out HQ.out
    · have e5 : decide (q.at_ < addrOf p m) = false := by simp; omega
      have e6 : decide (addrOf p m < q.at_) = false := by simp; omega
      clear hqa
      have hsm := kid_small HFK.out HQM.out
      have HPR := hide (HIH.out wz q.blk q.lv q.pre q.es (by have := HLN.out; omega) (HKQ.out.1.stay HB.out) PA pc p (HP.out.below HB.out))
      clear hsm
      go_wp2_with fail
      refine HPR.out.mono ?_
      rintro e w5 ⟨sa, sb, rfl, hsa, hsb, hmsa, hmsb, hb5⟩
      have HSA := hide hsa
      have HSB := hide hsb
      have HMSA := hide hmsa
      have HMSB := hide hmsb
      have HTA2 := hide (HTA.out.stay hb5)
      have HTB2 := hide (HTB.out.stay hb5)
      have HB2 := hide (below_then HB.out hb5)
      clear hsa hsb hmsa hmsb hb5 HPR
      go_wp2_with fail
      refine (HLV.out _ HB2.out).mono ?_
      rintro e w6 ⟨rfl, rfl⟩
      have HJA := hide (rk_joined (m := m) (a := q.at_) (pre := pre) hk1 hk hm64 HTA2.out HSA.out (fun x hx => HBEF.out x ((HMA.out x).1 hx).1) (fun x hx => HEQ.out x ((HMSA.out x).1 hx).1))
      go_wp2_with fail
      refine HJA.out.mono ?_
      rintro e w7 ⟨tc, rfl, htc, hmc, hb7⟩
      have HTC := hide htc
      have HMC := hide hmc
      have HTB3 := hide (HTB2.out.stay hb7)
      have HSB3 := hide (HSB.out.stay hb7)
      have HB3 := hide (below_then HB2.out hb7)
      clear htc hmc hb7 HJA
      go_wp2_with fail
      refine (HLV.out _ HB3.out).mono ?_
      rintro e w8 ⟨rfl, rfl⟩
      have HJB := hide (rk_joined (m := m) (a := q.at_) (pre := pre) hk1 hk hm64 HTB3.out HSB3.out (fun x hx => HBEF.out x ((HMB.out x).1 hx).1) (fun x hx => HEQ.out x ((HMSB.out x).1 hx).1))
      go_wp2_with fail
      refine HJB.out.mono ?_
      rintro e w9 ⟨td, rfl, htd, hmd, hb9⟩
      have HTD := hide htd
      have HMD := hide hmd
      have HTC4 := hide (HTC.out.stay hb9)
      have HB4 := hide (below_then HB3.out hb9)
      have HNX := hide (nd_from_next (HFK.out.stay HB4.out) HQ.out)
      clear htd hmd hb9 HJB
      go_wp2_with fail
      refine HNX.out.mono ?_
      rintro e w10 ⟨rfl, hb10⟩
      have HTC5 := hide (HTC4.out.stay hb10)
      have HTD5 := hide (HTD.out.stay hb10)
      have HB5 := hide (below_then HB4.out hb10)
      clear hb10 HNX
      go_wp2
      go_roundw
      case rel =>
        refine ⟨tc, td, j + 1, rfl, rfl, rfl, rfl, by have := (List.getElem?_eq_some_iff.1 HQ.out).1; omega, HTC5.out, HTD5.out, fun x => ?_, fun x => ?_, HB5.out⟩
        · rw [HMC.out, HMA.out, HMSA.out, kidEs_take HQ.out, List.mem_append]
          exact ⟨fun h => h.elim (fun h => ⟨.inl h.1, h.2⟩) (fun h => ⟨.inr h.1, h.2⟩), fun h => h.1.elim (fun h1 => .inl ⟨h1, h.2⟩) (fun h1 => .inr ⟨h1, h.2⟩)⟩
        · rw [HMD.out, HMB.out, HMSB.out, kidEs_take HQ.out, List.mem_append]
          exact ⟨fun h => h.elim (fun h => ⟨.inl h.1, h.2⟩) (fun h => ⟨.inr h.1, h.2⟩), fun h => h.1.elim (fun h1 => .inl ⟨h1, h.2⟩) (fun h1 => .inr ⟨h1, h.2⟩)⟩
      case measure => exact fromM_lt HSO.out HAT.out HQ.out
    · have hgt := HFK.out.fk'.kid_gt HZ.out HCVP.out HQM.out hqa
      have HGT := hide hgt
      have e5 : decide (q.at_ < addrOf p m) = false := by simp; omega
      have e6 : decide (addrOf p m < q.at_) = true := by simpa using hqa
      clear hgt
      go_wp2_with fail
      refine (HLV.out _ HB.out).mono ?_
      rintro e w5 ⟨rfl, rfl⟩
      have hjd := rk_joined (m := m) (a := q.at_) (pre := pre) hk1 hk hm64 HTB.out (HKT.out _ HB.out) (fun x hx => HBEF.out x ((HMB.out x).1 hx).1) (fun x hx => HEQ.out x hx)
      have HJD := hide (show Calls Tryz.prog 111 #[ptrOf tb, .int .i64 (m : Int), .pointer (some ⟨q.blk, 0, none⟩)] _ (JdOut _ k (esOf tb) q.es) from hjd)
      clear hjd
      go_wp2_with fail
      refine HJD.out.mono ?_
      rintro e w6 ⟨tc, rfl, htc, hmc, hb6⟩
      have HTC := hide htc
      have HMC := hide hmc
      have HTA2 := hide (HTA.out.stay hb6)
      have HB2 := hide (below_then HB.out hb6)
      have HNX := hide (nd_from_next (HFK.out.stay HB2.out) HQ.out)
      clear htc hmc hb6 HJD
      go_wp2_with fail
      refine HNX.out.mono ?_
      rintro e w7 ⟨rfl, hb7⟩
      have HTC := hide (HTC.out.stay hb7)
      have HTA2 := hide (HTA2.out.stay hb7)
      have HB3 := hide (below_then HB2.out hb7)
      clear hb7 HNX
      go_wp2
      go_roundw
      case rel =>
        refine ⟨ta, tc, j + 1, rfl, rfl, rfl, rfl, by have := (List.getElem?_eq_some_iff.1 HQ.out).1; omega, HTA2.out, HTC.out, fun x => ?_, fun x => ?_, HB3.out⟩
        · rw [HMA.out, kidEs_take HQ.out, List.mem_append]
          exact ⟨fun h => ⟨.inl h.1, h.2⟩, fun h => h.1.elim (fun h1 => ⟨h1, h.2⟩) (fun h1 => absurd h.2 (fun h2 => zlt_asymm h2 (HGT.out x h1)))⟩
        · rw [HMC.out, HMB.out, kidEs_take HQ.out, List.mem_append]
          exact ⟨fun h => h.elim (fun h => ⟨.inl h.1, h.2⟩) (fun h => ⟨.inr h, fun h2 => zlt_asymm h2 (HGT.out x h)⟩), fun h => h.1.elim (fun h1 => .inl ⟨h1, h.2⟩) .inr⟩
      case measure => exact fromM_lt HSO.out HAT.out HQ.out
end Go.Proofs.YtnopacldaoekiaaGreat
