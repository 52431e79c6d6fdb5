/- diff: how many steps: some number. -/
import Derived.Test.YtfkpanpageeklaaDfH
set_option linter.unusedSimpArgs false
set_option linter.unusedVariables false
namespace Go.Proofs.Ytfkpanpageeklaa
open Go.RowKit
def SpOut (w : World) (e : Ending) (w' : World) : Prop := ∃ z : Int, e = .returned (.int .i64 z) ∧ Below w.heap.size w w'
def SpHyp (k N : Nat) : Prop := ∀ (w : World) (ta tb : Option (Nat × NT)), (esOf ta).length + (esOf tb).length < N → TopOk w k ta → TopOk w k tb → Calls Try.prog 40 #[ptrOf ta, ptrOf tb] w (SpOut w)
theorem kid_len {w : World} {k g m : Nat} {pre : List Nat} {ks : List Kid} (h : Fork w k g m pre ks) {j : Nat} {q : Kid} (hq : ks[j]? = some q) : q.es.length < (kidEs ks).length := by
  have h1 := kid_smallF h q.at_
  rw [kidAt_of h.sorted hq] at h1
  exact h1
set_option maxHeartbeats 8000000 in
set_option maxRecDepth 100000 in
theorem dp_kids_leaf {w : World} {ga gb va vb c c' k : Nat} {A A' : Option Addr} {s1 s2 : Sum4} {l1 l2 : Int} (hA : Blk w ga 120 (nodeCells l1 A k c va none s1)) (hB : Blk w gb 120 (nodeCells l2 A' k c' vb none s2)) :
    Calls Try.prog 69 #[.pointer (some ⟨ga, 0, none⟩), .pointer (some ⟨gb, 0, none⟩)] w (SpOut w) := by
  have HA := hide (fun W (hW : Below w.heap.size w W) => nd_from_leaf (Blk.below hA hW) 0)
  have HB := hide (fun W (hW : Below w.heap.size w W) => nd_from_leaf (Blk.below hB hW) 0)
  have hb0 := Below.refl w.heap.size w
  clear hA hB
  go_enter Try.func69, Try.ntmps69
  go_wp2_with fail
  refine (HA.out w hb0).mono ?_
  rintro e w1 ⟨rfl, rfl⟩
  go_wp2
  go_loopw [5, 6, 7] (fun x5 x6 x7 wr => x5 = .int .i64 0 ∧ x6 = .int .i64 0 ∧ x7 = .pointer none ∧ Below w.heap.size w wr) (fun _ _ _ _ => 0)
  case atStart => exact ⟨rfl, rfl, rfl, hb0⟩
  case round =>
    obtain ⟨rfl, rfl, rfl, hb⟩ := hrel
    rename World => wz
    have HBz := hide hb
    have HBC := hide (HB.out wz hb)
    clear hb hb0
    go_wp2_with fail
    refine HBC.out.mono ?_
    rintro e w2 ⟨rfl, rfl⟩
    go_wp2
    go_loopw [5, 8, 9] (fun x5 x8 x9 wr => x5 = .int .i64 0 ∧ x8 = .int .i64 0 ∧ x9 = .pointer none ∧ Below w.heap.size w wr) (fun _ _ _ _ => 0)
    case atStart => exact ⟨rfl, rfl, rfl, HBz.out⟩
    case round =>
      obtain ⟨rfl, rfl, rfl, hb⟩ := hrel
      rename World => wy
      have HBy := hide hb
      clear hb
      go_wp2
      go_ret
      exact ⟨0, rfl, HBy.out⟩
set_option maxHeartbeats 8000000 in
set_option maxRecDepth 100000 in
theorem dp_kids_fork {w : World} {k ga gb m m' N : Nat} {pa pb : List Nat} {ksa ksb : List Kid} (hk : k ≤ 16) (H : SpHyp k N) (hA : Fork w k ga m pa ksa) (hB : Fork w k gb m' pb ksb) (hN : (kidEs ksa).length + (kidEs ksb).length ≤ N) :
    Calls Try.prog 69 #[.pointer (some ⟨ga, 0, none⟩), .pointer (some ⟨gb, 0, none⟩)] w (SpOut w) := by
  have HFA := hide hA
  have HFB := hide hB
  have HI := hide H
  have HLN := hide hN
  have HSA := hide hA.sorted
  have HSB := hide hB.sorted
  have HATA := hide (fun q (hq : q ∈ ksa) => pow_le_16 (hA.kid q hq).2.2.2.2 hk)
  have HATB := hide (fun q (hq : q ∈ ksb) => pow_le_16 (hB.kid q hq).2.2.2.2 hk)
  have H0 := hide (nd_from_0 hA)
  have HB0 := hide (fun W (hW : Below w.heap.size w W) => nd_from_0 (hB.stay hW))
  clear hA hB H hN
  go_enter Try.func69, Try.ntmps69
  go_wp2_with fail
  refine H0.out.mono ?_
  rintro e w2 ⟨rfl, hb2⟩
  have HB2 := hide hb2
  clear hb2 H0
  go_wp2
  go_loopw [5, 6, 7] (fun x5 x6 x7 wr => ∃ (j : Nat) (z : Int), x5 = .int .i64 z ∧ x6 = .int .i64 ((kAt ksa j : Nat) : Int) ∧ x7 = kPt ksa j ∧ j ≤ ksa.length ∧ Below w.heap.size w wr) (fun _ x6 x7 _ => fromM x6 x7)
  case atStart => exact ⟨0, 0, rfl, rfl, rfl, Nat.zero_le _, HB2.out⟩
  case round =>
    obtain ⟨j, z, rfl, rfl, rfl, hj, hb⟩ := hrel
    rename World => wz
    have HBz := hide hb
    rcases Nat.lt_or_ge j ksa.length with hjl | hjl
    · obtain ⟨q, hq⟩ : ∃ q, ksa[j]? = some q := ⟨ksa[j], List.getElem?_eq_getElem hjl⟩
      rw [kAt_some hq, kPt_some hq]
      have HQ := hide hq
      have hqa1 : ((q.at_ : Nat) : Int) ≤ 65535 := by have := HATA.out q (List.mem_of_getElem? hq); omega
      have HKD := hide (nd_kid_at (HFB.out.stay hb) q.at_)
      have HST := hide (fun W (hW : Below w.heap.size w W) => show Calls Try.prog 40 #[.pointer (some ⟨q.blk, 0, none⟩), ptrOf (kidAt ksb q.at_)] W (SpOut W) from HI.out W (some (q.blk, ⟨q.lv, q.pre, q.es⟩)) (kidAt ksb q.at_) (by
        have h1 := kid_len HFA.out hq
        have h2 := kid_smallF HFB.out q.at_
        have := HLN.out
        simp only [esOf] at h1 h2 ⊢
        omega) (fun x hx => by injection hx with hx; subst hx; exact (HFA.out.kid q (List.mem_of_getElem? hq)).1.stay hW) ((TopOk.kidF HFB.out _).stay hW))
      clear hq hb
      go_wp2_with fail
      refine HKD.out.mono ?_
      rintro e w3 ⟨rfl, hb3⟩
      have HB3 := hide (below_then HBz.out hb3)
      clear hb3 HKD
      go_wp2_with fail
      refine (HST.out _ HB3.out).mono ?_
      rintro e w4 ⟨z4, rfl, hb4⟩
      have HB4 := hide (below_then HB3.out hb4)
      have HNX := hide (nd_from_next (HFA.out.stay HB4.out) HQ.out)
      clear hb4 HST
      go_wp2_with fail
      refine HNX.out.mono ?_
      rintro e w5 ⟨rfl, hb5⟩
      have HB5 := hide (below_then HB4.out hb5)
      clear hb5 HNX
      go_wp2
      go_roundw
      case rel => exact ⟨j + 1, _, rfl, rfl, rfl, by omega, HB5.out⟩
      case measure => exact fromM_lt HSA.out HATA.out HQ.out
    · rw [kPt_none hjl, kAt_none hjl]
      have HBC := hide (HB0.out wz hb)
      clear hb
      go_wp2_with fail
      refine HBC.out.mono ?_
      rintro e w2' ⟨rfl, hb2⟩
      have HB2' := hide (below_then HBz.out hb2)
      clear hb2 HBC
      go_wp2
      go_loopw [5, 8, 9] (fun x5 x8 x9 wr => ∃ (i : Nat) (y : Int), x5 = .int .i64 y ∧ x8 = .int .i64 ((kAt ksb i : Nat) : Int) ∧ x9 = kPt ksb i ∧ i ≤ ksb.length ∧ Below w.heap.size w wr) (fun _ x8 x9 _ => fromM x8 x9)
      case atStart => exact ⟨0, z, rfl, rfl, rfl, Nat.zero_le _, HB2'.out⟩
      case round =>
        obtain ⟨i, y, rfl, rfl, rfl, hi, hb⟩ := hrel
        rename World => wy
        have HBy := hide hb
        rcases Nat.lt_or_ge i ksb.length with hil | hil
        · obtain ⟨q, hq⟩ : ∃ q, ksb[i]? = some q := ⟨ksb[i], List.getElem?_eq_getElem hil⟩
          rw [kAt_some hq, kPt_some hq]
          have HQ := hide hq
          have hqa1 : ((q.at_ : Nat) : Int) ≤ 65535 := by have := HATB.out q (List.mem_of_getElem? hq); omega
          have HKD := hide (nd_kid_at (HFA.out.stay hb) q.at_)
          have HST := hide (fun W (hW : Below w.heap.size w W) => show Calls Try.prog 40 #[.pointer none, .pointer (some ⟨q.blk, 0, none⟩)] W (SpOut W) from HI.out W none (some (q.blk, ⟨q.lv, q.pre, q.es⟩)) (by
            have h1 := kid_len HFB.out hq
            have := HLN.out
            simp only [esOf, List.length_nil] at h1 ⊢
            omega) (fun x hx => by cases hx) (fun x hx => by injection hx with hx; subst hx; exact (HFB.out.kid q (List.mem_of_getElem? hq)).1.stay hW))
          clear hq hb
          go_wp2_with fail
          refine HKD.out.mono ?_
          rintro e w3 ⟨rfl, hb3⟩
          have HB3 := hide (below_then HBy.out hb3)
          clear hb3 HKD
          cases hka : kidAt ksa q.at_ with
          | none =>
            simp only [ptrOf, Option.map_none]
            go_wp2_with fail
            refine (HST.out _ HB3.out).mono ?_
            rintro e w4 ⟨z4, rfl, hb4⟩
            have HB4 := hide (below_then HB3.out hb4)
            have HNX := hide (nd_from_next (HFB.out.stay HB4.out) HQ.out)
            clear hb4 HST hka
            go_wp2_with fail
            refine HNX.out.mono ?_
            rintro e w5 ⟨rfl, hb5⟩
            have HB5 := hide (below_then HB4.out hb5)
            clear hb5 HNX
            go_wp2
            go_roundw
            case rel => exact ⟨i + 1, _, rfl, rfl, rfl, by omega, HB5.out⟩
            case measure => exact fromM_lt HSB.out HATB.out HQ.out
          | some x =>
            obtain ⟨gx, nx⟩ := x
            simp only [ptrOf, Option.map_some]
            have HNX := hide (nd_from_next (HFB.out.stay HB3.out) HQ.out)
            clear HST hka
            go_wp2_with fail
            refine HNX.out.mono ?_
            rintro e w5 ⟨rfl, hb5⟩
            have HB5 := hide (below_then HB3.out hb5)
            clear hb5 HNX
            go_wp2
            go_roundw
            case rel => exact ⟨i + 1, _, rfl, rfl, rfl, by omega, HB5.out⟩
            case measure => exact fromM_lt HSB.out HATB.out HQ.out
        · rw [kPt_none hil, kAt_none hil]
          clear hb
          go_wp2
          go_ret
          exact ⟨y, rfl, HBy.out⟩
set_option maxHeartbeats 8000000 in
set_option maxRecDepth 100000 in
theorem dp_steps_nn (w : World) : Calls Try.prog 40 #[.pointer none, .pointer none] w (SpOut w) := by
  go_enter Try.func40, Try.ntmps40
  go_wp2
  go_ret
  exact ⟨_, rfl, Below.refl _ _⟩
set_option maxHeartbeats 8000000 in
set_option maxRecDepth 100000 in
theorem dp_steps_nl (w : World) (g : Nat) : Calls Try.prog 40 #[.pointer none, .pointer (some ⟨g, 0, none⟩)] w (SpOut w) := by
  have hns := ptr_ns
  go_enter Try.func40, Try.ntmps40
  go_wp2
  go_ret
  exact ⟨_, rfl, Below.refl _ _⟩
set_option maxHeartbeats 8000000 in
set_option maxRecDepth 100000 in
theorem dp_steps_nr (w : World) (g : Nat) : Calls Try.prog 40 #[.pointer (some ⟨g, 0, none⟩), .pointer none] w (SpOut w) := by
  go_enter Try.func40, Try.ntmps40
  go_wp2
  go_ret
  exact ⟨_, rfl, Below.refl _ _⟩
set_option maxHeartbeats 8000000 in
set_option maxRecDepth 100000 in
theorem dp_steps_same (w : World) (g : Nat) : Calls Try.prog 40 #[.pointer (some ⟨g, 0, none⟩), .pointer (some ⟨g, 0, none⟩)] w (SpOut w) := by
  have hps := ptr_same ⟨g, 0, none⟩
  go_enter Try.func40, Try.ntmps40
  go_wp2
  go_ret
  exact ⟨_, rfl, Below.refl _ _⟩
set_option maxHeartbeats 8000000 in
set_option maxRecDepth 100000 in
theorem dp_even {w : World} {k ga gb : Nat} {la lb : Int} {pa pb : List Nat} {ea eb : List Ent} (hk1 : 1 ≤ k) (hk : k ≤ 16) (hgg : ga ≠ gb) (hA : NodeOf w k ga la pa ea) (hB : NodeOf w k gb lb pb eb) (hl : la = lb) (hc : part pa pb ≤ la) (HK : ∀ W, Below w.heap.size w W → Calls Try.prog 69 #[.pointer (some ⟨ga, 0, none⟩), .pointer (some ⟨gb, 0, none⟩)] W (SpOut W)) :
    Calls Try.prog 40 #[.pointer (some ⟨ga, 0, none⟩), .pointer (some ⟨gb, 0, none⟩)] w (SpOut w) := by
  subst hl
  have EC1 := hide (show decide (part pa pb ≤ la) = true by simpa using hc)
  have HKD := hide HK
  have e1 : (la == la) = true := by simp
  obtain ⟨_, _, _, _, hna, -⟩ := hA.head
  obtain ⟨_, _, _, _, hnb, -⟩ := hB.head
  have hpo := ptr_other hgg hna hnb
  have HB := hide (Below.refl w.heap.size w)
  have HA := hide hA
  have HBB := hide hB
  have HIA := hide hA.info.1
  have HIBB := hide hB.info.1
  clear hA hB hna hnb hgg
  clear hc HK
  go_enter Try.func40, Try.ntmps40
  go_wp2_with fail
  refine (nd_level (HA.out.stay HB.out)).mono ?_
  rintro e w2 ⟨rfl, rfl⟩
  go_wp2_with fail
  refine (nd_level (HBB.out.stay HB.out)).mono ?_
  rintro e w3 ⟨rfl, rfl⟩
  go_wp2_with fail
  refine (nd_prefix (HBB.out.stay HB.out) hk).mono ?_
  rintro e w4 ⟨v4, rfl, ho4, hb4⟩
  obtain ⟨A4, c4, rfl, hp4⟩ := Pt.of_own ho4 HIBB.out.1 HIBB.out.2
  replace HB := hide (below_then HB.out hb4)
  have HP4 := hide hp4
  clear ho4 hb4 hp4
  have hcv5 := nd_covers (d := c4) (HA.out.stay HB.out) hk1 hk HP4.out
  rw [EC1.out] at hcv5
  have HCV5 := hide hcv5
  clear hcv5
  go_wp2_with fail
  refine HCV5.out.mono ?_
  rintro e w5 ⟨rfl, rfl⟩
  go_wp2_with fail
  refine (HKD.out _ HB.out).mono ?_
  rintro e w30 ⟨z, rfl, hb⟩
  have HF := hide (below_then HB.out hb)
  clear hb
  go_wp2
  go_ret
  exact ⟨_, rfl, HF.out⟩
set_option maxHeartbeats 8000000 in
set_option maxRecDepth 100000 in
theorem dp_l {w : World} {k ga gb : Nat} {N m : Nat} {lb : Int} {pa pb : List Nat} {ks : List Kid} {eb : List Ent} (hk1 : 1 ≤ k) (hk : k ≤ 16) (hgg : ga ≠ gb) (hA : Fork w k ga m pa ks) (hB : NodeOf w k gb lb pb eb) (H : SpHyp k N) (hN : (kidEs ks).length + eb.length ≤ N) (hl : lb < (m : Int)) (hc : part pa pb ≤ (m : Int)) :
    Calls Try.prog 40 #[.pointer (some ⟨ga, 0, none⟩), .pointer (some ⟨gb, 0, none⟩)] w (SpOut w) := by
  have HFK := hide hA
  have hm64 := hA.lv
  have HJN := hide (fun W (hW : Below w.heap.size w W) => show Calls Try.prog 40 #[ptrOf (kidAt ks (addrOf pb m)), .pointer (some ⟨gb, 0, none⟩)] W (SpOut W) from H W (kidAt ks (addrOf pb m)) (some (gb, ⟨lb, pb, eb⟩)) (by have := kid_smallF hA (addrOf pb m); simp only [esOf] at this ⊢; omega) ((TopOk.kidF hA _).stay hW) (fun x hx => by injection hx with hx; subst hx; exact hB.stay hW))
  have EC1 := hide (show decide (part pa pb ≤ (m : Int)) = true by simpa using hc)
  replace hA := hA.node
  obtain ⟨_, _, _, _, hna, -⟩ := hA.head
  obtain ⟨_, _, _, _, hnb, -⟩ := hB.head
  have hpo := ptr_other hgg hna hnb
  have HB := hide (Below.refl w.heap.size w)
  have HA := hide hA
  have HBB := hide hB
  have HIA := hide hA.info.1
  have HIBB := hide hB.info.1
  clear hA hB hna hnb hgg
  have e1 : ((m : Int) == lb) = false := by simp; omega
  have e2 : decide (lb < (m : Int)) = true := by simpa using hl
  clear H hN hc hl
  go_enter Try.func40, Try.ntmps40
  go_wp2_with fail
  refine (nd_level (HA.out.stay HB.out)).mono ?_
  rintro e w2 ⟨rfl, rfl⟩
  go_wp2_with fail
  refine (nd_level (HBB.out.stay HB.out)).mono ?_
  rintro e w3 ⟨rfl, rfl⟩
  go_wp2_with fail
  refine (nd_level (HA.out.stay HB.out)).mono ?_
  rintro e w4 ⟨rfl, rfl⟩
  go_wp2_with fail
  refine (nd_level (HBB.out.stay HB.out)).mono ?_
  rintro e w5 ⟨rfl, rfl⟩
  go_wp2_with fail
  refine (nd_prefix (HBB.out.stay HB.out) hk).mono ?_
  rintro e w6 ⟨v6, rfl, ho6, hb6⟩
  obtain ⟨A6, c6, rfl, hp6⟩ := Pt.of_own ho6 HIBB.out.1 HIBB.out.2
  replace HB := hide (below_then HB.out hb6)
  have HP6 := hide hp6
  clear ho6 hb6 hp6
  have hcv7 := nd_covers (d := c6) (HA.out.stay HB.out) hk1 hk HP6.out
  rw [EC1.out] at hcv7
  have HCV7 := hide hcv7
  clear hcv7
  go_wp2_with fail
  refine HCV7.out.mono ?_
  rintro e w7 ⟨rfl, rfl⟩
  go_wp2_with fail
  refine (nd_prefix (HBB.out.stay HB.out) hk).mono ?_
  rintro e w8 ⟨v8, rfl, ho8, hb8⟩
  obtain ⟨A8, c8, rfl, hp8⟩ := Pt.of_own ho8 HIBB.out.1 HIBB.out.2
  replace HB := hide (below_then HB.out hb8)
  have HP8 := hide hp8
  clear ho8 hb8 hp8
  go_wp2_with fail
  refine (nd_level (HA.out.stay HB.out)).mono ?_
  rintro e w9 ⟨rfl, rfl⟩
  go_wp2_with fail
  refine (zb_addr A8 k pb c8 m _ HP8.out hk1 hk hm64).mono ?_
  rintro e w30 ⟨rfl, rfl⟩
  go_wp2_with fail
  refine (nd_kid_at (HFK.out.stay HB.out) (addrOf pb m)).mono ?_
  rintro e w40 ⟨rfl, hb40⟩
  replace HB := hide (below_then HB.out hb40)
  clear hb40
  go_wp2_with fail
  refine (HJN.out _ HB.out).mono ?_
  rintro e w41 ⟨zz, rfl, hb41⟩
  have HF := hide (below_then HB.out hb41)
  clear hb41
  go_wp2
  go_ret
  exact ⟨_, rfl, HF.out⟩
set_option maxHeartbeats 8000000 in
set_option maxRecDepth 100000 in
theorem dp_r {w : World} {k ga gb : Nat} {N m : Nat} {la : Int} {pa pb : List Nat} {ea : List Ent} {ks : List Kid} (hk1 : 1 ≤ k) (hk : k ≤ 16) (hgg : ga ≠ gb) (hA : NodeOf w k ga la pa ea) (hB : Fork w k gb m pb ks) (H : SpHyp k N) (hN : ea.length + (kidEs ks).length ≤ N) (hl : la < (m : Int)) (hc : part pb pa ≤ (m : Int)) :
    Calls Try.prog 40 #[.pointer (some ⟨ga, 0, none⟩), .pointer (some ⟨gb, 0, none⟩)] w (SpOut w) := by
  have HFK := hide hB
  have hm64 := hB.lv
  have HJN := hide (fun W (hW : Below w.heap.size w W) => show Calls Try.prog 40 #[.pointer (some ⟨ga, 0, none⟩), ptrOf (kidAt ks (addrOf pa m))] W (SpOut W) from H W (some (ga, ⟨la, pa, ea⟩)) (kidAt ks (addrOf pa m)) (by have := kid_smallF hB (addrOf pa m); simp only [esOf] at this ⊢; omega) (fun x hx => by injection hx with hx; subst hx; exact hA.stay hW) ((TopOk.kidF hB _).stay hW))
  have EC1 := hide (show decide (part pb pa ≤ (m : Int)) = true by simpa using hc)
  replace hB := hB.node
  obtain ⟨_, _, _, _, hna, -⟩ := hA.head
  obtain ⟨_, _, _, _, hnb, -⟩ := hB.head
  have hpo := ptr_other hgg hna hnb
  have HB := hide (Below.refl w.heap.size w)
  have HA := hide hA
  have HBB := hide hB
  have HIA := hide hA.info.1
  have HIBB := hide hB.info.1
  clear hA hB hna hnb hgg
  have e1 : (la == (m : Int)) = false := by simp; omega
  have e2 : decide ((m : Int) < la) = false := by simp; omega
  have e3 : decide (la < (m : Int)) = true := by simpa using hl
  clear H hN hc hl
  go_enter Try.func40, Try.ntmps40
  go_wp2_with fail
  refine (nd_level (HA.out.stay HB.out)).mono ?_
  rintro e w2 ⟨rfl, rfl⟩
  go_wp2_with fail
  refine (nd_level (HBB.out.stay HB.out)).mono ?_
  rintro e w3 ⟨rfl, rfl⟩
  go_wp2_with fail
  refine (nd_level (HA.out.stay HB.out)).mono ?_
  rintro e w4 ⟨rfl, rfl⟩
  go_wp2_with fail
  refine (nd_level (HBB.out.stay HB.out)).mono ?_
  rintro e w5 ⟨rfl, rfl⟩
  go_wp2_with fail
  refine (nd_level (HBB.out.stay HB.out)).mono ?_
  rintro e w6 ⟨rfl, rfl⟩
  go_wp2_with fail
  refine (nd_level (HA.out.stay HB.out)).mono ?_
  rintro e w7 ⟨rfl, rfl⟩
  go_wp2_with fail
  refine (nd_prefix (HA.out.stay HB.out) hk).mono ?_
  rintro e w8 ⟨v8, rfl, ho8, hb8⟩
  obtain ⟨A8, c8, rfl, hp8⟩ := Pt.of_own ho8 HIA.out.1 HIA.out.2
  replace HB := hide (below_then HB.out hb8)
  have HP8 := hide hp8
  clear ho8 hb8 hp8
  have hcv9 := nd_covers (d := c8) (HBB.out.stay HB.out) hk1 hk HP8.out
  rw [EC1.out] at hcv9
  have HCV9 := hide hcv9
  clear hcv9
  go_wp2_with fail
  refine HCV9.out.mono ?_
  rintro e w9 ⟨rfl, rfl⟩
  go_wp2_with fail
  refine (nd_prefix (HA.out.stay HB.out) hk).mono ?_
  rintro e w10 ⟨v10, rfl, ho10, hb10⟩
  obtain ⟨A10, c10, rfl, hp10⟩ := Pt.of_own ho10 HIA.out.1 HIA.out.2
  replace HB := hide (below_then HB.out hb10)
  have HP10 := hide hp10
  clear ho10 hb10 hp10
  go_wp2_with fail
  refine (nd_level (HBB.out.stay HB.out)).mono ?_
  rintro e w11 ⟨rfl, rfl⟩
  go_wp2_with fail
  refine (zb_addr A10 k pa c10 m _ HP10.out hk1 hk hm64).mono ?_
  rintro e w30 ⟨rfl, rfl⟩
  go_wp2_with fail
  refine (nd_kid_at (HFK.out.stay HB.out) (addrOf pa m)).mono ?_
  rintro e w40 ⟨rfl, hb40⟩
  replace HB := hide (below_then HB.out hb40)
  clear hb40
  go_wp2_with fail
  refine (HJN.out _ HB.out).mono ?_
  rintro e w41 ⟨zz, rfl, hb41⟩
  have HF := hide (below_then HB.out hb41)
  clear hb41
  go_wp2
  go_ret
  exact ⟨_, rfl, HF.out⟩
set_option maxHeartbeats 8000000 in
set_option maxRecDepth 100000 in
theorem dp_ap_eq {w : World} {k ga gb : Nat} {la lb : Int} {pa pb : List Nat} {ea eb : List Ent} (hk1 : 1 ≤ k) (hk : k ≤ 16) (hgg : ga ≠ gb) (hA : NodeOf w k ga la pa ea) (hB : NodeOf w k gb lb pb eb) (hrel : la = lb) (hcA : la < part pa pb) (hcB : lb < part pa pb) :
    Calls Try.prog 40 #[.pointer (some ⟨ga, 0, none⟩), .pointer (some ⟨gb, 0, none⟩)] w (SpOut w) := by
  have EC1 := hide (show decide (part pa pb ≤ la) = false by simp; omega)
  have EC2 := hide (show decide (part pb pa ≤ lb) = false by rw [← part_sym hA.info.1 hB.info.1]; simp; omega)
  obtain ⟨_, _, _, _, hna, -⟩ := hA.head
  obtain ⟨_, _, _, _, hnb, -⟩ := hB.head
  have hpo := ptr_other hgg hna hnb
  have HB := hide (Below.refl w.heap.size w)
  have HA := hide hA
  have HBB := hide hB
  have HIA := hide hA.info.1
  have HIBB := hide hB.info.1
  clear hA hB hna hnb hgg
  subst hrel
  have e1 : (la == la) = true := by simp
  have e2 : decide (la < la) = false := by simp
  clear hcA hcB
  go_enter Try.func40, Try.ntmps40
  go_wp2_with fail
  refine (nd_level (HA.out.stay HB.out)).mono ?_
  rintro e w2 ⟨rfl, rfl⟩
  go_wp2_with fail
  refine (nd_level (HBB.out.stay HB.out)).mono ?_
  rintro e w3 ⟨rfl, rfl⟩
  go_wp2_with fail
  refine (nd_prefix (HBB.out.stay HB.out) hk).mono ?_
  rintro e w4 ⟨v4, rfl, ho4, hb4⟩
  obtain ⟨A4, c4, rfl, hp4⟩ := Pt.of_own ho4 HIBB.out.1 HIBB.out.2
  replace HB := hide (below_then HB.out hb4)
  have HP4 := hide hp4
  clear ho4 hb4 hp4
  have hcv5 := nd_covers (d := c4) (HA.out.stay HB.out) hk1 hk HP4.out
  rw [EC1.out] at hcv5
  have HCV5 := hide hcv5
  clear hcv5
  go_wp2_with fail
  refine HCV5.out.mono ?_
  rintro e w5 ⟨rfl, rfl⟩
  go_wp2_with fail
  refine (nd_level (HA.out.stay HB.out)).mono ?_
  rintro e w6 ⟨rfl, rfl⟩
  go_wp2_with fail
  refine (nd_level (HBB.out.stay HB.out)).mono ?_
  rintro e w7 ⟨rfl, rfl⟩
  go_wp2_with fail
  refine (nd_level (HBB.out.stay HB.out)).mono ?_
  rintro e w8 ⟨rfl, rfl⟩
  go_wp2_with fail
  refine (nd_level (HA.out.stay HB.out)).mono ?_
  rintro e w9 ⟨rfl, rfl⟩
  go_wp2
  go_ret
  exact ⟨_, rfl, HB.out⟩
set_option maxHeartbeats 8000000 in
set_option maxRecDepth 100000 in
theorem dp_ap_gt {w : World} {k ga gb : Nat} {la lb : Int} {pa pb : List Nat} {ea eb : List Ent} (hk1 : 1 ≤ k) (hk : k ≤ 16) (hgg : ga ≠ gb) (hA : NodeOf w k ga la pa ea) (hB : NodeOf w k gb lb pb eb) (hrel : lb < la) (hcA : la < part pa pb) (hcB : lb < part pa pb) :
    Calls Try.prog 40 #[.pointer (some ⟨ga, 0, none⟩), .pointer (some ⟨gb, 0, none⟩)] w (SpOut w) := by
  have EC1 := hide (show decide (part pa pb ≤ la) = false by simp; omega)
  have EC2 := hide (show decide (part pb pa ≤ lb) = false by rw [← part_sym hA.info.1 hB.info.1]; simp; omega)
  obtain ⟨_, _, _, _, hna, -⟩ := hA.head
  obtain ⟨_, _, _, _, hnb, -⟩ := hB.head
  have hpo := ptr_other hgg hna hnb
  have HB := hide (Below.refl w.heap.size w)
  have HA := hide hA
  have HBB := hide hB
  have HIA := hide hA.info.1
  have HIBB := hide hB.info.1
  clear hA hB hna hnb hgg
  have e1 : (la == lb) = false := by simp; omega
  have e2 : decide (lb < la) = true := by simpa using hrel
  have e3 : decide (la < lb) = false := by simp; omega
  clear hcA hcB hrel
  go_enter Try.func40, Try.ntmps40
  go_wp2_with fail
  refine (nd_level (HA.out.stay HB.out)).mono ?_
  rintro e w2 ⟨rfl, rfl⟩
  go_wp2_with fail
  refine (nd_level (HBB.out.stay HB.out)).mono ?_
  rintro e w3 ⟨rfl, rfl⟩
  go_wp2_with fail
  refine (nd_level (HA.out.stay HB.out)).mono ?_
  rintro e w4 ⟨rfl, rfl⟩
  go_wp2_with fail
  refine (nd_level (HBB.out.stay HB.out)).mono ?_
  rintro e w5 ⟨rfl, rfl⟩
  go_wp2_with fail
  refine (nd_prefix (HBB.out.stay HB.out) hk).mono ?_
  rintro e w6 ⟨v6, rfl, ho6, hb6⟩
  obtain ⟨A6, c6, rfl, hp6⟩ := Pt.of_own ho6 HIBB.out.1 HIBB.out.2
  replace HB := hide (below_then HB.out hb6)
  have HP6 := hide hp6
  clear ho6 hb6 hp6
  have hcv7 := nd_covers (d := c6) (HA.out.stay HB.out) hk1 hk HP6.out
  rw [EC1.out] at hcv7
  have HCV7 := hide hcv7
  clear hcv7
  go_wp2_with fail
  refine HCV7.out.mono ?_
  rintro e w7 ⟨rfl, rfl⟩
  go_wp2_with fail
  refine (nd_level (HBB.out.stay HB.out)).mono ?_
  rintro e w8 ⟨rfl, rfl⟩
  go_wp2_with fail
  refine (nd_level (HA.out.stay HB.out)).mono ?_
  rintro e w9 ⟨rfl, rfl⟩
  go_wp2
  go_ret
  exact ⟨_, rfl, HB.out⟩
set_option maxHeartbeats 8000000 in
set_option maxRecDepth 100000 in
theorem dp_ap_lt {w : World} {k ga gb : Nat} {la lb : Int} {pa pb : List Nat} {ea eb : List Ent} (hk1 : 1 ≤ k) (hk : k ≤ 16) (hgg : ga ≠ gb) (hA : NodeOf w k ga la pa ea) (hB : NodeOf w k gb lb pb eb) (hrel : la < lb) (hcA : la < part pa pb) (hcB : lb < part pa pb) :
    Calls Try.prog 40 #[.pointer (some ⟨ga, 0, none⟩), .pointer (some ⟨gb, 0, none⟩)] w (SpOut w) := by
  have EC1 := hide (show decide (part pa pb ≤ la) = false by simp; omega)
  have EC2 := hide (show decide (part pb pa ≤ lb) = false by rw [← part_sym hA.info.1 hB.info.1]; simp; omega)
  obtain ⟨_, _, _, _, hna, -⟩ := hA.head
  obtain ⟨_, _, _, _, hnb, -⟩ := hB.head
  have hpo := ptr_other hgg hna hnb
  have HB := hide (Below.refl w.heap.size w)
  have HA := hide hA
  have HBB := hide hB
  have HIA := hide hA.info.1
  have HIBB := hide hB.info.1
  clear hA hB hna hnb hgg
  have e1 : (la == lb) = false := by simp; omega
  have e2 : decide (lb < la) = false := by simp; omega
  have e3 : decide (la < lb) = true := by simpa using hrel
  clear hcA hcB hrel
  go_enter Try.func40, Try.ntmps40
  go_wp2_with fail
  refine (nd_level (HA.out.stay HB.out)).mono ?_
  rintro e w2 ⟨rfl, rfl⟩
  go_wp2_with fail
  refine (nd_level (HBB.out.stay HB.out)).mono ?_
  rintro e w3 ⟨rfl, rfl⟩
  go_wp2_with fail
  refine (nd_level (HA.out.stay HB.out)).mono ?_
  rintro e w4 ⟨rfl, rfl⟩
  go_wp2_with fail
  refine (nd_level (HBB.out.stay HB.out)).mono ?_
  rintro e w5 ⟨rfl, rfl⟩
  go_wp2_with fail
  refine (nd_level (HBB.out.stay HB.out)).mono ?_
  rintro e w6 ⟨rfl, rfl⟩
  go_wp2_with fail
  refine (nd_level (HA.out.stay HB.out)).mono ?_
  rintro e w7 ⟨rfl, rfl⟩
  go_wp2_with fail
  refine (nd_prefix (HA.out.stay HB.out) hk).mono ?_
  rintro e w8 ⟨v8, rfl, ho8, hb8⟩
  obtain ⟨A8, c8, rfl, hp8⟩ := Pt.of_own ho8 HIA.out.1 HIA.out.2
  replace HB := hide (below_then HB.out hb8)
  have HP8 := hide hp8
  clear ho8 hb8 hp8
  have hcv9 := nd_covers (d := c8) (HBB.out.stay HB.out) hk1 hk HP8.out
  rw [EC2.out] at hcv9
  have HCV9 := hide hcv9
  clear hcv9
  go_wp2_with fail
  refine HCV9.out.mono ?_
  rintro e w9 ⟨rfl, rfl⟩
  go_wp2
  go_ret
  exact ⟨_, rfl, HB.out⟩
theorem dp_apart {w : World} {k ga gb : Nat} {la lb : Int} {pa pb : List Nat} {ea eb : List Ent} (hk1 : 1 ≤ k) (hk : k ≤ 16) (hgg : ga ≠ gb) (hA : NodeOf w k ga la pa ea) (hB : NodeOf w k gb lb pb eb) (hcA : la < part pa pb) (hcB : lb < part pa pb) :
    Calls Try.prog 40 #[.pointer (some ⟨ga, 0, none⟩), .pointer (some ⟨gb, 0, none⟩)] w (SpOut w) := by
  rcases Int.lt_trichotomy la lb with h | h | h
  · exact dp_ap_lt hk1 hk hgg hA hB h hcA hcB
  · exact dp_ap_eq hk1 hk hgg hA hB h hcA hcB
  · exact dp_ap_gt hk1 hk hgg hA hB h hcA hcB
theorem dp_step {k N : Nat} (hk1 : 1 ≤ k) (hk : k ≤ 16) (H : SpHyp k N) : SpHyp k (N + 1) := by
  intro w ta tb hN hA hB
  cases ta with
  | none =>
    cases tb with
    | none => exact dp_steps_nn w
    | some y => exact dp_steps_nl w y.1
  | some x =>
    cases tb with
    | none => exact dp_steps_nr w x.1
    | some y =>
      obtain ⟨ga, la, pa, ea⟩ := x
      obtain ⟨gb, lb, pb, eb⟩ := y
      have hNA := hA _ rfl
      have hNB := hB _ rfl
      simp only [esOf] at hNA hNB hN
      by_cases hgg : ga = gb
      · subst hgg
        exact dp_steps_same w ga
      have hz := part_sym hNA.info.1 hNB.info.1
      rcases Int.lt_trichotomy la lb with h | h | h
      · by_cases hc : part pa pb ≤ lb
        · rcases hNB.cases' with ⟨_, _, _, h0, _⟩ | ⟨m, ks, hm, hes, hF⟩
          · have := hNA.info.2.2.1
            omega
          · subst hm hes
            exact dp_r hk1 hk hgg hNA hF H (by omega) h (by omega)
        · exact dp_apart hk1 hk hgg hNA hNB (by omega) (by omega)
      · by_cases hc : part pa pb ≤ la
        · refine dp_even hk1 hk hgg hNA hNB h hc fun W hW => ?_
          rcases hNA.cases' with ⟨_, _, va, h0, hes, _, _, _, hBa⟩ | ⟨m, ks, hm, hes, hF⟩
          · rcases hNB.cases' with ⟨_, _, vb, _, hes', _, _, _, hBb⟩ | ⟨m, ks, hm, _⟩
            · exact dp_kids_leaf (Blk.below hBa hW) (Blk.below hBb hW)
            · omega
          · rcases hNB.cases' with ⟨_, _, _, h0', _⟩ | ⟨m', ks', hm', hes', hF'⟩
            · omega
            · subst hes hes'
              exact dp_kids_fork hk H (hF.stay hW) (hF'.stay hW) (by omega)
        · exact dp_apart hk1 hk hgg hNA hNB (by omega) (by omega)
      · by_cases hc : part pa pb ≤ la
        · rcases hNA.cases' with ⟨_, _, _, h0, _⟩ | ⟨m, ks, hm, hes, hF⟩
          · have := hNB.info.2.2.1
            omega
          · subst hm hes
            exact dp_l hk1 hk hgg hF hNB H (by omega) h hc
        · exact dp_apart hk1 hk hgg hNA hNB (by omega) (by omega)
theorem dp_hyp {k : Nat} (hk1 : 1 ≤ k) (hk : k ≤ 16) : ∀ N, SpHyp k N
  | 0 => fun _ _ _ h => absurd h (Nat.not_lt_zero _)
  | N + 1 => dp_step hk1 hk (dp_hyp hk1 hk N)
set_option maxHeartbeats 8000000 in
set_option maxRecDepth 100000 in
theorem df_steps {w : World} {k a b : Nat} {ea eb : List Ent} (hA : TreeOf w k a ea) (hB : TreeOf w k b eb) :
    Calls Try.prog 20 #[.pointer (some ⟨a, 0, none⟩), .pointer (some ⟨b, 0, none⟩)] w fun e w' => ∃ z : Int, e = .returned (.tuple #[.int .i64 z, .int .i64 0]) ∧ Below w.heap.size w w' := by
  obtain ⟨ta, hTA, hTopA, hea, hk1, hk⟩ := hA.top
  obtain ⟨tb, hTB, hTopB, heb, -, -⟩ := hB.top
  have hck := df_check hTA hTB
  rw [show dcCode k k = 0 by simp [dcCode]] at hck
  have HCK := hide hck
  have HRA := hide (rootq hTA)
  have HRB := hide (rootq hTB)
  have HST := hide (dp_hyp hk1 hk _ w ta tb (Nat.lt_succ_self _) hTopA hTopB)
  clear hA hB hTA hTB hTopA hTopB hea heb hck
  go_enter Try.func20, Try.ntmps20
  go_wp2_with fail
  refine HCK.out.mono ?_
  rintro e w1 ⟨rfl, rfl⟩
  go_wp2_with fail
  refine HRA.out.mono ?_
  rintro e w1 ⟨rfl, rfl⟩
  go_wp2_with fail
  refine HRB.out.mono ?_
  rintro e w1 ⟨rfl, rfl⟩
  go_wp2_with fail
  refine HST.out.mono ?_
  rintro e w1 ⟨z, rfl, hb⟩
  have HF := hide hb
  clear hb
  go_wp2
  go_ret2
  exact ⟨z, rfl, HF.out⟩
set_option maxHeartbeats 8000000 in
set_option maxRecDepth 100000 in
theorem df_steps_dim {w : World} {k k' a b : Nat} {ea eb : List Ent} (hA : TreeOf w k a ea) (hB : TreeOf w k' b eb) (hkk : k ≠ k') :
    Calls Try.prog 20 #[.pointer (some ⟨a, 0, none⟩), .pointer (some ⟨b, 0, none⟩)] w fun e w' => e = .returned (.tuple #[.int .i64 0, .int .i64 2]) ∧ w = w' := by
  obtain ⟨ta, hTA, -, -, -, -⟩ := hA.top
  obtain ⟨tb, hTB, -, -, -, -⟩ := hB.top
  have hck := df_check hTA hTB
  rw [show dcCode k k' = 2 by simp [dcCode, hkk]] at hck
  have HCK := hide hck
  clear hA hB hTA hTB hck
  go_enter Try.func20, Try.ntmps20
  go_wp2_with fail
  refine HCK.out.mono ?_
  rintro e w1 ⟨rfl, rfl⟩
  go_wp2
  go_ret2
  exact ⟨rfl, rfl⟩
end Go.Proofs.Ytfkpanpageeklaa
