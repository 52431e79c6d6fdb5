/- sets: the kids of two forks of one level, address by address. -/
import Derived.Test.YtfkpanpageeklaaStJ
import Derived.Test.YtfkpanpageeklaaWkS
import Derived.Test.YtfkpanpageeklaaTrB
set_option linter.unusedSimpArgs false
set_option linter.unusedVariables false
namespace Go.Proofs.Ytfkpanpageeklaa
open Go.RowKit
def StOut (w : World) (k r : Nat) (l rt bo : Bool) (ea eb : List Ent) (e : Ending) (w' : World) : Prop :=
  ∃ tc, e = .returned (ptrOf tc) ∧ TopOk w' k tc ∧ (∀ x, x ∈ esOf tc ↔ JM r l rt bo ea eb x) ∧ Below w.heap.size w w'
def StHyp (k r N : Nat) (l rt bo : Bool) : Prop := ∀ (w : World) (ta tb : Option (Nat × NT)), (esOf ta).length + (esOf tb).length < N → TopOk w k ta → TopOk w k tb →
  Calls Try.prog 83 #[.agg #[.int .i64 (r : Int), .bool l, .bool rt, .bool bo], ptrOf ta, ptrOf tb] w (StOut w k r l rt bo (esOf ta) (esOf tb))
theorem JM.agr {w w' : World} {k g g' m r : Nat} {l rt bo : Bool} {pre pre' : List Nat} {ks ks' : List Kid} (h : Fork w k g m pre ks) (h' : Fork w' k g' m pre' ks') (ha : ∀ b, m < b → addrOf pre b = addrOf pre' b) {x : Ent} (hx : JM r l rt bo (kidEs ks) (kidEs ks') x) : ∀ b, m < b → addrOf x.1 b = addrOf pre b := by
  intro b hb
  rcases hx.has with ⟨v, hv⟩ | ⟨v, hv⟩
  · obtain ⟨q, hq, hv⟩ := mem_kidEs.1 hv
    exact (h.fk'.es q hq (x.1, v) hv).2.2 b hb
  · obtain ⟨q, hq, hv⟩ := mem_kidEs.1 hv
    exact ((h'.fk'.es q hq (x.1, v) hv).2.2 b hb).trans (ha b hb).symm
theorem TopOk.none_ (w : World) (k : Nat) : TopOk w k none := by
  intro x hx
  cases hx
/-- The first kid from an address on. -/
theorem first_from (ks : List Kid) (hs : ks.Pairwise fun q r => q.at_ < r.at_) (s : Nat) : ∃ i, i ≤ ks.length ∧ (∀ (n : Nat) (q : Kid), ks[n]? = some q → n < i → q.at_ < s) ∧ (∀ (n : Nat) (q : Kid), ks[n]? = some q → i ≤ n → s ≤ q.at_) := by
  rcases kid_split hs s with ⟨j, q, hq, hqa, _, hlo, hhi⟩ | ⟨j, hj, _, hlo, hhi⟩
  · refine ⟨j, by have := (List.getElem?_eq_some_iff.1 hq).1; omega, fun n r hr hn => hlo r (mem_take_of hr hn), fun n r hr hn => ?_⟩
    rcases Nat.eq_or_lt_of_le hn with h | h
    · subst h
      rw [hq] at hr
      injection hr with hr
      subst hr
      omega
    · have := hhi r (mem_drop_of hr h)
      omega
  · refine ⟨j, hj, fun n r hr hn => hlo r (mem_take_of hr hn), fun n r hr hn => ?_⟩
    have := hhi r (mem_drop_of hr hn)
    omega
theorem from_ge {ks : List Kid} {i s : Nat} {q : Kid} (hs : ks.Pairwise fun q r => q.at_ < r.at_) (hq : ks[i]? = some q) (hlo : ∀ (n : Nat) (u : Kid), ks[n]? = some u → n < i → u.at_ < s) : ∀ u ∈ ks, s ≤ u.at_ → q.at_ ≤ u.at_ := by
  intro u hu hus
  obtain ⟨n, hn, rfl⟩ := List.mem_iff_getElem.1 hu
  have hnj : i ≤ n := by
    rcases Nat.lt_or_ge n i with h | h
    · have := hlo n _ (List.getElem?_eq_getElem hn) h
      omega
    · exact h
  have hil := (List.getElem?_eq_some_iff.1 hq).1
  rcases Nat.eq_or_lt_of_le hnj with h | h
  · subst h
    rw [(List.getElem?_eq_some_iff.1 hq).2]
    exact Nat.le_refl _
  · have := List.pairwise_iff_getElem.1 hs i n hil hn h
    rw [(List.getElem?_eq_some_iff.1 hq).2] at this
    omega
theorem esOf_no {ks : List Kid} {a : Nat} (h : ∀ u ∈ ks, u.at_ ≠ a) : esOf (kidAt ks a) = [] := by
  rw [kidAt_no (fun n u hu hua => h u (List.mem_of_getElem? hu) hua)]
  rfl
set_option maxHeartbeats 8000000 in
set_option maxRecDepth 100000 in
theorem st_kids {k r N ga gb m : Nat} {l rt bo : Bool} {pa pb : List Nat} {ksa ksb : List Kid} (hk1 : 1 ≤ k) (hk : k ≤ 16) (H : StHyp k r N l rt bo) {w : World} (hA : Fork w k ga m pa ksa) (hB : Fork w k gb m pb ksb) (hag : ∀ b, m < b → addrOf pa b = addrOf pb b) (hN : (kidEs ksa).length + (kidEs ksb).length ≤ N) :
    Calls Try.prog 101 #[.agg #[.int .i64 (r : Int), .bool l, .bool rt, .bool bo], .pointer (some ⟨ga, 0, none⟩), .pointer (some ⟨gb, 0, none⟩)] w (StOut w k r l rt bo (kidEs ksa) (kidEs ksb)) := by
  have hb1 := (Below.refl w.heap.size w).alloc (Nat.le_refl _) (.cells #[.int .i64 (r : Int), .bool l, .bool rt, .bool bo] 92)
  have hJ := Blk.new w 92 #[.int .i64 (r : Int), .bool l, .bool rt, .bool bo]
  have HB1 := hide hb1
  have HJ1 := hide hJ
  have HIH := hide H
  have HFA := hide hA
  have HFB := hide hB
  have HAG := hide hag
  have HLN := hide hN
  have hm64 := hA.lv
  have HAT := hide (fun q (hq : q ∈ ksa) => pow_le_16 (hA.kid q hq).2.2.2.2 hk)
  have HAT' := hide (fun q (hq : q ∈ ksb) => pow_le_16 (hB.kid q hq).2.2.2.2 hk)
  clear hb1 hJ H hA hB hag hN
  go_enter Try.func101, Try.ntmps101
  go_wp2
  refine wp_scope_goto2 0 (fun a' wr => ∃ (tt : Option (Nat × NT)) (s : Nat) (u4 u5 u9 u10 u11 u12 u13 u14 u15 u16 u17 u18 u19 u20 u21 u22 u23 u24 u25 u26 u27 u28 u29 u30 u31 u32 u33 u34 u35 u36 u37 u38 u39 u40 u41 u42 u43 u44 u45 u46 u47 u48 u49 u50 u51 u52 u53 u54 u55 u56 u57 u58 u59 u60 u61 u62 u63 u64 u65 u66 : Value), a' = { tmps := #[.agg #[.int .i64 (r : Int), .bool l, .bool rt, .bool bo], .pointer (some ⟨ga, 0, none⟩), .pointer (some ⟨gb, 0, none⟩), .pointer (some ⟨w.heap.size, 0, none⟩), u4, u5, .pointer none, ptrOf tt, .int .i64 (s : Int), u9, u10, u11, u12, u13, u14, u15, u16, u17, u18, u19, u20, u21, u22, u23, u24, u25, u26, u27, u28, u29, u30, u31, u32, u33, u34, u35, u36, u37, u38, u39, u40, u41, u42, u43, u44, u45, u46, u47, u48, u49, u50, u51, u52, u53, u54, u55, u56, u57, u58, u59, u60, u61, u62, u63, u64, u65, u66], defers := [] } ∧ s ≤ 65536 ∧ TopOk wr k tt ∧ (∀ x, x ∈ esOf tt ↔ JM r l rt bo (kidEs ksa) (kidEs ksb) x ∧ addrOf x.1 m < s) ∧ Blk wr w.heap.size 92 #[.int .i64 (r : Int), .bool l, .bool rt, .bool bo] ∧ Below w.heap.size w wr) (fun a' _ => 70000 - (intOf (a'.tmps.getD 8 undef)).toNat) (by rfl) (by rfl) (by rfl) ?_ ?_
  · go_wp2
    exact ⟨none, 0, _, _, _, _, _, _, _, _, _, _, _, _, _, _, _, _, _, _, _, _, _, _, _, _, _, _, _, _, _, _, _, _, _, _, _, _, _, _, _, _, _, _, _, _, _, _, _, _, _, _, _, _, _, _, _, _, _, _, _, _, rfl, by omega, TopOk.none_ _ _, fun x => by simp [esOf], HJ1.out, HB1.out⟩
  · rintro a' wr ⟨tt, s, u4, u5, u9, u10, u11, u12, u13, u14, u15, u16, u17, u18, u19, u20, u21, u22, u23, u24, u25, u26, u27, u28, u29, u30, u31, u32, u33, u34, u35, u36, u37, u38, u39, u40, u41, u42, u43, u44, u45, u46, u47, u48, u49, u50, u51, u52, u53, u54, u55, u56, u57, u58, u59, u60, u61, u62, u63, u64, u65, u66, rfl, hs, htt, hmt, hJ, hb⟩
    have HTT := hide htt
    have HMT := hide hmt
    have HJ := hide hJ
    have HB := hide hb
    have hs6 : (s : Int) ≤ 65536 := by omega
    obtain ⟨i, hi, hilo, hihi⟩ := first_from ksa HFA.out.sorted s
    obtain ⟨j, hj, hjlo, hjhi⟩ := first_from ksb HFB.out.sorted s
    have hfa := fun W (hW : Below w.heap.size w W) => nd_from_j (HFA.out.stay hW) i (s : Int) (fun n q hq hn => by have := hilo n q hq hn; omega) (fun q hq => by have := hihi i q hq (Nat.le_refl _); omega)
    have hfb := fun W (hW : Below w.heap.size w W) => nd_from_j (HFB.out.stay hW) j (s : Int) (fun n q hq hn => by have := hjlo n q hq hn; omega) (fun q hq => by have := hjhi j q hq (Nat.le_refl _); omega)
    have HFRA := hide hfa
    have HFRB := hide hfb
    have HI := hide (And.intro hilo hihi)
    have HJJ := hide (And.intro hjlo hjhi)
    clear htt hmt hJ hb hilo hihi hjlo hjhi hfa hfb HJ1 HB1
    go_wp2_with fail
    refine (HFRA.out _ HB.out).mono ?_
    rintro e w2 ⟨rfl, hb2⟩
    have HTT2 := hide (HTT.out.stay hb2)
    have HJ2 := hide (HJ.out.below hb2)
    have HB2 := hide (below_then HB.out hb2)
    clear hb2 HTT HJ
    go_wp2_with fail
    refine (HFRB.out _ HB2.out).mono ?_
    rintro e w3 ⟨rfl, hb3⟩
    have HTT3 := hide (HTT2.out.stay hb3)
    have HJ3 := hide (HJ2.out.below hb3)
    have HB3 := hide (below_then HB2.out hb3)
    clear hb3 HTT2 HJ2 HB2 HB
    rcases Nat.lt_or_ge i ksa.length with hil | hil
    · rcases Nat.lt_or_ge j ksb.length with hjl | hjl
      · obtain ⟨q, hq⟩ : ∃ q, ksa[i]? = some q := ⟨ksa[i], List.getElem?_eq_getElem hil⟩
        have hqm := List.mem_of_getElem? hq
        have hkq := HFA.out.kid q hqm
        have hqs := HI.out.2 i q hq (Nat.le_refl _)
        have hga := from_ge HFA.out.sorted hq HI.out.1
        obtain ⟨u, hu⟩ : ∃ u, ksb[j]? = some u := ⟨ksb[j], List.getElem?_eq_getElem hjl⟩
        have hum := List.mem_of_getElem? hu
        have hku := HFB.out.kid u hum
        have hus := HJJ.out.2 j u hu (Nat.le_refl _)
        have hgb := from_ge HFB.out.sorted hu HJJ.out.1
        rw [kAt_some hq, kPt_some hq, kAt_some hu, kPt_some hu]
        rcases Nat.lt_trichotomy q.at_ u.at_ with hlt | heq | hgt
        · have f1 : decide (q.at_ < u.at_) = true := by simp [hlt]
          have hqa1 : ((q.at_ : Nat) : Int) ≤ 65535 := by have := HAT.out q hqm; omega
          have HLV := hide (fun W (hW : Below w.heap.size w W) => nd_level (HFA.out.stay hW).node)
          have HJN := hide (fun W (hW : Below w.heap.size w W) => show Calls Try.prog 83 #[.agg #[.int .i64 (r : Int), .bool l, .bool rt, .bool bo], .pointer (some ⟨q.blk, 0, none⟩), .pointer none] W (StOut W k r l rt bo q.es []) from HIH.out W (some (q.blk, ⟨q.lv, q.pre, q.es⟩)) (none) (by have := HLN.out; have := kid_small HFA.out hqm; have := List.length_pos_iff.2 HFB.out.node.info.2.1; simp only [esOf, List.length_nil]; omega) (fun x hx => by injection hx with hx; subst hx; exact hkq.1.stay hW) (TopOk.none_ _ _))
          have HKA := hide (show esOf (kidAt ksa q.at_) = q.es by rw [kidAt_of HFA.out.sorted hq]; rfl)
          have HKB := hide (show esOf (kidAt ksb q.at_) = [] from esOf_no (fun v hv hva => by have := hgb v hv (by omega); omega))
          have HNX := hide (fun x => JM.next (r := r) (l := l) (rt := rt) (bo := bo) HFA.out HFB.out hqs hga (fun v hv hvs => by have := hgb v hv hvs; omega) x)
          have HQS := hide hqs
          have hd : Below w.heap.size w w3.drew := HB3.out.drew
          have hqd : Below w3.heap.size w3 w3.drew := (Below.refl _ _).drew
          have HCELL := hide (fun W (hW : Below w3.heap.size w3 W) => And.intro ((HJ3.out.below hW).cell 0) (And.intro ((HJ3.out.below hW).cell 1) (And.intro ((HJ3.out.below hW).cell 2) ((HJ3.out.below hW).cell 3))))
          have k0 := HJ3.out.cell 0
          have k1 := HJ3.out.cell 1
          have k2 := HJ3.out.cell 2
          have k3 := HJ3.out.cell 3
          simp at k0 k1 k2 k3
          clear hq hqm hkq hqs hga hu hum hku hus hgb hlt hil hjl
          go_wp2_with fail
          go_region_held3 (fun w' => w'.cell? ⟨w.heap.size, 0, none⟩ = some (.int .i64 (r : Int)) ∧ w'.cell? ⟨w.heap.size, 1, none⟩ = some (.bool l) ∧ w'.cell? ⟨w.heap.size, 2, none⟩ = some (.bool rt) ∧ w'.cell? ⟨w.heap.size, 3, none⟩ = some (.bool bo))
            (first
              | go_keep
              | exact HCELL.out _ hqd)
            (first
              | (go_at_call 60
                 with_reducible refine (HLV.out _ hd).mono ?_
                 rintro e w4 ⟨rfl, rfl⟩)
              | (go_at_call 83
                 refine (HJN.out _ hd).mono ?_
                 rintro e w5 ⟨tc, rfl, htc, hmc, hb5⟩
                 have HTC := hide htc
                 have HMC := hide hmc
                 have HTT5 := hide (HTT3.out.stay (hqd.trans (hb5.mono hqd.size)))
                 replace hd := below_then hd hb5
                 replace hqd := hqd.trans (hb5.mono hqd.size)
                 clear htc hmc hb5)
              | (go_at_call 103
                 refine (st_add (m := m) (a := q.at_) (pre := pa) hk1 hk hm64 HTT5.out HTC.out (fun x hx => by
                   have h1 := (HMT.out x).1 hx
                   exact ⟨by have := h1.2; have := HQS.out; omega, JM.agr HFA.out HFB.out HAG.out h1.1⟩) (fun x hx => by
                   have h1 := (HMC.out x).1 hx
                   rw [← HKB.out, ← HKA.out] at h1
                   have h2 := JM.at_ HFA.out HFB.out h1
                   have h3 : JM r l rt bo (esOf (kidAt ksa (addrOf x.1 m))) (esOf (kidAt ksb (addrOf x.1 m))) x := by
                     rw [h2]
                     exact h1
                   exact ⟨h2, JM.agr HFA.out HFB.out HAG.out ((JM.kids HFA.out HFB.out x).2 h3)⟩)).mono ?_
                 rintro e w6 ⟨td, rfl, htd, hmd, hb6⟩
                 have HTD := hide htd
                 have HMD := hide hmd
                 replace hd := below_then hd hb6
                 replace hqd := hqd.trans (hb6.mono hqd.size)
                 clear htd hmd hb6))
          all_goals
            have HD := hide hd
            have HJ6 := hide (HJ3.out.below hqd)
            clear hd hqd
            go_wp2_with fail
            go_step3
            refine ⟨rfl, ⟨td, q.at_ + 1, _, _, _, _, _, _, _, _, _, _, _, _, _, _, _, _, _, _, _, _, _, _, _, _, _, _, _, _, _, _, _, _, _, _, _, _, _, _, _, _, _, _, _, _, _, _, _, _, _, _, _, _, _, _, _, _, _, _, _, _, rfl, by omega, HTD.out, fun x => ?_, HJ6.out, HD.out⟩, ?_⟩
            · rw [HMD.out, HMT.out, HMC.out, HNX.out, HKA.out, HKB.out]
            · simp [intOf]
              have := HQS.out
              omega
        · have f1 : decide (q.at_ < u.at_) = false := by simp; omega
          have f2 : decide (u.at_ < q.at_) = false := by simp; omega
          have hqa1 : ((q.at_ : Nat) : Int) ≤ 65535 := by have := HAT.out q hqm; omega
          have HLV := hide (fun W (hW : Below w.heap.size w W) => nd_level (HFA.out.stay hW).node)
          have HJN := hide (fun W (hW : Below w.heap.size w W) => show Calls Try.prog 83 #[.agg #[.int .i64 (r : Int), .bool l, .bool rt, .bool bo], .pointer (some ⟨q.blk, 0, none⟩), .pointer (some ⟨u.blk, 0, none⟩)] W (StOut W k r l rt bo q.es u.es) from HIH.out W (some (q.blk, ⟨q.lv, q.pre, q.es⟩)) (some (u.blk, ⟨u.lv, u.pre, u.es⟩)) (by have := HLN.out; have := kid_small HFA.out hqm; have := kid_small HFB.out hum; simp only [esOf, List.length_nil]; omega) (fun x hx => by injection hx with hx; subst hx; exact hkq.1.stay hW) (fun x hx => by injection hx with hx; subst hx; exact hku.1.stay hW))
          have HKA := hide (show esOf (kidAt ksa q.at_) = q.es by rw [kidAt_of HFA.out.sorted hq]; rfl)
          have HKB := hide (show esOf (kidAt ksb q.at_) = u.es by rw [heq, kidAt_of HFB.out.sorted hu]; rfl)
          have HNX := hide (fun x => JM.next (r := r) (l := l) (rt := rt) (bo := bo) HFA.out HFB.out hqs hga (fun v hv hvs => by have := hgb v hv hvs; omega) x)
          have HQS := hide hqs
          have hd : Below w.heap.size w w3.drew := HB3.out.drew
          have hqd : Below w3.heap.size w3 w3.drew := (Below.refl _ _).drew
          have HCELL := hide (fun W (hW : Below w3.heap.size w3 W) => And.intro ((HJ3.out.below hW).cell 0) (And.intro ((HJ3.out.below hW).cell 1) (And.intro ((HJ3.out.below hW).cell 2) ((HJ3.out.below hW).cell 3))))
          have k0 := HJ3.out.cell 0
          have k1 := HJ3.out.cell 1
          have k2 := HJ3.out.cell 2
          have k3 := HJ3.out.cell 3
          simp at k0 k1 k2 k3
          clear hq hqm hkq hqs hga hu hum hku hus hgb heq hil hjl
          go_wp2_with fail
          go_region_held3 (fun w' => w'.cell? ⟨w.heap.size, 0, none⟩ = some (.int .i64 (r : Int)) ∧ w'.cell? ⟨w.heap.size, 1, none⟩ = some (.bool l) ∧ w'.cell? ⟨w.heap.size, 2, none⟩ = some (.bool rt) ∧ w'.cell? ⟨w.heap.size, 3, none⟩ = some (.bool bo))
            (first
              | go_keep
              | exact HCELL.out _ hqd)
            (first
              | (go_at_call 60
                 with_reducible refine (HLV.out _ hd).mono ?_
                 rintro e w4 ⟨rfl, rfl⟩)
              | (go_at_call 83
                 refine (HJN.out _ hd).mono ?_
                 rintro e w5 ⟨tc, rfl, htc, hmc, hb5⟩
                 have HTC := hide htc
                 have HMC := hide hmc
                 have HTT5 := hide (HTT3.out.stay (hqd.trans (hb5.mono hqd.size)))
                 replace hd := below_then hd hb5
                 replace hqd := hqd.trans (hb5.mono hqd.size)
                 clear htc hmc hb5)
              | (go_at_call 103
                 refine (st_add (m := m) (a := q.at_) (pre := pa) hk1 hk hm64 HTT5.out HTC.out (fun x hx => by
                   have h1 := (HMT.out x).1 hx
                   exact ⟨by have := h1.2; have := HQS.out; omega, JM.agr HFA.out HFB.out HAG.out h1.1⟩) (fun x hx => by
                   have h1 := (HMC.out x).1 hx
                   rw [← HKB.out, ← HKA.out] at h1
                   have h2 := JM.at_ HFA.out HFB.out h1
                   have h3 : JM r l rt bo (esOf (kidAt ksa (addrOf x.1 m))) (esOf (kidAt ksb (addrOf x.1 m))) x := by
                     rw [h2]
                     exact h1
                   exact ⟨h2, JM.agr HFA.out HFB.out HAG.out ((JM.kids HFA.out HFB.out x).2 h3)⟩)).mono ?_
                 rintro e w6 ⟨td, rfl, htd, hmd, hb6⟩
                 have HTD := hide htd
                 have HMD := hide hmd
                 replace hd := below_then hd hb6
                 replace hqd := hqd.trans (hb6.mono hqd.size)
                 clear htd hmd hb6))
          all_goals
            have HD := hide hd
            have HJ6 := hide (HJ3.out.below hqd)
            clear hd hqd
            go_wp2_with fail
            go_step3
            refine ⟨rfl, ⟨td, q.at_ + 1, _, _, _, _, _, _, _, _, _, _, _, _, _, _, _, _, _, _, _, _, _, _, _, _, _, _, _, _, _, _, _, _, _, _, _, _, _, _, _, _, _, _, _, _, _, _, _, _, _, _, _, _, _, _, _, _, _, _, _, _, rfl, by omega, HTD.out, fun x => ?_, HJ6.out, HD.out⟩, ?_⟩
            · rw [HMD.out, HMT.out, HMC.out, HNX.out, HKA.out, HKB.out]
            · simp [intOf]
              have := HQS.out
              omega
        · have f1 : decide (q.at_ < u.at_) = false := by simp; omega
          have f2 : decide (u.at_ < q.at_) = true := by simp [hgt]
          have hqa1 : ((u.at_ : Nat) : Int) ≤ 65535 := by have := HAT'.out u hum; omega
          have HLV := hide (fun W (hW : Below w.heap.size w W) => nd_level (HFA.out.stay hW).node)
          have HJN := hide (fun W (hW : Below w.heap.size w W) => show Calls Try.prog 83 #[.agg #[.int .i64 (r : Int), .bool l, .bool rt, .bool bo], .pointer none, .pointer (some ⟨u.blk, 0, none⟩)] W (StOut W k r l rt bo [] u.es) from HIH.out W (none) (some (u.blk, ⟨u.lv, u.pre, u.es⟩)) (by have := HLN.out; have := List.length_pos_iff.2 HFA.out.node.info.2.1; have := kid_small HFB.out hum; simp only [esOf, List.length_nil]; omega) (TopOk.none_ _ _) (fun x hx => by injection hx with hx; subst hx; exact hku.1.stay hW))
          have HKA := hide (show esOf (kidAt ksa u.at_) = [] from esOf_no (fun v hv hva => by have := hga v hv (by omega); omega))
          have HKB := hide (show esOf (kidAt ksb u.at_) = u.es by rw [kidAt_of HFB.out.sorted hu]; rfl)
          have HNX := hide (fun x => JM.next (r := r) (l := l) (rt := rt) (bo := bo) HFA.out HFB.out hus (fun v hv hvs => by have := hga v hv hvs; omega) hgb x)
          have HQS := hide hus
          have hd : Below w.heap.size w w3.drew := HB3.out.drew
          have hqd : Below w3.heap.size w3 w3.drew := (Below.refl _ _).drew
          have HCELL := hide (fun W (hW : Below w3.heap.size w3 W) => And.intro ((HJ3.out.below hW).cell 0) (And.intro ((HJ3.out.below hW).cell 1) (And.intro ((HJ3.out.below hW).cell 2) ((HJ3.out.below hW).cell 3))))
          have k0 := HJ3.out.cell 0
          have k1 := HJ3.out.cell 1
          have k2 := HJ3.out.cell 2
          have k3 := HJ3.out.cell 3
          simp at k0 k1 k2 k3
          clear hq hqm hkq hqs hga hu hum hku hus hgb hgt hil hjl
          go_wp2_with fail
          go_region_held3 (fun w' => w'.cell? ⟨w.heap.size, 0, none⟩ = some (.int .i64 (r : Int)) ∧ w'.cell? ⟨w.heap.size, 1, none⟩ = some (.bool l) ∧ w'.cell? ⟨w.heap.size, 2, none⟩ = some (.bool rt) ∧ w'.cell? ⟨w.heap.size, 3, none⟩ = some (.bool bo))
            (first
              | go_keep
              | exact HCELL.out _ hqd)
            (first
              | (go_at_call 60
                 with_reducible refine (HLV.out _ hd).mono ?_
                 rintro e w4 ⟨rfl, rfl⟩)
              | (go_at_call 83
                 refine (HJN.out _ hd).mono ?_
                 rintro e w5 ⟨tc, rfl, htc, hmc, hb5⟩
                 have HTC := hide htc
                 have HMC := hide hmc
                 have HTT5 := hide (HTT3.out.stay (hqd.trans (hb5.mono hqd.size)))
                 replace hd := below_then hd hb5
                 replace hqd := hqd.trans (hb5.mono hqd.size)
                 clear htc hmc hb5)
              | (go_at_call 103
                 refine (st_add (m := m) (a := u.at_) (pre := pa) hk1 hk hm64 HTT5.out HTC.out (fun x hx => by
                   have h1 := (HMT.out x).1 hx
                   exact ⟨by have := h1.2; have := HQS.out; omega, JM.agr HFA.out HFB.out HAG.out h1.1⟩) (fun x hx => by
                   have h1 := (HMC.out x).1 hx
                   rw [← HKB.out, ← HKA.out] at h1
                   have h2 := JM.at_ HFA.out HFB.out h1
                   have h3 : JM r l rt bo (esOf (kidAt ksa (addrOf x.1 m))) (esOf (kidAt ksb (addrOf x.1 m))) x := by
                     rw [h2]
                     exact h1
                   exact ⟨h2, JM.agr HFA.out HFB.out HAG.out ((JM.kids HFA.out HFB.out x).2 h3)⟩)).mono ?_
                 rintro e w6 ⟨td, rfl, htd, hmd, hb6⟩
                 have HTD := hide htd
                 have HMD := hide hmd
                 replace hd := below_then hd hb6
                 replace hqd := hqd.trans (hb6.mono hqd.size)
                 clear htd hmd hb6))
          all_goals
            have HD := hide hd
            have HJ6 := hide (HJ3.out.below hqd)
            clear hd hqd
            go_wp2_with fail
            go_step3
            refine ⟨rfl, ⟨td, u.at_ + 1, _, _, _, _, _, _, _, _, _, _, _, _, _, _, _, _, _, _, _, _, _, _, _, _, _, _, _, _, _, _, _, _, _, _, _, _, _, _, _, _, _, _, _, _, _, _, _, _, _, _, _, _, _, _, _, _, _, _, _, _, rfl, by omega, HTD.out, fun x => ?_, HJ6.out, HD.out⟩, ?_⟩
            · rw [HMD.out, HMT.out, HMC.out, HNX.out, HKA.out, HKB.out]
            · simp [intOf]
              have := HQS.out
              omega
      · obtain ⟨q, hq⟩ : ∃ q, ksa[i]? = some q := ⟨ksa[i], List.getElem?_eq_getElem hil⟩
        have hqm := List.mem_of_getElem? hq
        have hkq := HFA.out.kid q hqm
        have hqs := HI.out.2 i q hq (Nat.le_refl _)
        have hga := from_ge HFA.out.sorted hq HI.out.1
        have hnb : ∀ v ∈ ksb, v.at_ < s := by
          intro v hv
          obtain ⟨n, hn, rfl⟩ := List.mem_iff_getElem.1 hv
          exact HJJ.out.1 n _ (List.getElem?_eq_getElem hn) (by omega)
        rw [kAt_some hq, kPt_some hq, kAt_none hjl, kPt_none hjl]
        have hqa1 : ((q.at_ : Nat) : Int) ≤ 65535 := by have := HAT.out q hqm; omega
        have HLV := hide (fun W (hW : Below w.heap.size w W) => nd_level (HFA.out.stay hW).node)
        have HJN := hide (fun W (hW : Below w.heap.size w W) => show Calls Try.prog 83 #[.agg #[.int .i64 (r : Int), .bool l, .bool rt, .bool bo], .pointer (some ⟨q.blk, 0, none⟩), .pointer none] W (StOut W k r l rt bo q.es []) from HIH.out W (some (q.blk, ⟨q.lv, q.pre, q.es⟩)) (none) (by have := HLN.out; have := kid_small HFA.out hqm; have := List.length_pos_iff.2 HFB.out.node.info.2.1; simp only [esOf, List.length_nil]; omega) (fun x hx => by injection hx with hx; subst hx; exact hkq.1.stay hW) (TopOk.none_ _ _))
        have HKA := hide (show esOf (kidAt ksa q.at_) = q.es by rw [kidAt_of HFA.out.sorted hq]; rfl)
        have HKB := hide (show esOf (kidAt ksb q.at_) = [] from esOf_no (fun v hv hva => by have := hnb v hv; omega))
        have HNX := hide (fun x => JM.next (r := r) (l := l) (rt := rt) (bo := bo) HFA.out HFB.out hqs hga (fun v hv hvs => by have := hnb v hv; omega) x)
        have HQS := hide hqs
        have hd : Below w.heap.size w w3.drew := HB3.out.drew
        have hqd : Below w3.heap.size w3 w3.drew := (Below.refl _ _).drew
        have HCELL := hide (fun W (hW : Below w3.heap.size w3 W) => And.intro ((HJ3.out.below hW).cell 0) (And.intro ((HJ3.out.below hW).cell 1) (And.intro ((HJ3.out.below hW).cell 2) ((HJ3.out.below hW).cell 3))))
        have k0 := HJ3.out.cell 0
        have k1 := HJ3.out.cell 1
        have k2 := HJ3.out.cell 2
        have k3 := HJ3.out.cell 3
        simp at k0 k1 k2 k3
        clear hq hqm hkq hqs hga hnb hil hjl
        go_wp2_with fail
        go_region_held3 (fun w' => w'.cell? ⟨w.heap.size, 0, none⟩ = some (.int .i64 (r : Int)) ∧ w'.cell? ⟨w.heap.size, 1, none⟩ = some (.bool l) ∧ w'.cell? ⟨w.heap.size, 2, none⟩ = some (.bool rt) ∧ w'.cell? ⟨w.heap.size, 3, none⟩ = some (.bool bo))
          (first
            | go_keep
            | exact HCELL.out _ hqd)
          (first
            | (go_at_call 60
               with_reducible refine (HLV.out _ hd).mono ?_
               rintro e w4 ⟨rfl, rfl⟩)
            | (go_at_call 83
               refine (HJN.out _ hd).mono ?_
               rintro e w5 ⟨tc, rfl, htc, hmc, hb5⟩
               have HTC := hide htc
               have HMC := hide hmc
               have HTT5 := hide (HTT3.out.stay (hqd.trans (hb5.mono hqd.size)))
               replace hd := below_then hd hb5
               replace hqd := hqd.trans (hb5.mono hqd.size)
               clear htc hmc hb5)
            | (go_at_call 103
               refine (st_add (m := m) (a := q.at_) (pre := pa) hk1 hk hm64 HTT5.out HTC.out (fun x hx => by
                 have h1 := (HMT.out x).1 hx
                 exact ⟨by have := h1.2; have := HQS.out; omega, JM.agr HFA.out HFB.out HAG.out h1.1⟩) (fun x hx => by
                 have h1 := (HMC.out x).1 hx
                 rw [← HKB.out, ← HKA.out] at h1
                 have h2 := JM.at_ HFA.out HFB.out h1
                 have h3 : JM r l rt bo (esOf (kidAt ksa (addrOf x.1 m))) (esOf (kidAt ksb (addrOf x.1 m))) x := by
                   rw [h2]
                   exact h1
                 exact ⟨h2, JM.agr HFA.out HFB.out HAG.out ((JM.kids HFA.out HFB.out x).2 h3)⟩)).mono ?_
               rintro e w6 ⟨td, rfl, htd, hmd, hb6⟩
               have HTD := hide htd
               have HMD := hide hmd
               replace hd := below_then hd hb6
               replace hqd := hqd.trans (hb6.mono hqd.size)
               clear htd hmd hb6))
        all_goals
          have HD := hide hd
          have HJ6 := hide (HJ3.out.below hqd)
          clear hd hqd
          go_wp2_with fail
          go_step3
          refine ⟨rfl, ⟨td, q.at_ + 1, _, _, _, _, _, _, _, _, _, _, _, _, _, _, _, _, _, _, _, _, _, _, _, _, _, _, _, _, _, _, _, _, _, _, _, _, _, _, _, _, _, _, _, _, _, _, _, _, _, _, _, _, _, _, _, _, _, _, _, _, rfl, by omega, HTD.out, fun x => ?_, HJ6.out, HD.out⟩, ?_⟩
          · rw [HMD.out, HMT.out, HMC.out, HNX.out, HKA.out, HKB.out]
          · simp [intOf]
            have := HQS.out
            omega
    · rcases Nat.lt_or_ge j ksb.length with hjl | hjl
      · obtain ⟨u, hu⟩ : ∃ u, ksb[j]? = some u := ⟨ksb[j], List.getElem?_eq_getElem hjl⟩
        have hum := List.mem_of_getElem? hu
        have hku := HFB.out.kid u hum
        have hus := HJJ.out.2 j u hu (Nat.le_refl _)
        have hgb := from_ge HFB.out.sorted hu HJJ.out.1
        have hna : ∀ v ∈ ksa, v.at_ < s := by
          intro v hv
          obtain ⟨n, hn, rfl⟩ := List.mem_iff_getElem.1 hv
          exact HI.out.1 n _ (List.getElem?_eq_getElem hn) (by omega)
        rw [kAt_none hil, kPt_none hil, kAt_some hu, kPt_some hu]
        have hqa1 : ((u.at_ : Nat) : Int) ≤ 65535 := by have := HAT'.out u hum; omega
        have HLV := hide (fun W (hW : Below w.heap.size w W) => nd_level (HFA.out.stay hW).node)
        have HJN := hide (fun W (hW : Below w.heap.size w W) => show Calls Try.prog 83 #[.agg #[.int .i64 (r : Int), .bool l, .bool rt, .bool bo], .pointer none, .pointer (some ⟨u.blk, 0, none⟩)] W (StOut W k r l rt bo [] u.es) from HIH.out W (none) (some (u.blk, ⟨u.lv, u.pre, u.es⟩)) (by have := HLN.out; have := List.length_pos_iff.2 HFA.out.node.info.2.1; have := kid_small HFB.out hum; simp only [esOf, List.length_nil]; omega) (TopOk.none_ _ _) (fun x hx => by injection hx with hx; subst hx; exact hku.1.stay hW))
        have HKA := hide (show esOf (kidAt ksa u.at_) = [] from esOf_no (fun v hv hva => by have := hna v hv; omega))
        have HKB := hide (show esOf (kidAt ksb u.at_) = u.es by rw [kidAt_of HFB.out.sorted hu]; rfl)
        have HNX := hide (fun x => JM.next (r := r) (l := l) (rt := rt) (bo := bo) HFA.out HFB.out hus (fun v hv hvs => by have := hna v hv; omega) hgb x)
        have HQS := hide hus
        have hd : Below w.heap.size w w3.drew := HB3.out.drew
        have hqd : Below w3.heap.size w3 w3.drew := (Below.refl _ _).drew
        have HCELL := hide (fun W (hW : Below w3.heap.size w3 W) => And.intro ((HJ3.out.below hW).cell 0) (And.intro ((HJ3.out.below hW).cell 1) (And.intro ((HJ3.out.below hW).cell 2) ((HJ3.out.below hW).cell 3))))
        have k0 := HJ3.out.cell 0
        have k1 := HJ3.out.cell 1
        have k2 := HJ3.out.cell 2
        have k3 := HJ3.out.cell 3
        simp at k0 k1 k2 k3
        clear hu hum hku hus hgb hna hil hjl
        go_wp2_with fail
        go_region_held3 (fun w' => w'.cell? ⟨w.heap.size, 0, none⟩ = some (.int .i64 (r : Int)) ∧ w'.cell? ⟨w.heap.size, 1, none⟩ = some (.bool l) ∧ w'.cell? ⟨w.heap.size, 2, none⟩ = some (.bool rt) ∧ w'.cell? ⟨w.heap.size, 3, none⟩ = some (.bool bo))
          (first
            | go_keep
            | exact HCELL.out _ hqd)
          (first
            | (go_at_call 60
               with_reducible refine (HLV.out _ hd).mono ?_
               rintro e w4 ⟨rfl, rfl⟩)
            | (go_at_call 83
               refine (HJN.out _ hd).mono ?_
               rintro e w5 ⟨tc, rfl, htc, hmc, hb5⟩
               have HTC := hide htc
               have HMC := hide hmc
               have HTT5 := hide (HTT3.out.stay (hqd.trans (hb5.mono hqd.size)))
               replace hd := below_then hd hb5
               replace hqd := hqd.trans (hb5.mono hqd.size)
               clear htc hmc hb5)
            | (go_at_call 103
               refine (st_add (m := m) (a := u.at_) (pre := pa) hk1 hk hm64 HTT5.out HTC.out (fun x hx => by
                 have h1 := (HMT.out x).1 hx
                 exact ⟨by have := h1.2; have := HQS.out; omega, JM.agr HFA.out HFB.out HAG.out h1.1⟩) (fun x hx => by
                 have h1 := (HMC.out x).1 hx
                 rw [← HKB.out, ← HKA.out] at h1
                 have h2 := JM.at_ HFA.out HFB.out h1
                 have h3 : JM r l rt bo (esOf (kidAt ksa (addrOf x.1 m))) (esOf (kidAt ksb (addrOf x.1 m))) x := by
                   rw [h2]
                   exact h1
                 exact ⟨h2, JM.agr HFA.out HFB.out HAG.out ((JM.kids HFA.out HFB.out x).2 h3)⟩)).mono ?_
               rintro e w6 ⟨td, rfl, htd, hmd, hb6⟩
               have HTD := hide htd
               have HMD := hide hmd
               replace hd := below_then hd hb6
               replace hqd := hqd.trans (hb6.mono hqd.size)
               clear htd hmd hb6))
        all_goals
          have HD := hide hd
          have HJ6 := hide (HJ3.out.below hqd)
          clear hd hqd
          go_wp2_with fail
          go_step3
          refine ⟨rfl, ⟨td, u.at_ + 1, _, _, _, _, _, _, _, _, _, _, _, _, _, _, _, _, _, _, _, _, _, _, _, _, _, _, _, _, _, _, _, _, _, _, _, _, _, _, _, _, _, _, _, _, _, _, _, _, _, _, _, _, _, _, _, _, _, _, _, _, rfl, by omega, HTD.out, fun x => ?_, HJ6.out, HD.out⟩, ?_⟩
          · rw [HMD.out, HMT.out, HMC.out, HNX.out, HKA.out, HKB.out]
          · simp [intOf]
            have := HQS.out
            omega
      · rw [kAt_none hil, kPt_none hil, kAt_none hjl, kPt_none hjl]
        have hna : ∀ v ∈ ksa, v.at_ < s := by
          intro v hv
          obtain ⟨n, hn, rfl⟩ := List.mem_iff_getElem.1 hv
          exact HI.out.1 n _ (List.getElem?_eq_getElem hn) (by omega)
        have hnb : ∀ v ∈ ksb, v.at_ < s := by
          intro v hv
          obtain ⟨n, hn, rfl⟩ := List.mem_iff_getElem.1 hv
          exact HJJ.out.1 n _ (List.getElem?_eq_getElem hn) (by omega)
        have HF := hide (show StOut w k r l rt bo (kidEs ksa) (kidEs ksb) (.returned (ptrOf tt)) w3 from ⟨tt, rfl, HTT3.out, fun x => by
          rw [HMT.out]
          exact JM.all HFA.out HFB.out hna hnb x, HB3.out⟩)
        clear hil hjl hna hnb
        go_wp2
        simp only [Exit.jump]
        go_ret
        exact HF.out
end Go.Proofs.Ytfkpanpageeklaa
