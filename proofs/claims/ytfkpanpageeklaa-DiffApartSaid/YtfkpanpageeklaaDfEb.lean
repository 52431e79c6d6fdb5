/- diff: two forks of one level. -/
import Derived.Test.YtfkpanpageeklaaDfE
set_option linter.unusedSimpArgs false
set_option linter.unusedVariables false
namespace Go.Proofs.Ytfkpanpageeklaa
open Go.RowKit
/-- The kids ahead of a place lie below an address; those from it on, from it on. -/
def Lo (ks : List Kid) (i s : Nat) : Prop := ∀ (n : Nat) (q : Kid), ks[n]? = some q → n < i → q.at_ < s
def Hi (ks : List Kid) (i s : Nat) : Prop := ∀ (n : Nat) (q : Kid), ks[n]? = some q → i ≤ n → s ≤ q.at_
section
variable {ks : List Kid} {i s a : Nat} {q : Kid}
theorem Lo.step (h : Lo ks i s) (hq : ks[i]? = some q) (hs : s ≤ q.at_) : Lo ks (i + 1) (q.at_ + 1) := by
  intro n r hr hn
  rcases Nat.lt_or_ge n i with h1 | h1
  · have := h n r hr h1
    omega
  · obtain rfl : n = i := by omega
    rw [hq] at hr
    injection hr with hr
    subst hr
    omega
theorem Hi.step (hs : ks.Pairwise fun q r => q.at_ < r.at_) (hq : ks[i]? = some q) : Hi ks (i + 1) (q.at_ + 1) := fun n r hr hn => kids_lt hs hq hr (by omega)
theorem Lo.mono (h : Lo ks i s) (hs : s ≤ a) : Lo ks i (a + 1) := fun n r hr hn => by
  have := h n r hr hn
  omega
theorem Hi.none (h : ks.length ≤ i) (a : Nat) : Hi ks i a := fun n r hr hn => by
  have := (List.getElem?_eq_some_iff.1 hr).1
  omega
theorem Hi.some (hs : ks.Pairwise fun q r => q.at_ < r.at_) (hq : ks[i]? = some q) (ha : a < q.at_) : Hi ks i (a + 1) := by
  intro n r hr hn
  rcases Nat.eq_or_lt_of_le hn with h | h
  · subst h
    rw [hq] at hr
    injection hr with hr
    subst hr
    omega
  · have := kids_lt hs hq hr h
    omega
theorem kidEs_take_le (ks : List Kid) (i : Nat) : (kidEs (ks.take i)).length ≤ (kidEs ks).length := by
  have h := congrArg (fun l => (kidEs l).length) (List.take_append_drop i ks)
  simp only [kidEs_append, List.length_append] at h
  omega
theorem Lo.at_k {w : World} {k g m : Nat} {pre : List Nat} (hF : Fork w k g m pre ks) (h : Lo ks i s) : AtK m pre 0 s (kidEs (ks.take i)) :=
  AtK.kids hF (fun r hr => ⟨List.mem_of_mem_take hr, Nat.zero_le _, by
    obtain ⟨j, hj, hr⟩ := mem_take_idx hr
    exact h j r hr hj⟩)
end
/-- The frame at the head of a round. -/
def EvFr (tv : Value) (ga gb sb : Nat) (f : Nat → Value) (s : Nat) : Act := { tmps := #[.agg #[tv], .pointer (some ⟨ga, 0, none⟩), .pointer (some ⟨gb, 0, none⟩), .pointer (some ⟨sb, 0, none⟩), f 4, f 5, f 6, f 7, f 8, f 9, .int .i64 (s : Int), f 11, f 12, f 13, f 14, f 15, f 16, f 17, f 18, f 19, f 20, f 21, f 22, f 23, f 24, f 25, f 26, f 27, f 28, f 29, f 30, f 31, f 32, f 33, f 34, f 35, f 36, f 37, f 38, f 39, f 40, f 41, f 42, f 43, f 44, f 45, f 46, f 47, f 48, f 49, f 50, f 51, f 52, f 53, f 54, f 55, f 56, f 57, f 58, f 59, f 60, f 61, f 62, f 63, f 64, f 65, f 66, f 67, f 68, f 69, f 70, f 71, f 72, f 73, f 74, f 75, f 76, f 77, f 78, f 79, f 80, f 81, f 82, f 83, f 84, f 85, f 86, f 87, f 88, f 89, f 90, f 91, f 92, f 93, f 94, f 95], defers := [] }
def EvInv (tv : Value) (w0 w : World) (k ga gb bo : Nat) (ksa ksb : List Kid) (rows : List CR) (a' : Act) (wr : World) : Prop :=
  ∃ (s i j : Nat) (rows1 : List CR) (f : Nat → Value), a' = EvFr tv ga gb w.heap.size f s ∧ s ≤ 65536 ∧ i ≤ ksa.length ∧ j ≤ ksb.length ∧ Lo ksa i s ∧ Hi ksa i s ∧ Lo ksb j s ∧ Hi ksb j s ∧ DfSt true w0 w k bo rows (kidEs (ksa.take i)) (kidEs (ksb.take j)) rows1 wr ∧ Blk wr w.heap.size 74 #[tv]
theorem EvInv.intro {tv : Value} {w0 w : World} {k ga gb bo : Nat} {ksa ksb : List Kid} {rows : List CR} {a' : Act} {wr : World} (s i j : Nat) (rows1 : List CR) (h : a' = EvFr tv ga gb w.heap.size (fun n => a'.tmps.getD n undef) s) (h1 : s ≤ 65536) (h2 : i ≤ ksa.length) (h3 : j ≤ ksb.length) (h4 : Lo ksa i s) (h5 : Hi ksa i s) (h6 : Lo ksb j s) (h7 : Hi ksb j s) (h8 : DfSt true w0 w k bo rows (kidEs (ksa.take i)) (kidEs (ksb.take j)) rows1 wr) (h9 : Blk wr w.heap.size 74 #[tv]) : EvInv tv w0 w k ga gb bo ksa ksb rows a' wr :=
  ⟨s, i, j, rows1, _, h, h1, h2, h3, h4, h5, h6, h7, h8, h9⟩
set_option maxHeartbeats 8000000 in
set_option maxRecDepth 100000 in
theorem df_even {w0 w : World} {k N ga gb m bo : Nat} {pa pb : List Nat} {ksa ksb : List Kid} {rows : List CR} (hk : k ≤ 16) (H : DfHyp w0 k N) (hA : Fork w0 k ga m pa ksa) (hB : Fork w0 k gb m pb ksb) (hag : ∀ b, m < b → addrOf pa b = addrOf pb b) (hN : (kidEs ksa).length + (kidEs ksb).length ≤ N)
    (hla : (kidEs ksa).length ≤ 60000) (hlb : (kidEs ksb).length ≤ 60000) (hC : ColC w0.heap.size w bo rows) (hb : Below w0.heap.size w0 w) (hl : rows.length + (kidEs ksa).length + (kidEs ksb).length ≤ 200000) :
    Calls Try.prog 63 #[.agg #[tellV bo], .pointer (some ⟨ga, 0, none⟩), .pointer (some ⟨gb, 0, none⟩)] w (DfOut true w0 w k bo rows (kidEs ksa) (kidEs ksb)) := by
  have hal := (Below.refl w.heap.size w).alloc (Nat.le_refl _) (.cells #[tellV bo] 74)
  have hS := Blk.new w 74 #[tellV bo]
  obtain ⟨A0, c0, gs0, -, -, hB0⟩ := hA.head
  have HEN := hide (nd_entry_fork (hB0.below (hb.trans (hal.mono hb.size))))
  have HLK := hide hS
  have HST0 := hide ((DfSt.start (d := true) (k := k) hC hb).stay hal)
  have HIH := hide H
  have HFA := hide hA
  have HFB := hide hB
  have HAG := hide hag
  have HLN := hide (And.intro hN (And.intro hla (And.intro hlb hl)))
  have HAT := hide (fun q (hq : q ∈ ksa) => pow_le_16 (hA.kid q hq).2.2.2.2 hk)
  have HAT' := hide (fun q (hq : q ∈ ksb) => pow_le_16 (hB.kid q hq).2.2.2.2 hk)
  clear H hA hB hag hN hla hlb hC hb hl hal hS hB0
  generalize htv : tellV bo = tv at *
  have HTV := hide htv
  clear htv
  go_enter Try.func63, Try.ntmps63
  go_wp2_with fail
  refine wp_scope_goto2 0 (EvInv tv w0 w k ga gb bo ksa ksb rows) (fun a' _ => 70000 - (intOf (a'.tmps.getD 10 undef)).toNat) (by rfl) (by rfl) (by rfl) ?_ ?_
  · go_wp2_with fail
    refine HEN.out.mono ?_
    rintro e w2 ⟨rfl, hb2⟩
    have hal2 := below_then hb2 ((Below.refl w2.heap.size w2).alloc (Nat.le_refl _) (.cells #[.slice none 0 0, .int .u64 0] 63))
    have HST2 := hide (HST0.out.stay hal2)
    have HLK2 := hide (HLK.out.below hal2)
    clear hb2 hal2 HEN
    go_wp2
    exact EvInv.intro 0 0 0 [] rfl (by omega) (Nat.zero_le _) (Nat.zero_le _) (fun _ _ _ h => absurd h (Nat.not_lt_zero _)) (fun _ _ _ _ => Nat.zero_le _) (fun _ _ _ h => absurd h (Nat.not_lt_zero _)) (fun _ _ _ _ => Nat.zero_le _) HST2.out HLK2.out
  · rintro a' wr ⟨s, i, j, rows1, f, rfl, hs, hi, hj, hilo, hihi, hjlo, hjhi, hst, hlk⟩
    unfold EvFr
    have HST := hide hst
    have HLK1 := hide hlk
    have HL := hide (And.intro hilo (And.intro hihi (And.intro hjlo hjhi)))
    have HIJ := hide (And.intro hi hj)
    have hs6 : (s : Int) ≤ 65536 := by omega
    have hfa := fun W (hW : Below w0.heap.size w0 W) => nd_from_j (HFA.out.stay hW) i (s : Int) (fun n q hq hn => by have := hilo n q hq hn; omega) (fun q hq => by have := hihi i q hq (Nat.le_refl _); omega)
    have hfb := fun W (hW : Below w0.heap.size w0 W) => nd_from_j (HFB.out.stay hW) j (s : Int) (fun n q hq hn => by have := hjlo n q hq hn; omega) (fun q hq => by have := hjhi j q hq (Nat.le_refl _); omega)
    have HFRA := hide (hfa _ hst.below)
    have HFRB := hide hfb
    clear hilo hihi hjlo hjhi hfa hfb hst hlk HST0 HLK hi hj
    go_wp2_with fail
    refine HFRA.out.mono ?_
    rintro e w2 ⟨rfl, hb2⟩
    have HST2 := hide (HST.out.stay hb2)
    have HLK2 := hide (HLK1.out.below hb2)
    clear hb2 HST HLK1 HFRA
    have HFRB2 := hide (HFRB.out _ HST2.out.below)
    go_wp2_with fail
    refine HFRB2.out.mono ?_
    rintro e w3 ⟨rfl, hb3⟩
    have HST3 := hide (HST2.out.stay hb3)
    have HLK3 := hide (HLK2.out.below hb3)
    have hl3 := HLK2.out.below hb3
    have l0 := hl3.cell 0
    simp at l0
    clear hb3 HST2 HLK2 HFRB2 HFRB hl3
    rcases Nat.lt_or_ge i ksa.length with hil | hil
    · rcases Nat.lt_or_ge j ksb.length with hjl | hjl
      · obtain ⟨q, hq⟩ : ∃ q, ksa[i]? = some q := ⟨ksa[i], List.getElem?_eq_getElem hil⟩
        have hqm := List.mem_of_getElem? hq
        have hkq := (HFA.out.kid q hqm).1
        have hqs := HL.out.2.1 i q hq (Nat.le_refl _)
        obtain ⟨u, hu⟩ : ∃ u, ksb[j]? = some u := ⟨ksb[j], List.getElem?_eq_getElem hjl⟩
        have hum := List.mem_of_getElem? hu
        have hku := (HFB.out.kid u hum).1
        have hus := HL.out.2.2.2 j u hu (Nat.le_refl _)
        rw [kAt_some hq, kPt_some hq, kAt_some hu, kPt_some hu]
        rcases Nat.lt_trichotomy q.at_ u.at_ with hlt | heq | hgt
        · have f1 : decide (q.at_ < u.at_) = true := by simp [hlt]
          have hqa1 : ((q.at_ : Nat) : Int) ≤ 65535 := by have := HAT.out q hqm; omega
          have hbt := HIH.out w3 bo (rows ++ rows1) (some (q.blk, ⟨q.lv, q.pre, q.es⟩)) (none) (by have := HLN.out; have := kid_small HFA.out hqm; have := kidEs_le hq; have := List.length_pos_iff.2 HFB.out.node.info.2.1; simp only [esOf, List.length_nil]; omega) (fun x hx => by injection hx with hx; subst hx; exact hkq) (TopOk.none_ _ _) (by have := HLN.out; have := kid_small HFA.out hqm; have := kidEs_le hq; have := List.length_pos_iff.2 HFB.out.node.info.2.1; simp only [esOf, List.length_nil]; omega) (by have := HLN.out; have := kid_small HFA.out hqm; have := kidEs_le hq; have := List.length_pos_iff.2 HFB.out.node.info.2.1; simp only [esOf, List.length_nil]; omega) HST3.out.col HST3.out.below (by have := HLN.out; have := HST3.out.len; have := kid_small HFA.out hqm; have := kidEs_le hq; have := List.length_pos_iff.2 HFB.out.node.info.2.1; have := kidEs_take_le ksb j; simp only [esOf, List.length_nil, List.length_append]; omega)
          rw [HTV.out] at hbt
          have HBT := hide (show Calls Try.prog 37 #[.agg #[tv], .pointer (some ⟨q.blk, 0, none⟩), .pointer none] w3 (DfOut true w0 w3 k bo (rows ++ rows1) q.es []) from hbt)
          have HLO := hide (And.intro (HL.out.1.at_k HFA.out) ((HL.out.2.2.1.at_k HFB.out).zag HAG.out))
          have HXQ := hide (AtK.kid HFA.out hqm)
          have HSS := hide (show s ≤ q.at_ by omega)
          have HNL := hide (show Lo ksa (i + 1) (q.at_ + 1) ∧ Hi ksa (i + 1) (q.at_ + 1) ∧ Lo ksb (j) (q.at_ + 1) ∧ Hi ksb (j) (q.at_ + 1) from ⟨HL.out.1.step hq hqs, Hi.step HFA.out.sorted hq, (HL.out.2.2.1.mono hqs), Hi.some HFB.out.sorted hu hlt⟩)
          have HNI := hide (show i + 1 ≤ ksa.length ∧ j ≤ ksb.length from ⟨by have := (List.getElem?_eq_some_iff.1 hq).1; omega, HIJ.out.2⟩)
          have HEA := hide (kidEs_take hq)
          clear hbt hq hqm hkq hqs hu hum hku hus hlt hil hjl
          go_wp2_with fail
          refine HBT.out.mono ?_
          rintro e w4 hd4
          have hlk4 := HLK3.out.keep (hd4.keepC _ (by decide) (by decide))
          obtain ⟨rows4, rfl, hs4⟩ := HST3.out.next hd4 (HLO.out.1.ahead HXQ.out HSS.out) (Ahead.nil_r _) (HLO.out.2.ahead HXQ.out HSS.out) (Ahead.nil_r _)
          have HST4 := hide hs4
          have HLK4 := hide hlk4
          clear hd4 hs4 hlk4 HBT
          go_wp2_with fail
          go_step3
          refine ⟨rfl, EvInv.intro (q.at_ + 1) (i + 1) (j) rows4 rfl (by omega) HNI.out.1 HNI.out.2 HNL.out.1 HNL.out.2.1 HNL.out.2.2.1 HNL.out.2.2.2 ?_ HLK4.out, ?_⟩
          · have := HST4.out
            rw [HEA.out]
            simpa using this
          · simp [intOf]
            have := HSS.out
            omega
        · have f1 : decide (q.at_ < u.at_) = false := by simp; omega
          have f2 : decide (u.at_ < q.at_) = false := by simp; omega
          have hqa1 : ((q.at_ : Nat) : Int) ≤ 65535 := by have := HAT.out q hqm; omega
          have hbt := HIH.out w3 bo (rows ++ rows1) (some (q.blk, ⟨q.lv, q.pre, q.es⟩)) (some (u.blk, ⟨u.lv, u.pre, u.es⟩)) (by have := HLN.out; have := kid_small HFA.out hqm; have := kidEs_le hq; have := kid_small HFB.out hum; have := kidEs_le hu; simp only [esOf, List.length_nil]; omega) (fun x hx => by injection hx with hx; subst hx; exact hkq) (fun x hx => by injection hx with hx; subst hx; exact hku) (by have := HLN.out; have := kid_small HFA.out hqm; have := kidEs_le hq; have := kid_small HFB.out hum; have := kidEs_le hu; simp only [esOf, List.length_nil]; omega) (by have := HLN.out; have := kid_small HFA.out hqm; have := kidEs_le hq; have := kid_small HFB.out hum; have := kidEs_le hu; simp only [esOf, List.length_nil]; omega) HST3.out.col HST3.out.below (by have := HLN.out; have := HST3.out.len; have := kid_small HFA.out hqm; have := kidEs_le hq; have := kid_small HFB.out hum; have := kidEs_le hu; simp only [esOf, List.length_nil, List.length_append]; omega)
          rw [HTV.out] at hbt
          have HBT := hide (show Calls Try.prog 37 #[.agg #[tv], .pointer (some ⟨q.blk, 0, none⟩), .pointer (some ⟨u.blk, 0, none⟩)] w3 (DfOut true w0 w3 k bo (rows ++ rows1) q.es u.es) from hbt)
          have HLO := hide (And.intro (HL.out.1.at_k HFA.out) ((HL.out.2.2.1.at_k HFB.out).zag HAG.out))
          have HXQ := hide (AtK.kid HFA.out hqm)
          have HXU := hide ((AtK.kid HFB.out hum).zag HAG.out)
          have HSS := hide (show s ≤ q.at_ by omega)
          have HNL := hide (show Lo ksa (i + 1) (q.at_ + 1) ∧ Hi ksa (i + 1) (q.at_ + 1) ∧ Lo ksb (j + 1) (q.at_ + 1) ∧ Hi ksb (j + 1) (q.at_ + 1) from ⟨HL.out.1.step hq hqs, Hi.step HFA.out.sorted hq, (by have := HL.out.2.2.1.step hu hus; rw [← heq] at this; exact this), (by have := Hi.step HFB.out.sorted hu; rw [← heq] at this; exact this)⟩)
          have HNI := hide (show i + 1 ≤ ksa.length ∧ j + 1 ≤ ksb.length from ⟨by have := (List.getElem?_eq_some_iff.1 hq).1; omega, by have := (List.getElem?_eq_some_iff.1 hu).1; omega⟩)
          have HEA := hide (kidEs_take hq)
          have HEB := hide (kidEs_take hu)
          have HEQ := hide heq
          clear hbt hq hqm hkq hqs hu hum hku hus heq hil hjl
          go_wp2_with fail
          refine HBT.out.mono ?_
          rintro e w4 hd4
          have hlk4 := HLK3.out.keep (hd4.keepC _ (by decide) (by decide))
          obtain ⟨rows4, rfl, hs4⟩ := HST3.out.next hd4 (HLO.out.1.ahead HXQ.out HSS.out) (HLO.out.1.ahead HXU.out (by have := HSS.out; have := HEQ.out; omega)) (HLO.out.2.ahead HXQ.out HSS.out) (HLO.out.2.ahead HXU.out (by have := HSS.out; have := HEQ.out; omega))
          have HST4 := hide hs4
          have HLK4 := hide hlk4
          clear hd4 hs4 hlk4 HBT
          go_wp2_with fail
          go_step3
          refine ⟨rfl, EvInv.intro (q.at_ + 1) (i + 1) (j + 1) rows4 rfl (by omega) HNI.out.1 HNI.out.2 HNL.out.1 HNL.out.2.1 HNL.out.2.2.1 HNL.out.2.2.2 ?_ HLK4.out, ?_⟩
          · have := HST4.out
            rw [HEA.out, HEB.out]
            simpa using this
          · simp [intOf]
            have := HSS.out
            omega
        · have f1 : decide (q.at_ < u.at_) = false := by simp; omega
          have f2 : decide (u.at_ < q.at_) = true := by simp [hgt]
          have hqa1 : ((u.at_ : Nat) : Int) ≤ 65535 := by have := HAT'.out u hum; omega
          have hbt := HIH.out w3 bo (rows ++ rows1) (none) (some (u.blk, ⟨u.lv, u.pre, u.es⟩)) (by have := HLN.out; have := List.length_pos_iff.2 HFA.out.node.info.2.1; have := kid_small HFB.out hum; have := kidEs_le hu; simp only [esOf, List.length_nil]; omega) (TopOk.none_ _ _) (fun x hx => by injection hx with hx; subst hx; exact hku) (by have := HLN.out; have := List.length_pos_iff.2 HFA.out.node.info.2.1; have := kid_small HFB.out hum; have := kidEs_le hu; simp only [esOf, List.length_nil]; omega) (by have := HLN.out; have := List.length_pos_iff.2 HFA.out.node.info.2.1; have := kid_small HFB.out hum; have := kidEs_le hu; simp only [esOf, List.length_nil]; omega) HST3.out.col HST3.out.below (by have := HLN.out; have := HST3.out.len; have := List.length_pos_iff.2 HFA.out.node.info.2.1; have := kid_small HFB.out hum; have := kidEs_le hu; have := kidEs_take_le ksa i; simp only [esOf, List.length_nil, List.length_append]; omega)
          rw [HTV.out] at hbt
          have HBT := hide (show Calls Try.prog 37 #[.agg #[tv], .pointer none, .pointer (some ⟨u.blk, 0, none⟩)] w3 (DfOut true w0 w3 k bo (rows ++ rows1) [] u.es) from hbt)
          have HLO := hide (And.intro (HL.out.1.at_k HFA.out) ((HL.out.2.2.1.at_k HFB.out).zag HAG.out))
          have HXU := hide ((AtK.kid HFB.out hum).zag HAG.out)
          have HSS := hide (show s ≤ u.at_ by omega)
          have HNL := hide (show Lo ksa (i) (u.at_ + 1) ∧ Hi ksa (i) (u.at_ + 1) ∧ Lo ksb (j + 1) (u.at_ + 1) ∧ Hi ksb (j + 1) (u.at_ + 1) from ⟨(HL.out.1.mono hus), Hi.some HFA.out.sorted hq hgt, HL.out.2.2.1.step hu hus, Hi.step HFB.out.sorted hu⟩)
          have HNI := hide (show i ≤ ksa.length ∧ j + 1 ≤ ksb.length from ⟨HIJ.out.1, by have := (List.getElem?_eq_some_iff.1 hu).1; omega⟩)
          have HEB := hide (kidEs_take hu)
          clear hbt hq hqm hkq hqs hu hum hku hus hgt hil hjl
          go_wp2_with fail
          refine HBT.out.mono ?_
          rintro e w4 hd4
          have hlk4 := HLK3.out.keep (hd4.keepC _ (by decide) (by decide))
          obtain ⟨rows4, rfl, hs4⟩ := HST3.out.next hd4 (Ahead.nil_r _) (HLO.out.1.ahead HXU.out (by have := HSS.out; omega)) (Ahead.nil_r _) (HLO.out.2.ahead HXU.out (by have := HSS.out; omega))
          have HST4 := hide hs4
          have HLK4 := hide hlk4
          clear hd4 hs4 hlk4 HBT
          go_wp2_with fail
          go_step3
          refine ⟨rfl, EvInv.intro (u.at_ + 1) (i) (j + 1) rows4 rfl (by omega) HNI.out.1 HNI.out.2 HNL.out.1 HNL.out.2.1 HNL.out.2.2.1 HNL.out.2.2.2 ?_ HLK4.out, ?_⟩
          · have := HST4.out
            rw [HEB.out]
            simpa using this
          · simp [intOf]
            have := HSS.out
            omega
      · obtain ⟨q, hq⟩ : ∃ q, ksa[i]? = some q := ⟨ksa[i], List.getElem?_eq_getElem hil⟩
        have hqm := List.mem_of_getElem? hq
        have hkq := (HFA.out.kid q hqm).1
        have hqs := HL.out.2.1 i q hq (Nat.le_refl _)
        rw [kAt_some hq, kPt_some hq, kAt_none hjl, kPt_none hjl]
        have hqa1 : ((q.at_ : Nat) : Int) ≤ 65535 := by have := HAT.out q hqm; omega
        have hbt := HIH.out w3 bo (rows ++ rows1) (some (q.blk, ⟨q.lv, q.pre, q.es⟩)) (none) (by have := HLN.out; have := kid_small HFA.out hqm; have := kidEs_le hq; have := List.length_pos_iff.2 HFB.out.node.info.2.1; simp only [esOf, List.length_nil]; omega) (fun x hx => by injection hx with hx; subst hx; exact hkq) (TopOk.none_ _ _) (by have := HLN.out; have := kid_small HFA.out hqm; have := kidEs_le hq; have := List.length_pos_iff.2 HFB.out.node.info.2.1; simp only [esOf, List.length_nil]; omega) (by have := HLN.out; have := kid_small HFA.out hqm; have := kidEs_le hq; have := List.length_pos_iff.2 HFB.out.node.info.2.1; simp only [esOf, List.length_nil]; omega) HST3.out.col HST3.out.below (by have := HLN.out; have := HST3.out.len; have := kid_small HFA.out hqm; have := kidEs_le hq; have := List.length_pos_iff.2 HFB.out.node.info.2.1; have := kidEs_take_le ksb j; simp only [esOf, List.length_nil, List.length_append]; omega)
        rw [HTV.out] at hbt
        have HBT := hide (show Calls Try.prog 37 #[.agg #[tv], .pointer (some ⟨q.blk, 0, none⟩), .pointer none] w3 (DfOut true w0 w3 k bo (rows ++ rows1) q.es []) from hbt)
        have HLO := hide (And.intro (HL.out.1.at_k HFA.out) ((HL.out.2.2.1.at_k HFB.out).zag HAG.out))
        have HXQ := hide (AtK.kid HFA.out hqm)
        have HSS := hide (show s ≤ q.at_ by omega)
        have HNL := hide (show Lo ksa (i + 1) (q.at_ + 1) ∧ Hi ksa (i + 1) (q.at_ + 1) ∧ Lo ksb (j) (q.at_ + 1) ∧ Hi ksb (j) (q.at_ + 1) from ⟨HL.out.1.step hq hqs, Hi.step HFA.out.sorted hq, (HL.out.2.2.1.mono hqs), Hi.none hjl _⟩)
        have HNI := hide (show i + 1 ≤ ksa.length ∧ j ≤ ksb.length from ⟨by have := (List.getElem?_eq_some_iff.1 hq).1; omega, HIJ.out.2⟩)
        have HEA := hide (kidEs_take hq)
        clear hbt hq hqm hkq hqs hil hjl
        go_wp2_with fail
        refine HBT.out.mono ?_
        rintro e w4 hd4
        have hlk4 := HLK3.out.keep (hd4.keepC _ (by decide) (by decide))
        obtain ⟨rows4, rfl, hs4⟩ := HST3.out.next hd4 (HLO.out.1.ahead HXQ.out HSS.out) (Ahead.nil_r _) (HLO.out.2.ahead HXQ.out HSS.out) (Ahead.nil_r _)
        have HST4 := hide hs4
        have HLK4 := hide hlk4
        clear hd4 hs4 hlk4 HBT
        go_wp2_with fail
        go_step3
        refine ⟨rfl, EvInv.intro (q.at_ + 1) (i + 1) (j) rows4 rfl (by omega) HNI.out.1 HNI.out.2 HNL.out.1 HNL.out.2.1 HNL.out.2.2.1 HNL.out.2.2.2 ?_ HLK4.out, ?_⟩
        · have := HST4.out
          rw [HEA.out]
          simpa using this
        · simp [intOf]
          have := HSS.out
          omega
    · rcases Nat.lt_or_ge j ksb.length with hjl | hjl
      · obtain ⟨u, hu⟩ : ∃ u, ksb[j]? = some u := ⟨ksb[j], List.getElem?_eq_getElem hjl⟩
        have hum := List.mem_of_getElem? hu
        have hku := (HFB.out.kid u hum).1
        have hus := HL.out.2.2.2 j u hu (Nat.le_refl _)
        rw [kAt_none hil, kPt_none hil, kAt_some hu, kPt_some hu]
        have hqa1 : ((u.at_ : Nat) : Int) ≤ 65535 := by have := HAT'.out u hum; omega
        have hbt := HIH.out w3 bo (rows ++ rows1) (none) (some (u.blk, ⟨u.lv, u.pre, u.es⟩)) (by have := HLN.out; have := List.length_pos_iff.2 HFA.out.node.info.2.1; have := kid_small HFB.out hum; have := kidEs_le hu; simp only [esOf, List.length_nil]; omega) (TopOk.none_ _ _) (fun x hx => by injection hx with hx; subst hx; exact hku) (by have := HLN.out; have := List.length_pos_iff.2 HFA.out.node.info.2.1; have := kid_small HFB.out hum; have := kidEs_le hu; simp only [esOf, List.length_nil]; omega) (by have := HLN.out; have := List.length_pos_iff.2 HFA.out.node.info.2.1; have := kid_small HFB.out hum; have := kidEs_le hu; simp only [esOf, List.length_nil]; omega) HST3.out.col HST3.out.below (by have := HLN.out; have := HST3.out.len; have := List.length_pos_iff.2 HFA.out.node.info.2.1; have := kid_small HFB.out hum; have := kidEs_le hu; have := kidEs_take_le ksa i; simp only [esOf, List.length_nil, List.length_append]; omega)
        rw [HTV.out] at hbt
        have HBT := hide (show Calls Try.prog 37 #[.agg #[tv], .pointer none, .pointer (some ⟨u.blk, 0, none⟩)] w3 (DfOut true w0 w3 k bo (rows ++ rows1) [] u.es) from hbt)
        have HLO := hide (And.intro (HL.out.1.at_k HFA.out) ((HL.out.2.2.1.at_k HFB.out).zag HAG.out))
        have HXU := hide ((AtK.kid HFB.out hum).zag HAG.out)
        have HSS := hide (show s ≤ u.at_ by omega)
        have HNL := hide (show Lo ksa (i) (u.at_ + 1) ∧ Hi ksa (i) (u.at_ + 1) ∧ Lo ksb (j + 1) (u.at_ + 1) ∧ Hi ksb (j + 1) (u.at_ + 1) from ⟨(HL.out.1.mono hus), Hi.none hil _, HL.out.2.2.1.step hu hus, Hi.step HFB.out.sorted hu⟩)
        have HNI := hide (show i ≤ ksa.length ∧ j + 1 ≤ ksb.length from ⟨HIJ.out.1, by have := (List.getElem?_eq_some_iff.1 hu).1; omega⟩)
        have HEB := hide (kidEs_take hu)
        clear hbt hu hum hku hus hil hjl
        go_wp2_with fail
        refine HBT.out.mono ?_
        rintro e w4 hd4
        have hlk4 := HLK3.out.keep (hd4.keepC _ (by decide) (by decide))
        obtain ⟨rows4, rfl, hs4⟩ := HST3.out.next hd4 (Ahead.nil_r _) (HLO.out.1.ahead HXU.out (by have := HSS.out; omega)) (Ahead.nil_r _) (HLO.out.2.ahead HXU.out (by have := HSS.out; omega))
        have HST4 := hide hs4
        have HLK4 := hide hlk4
        clear hd4 hs4 hlk4 HBT
        go_wp2_with fail
        go_step3
        refine ⟨rfl, EvInv.intro (u.at_ + 1) (i) (j + 1) rows4 rfl (by omega) HNI.out.1 HNI.out.2 HNL.out.1 HNL.out.2.1 HNL.out.2.2.1 HNL.out.2.2.2 ?_ HLK4.out, ?_⟩
        · have := HST4.out
          rw [HEB.out]
          simpa using this
        · simp [intOf]
          have := HSS.out
          omega
      · rw [kAt_none hil, kPt_none hil, kAt_none hjl, kPt_none hjl]
        have HF := hide (show DfOut true w0 w k bo rows (kidEs ksa) (kidEs ksb) (.returned (.tuple #[])) w3 from by
          have := HST3.out.out
          rw [List.take_of_length_le hil, List.take_of_length_le hjl] at this
          exact this)
        clear hil hjl
        go_wp2
        simp only [Exit.jump]
        first
          | go_end0
          | ((try simp only [Exit.inBlock, Exit.then]); refine bodyPost_ret (results_none rfl _ _ _) rfl ?_)
        exact HF.out
end Go.Proofs.Ytfkpanpageeklaa
