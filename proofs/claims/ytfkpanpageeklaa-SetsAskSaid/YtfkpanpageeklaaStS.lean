/- sets: Subset. -/
import Derived.Test.YtfkpanpageeklaaStT
import Derived.Test.YtfkpanpageeklaaLwC
set_option linter.unusedSimpArgs false
set_option linter.unusedVariables false
namespace Go.Proofs.Ytfkpanpageeklaa
open Go.RowKit
theorem sub_snoc {ea eb : List Ent} {j : Nat} {x : Ent} (h : ea[j]? = some x) : subB (ea.take (j + 1)) eb = (subB (ea.take j) eb && (getE eb x.1).isSome) := by
  unfold subB
  rw [List.take_add_one, h]
  simp
theorem sub_false {ea eb : List Ent} {j : Nat} {x : Ent} (h : ea[j]? = some x) (hg : getE eb x.1 = none) : subB ea eb = false := by
  unfold subB
  rw [Bool.eq_false_iff]
  intro h2
  rw [List.all_eq_true] at h2
  have := h2 x (List.mem_of_getElem? h)
  rw [hg] at this
  cases this
set_option maxHeartbeats 8000000 in
set_option maxRecDepth 100000 in
theorem st_subset_dim {w : World} {k k' a b : Nat} {ea eb : List Ent} (hA : TreeOf w k a ea) (hB : TreeOf w k' b eb) (hkk : k ≠ k') :
    Calls Try.prog 9 #[.pointer (some ⟨a, 0, none⟩), .pointer (some ⟨b, 0, none⟩)] w fun e w' => e = .returned (.tuple #[.bool false, .int .i64 2]) ∧ w = w' := by
  obtain ⟨ta, hTA, -, -, -, -⟩ := hA.top
  obtain ⟨tb, hTB, -, -, -, -⟩ := hB.top
  have hck := st_check hTA hTB 1
  rw [show ckCode k k' 1 = 2 by simp [ckCode, hkk]] at hck
  have HCK := hide hck
  clear hA hB hTA hTB hck
  go_enter Try.func9, Try.ntmps9
  go_wp2_with fail
  refine HCK.out.mono ?_
  rintro e w1 ⟨rfl, rfl⟩
  go_wp2
  go_ret2
  exact ⟨rfl, rfl⟩
set_option maxHeartbeats 8000000 in
set_option maxRecDepth 100000 in
theorem st_subset {w : World} {k a b : Nat} {ea eb : List Ent} (hA : TreeOf w k a ea) (hB : TreeOf w k b eb) (hla : ea.length ≤ 60000) :
    Calls Try.prog 9 #[.pointer (some ⟨a, 0, none⟩), .pointer (some ⟨b, 0, none⟩)] w fun e w' => e = .returned (.tuple #[.bool (subB ea eb), .int .i64 0]) ∧ Below w.heap.size w w' := by
  obtain ⟨ta, hTA, hTopA, hea, hk1, hk⟩ := hA.top
  obtain ⟨tb, hTB, -, -, -, -⟩ := hB.top
  have hck := st_check hTA hTB 1
  rw [show ckCode k k 1 = 0 by simp [ckCode]] at hck
  have HCK := hide hck
  have HRA := hide (rootp hTA)
  have hwa := walk_all_top hTopA hk (by rw [hea]; omega)
  rw [hea] at hwa
  have HWA := hide hwa
  have HSB := hide hB.sorted.1
  have HG := hide (fun W (hW : Below w.heap.size w W) A c p (hp : Pt W A k p) => tr_get (c := c) (hB.stay hW) hp)
  clear hA hB hTA hTB hTopA hea hck hwa
  go_enter Try.func9, Try.ntmps9
  go_wp2_with fail
  refine HCK.out.mono ?_
  rintro e w1 ⟨rfl, rfl⟩
  go_wp2_with fail
  refine HRA.out.mono ?_
  rintro e w1 ⟨rfl, rfl⟩
  go_wp2_with fail
  refine HWA.out.mono ?_
  intro e w2 hall
  obtain ⟨A2, c2, rows, rfl, hes, hE2, hc2, hkk2, hb2⟩ := hall.at_
  have hrl : rows.length ≤ 60000 := by
    have : (ents rows).length = rows.length := by unfold ents; simp
    rw [hes] at this
    omega
  have HE2 := hide hE2
  have HES := hide hes
  have HKK := hide hkk2
  have HB2 := hide hb2
  clear hall hes hE2 hkk2 hb2 HWA
  go_wp2
  go_loopw [22] (fun x wr => ∃ j : Nat, x = .int .i64 (j : Int) ∧ j ≤ rows.length ∧ subB (ea.take j) eb = true ∧ Below w2.heap.size w2 wr) (fun x _ => rows.length - (intOf x).toNat)
  case atStart => exact ⟨0, rfl, Nat.zero_le _, rfl, Below.refl _ _⟩
  case round =>
    obtain ⟨j, rfl, hj, hs, hb⟩ := hrel
    rename World => wz
    have HS := hide hs
    have HBL := hide hb
    by_cases hjn : j < rows.length
    · obtain ⟨b1, o1, r, rfl, hb1, hr, hok, x0, x1⟩ := (HE2.out.below hb).at_ hjn
      have hrn := HKK.out r (List.mem_of_getElem? hr)
      rw [hrn] at x0
      have hp := hok.1
      rw [hrn] at hp
      have hal := (Below.refl wz.heap.size wz).alloc (Nat.le_refl _) (.cells #[.slice r.A k r.c, .int .u64 (r.v : Int)] 63)
      have HB3 := hide (hb.trans (hal.mono hb.size))
      have hB4 := below_then HB2.out HB3.out
      have HGC := hide (HG.out _ hB4 r.A r.c r.p (hp.below hal))
      have HEA := hide (show ea[j]? = some (r.p, r.v) by
        rw [← HES.out]
        unfold ents
        rw [List.getElem?_map, hr]
        rfl)
      clear hr hok hrn hp hal hB4 hs hb
      go_wp2_with fail
      refine HGC.out.mono ?_
      rintro e w5 ⟨⟨v, rfl, hv⟩ | ⟨rfl, hv⟩, hb5⟩
      · have HGS := hide (show subB (ea.take (j + 1)) eb = true by rw [sub_snoc HEA.out, HS.out, getE_of HSB.out hv]; rfl)
        have HB5 := hide (HB3.out.trans (hb5.mono HB3.out.size))
        clear hv hb5 HGC
        go_wp2
        go_roundw
        case rel => exact ⟨j + 1, by go_num, by omega, HGS.out, HB5.out⟩
        case measure => simp [intOf]; omega
      · have HGS := hide (show subB ea eb = false from sub_false HEA.out (getE_none.2 hv))
        have HB5 := hide (below_then HB2.out (HB3.out.trans (hb5.mono HB3.out.size)))
        clear hv hb5 HGC
        go_wp2
        go_ret2
        exact ⟨by rw [HGS.out]; rfl, HB5.out⟩
    · obtain rfl : j = rows.length := by omega
      have HF := hide (show subB ea eb = true from by
        have h1 : ea.take rows.length = ea := List.take_of_length_le (by rw [← HES.out]; unfold ents; simp)
        rw [h1] at hs
        exact hs)
      have HB5 := hide (below_then HB2.out hb)
      clear hs hb
      go_wp2
      go_ret2
      exact ⟨by rw [HF.out]; rfl, HB5.out⟩
end Go.Proofs.Ytfkpanpageeklaa
