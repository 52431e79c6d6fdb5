/- pantileref06.All. -/
import Derived.Test.YtkknfnjojamgjaaLaw6g
set_option linter.unusedSimpArgs false
set_option linter.unusedVariables false
namespace Go.Proofs.Ytkknfnjojamgjaa
open Go.RowKit
set_option maxHeartbeats 4000000 in
set_option maxRecDepth 100000 in
theorem ref_all (A : Option Addr) (k n c : Nat) (rows : List ER) (w : World) (h : EntsAt w A n rows) (hn : n ≤ 100) (hk : k ≤ 16) :
    Calls Try.prog 38 #[.int .i64 (k : Int), .slice A n c] w fun e w' => ∃ A' n' c', e = .returned (.slice A' n' c') ∧ EntsAt w' A' n' (allR k rows) ∧ n' ≤ c' ∧ n' ≤ 65536 ∧ Below w.heap.size w w' := by
  have HE := hide h
  have b1 := (Below.refl w.heap.size w).alloc (Nat.le_refl _) (.cells #[] 59)
  clear h
  go_enter Try.func38, Try.ntmps38
  go_wp2
  go_loopw [5, 6] (fun x5 x6 wr => ∃ (j : Nat) (A' : Option Addr) (n' c' : Nat), x6 = .int .i64 (j : Int) ∧ j ≤ n ∧ x5 = .slice A' n' c' ∧ EntsAt wr A' n' (allR k (rows.take j)) ∧ n' ≤ c' ∧ Below w.heap.size w wr) (fun _ x _ => n - (intOf x).toNat)
  case atStart => exact ⟨0, some ⟨w.heap.size, 0, none⟩, 0, 0, rfl, Nat.zero_le _, rfl, ⟨Rw.nil _ _ _, fun r hr => by cases hr⟩, Nat.le_refl _, b1⟩
  case round =>
    obtain ⟨j, A', n', c', rfl, hj, rfl, hE', hnc', hb⟩ := hrel
    have HE' := hide hE'
    have HB := hide hb
    have HNC := hide hnc'
    have hn'100 : n' ≤ 100 := by
      have h1 := hE'.len
      have h2 := allR_len k (rows.take j)
      have h3 : (rows.take j).length ≤ j := by simp; omega
      omega
    by_cases hjn : j < n
    · obtain ⟨b, o, r, rfl, hbl, hr, hok, k0, k1⟩ := (HE.out.below hb).at_ hjn
      have HR := hide hr
      have HOK := hide hok
      have hl := (List.getElem?_eq_some_iff.1 hr).1
      have hv := (List.getElem?_eq_some_iff.1 hr).2
      have hsn : rows.take (j + 1) = rows.take j ++ [r] := by rw [List.take_succ_eq_append_getElem hl, hv]
      have HSN := hide hsn
      rename World => wz
      by_cases hrk : r.n = k
      · subst hrk
        have hst : allR r.n (rows.take (j + 1)) = putR (allR r.n (rows.take j)) r := by rw [hsn, allR_snoc, if_pos rfl]
        have HST := hide hst
        have HSUB := hide (fun x hx => (allR_sub r.n (rows.take j) x hx).2)
        clear hr hok hl hv hsn hst hE' hnc'
        go_wp2_with fail
        go_region_held3 (fun w' => w'.cell? ⟨b, o + j * 2, none⟩ = some (.slice r.A r.n r.c) ∧ w'.cell? ⟨b, o + j * 2 + 1, none⟩ = some (.int .u64 (r.v : Int)))
          (first
            | go_keep
            | exact hk3)
          (first
            | (go_at_call 98
               refine (ref_put A' r.A n' c' r.n r.c r.v (allR r.n (rows.take j)) r.p wz.drew (HE'.out.below (Below.refl _ wz).drew) HNC.out HSUB.out (HOK.out.1.below (Below.refl _ wz).drew) HOK.out.2.1 HOK.out.2.2.1 (by omega) (by omega) HOK.out.2.2.2).mono ?_
               rintro e w3 ⟨A3, n3, c3, rfl, hE3, hnc3, hn3, hb3⟩
               have hd3 : Below wz.heap.size wz w3 := (Below.refl _ wz).drew.trans hb3
               have hk3 := And.intro ((hd3.cell (p := ⟨b, o + j * 2, none⟩) hbl).trans k0) ((hd3.cell (p := ⟨b, o + j * 2 + 1, none⟩) hbl).trans k1)
               have HE3 := hide hE3
               have HN3 := hide hnc3
               clear hE3 hnc3))
        go_wp2
        go_roundw
        case rel =>
          refine ⟨j + 1, A3, n3, c3, by go_num, by omega, rfl, ?_, HN3.out, below_then HB.out hd3⟩
          rw [HST.out]
          exact HE3.out
        case measure => simp [intOf]; omega
      · have hst : allR k (rows.take (j + 1)) = allR k (rows.take j) := by rw [hsn, allR_snoc, if_neg hrk]
        have HST := hide hst
        have e1 : ((r.n : Int) == (k : Int)) = false := by simp; omega
        clear hr hok hl hv hsn hst hE' hnc' hrk
        go_wp2
        go_roundw
        case rel =>
          refine ⟨j + 1, A', n', c', by go_num, by omega, rfl, ?_, HNC.out, HB.out⟩
          rw [HST.out]
          exact HE'.out
        case measure => simp [intOf]; omega
    · have hj' : j = n := by omega
      have hl := HE.out.len
      rw [hj', List.take_of_length_le (by omega)] at hE'
      have HE2 := hide hE'
      have e9 : decide ((j : Int) < (n : Int)) = false := by simp; omega
      clear hE' hnc' hb hj' hl
      go_wp2
      go_ret
      exact ⟨A', n', c', rfl, HE2.out, HNC.out, by omega, HB.out⟩
end Go.Proofs.Ytkknfnjojamgjaa
