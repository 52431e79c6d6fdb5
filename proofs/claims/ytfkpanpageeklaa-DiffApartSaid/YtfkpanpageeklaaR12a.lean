/- pantileref12: points, a change. -/
import Derived.Test.YtfkpanpageeklaaDfA
import Derived.Test.YtfkpanpageeklaaLwA
set_option linter.unusedSimpArgs false
set_option linter.unusedVariables false
namespace Go.Proofs.Ytfkpanpageeklaa
open Go.RowKit
theorem ents_mem_iff {rows : List ER} {e : Ent} : e ∈ ents rows ↔ ∃ r ∈ rows, r.e = e := by
  unfold ents
  rw [List.mem_map]
/-- What Get tells, by points. -/
theorem ref_get_e {w : World} {A B : Option Addr} {n c k d : Nat} {rows : List ER} {p : List Nat} (h : EntsAt w A n rows) (hS : SortR k rows) (hk : ∀ r ∈ rows, r.n = k) (hp : Pt w B k p) (hk40 : k ≤ 40) (hn : n ≤ 70368744177664) :
    Calls Try.prog 33 #[.slice A n c, .slice B k d] w fun e w' => e = .returned (.tuple #[.int .u64 (((getE (ents rows) p).getD 0 : Nat) : Int), .bool (getE (ents rows) p).isSome]) ∧ w = w' := by
  refine (ref_get A B n c k d rows p w h hk hp hk40 hn).mono ?_
  rintro e w' ⟨⟨v, ok, rfl, hok, h0, h1⟩, rfl⟩
  refine ⟨?_, rfl⟩
  have hz : Zp k p := hp.zp
  cases hb : ok with
  | false =>
    have hv := h0 hb
    have hg : getE (ents rows) p = none := by
      refine getE_none.2 fun u hu => ?_
      obtain ⟨r, hr, he⟩ := ents_mem_iff.1 hu
      have := ((has_spec hS hz).2).2 ⟨r, hr, congrArg Prod.fst he⟩
      rw [← hok, hb] at this
      cases this
    rw [hg, hv]
    rfl
  | true =>
    obtain ⟨r, hr, hrv⟩ := h1 hb
    have hh : hasR rows p = true := by rw [← hok, hb]
    have hm := has_val (es := ents rows) hS rfl hz hh hr
    rw [getE_of hS.ents hm, hrv]
    rfl
/-- All points of two lists. -/
def PtsOut (w : World) (k n m : Nat) (ra rb : List ER) (e : Ending) (w' : World) : Prop :=
  ∃ (A' : Option Addr) (n' c' : Nat) (rp : List ER), e = .returned (.slice A' n' c') ∧ EntsAt w' A' n' rp ∧ n' ≤ c' ∧ n' ≤ n + m ∧ SortR k rp ∧ (∀ r ∈ rp, r.n = k) ∧ (∀ p, (∃ r ∈ rp, r.p = p) ↔ (∃ r ∈ ra, r.p = p) ∨ (∃ r ∈ rb, r.p = p)) ∧ (∀ r ∈ rp, ∃ q ∈ ra ++ rb, q.A = r.A ∧ q.c = r.c ∧ q.p = r.p) ∧ Below w.heap.size w w'
set_option maxHeartbeats 8000000 in
set_option maxRecDepth 100000 in
theorem ref_points {w : World} {A B : Option Addr} {n m c d k : Nat} {ra rb : List ER} (hA : EntsAt w A n ra) (hnc : n ≤ c) (hS : SortR k ra) (hka : ∀ r ∈ ra, r.n = k) (hB : EntsAt w B m rb) (hkb : ∀ r ∈ rb, r.n = k) (hk : k ≤ 40) (hn : n ≤ 1000) (hm : m ≤ 1000) :
    Calls Try.prog 32 #[.slice A n c, .slice B m d] w (PtsOut w k n m ra rb) := by
  have HA := hide (And.intro hA (And.intro hnc (And.intro hS hka)))
  have HB := hide hB
  have HKB := hide hkb
  clear hA hnc hS hka hB hkb
  go_enter Try.func32, Try.ntmps32
  go_wp2
  go_loopw [0, 5] (fun x0 x5 wr => ∃ (j : Nat) (A' : Option Addr) (n' c' : Nat) (rp : List ER), x0 = .slice A' n' c' ∧ x5 = .int .i64 (j : Int) ∧ j ≤ m ∧ EntsAt wr A' n' rp ∧ n' ≤ c' ∧ n' ≤ n + j ∧ SortR k rp ∧ (∀ r ∈ rp, r.n = k) ∧ (∀ p, (∃ r ∈ rp, r.p = p) ↔ (∃ r ∈ ra, r.p = p) ∨ (∃ r ∈ rb.take j, r.p = p)) ∧ (∀ r ∈ rp, ∃ q ∈ ra ++ rb, q.A = r.A ∧ q.c = r.c ∧ q.p = r.p) ∧ Below w.heap.size w wr) (fun _ x5 _ => m - (intOf x5).toNat)
  case atStart => exact ⟨0, A, n, c, ra, rfl, rfl, Nat.zero_le _, HA.out.1, HA.out.2.1, Nat.le_refl _, HA.out.2.2.1, HA.out.2.2.2, fun p => by simp, fun r hr => ⟨r, List.mem_append_left _ hr, rfl, rfl, rfl⟩, Below.refl _ _⟩
  case round =>
    obtain ⟨j, A', n', c', rp, rfl, rfl, hj, hE, hnc', hnn, hS, hkk, hpt, hpp, hb⟩ := hrel
    have HPP := hide hpp
    clear hpp
    rename World => wz
    have HE := hide (And.intro hE (And.intro hnc' (And.intro hS hkk)))
    have HPT := hide hpt
    have HBL := hide hb
    by_cases hjm : j < m
    · obtain ⟨b, o, r, rfl, hbl, hr, hrok, x0, x1⟩ := (HB.out.below hb).at_ hjm
      have hrn := HKB.out r (List.mem_of_getElem? hr)
      obtain ⟨hp, hcc, hcm, _⟩ := hrok
      rw [hrn] at hp hcc x0
      have HR := hide hr
      have HZ := hide hp.zp
      have HPU := hide (show Calls Try.prog 52 #[.slice A' n' c', .slice r.A k r.c, .int .u64 0] wz fun e w' => ∃ A'' n'' c'', e = .returned (.slice A'' n'' c'') ∧ EntsAt w' A'' n'' (putR rp ⟨r.A, k, r.c, r.p, 0⟩) ∧ n'' ≤ c'' ∧ n'' ≤ n' + 1 ∧ Below wz.heap.size wz w' from ref_put A' r.A n' c' k r.c 0 rp r.p wz hE hnc' hkk hp hcc hcm hk (by omega) (by omega))
      clear hE hnc' hS hkk hpt hb hbl hr hp hcc hcm hrn x1
      go_wp2_with fail
      refine HPU.out.mono ?_
      rintro e w3 ⟨A3, n3, c3, rfl, hE3, hnc3, hn3, hb3⟩
      have HE3 := hide hE3
      have HN3 := hide hnc3
      have HB3 := hide (below_then HBL.out hb3)
      clear hE3 hnc3 hb3 HPU
      go_wp2
      go_roundw
      case rel =>
        obtain ⟨s1, s2⟩ := put_spec (q := ⟨r.A, k, r.c, r.p, 0⟩) HE.out.2.2.1 HZ.out
        refine ⟨j + 1, A3, n3, c3, _, rfl, by go_num, by omega, HE3.out, HN3.out, by omega, s1, fun q hq => ?_, fun p => ?_, fun q hq => ?_, HB3.out⟩
        · rcases (s2 q).1 hq with rfl | h
          · rfl
          · exact HE.out.2.2.2 q h.1
        · have ht : rb.take (j + 1) = rb.take j ++ [r] := by
            rw [List.take_add_one, HR.out]
            rfl
          rw [ht]
          constructor
          · rintro ⟨q, hq, rfl⟩
            rcases (s2 q).1 hq with rfl | h
            · exact .inr ⟨r, by simp, rfl⟩
            · rcases (HPT.out q.p).1 ⟨q, h.1, rfl⟩ with h | ⟨x, hx, hxp⟩
              · exact .inl h
              · exact .inr ⟨x, List.mem_append_left _ hx, hxp⟩
          · intro h
            by_cases hpr : r.p = p
            · subst hpr
              exact ⟨_, (s2 _).2 (.inl rfl), rfl⟩
            · have h2 : (∃ r ∈ ra, r.p = p) ∨ (∃ r ∈ rb.take j, r.p = p) := by
                rcases h with h | ⟨x, hx, hxp⟩
                · exact .inl h
                · rcases List.mem_append.1 hx with hx | hx
                  · exact .inr ⟨x, hx, hxp⟩
                  · rw [List.mem_singleton] at hx
                    subst hx
                    exact absurd hxp hpr
              obtain ⟨q, hq, hqp⟩ := (HPT.out p).2 h2
              exact ⟨q, (s2 q).2 (.inr ⟨hq, fun e => hpr (e.symm.trans hqp)⟩), hqp⟩
        · rcases (s2 q).1 hq with rfl | h
          · exact ⟨r, List.mem_append_right _ (List.mem_of_getElem? HR.out), rfl, rfl, rfl⟩
          · exact HPP.out q h.1
      case measure => simp [intOf]; omega
    · obtain rfl : j = m := by omega
      have HF := hide (show PtsOut w k n j ra rb (.returned (.slice A' n' c')) wz from by
        refine ⟨A', n', c', rp, rfl, HE.out.1, HE.out.2.1, hnn, HE.out.2.2.1, HE.out.2.2.2, fun p => ?_, HPP.out, HBL.out⟩
        have h := HPT.out p
        have hl : rb.take j = rb := List.take_of_length_le (by rw [HB.out.len]; omega)
        rw [hl] at h
        exact h)
      clear hE hnc' hS hkk hpt hb
      go_wp2
      go_ret
      exact HF.out
end Go.Proofs.Ytfkpanpageeklaa
