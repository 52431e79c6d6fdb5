/- pantileref06: Heavy, Place, Get, Level. -/
import Derived.Test.YtkknfnjojamgjaaRef01c
import Derived.Test.YtkknfnjojamgjaaEnts
set_option linter.unusedSimpArgs false
set_option linter.unusedVariables false
namespace Go.Proofs.Ytkknfnjojamgjaa
open Go.RowKit
theorem wrap_i64_sm {n : Int} (h0 : 0 ≤ n) (h1 : n ≤ 70368744177664) : IntKind.i64.wrap n = n := by rw [IntKind.wrap_i64]; omega
theorem wrap64_sm {n : Int} (h0 : 0 ≤ n) (h1 : n ≤ 70368744177664) : wrap64 n = n := by rw [wrap64_of (by omega)]
def notAhead (p : List Nat) (r : ER) : Bool := decide (0 ≤ cmp r.p p)
/-- Where a point stands or would stand. -/
def plR (rows : List ER) (p : List Nat) : Nat := rows.findIdx (notAhead p)
def hasR (rows : List ER) (p : List Nat) : Bool := match rows[plR rows p]? with | some r => decide (cmp r.p p = 0) | none => false
theorem plR_found {rows : List ER} {p : List Nat} {j : Nat} {r : ER} (hr : rows[j]? = some r) (h : 0 ≤ cmp r.p p) (hlt : ∀ (i : Nat) (s : ER), i < j → rows[i]? = some s → cmp s.p p < 0) :
    plR rows p = j ∧ hasR rows p = decide (cmp r.p p = 0) := by
  have hj := (List.getElem?_eq_some_iff.1 hr).1
  have hv := (List.getElem?_eq_some_iff.1 hr).2
  have h1 : plR rows p = j := by
    unfold plR
    rw [List.findIdx_eq hj]
    refine ⟨by rw [hv]; unfold notAhead; simpa using h, fun i hi => ?_⟩
    have hil : i < rows.length := by omega
    have := hlt i rows[i] hi (List.getElem?_eq_getElem hil)
    unfold notAhead
    simp; omega
  refine ⟨h1, ?_⟩
  unfold hasR
  rw [h1, hr]
theorem plR_none {rows : List ER} {p : List Nat} (hlt : ∀ (i : Nat) (s : ER), rows[i]? = some s → cmp s.p p < 0) : plR rows p = rows.length ∧ hasR rows p = false := by
  have h1 : plR rows p = rows.length := by
    unfold plR
    rw [List.findIdx_eq_length]
    intro r hr
    obtain ⟨i, hi⟩ := List.getElem?_of_mem hr
    have := hlt i r hi
    unfold notAhead
    simp; omega
  refine ⟨h1, ?_⟩
  unfold hasR
  rw [h1, List.getElem?_eq_none (Nat.le_refl _)]
set_option maxHeartbeats 2000000 in
set_option maxRecDepth 100000 in
theorem ref_place (A B : Option Addr) (n c k d : Nat) (rows : List ER) (p : List Nat) (w : World) (h : EntsAt w A n rows) (hk : ∀ r ∈ rows, r.n = k) (hp : Pt w B k p) (hk40 : k ≤ 40) (hn : n ≤ 70368744177664) :
    Calls Try.prog 123 #[.slice A n c, .slice B k d] w fun e w' => e = .returned (.tuple #[.int .i64 (plR rows p : Nat), .bool (hasR rows p)]) ∧ w = w' := by
  have HE := hide h
  have HP := hide hp
  have HK := hide hk
  clear h hp hk
  go_enter Try.func123, Try.ntmps123
  go_wp2
  go_loop [6] (fun x => ∃ (j : Nat), x = .int .i64 j ∧ j ≤ n ∧ ∀ (i : Nat) (s : ER), i < j → rows[i]? = some s → cmp s.p p < 0) (fun x => n - (intOf x).toNat)
  case atStart => exact ⟨0, rfl, Nat.zero_le _, fun i s hi => by omega⟩
  case round =>
    obtain ⟨j, rfl, hj, hlt⟩ := hrel
    have HLT := hide hlt
    clear hlt
    by_cases hjn : j < n
    · obtain ⟨b, o, r, rfl, hbl, hr, hok, k0, k1⟩ := HE.out.at_ hjn
      have hrk := HK.out r (List.mem_of_getElem? hr)
      have hpr := hok.1
      rw [hrk] at hpr k0
      have HC := hide (ref_cmp r.A B k r.c d r.p p w hpr HP.out hk40)
      have HR := hide hr
      clear hr hok hrk hpr k1
      rcases cmp_cases r.p p with hc | hc | hc
      · rw [hc] at HC
        have HCV := hide hc
        clear hc
        go_wp2_with fail
        refine HC.out.mono ?_
        rintro e w1 ⟨rfl, rfl⟩
        go_wp2
        go_round
        case rel =>
          refine ⟨j + 1, by go_num, by omega, fun i s hi hs => ?_⟩
          rcases Nat.lt_or_ge i j with h1 | h1
          · exact HLT.out i s h1 hs
          · have h2 := HR.out
            rw [show j = i by omega] at h2
            rw [h2] at hs
            injection hs with hs
            rw [← hs, HCV.out]
            omega
        case measure => simp [intOf]; omega
      · obtain ⟨g1, g2⟩ := plR_found HR.out (by omega : 0 ≤ cmp r.p p) HLT.out
        rw [hc] at HC
        have hc2 : hasR rows p = true := by rw [g2, hc]; rfl
        have HG := hide (And.intro g1 hc2)
        clear hc g1 g2 hc2
        go_wp2_with fail
        refine HC.out.mono ?_
        rintro e w1 ⟨rfl, rfl⟩
        go_wp2
        go_ret2
        rw [HG.out.1, HG.out.2]
        exact ⟨rfl, rfl⟩
      · obtain ⟨g1, g2⟩ := plR_found HR.out (by omega : 0 ≤ cmp r.p p) HLT.out
        rw [hc] at HC
        have hc2 : hasR rows p = false := by rw [g2, hc]; rfl
        have HG := hide (And.intro g1 hc2)
        clear hc g1 g2 hc2
        go_wp2_with fail
        refine HC.out.mono ?_
        rintro e w1 ⟨rfl, rfl⟩
        go_wp2
        go_ret2
        rw [HG.out.1, HG.out.2]
        exact ⟨rfl, rfl⟩
    · obtain rfl : j = n := by omega
      have hl := HE.out.len
      obtain ⟨g1, g2⟩ := plR_none (rows := rows) (p := p) fun i s hs => HLT.out i s (by have := (List.getElem?_eq_some_iff.1 hs).1; omega) hs
      rw [hl] at g1
      have HG := hide (And.intro g1 g2)
      clear hl g1 g2
      go_wp2
      go_ret2
      rw [HG.out.1, HG.out.2]
      exact ⟨rfl, rfl⟩
set_option maxHeartbeats 2000000 in
set_option maxRecDepth 100000 in
theorem ref_get (A B : Option Addr) (n c k d : Nat) (rows : List ER) (p : List Nat) (w : World) (h : EntsAt w A n rows) (hk : ∀ r ∈ rows, r.n = k) (hp : Pt w B k p) (hk40 : k ≤ 40) (hn : n ≤ 70368744177664) :
    Calls Try.prog 75 #[.slice A n c, .slice B k d] w fun e w' => (∃ (v : Nat) (ok : Bool), e = .returned (.tuple #[.int .u64 (v : Int), .bool ok]) ∧ ok = hasR rows p ∧ (ok = false → v = 0) ∧ (ok = true → ∃ r, rows[plR rows p]? = some r ∧ r.v = v)) ∧ w = w' := by
  have HC := hide (ref_place A B n c k d rows p w h hk hp hk40 hn)
  have HE := hide h
  clear h hp hk
  cases hh : hasR rows p with
  | false =>
    rw [hh] at HC
    clear hh
    go_enter Try.func75, Try.ntmps75
    go_wp2_with fail
    refine HC.out.mono ?_
    rintro e w1 ⟨rfl, rfl⟩
    go_wp2
    go_ret2
    exact ⟨⟨0, false, rfl, rfl, fun _ => rfl, fun h => by cases h⟩, rfl⟩
  | true =>
    have hlt : plR rows p < n := by
      unfold hasR at hh
      split at hh
      · rename_i r hr
        have := (List.getElem?_eq_some_iff.1 hr).1
        rwa [HE.out.len] at this
      · cases hh
    obtain ⟨b, o, r, rfl, hbl, hr, hok, k0, k1⟩ := HE.out.at_ hlt
    rw [hh] at HC
    have HR := hide hr
    clear hh hr hok
    generalize plR rows p = at_ at *
    go_enter Try.func75, Try.ntmps75
    go_wp2_with fail
    refine HC.out.mono ?_
    rintro e w1 ⟨rfl, rfl⟩
    go_wp2
    go_ret2
    exact ⟨⟨r.v, true, rfl, rfl, (fun h => by cases h), fun _ => ⟨r, HR.out, rfl⟩⟩, rfl⟩
set_option maxHeartbeats 2000000 in
set_option maxRecDepth 100000 in
theorem ref_level (A : Option Addr) (n c k : Nat) (rows : List ER) (r s : ER) (w : World) (h : EntsAt w A n rows) (hr : rows[0]? = some r) (hs : rows[n - 1]? = some s) (hrk : r.n = k) (hsk : s.n = k) (hk40 : k ≤ 40) (hn : n ≤ 70368744177664) (hn1 : 1 ≤ n) :
    Calls Try.prog 136 #[.slice A n c] w fun e w' => e = .returned (.int .i64 (part r.p s.p)) ∧ Below w.heap.size w w' := by
  obtain ⟨b, o, r', rfl, hbl, hr', hok, k0, -⟩ := h.at_ (i := 0) (by omega)
  rw [hr] at hr'
  injection hr' with hr'
  subst hr'
  obtain ⟨b', o', s', hb', hbl', hs', hok', k1, -⟩ := h.at_ (i := n - 1) (by omega)
  injection hb' with hb'
  injection hb' with h1 h2
  subst h1 h2
  rw [hs] at hs'
  injection hs' with hs'
  subst hs'
  have hp := hok.1
  have hq := hok'.1
  rw [hrk] at hp k0
  rw [hsk] at hq k1
  have HP := hide hp
  have HQ := hide hq
  simp only [Nat.zero_mul, Nat.add_zero] at k0
  obtain ⟨i, hi⟩ : ∃ i, i = n - 1 := ⟨_, rfl⟩
  rw [← hi] at k1
  have e2 : (n : Int) - 1 = (i : Int) := by omega
  have hin : i < n := by omega
  have hi0 : (0 : Int) ≤ (i : Int) := by omega
  have hi7 : (i : Int) ≤ 70368744177664 := by omega
  have e5 := wrap_i64_sm hi0 hi7
  have e6 := wrap64_sm hi0 hi7
  have hin' : (i : Int) < (n : Int) := by omega
  have hn0 : 0 < n := by omega
  have hn0' : (0 : Int) < (n : Int) := by omega
  clear h hr hs hok hok' hp hq hrk hsk hbl' hi
  go_enter Try.func136, Try.ntmps136
  go_wp2_with fail
  go_region_held3 (fun w' => w'.cell? ⟨b, o, none⟩ = some (.slice r.A k r.c) ∧ w'.cell? ⟨b, o + i * 2, none⟩ = some (.slice s.A k s.c))
    (first
      | go_keep)
    (first
      | (go_at_call 53
         refine (ref_part r.A s.A k r.c s.c r.p s.p w.drew (HP.out.below (Below.refl _ w).drew) (HQ.out.below (Below.refl _ w).drew) hk40).mono ?_
         rintro e w2 ⟨rfl, rfl⟩))
  go_wp2
  go_ret
  exact ⟨rfl, (Below.refl _ w).drew⟩
end Go.Proofs.Ytkknfnjojamgjaa
