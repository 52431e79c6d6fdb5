/- poly: On, Winds. -/
import Derived.Test.YtlgdllohmmmegaaPyP
set_option linter.unusedSimpArgs false
set_option linter.unusedVariables false
namespace Go.Proofs.Ytlgdllohmmmegaa
open Go.RowKit
theorem num_fine {p : List Nat} (h : small p = true) : numVal p = cz p ∧ numCode p = 0 := ⟨by unfold numVal; rw [h]; rfl, by
  obtain ⟨x, y, hp, _⟩ := small_iff h
  unfold numCode
  rw [h, hp]
  rfl⟩
theorem num_bad {p : List Nat} (h : small p = false) : numCode p = 2 ∨ numCode p = 3 := by
  unfold numCode
  rw [h]
  split
  · exact .inl rfl
  · exact .inr rfl
/-- The first error of an outline and a point. -/
def onCode (ps : List (List Nat)) (p : List Nat) : Int := if rightL ps then numCode p else 9
set_option maxHeartbeats 8000000 in
set_option maxRecDepth 100000 in
theorem py_On {w : World} {A B : Option Addr} {n c m d : Nat} {rows : List LP} {p : List Nat} (h : LpsAt w A n rows) (hn : n ≤ 1000000) (hp : Pt w B m p) :
    Calls Try.prog 12 #[.slice A n c, .slice B m d] w fun e w' => e = .returned (.tuple #[.bool (rightL (rows.map LP.p) && (small p && onL (rows.map LP.p) p)), .int .i64 (onCode (rows.map LP.p) p)]) ∧ Below w.heap.size w w' := by
  have HO := hide (py_open (c := c) h hn)
  have HNB := hide (fun W (hW : Below w.heap.size w W) => py_number (c := d) (hp.below hW))
  clear h hp
  generalize rows.map LP.p = ps at *
  cases hr : rightL ps with
  | false =>
    have HC := hide (show onCode ps p = 9 by unfold onCode; rw [hr]; rfl)
    rw [HC.out, Bool.false_and]
    have HR := hide hr
    clear hr
    go_enter Try.func12, Try.ntmps12
    go_wp2_with fail
    refine HO.out.mono ?_
    rintro e w1 ⟨⟨_, rfl⟩ | ⟨hf, _⟩, hb⟩
    · have HB := hide hb
      clear hb
      go_wp2
      go_ret2
      exact ⟨rfl, HB.out⟩
    · rw [HR.out] at hf
      cases hf
  | true =>
    have HC := hide (show onCode ps p = numCode p by unfold onCode; rw [hr]; rfl)
    rw [HC.out, Bool.true_and]
    have HR := hide hr
    clear hr
    cases hs : small p with
    | false =>
      rw [Bool.false_and]
      rcases num_bad hs with hc | hc
      all_goals
        rw [hc] at HNB ⊢
        generalize numVal p = nv at *
        clear hs hc
        go_enter Try.func12, Try.ntmps12
        go_wp2_with fail
        refine HO.out.mono ?_
        rintro e w1 ⟨⟨hf, _⟩ | ⟨_, A1, rfl, hRw⟩, hb⟩
        · rw [HR.out] at hf
          cases hf
        have HNC := hide (HNB.out _ hb)
        have HB := hide hb
        clear hb hRw
        go_wp2_with fail
        refine HNC.out.mono ?_
        rintro e w2 ⟨rfl, hb⟩
        have HB2 := hide (below_then HB.out hb)
        clear hb
        go_wp2
        go_ret2
        exact ⟨rfl, HB2.out⟩
    | true =>
      rw [Bool.true_and]
      obtain ⟨hv, hc⟩ := num_fine hs
      rw [hc, hv] at HNB
      rw [hc]
      have HON := hide (fun W A1 (hRw : Rw W 1 A1 ps.length (ps.map cz)) => py_ring_on (c := ps.length) hRw HR.out hs)
      obtain ⟨xp, yp, ep⟩ : ∃ a b, cz p = .complex .f64 a b := ⟨_, _, rfl⟩
      rw [ep] at HNB HON
      clear hs hc hv ep
      go_enter Try.func12, Try.ntmps12
      go_wp2_with fail
      refine HO.out.mono ?_
      rintro e w1 ⟨⟨hf, _⟩ | ⟨_, A1, rfl, hRw⟩, hb⟩
      · rw [HR.out] at hf
        cases hf
      have HNC := hide (HNB.out _ hb)
      have HRW := hide hRw
      have HB := hide hb
      clear hb hRw
      go_wp2_with fail
      refine HNC.out.mono ?_
      rintro e w2 ⟨rfl, hb⟩
      have HB2 := hide (below_then HB.out hb)
      have HOC := hide (HON.out w2 A1 (HRW.out.below hb))
      clear hb HNC
      go_wp2_with fail
      refine HOC.out.mono ?_
      rintro e w3 ⟨rfl, hb⟩
      have HB3 := hide (below_then HB2.out hb)
      clear hb HOC
      go_wp2
      go_ret2
      exact ⟨rfl, HB3.out⟩
set_option maxHeartbeats 8000000 in
set_option maxRecDepth 100000 in
theorem py_Winds {w : World} {A B : Option Addr} {n c m d : Nat} {rows : List LP} {p : List Nat} (h : LpsAt w A n rows) (hn : n ≤ 1000000) (hp : Pt w B m p) (hr : rightL (rows.map LP.p) = true) (hs : small p = true) :
    Calls Try.prog 11 #[.slice A n c, .slice B m d] w fun e w' => e = .returned (.tuple #[.int .i64 (windsL (rows.map LP.p) p), .int .i64 0]) ∧ Below w.heap.size w w' := by
  have hon := py_On (c := c) (d := d) h hn hp
  have HOP := hide (fun W (hW : Below w.heap.size w W) => py_open (c := c) (h.below hW) hn)
  have HNB := hide (fun W (hW : Below w.heap.size w W) => py_number (c := d) (hp.below hW))
  clear h hp
  generalize rows.map LP.p = ps at *
  obtain ⟨hv, hc⟩ := num_fine hs
  rw [hr, hs, Bool.true_and, Bool.true_and, show onCode ps p = 0 by unfold onCode; rw [hr]; exact hc] at hon
  rw [hc, hv] at HNB
  have HR := hide hr
  have HS := hide hs
  clear hr hs hc hv
  cases ho : onL ps p with
  | true =>
    have HW := hide (show windsL ps p = 0 by unfold windsL; rw [ho]; rfl)
    rw [HW.out]
    rw [ho] at hon
    have HON := hide hon
    clear hon ho
    go_enter Try.func11, Try.ntmps11
    go_wp2_with fail
    refine HON.out.mono ?_
    rintro e w1 ⟨rfl, hb⟩
    have HB := hide hb
    clear hb HON
    go_wp2
    go_ret2
    exact ⟨rfl, HB.out⟩
  | false =>
    have HW := hide (show windsL ps p = wndL ps p by unfold windsL; rw [ho]; rfl)
    rw [HW.out]
    rw [ho] at hon
    have HON := hide hon
    have HWI := hide (fun W A1 (hRw : Rw W 1 A1 ps.length (ps.map cz)) => py_ring_winds (c := ps.length) hRw HR.out HS.out)
    obtain ⟨xp, yp, ep⟩ : ∃ a b, cz p = .complex .f64 a b := ⟨_, _, rfl⟩
    rw [ep] at HNB HWI
    clear hon ho ep
    go_enter Try.func11, Try.ntmps11
    go_wp2_with fail
    refine HON.out.mono ?_
    rintro e w1 ⟨rfl, hb⟩
    have HB := hide hb
    have HOC := hide (HOP.out _ hb)
    clear hb HON
    go_wp2_with fail
    refine HOC.out.mono ?_
    rintro e w2 ⟨⟨hf, _⟩ | ⟨_, A1, rfl, hRw⟩, hb⟩
    · rw [HR.out] at hf
      cases hf
    have HB2 := hide (below_then HB.out hb)
    have HNC := hide (HNB.out _ HB2.out)
    have HRW := hide hRw
    clear hb hRw HOC
    go_wp2_with fail
    refine HNC.out.mono ?_
    rintro e w3 ⟨rfl, hb⟩
    have HB3 := hide (below_then HB2.out hb)
    have HWC := hide (HWI.out w3 A1 (HRW.out.below hb))
    clear hb HNC
    go_wp2_with fail
    refine HWC.out.mono ?_
    rintro e w4 ⟨rfl, hb⟩
    have HB4 := hide (below_then HB3.out hb)
    clear hb HWC
    go_wp2
    go_ret2
    exact ⟨rfl, HB4.out⟩
set_option maxHeartbeats 8000000 in
set_option maxRecDepth 100000 in
theorem py_Winds_bad {w : World} {A B : Option Addr} {n c m d : Nat} {rows : List LP} {p : List Nat} (h : LpsAt w A n rows) (hn : n ≤ 1000000) (hp : Pt w B m p) (hrs : rightL (rows.map LP.p) = false ∨ small p = false) :
    Calls Try.prog 11 #[.slice A n c, .slice B m d] w fun e w' => e = .returned (.tuple #[.int .i64 0, .int .i64 (onCode (rows.map LP.p) p)]) ∧ Below w.heap.size w w' := by
  have hon := py_On (c := c) (d := d) h hn hp
  clear h hp
  generalize rows.map LP.p = ps at *
  rw [show (rightL ps && (small p && onL ps p)) = false by rcases hrs with h | h <;> simp [h]] at hon
  have hc : onCode ps p = 9 ∨ onCode ps p = 2 ∨ onCode ps p = 3 := by
    unfold onCode
    cases hr : rightL ps with
    | false => exact .inl rfl
    | true =>
      rcases hrs with h | h
      · rw [hr] at h
        cases h
      · rcases num_bad h with h | h
        · exact .inr (.inl h)
        · exact .inr (.inr h)
  clear hrs
  generalize onCode ps p = oc at *
  have HON := hide hon
  clear hon
  rcases hc with rfl | rfl | rfl
  all_goals
    go_enter Try.func11, Try.ntmps11
    go_wp2_with fail
    refine HON.out.mono ?_
    rintro e w1 ⟨rfl, hb⟩
    have HB := hide hb
    clear hb HON
    go_wp2
    go_ret2
    exact ⟨rfl, HB.out⟩
end Go.Proofs.Ytlgdllohmmmegaa
