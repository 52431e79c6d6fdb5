/- poly: points and outlines. -/
import Derived.Test.YtlgdllohmmmegaaPyA
import Derived.Deep.RegionHeld3
import Derived.Deep.Cut
set_option linter.unusedSimpArgs false
set_option linter.unusedVariables false
namespace Go.Proofs.Ytlgdllohmmmegaa
open Go.RowKit
/-- A point of an outline in memory. -/
structure LP where
  A : Option Addr
  n : Nat
  c : Nat
  p : List Nat
def lpv (r : LP) : List Value := [.slice r.A r.n r.c]
theorem lpv_len (r : LP) : (lpv r).length = 1 := rfl
def LP.ok (w : World) (r : LP) : Prop := Pt w r.A r.n r.p ∧ r.n ≤ r.c ∧ r.c ≤ maxLen
def LpsAt (w : World) (A : Option Addr) (n : Nat) (rows : List LP) : Prop := Rw w 1 A n (rows.flatMap lpv) ∧ ∀ r ∈ rows, r.ok w
section
variable {w w' : World} {A : Option Addr} {n : Nat} {rows : List LP} {r : LP}
theorem LP.ok.below (h : r.ok w) (hb : Below w.heap.size w w') : r.ok w' := ⟨h.1.below hb, h.2⟩
theorem LpsAt.below (h : LpsAt w A n rows) (hb : Below w.heap.size w w') : LpsAt w' A n rows := ⟨h.1.below hb, fun r hr => (h.2 r hr).below hb⟩
theorem LpsAt.len (h : LpsAt w A n rows) : rows.length = n := by
  have := h.1.1
  rw [flat_length lpv_len] at this
  omega
theorem LpsAt.at_ {i : Nat} (h : LpsAt w A n rows) (hi : i < n) : ∃ b o r, A = some ⟨b, o, none⟩ ∧ b < w.heap.size ∧ rows[i]? = some r ∧ r.ok w ∧ w.cell? ⟨b, o + i, none⟩ = some (.slice r.A r.n r.c) := by
  obtain ⟨b, o, r, hA, hb, hr, hc⟩ := h.1.elem lpv_len hi (by omega)
  have := hc 0 _ rfl
  rw [Nat.mul_one] at this
  exact ⟨b, o, r, hA, hb, hr, h.2 r (List.mem_of_getElem? hr), this⟩
end
/-- Is a list a small point? -/
def small (p : List Nat) : Bool := decide (p.length = 2) && p.all fun x => decide (x < 1048576)
theorem small_two {x y : Nat} : small [x, y] = (decide (x < 1048576) && decide (y < 1048576)) := by
  unfold small
  simp
theorem small_not {p : List Nat} (h : p.length ≠ 2) : small p = false := by
  unfold small
  simp [h]
theorem pt_two {w : World} {A : Option Addr} {n : Nat} {p : List Nat} (h : Pt w A n p) (h2 : n = 2) : ∃ b o x y, A = some ⟨b, o, none⟩ ∧ b < w.heap.size ∧ p = [x, y] ∧ w.cell? ⟨b, o, none⟩ = some (.int .u64 (x : Int)) ∧ w.cell? ⟨b, o + 1, none⟩ = some (.int .u64 (y : Int)) := by
  subst h2
  obtain ⟨b, o, x, hA, hb, hx, _, hc⟩ := h.at_ (k := 0) (by omega)
  obtain ⟨b', o', y, hA', _, hy, _, hc'⟩ := h.at_ (k := 1) (by omega)
  rw [hA] at hA'
  injection hA' with h1
  injection h1 with h2 h3
  subst h2 h3
  refine ⟨b, o, x, y, hA, hb, ?_, hc, hc'⟩
  have hl := h.len
  match p, hl with
  | [a, c], _ =>
    simp at hx hy
    rw [hx, hy]
set_option maxHeartbeats 8000000 in
set_option maxRecDepth 100000 in
theorem ref27_small {w : World} {A : Option Addr} {n c : Nat} {p : List Nat} (h : Pt w A n p) : Calls Try.prog 8 #[.slice A n c] w fun e w' => e = .returned (.bool (small p)) ∧ w = w' := by
  by_cases h2 : n = 2
  · obtain ⟨b, o, x, y, rfl, hb, rfl, x0, x1⟩ := pt_two h h2
    subst h2
    rw [small_two]
    clear h hb
    by_cases c1 : x < 1048576
    · rw [decide_eq_true c1, Bool.true_and]
      have e1 : decide ((x : Int) < 1048576) = true := by rw [decide_eq_true_eq]; omega
      clear c1
      obtain ⟨t, ht⟩ : ∃ t, t = decide (y < 1048576) := ⟨_, rfl⟩
      rw [← ht]
      have e2 : decide ((y : Int) < 1048576) = t := by rw [ht, Bool.eq_iff_iff, decide_eq_true_eq, decide_eq_true_eq]; omega
      clear ht
      go_enter Try.func8, Try.ntmps8
      go_wp2
      go_ret
      exact ⟨rfl, rfl⟩
    · rw [decide_eq_false c1, Bool.false_and]
      have e1 : decide ((x : Int) < 1048576) = false := by rw [decide_eq_false_iff_not]; omega
      clear c1
      go_enter Try.func8, Try.ntmps8
      go_wp2
      go_ret
      exact ⟨rfl, rfl⟩
  · have e1 : ((n : Int) == 2) = false := by simp; omega
    rw [small_not (by rw [h.len]; exact h2)]
    clear h
    go_enter Try.func8, Try.ntmps8
    go_wp2
    go_ret
    exact ⟨rfl, rfl⟩
set_option maxHeartbeats 8000000 in
set_option maxRecDepth 100000 in
theorem ref28_heavy {w : World} {A : Option Addr} {n c m : Nat} {rows : List LP} (h : LpsAt w A n rows) (hm : m ≤ 400) : Calls Try.prog 6 #[.slice A n c, .int .i64 (m : Int)] w fun e w' => ((e = .returned (.bool true)) ∨ (e = .returned (.bool false) ∧ (n ≤ m ∨ 400 < n ∧ n ≤ 500) ∧ ∀ r ∈ rows, r.n ≤ 40)) ∧ Below w.heap.size w w' := by
  have HA := hide h
  clear h
  by_cases c3 : n ≤ m
  · have e1 : decide ((m : Int) < (n : Int)) = false := by simp; omega
    have e2 : decide (m < n) = false := by simp; omega
    have e3 : decide ((500 : Int) < (n : Int)) = false := by simp; omega
    have e4 : decide (500 < n) = false := by simp; omega
    have HN := hide (show n ≤ m ∨ 400 < n ∧ n ≤ 500 from .inl c3)
    have hn5 : n ≤ 500 := by omega
    clear c3
    go_enter Try.func6, Try.ntmps6
    go_wp2
    go_loopw [5] (fun x wr => ∃ j : Nat, x = .int .i64 (j : Int) ∧ j ≤ n ∧ (∀ r ∈ rows.take j, r.n ≤ 40) ∧ Below w.heap.size w wr) (fun x _ => n - (intOf x).toNat)
    case atStart => exact ⟨0, rfl, Nat.zero_le _, fun r hr => (by simp at hr), Below.refl _ _⟩
    case round =>
      obtain ⟨j, rfl, hj, hr, hb⟩ := hrel
      rename World => wz
      have HR := hide hr
      have HB := hide hb
      by_cases hjn : j < n
      · obtain ⟨b, o, r, rfl, hbl, hq, hok, x0⟩ := (HA.out.below hb).at_ hjn
        have HQ := hide hq
        clear hr hb hbl hq hok
        by_cases c4 : r.n ≤ 40
        · have f1 : decide ((40 : Int) < (r.n : Int)) = false := by simp; omega
          have f2 : decide (40 < r.n) = false := by simp; omega
          have HC := hide c4
          clear c4
          go_wp2
          go_roundw
          case rel => exact ⟨j + 1, by go_num, by omega, fun q hq => by
            rw [List.take_add_one, HQ.out] at hq
            rcases List.mem_append.1 hq with h | h
            · exact HR.out q h
            · simp at h
              subst h
              exact HC.out, HB.out⟩
          case measure => simp [intOf]; omega
        · have f1 : decide ((40 : Int) < (r.n : Int)) = true := by simp; omega
          have f2 : decide (40 < r.n) = true := by simp; omega
          clear c4
          go_wp2
          go_ret
          exact ⟨.inl rfl, HB.out⟩
      · obtain rfl : j = n := by omega
        have HF := hide (show ∀ r ∈ rows, r.n ≤ 40 from fun r h => by
          have hl : rows.take j = rows := List.take_of_length_le (by rw [HA.out.len]; omega)
          rw [hl] at hr
          exact hr r h)
        clear hr hb
        go_wp2
        go_ret
        exact ⟨.inr ⟨rfl, HN.out, HF.out⟩, HB.out⟩
  · by_cases c1 : n ≤ 400
    · have e1 : decide ((m : Int) < (n : Int)) = true := by simp; omega
      have e2 : decide (m < n) = true := by simp; omega
      have e3 : decide ((n : Int) ≤ 400) = true := by simp; omega
      have e4 : decide (n ≤ 400) = true := by simp; omega
      go_enter Try.func6, Try.ntmps6
      go_wp2
      go_ret
      exact ⟨.inl rfl, Below.refl _ _⟩
    · have e1 : decide ((m : Int) < (n : Int)) = true := by simp; omega
      have e2 : decide (m < n) = true := by simp; omega
      have e3 : decide ((n : Int) ≤ 400) = false := by simp; omega
      have e4 : decide (n ≤ 400) = false := by simp; omega
      by_cases c2 : n ≤ 500
      · have e5 : decide ((500 : Int) < (n : Int)) = false := by simp; omega
        have e6 : decide (500 < n) = false := by simp; omega
        have HN := hide (show n ≤ m ∨ 400 < n ∧ n ≤ 500 from .inr ⟨by omega, c2⟩)
        have hn5 : n ≤ 500 := c2
        clear c1 c2 c3
        go_enter Try.func6, Try.ntmps6
        go_wp2
        go_loopw [5] (fun x wr => ∃ j : Nat, x = .int .i64 (j : Int) ∧ j ≤ n ∧ (∀ r ∈ rows.take j, r.n ≤ 40) ∧ Below w.heap.size w wr) (fun x _ => n - (intOf x).toNat)
        case atStart => exact ⟨0, rfl, Nat.zero_le _, fun r hr => (by simp at hr), Below.refl _ _⟩
        case round =>
          obtain ⟨j, rfl, hj, hr, hb⟩ := hrel
          rename World => wz
          have HR := hide hr
          have HB := hide hb
          by_cases hjn : j < n
          · obtain ⟨b, o, r, rfl, hbl, hq, hok, x0⟩ := (HA.out.below hb).at_ hjn
            have HQ := hide hq
            clear hr hb hbl hq hok
            by_cases c4 : r.n ≤ 40
            · have f1 : decide ((40 : Int) < (r.n : Int)) = false := by simp; omega
              have f2 : decide (40 < r.n) = false := by simp; omega
              have HC := hide c4
              clear c4
              go_wp2
              go_roundw
              case rel => exact ⟨j + 1, by go_num, by omega, fun q hq => by
                rw [List.take_add_one, HQ.out] at hq
                rcases List.mem_append.1 hq with h | h
                · exact HR.out q h
                · simp at h
                  subst h
                  exact HC.out, HB.out⟩
              case measure => simp [intOf]; omega
            · have f1 : decide ((40 : Int) < (r.n : Int)) = true := by simp; omega
              have f2 : decide (40 < r.n) = true := by simp; omega
              clear c4
              go_wp2
              go_ret
              exact ⟨.inl rfl, HB.out⟩
          · obtain rfl : j = n := by omega
            have HF := hide (show ∀ r ∈ rows, r.n ≤ 40 from fun r h => by
              have hl : rows.take j = rows := List.take_of_length_le (by rw [HA.out.len]; omega)
              rw [hl] at hr
              exact hr r h)
            clear hr hb
            go_wp2
            go_ret
            exact ⟨.inr ⟨rfl, HN.out, HF.out⟩, HB.out⟩
      · have e5 : decide ((500 : Int) < (n : Int)) = true := by simp; omega
        have e6 : decide (500 < n) = true := by simp; omega
        go_enter Try.func6, Try.ntmps6
        go_wp2
        go_ret
        exact ⟨.inl rfl, Below.refl _ _⟩
/-- Is a list of points an outline? -/
def rightL (ps : List (List Nat)) : Bool := decide (3 ≤ ps.length ∧ ps.length ≤ 400) && ps.all small
theorem right_snoc {rows : List LP} {j : Nat} {r : LP} (h : rows[j]? = some r) : ((rows.take (j + 1)).map LP.p).all small = (((rows.take j).map LP.p).all small && small r.p) := by
  rw [List.take_add_one, h, List.map_append, List.all_append]
  simp
theorem right_stop {rows : List LP} {j : Nat} {r : LP} (h : rows[j]? = some r) (hs : small r.p = false) : (rows.map LP.p).all small = false := by
  rw [Bool.eq_false_iff]
  intro h2
  rw [List.all_eq_true] at h2
  have := h2 r.p (List.mem_map.2 ⟨r, List.mem_of_getElem? h, rfl⟩)
  rw [hs] at this
  cases this
set_option maxHeartbeats 8000000 in
set_option maxRecDepth 100000 in
theorem ref28_right {w : World} {A : Option Addr} {n c : Nat} {rows : List LP} (h : LpsAt w A n rows) : Calls Try.prog 7 #[.slice A n c] w fun e w' => e = .returned (.bool (rightL (rows.map LP.p))) ∧ Below w.heap.size w w' := by
  have HA := hide h
  have HLN := hide (show (rows.map LP.p).length = n by rw [List.length_map, h.len])
  clear h
  by_cases c1 : n < 3
  · have e1 : decide ((n : Int) < 3) = true := by simp; omega
    have e2 : decide (n < 3) = true := by simp; omega
    have HF := hide (show rightL (rows.map LP.p) = false by unfold rightL; rw [HLN.out, decide_eq_false (by omega), Bool.false_and])
    go_enter Try.func7, Try.ntmps7
    go_wp2
    go_ret
    exact ⟨by rw [HF.out]; rfl, Below.refl _ _⟩
  · have e1 : decide ((n : Int) < 3) = false := by simp; omega
    have e2 : decide (n < 3) = false := by simp; omega
    by_cases c2 : n ≤ 400
    · have e3 : decide ((400 : Int) < (n : Int)) = false := by simp; omega
      have e4 : decide (400 < n) = false := by simp; omega
      have HN := hide (show 3 ≤ n ∧ n ≤ 400 from ⟨by omega, c2⟩)
      have hn4 : n ≤ 400 := c2
      clear c1 c2
      go_enter Try.func7, Try.ntmps7
      go_wp2
      go_loopw [3] (fun x wr => ∃ j : Nat, x = .int .i64 (j : Int) ∧ j ≤ n ∧ ((rows.take j).map LP.p).all small = true ∧ Below w.heap.size w wr) (fun x _ => n - (intOf x).toNat)
      case atStart => exact ⟨0, rfl, Nat.zero_le _, rfl, Below.refl _ _⟩
      case round =>
        obtain ⟨j, rfl, hj, hr, hb⟩ := hrel
        rename World => wz
        have HR := hide hr
        have HB := hide hb
        by_cases hjn : j < n
        · obtain ⟨b, o, r, rfl, hbl, hq, hok, x0⟩ := (HA.out.below hb).at_ hjn
          have HQ := hide hq
          have HS := hide (ref27_small (c := r.c) hok.1)
          clear hr hb hbl hq hok
          cases hs : small r.p with
          | true =>
            rw [hs] at HS
            have HSN := hide (right_snoc HQ.out)
            rw [HR.out, hs] at HSN
            clear hs
            go_wp2_with fail
            refine HS.out.mono ?_
            rintro e w2 ⟨rfl, rfl⟩
            go_wp2
            go_roundw
            case rel => exact ⟨j + 1, by go_num, by omega, HSN.out, HB.out⟩
            case measure => simp [intOf]; omega
          | false =>
            rw [hs] at HS
            have HST := hide (right_stop HQ.out hs)
            clear hs
            go_wp2_with fail
            refine HS.out.mono ?_
            rintro e w2 ⟨rfl, rfl⟩
            go_wp2
            go_ret
            exact ⟨by unfold rightL; rw [HST.out, Bool.and_false]; rfl, HB.out⟩
        · obtain rfl : j = n := by omega
          have HF := hide (show (rows.map LP.p).all small = true from by
            have hl : rows.take j = rows := List.take_of_length_le (by rw [HA.out.len]; omega)
            rw [hl] at hr
            exact hr)
          clear hr hb
          go_wp2
          go_ret
          exact ⟨by unfold rightL; rw [HF.out, HLN.out]; simp [HN.out], HB.out⟩
    · have e3 : decide ((400 : Int) < (n : Int)) = true := by simp; omega
      have e4 : decide (400 < n) = true := by simp; omega
      have HF := hide (show rightL (rows.map LP.p) = false by unfold rightL; rw [HLN.out, decide_eq_false (by omega), Bool.false_and])
      go_enter Try.func7, Try.ntmps7
      go_wp2
      go_ret
      exact ⟨by rw [HF.out]; rfl, Below.refl _ _⟩
/-- A number as a float; a point as a complex number. -/
def fb (x : Nat) : Nat := floatOfInt .f64 (x : Int)
def cz (p : List Nat) : Value := .complex .f64 (fb (p.getD 0 0)) (fb (p.getD 1 0))
def ptI (p : List Nat) : Int × Int := (((p.getD 0 0 : Nat) : Int), ((p.getD 1 0 : Nat) : Int))
theorem fb_fi {x : Nat} (h : x < 1048576) : FI (fb x) (x : Int) := fi_int (x : Int) (by omega)
theorem small_iff {p : List Nat} (h : small p = true) : ∃ x y, p = [x, y] ∧ x < 1048576 ∧ y < 1048576 := by
  unfold small at h
  rw [Bool.and_eq_true, decide_eq_true_eq] at h
  match p, h.1 with
  | [x, y], _ => exact ⟨x, y, rfl, by have := h.2; simp at this; exact this.1, by have := h.2; simp at this; exact this.2⟩
theorem cz_ok {p : List Nat} (h : small p = true) : CZ (cz p) (ptI p) := by
  obtain ⟨x, y, rfl, hx, hy⟩ := small_iff h
  exact ⟨_, _, rfl, fb_fi hx, fb_fi hy, by show (0 : Int) ≤ (x : Int); omega, by show (x : Int) < 1048576; omega, by show (0 : Int) ≤ (y : Int); omega, by show (y : Int) < 1048576; omega⟩
set_option maxHeartbeats 8000000 in
set_option maxRecDepth 100000 in
theorem py_small {w : World} {A : Option Addr} {c : Nat} {x y : Nat} (h : Pt w A 2 [x, y]) : Calls Try.prog 24 #[.slice A 2 c] w fun e w' => e = .returned (.bool (small [x, y])) ∧ Below w.heap.size w w' := by
  obtain ⟨b, o, x', y', rfl, hb, he, x0, x1⟩ := pt_two h rfl
  injection he with h1 h2
  injection h2 with h2 _
  subst h1 h2
  have hd := (Below.refl w.heap.size w).drew
  rw [small_two]
  have hq : (decide (x < 1048576) && decide (y < 1048576)) = decide (max x y < 1048576) := by
    rw [← Bool.decide_and]
    congr 1
    simp only [eq_iff_iff]
    omega
  rw [hq]
  clear hq h
  obtain ⟨t, ht⟩ : ∃ t, t = decide (max x y < 1048576) := ⟨_, rfl⟩
  rw [← ht]
  have e2 : decide ((if x < y then (y : Int) else (x : Int)) < 1048576) = t := by
    rw [ht, Bool.eq_iff_iff, decide_eq_true_eq, decide_eq_true_eq]
    split <;> omega
  have E2 := hide e2
  clear ht e2
  go_enter Try.func24, Try.ntmps24
  go_wp2_with fail
  go_region_held3 (fun w' => w'.cell? ⟨b, o, none⟩ = some (.int .u64 (x : Int)) ∧ w'.cell? ⟨b, o + 1, none⟩ = some (.int .u64 (y : Int)))
    (go_keep)
    (fail)
  rw [E2.out]
  clear E2
  generalize (if x < y then (y : Int) else (x : Int)) = mx
  go_wp2
  go_ret
  exact ⟨rfl, hd⟩
/-- What Number tells of a list. -/
def numCode (p : List Nat) : Int := if p.length ≠ 2 then 2 else if small p then 0 else 3
def numVal (p : List Nat) : Value := if small p then cz p else .complex .f64 0 0
set_option maxHeartbeats 8000000 in
set_option maxRecDepth 100000 in
theorem py_number {w : World} {A : Option Addr} {n c : Nat} {p : List Nat} (h : Pt w A n p) : Calls Try.prog 20 #[.slice A n c] w fun e w' => e = .returned (.tuple #[numVal p, .int .i64 (numCode p)]) ∧ Below w.heap.size w w' := by
  by_cases h2 : n = 2
  · obtain ⟨b, o, x, y, rfl, hb, rfl, x0, x1⟩ := pt_two h h2
    subst h2
    have HS := hide (py_small (c := c) h)
    cases hs : small [x, y] with
    | false =>
      rw [hs] at HS
      have HV := hide (show numVal [x, y] = .complex .f64 0 0 ∧ numCode [x, y] = 3 from ⟨by unfold numVal; rw [hs]; rfl, by unfold numCode; rw [hs]; rfl⟩)
      rw [HV.out.1, HV.out.2]
      clear h hs
      go_enter Try.func20, Try.ntmps20
      go_wp2_with fail
      refine HS.out.mono ?_
      rintro e w1 ⟨rfl, hb1⟩
      have HB1 := hide hb1
      clear hb1
      go_wp2
      go_ret2
      exact ⟨rfl, HB1.out⟩
    | true =>
      rw [hs] at HS
      have HV := hide (show numVal [x, y] = .complex .f64 (fb x) (fb y) ∧ numCode [x, y] = 0 from ⟨by unfold numVal; rw [hs]; rfl, by unfold numCode; rw [hs]; rfl⟩)
      rw [HV.out.1, HV.out.2]
      have HC := hide (fun (W : World) (hW : Below w.heap.size w W) => And.intro ((hW.cell (p := ⟨b, o, none⟩) hb).trans x0) ((hW.cell (p := ⟨b, o + 1, none⟩) hb).trans x1))
      clear h hs x0 x1
      go_enter Try.func20, Try.ntmps20
      go_wp2_with fail
      refine HS.out.mono ?_
      rintro e w1 ⟨rfl, hb1⟩
      obtain ⟨x0, x1⟩ := HC.out w1 hb1
      have HB1 := hide hb1.drew
      clear hb1
      go_wp2_with fail
      go_region_held3 (fun w' => w'.cell? ⟨b, o, none⟩ = some (.int .u64 (x : Int)) ∧ w'.cell? ⟨b, o + 1, none⟩ = some (.int .u64 (y : Int)))
        (go_keep)
        (fail)
      go_wp2
      go_ret2
      exact ⟨rfl, HB1.out⟩
  · have e1 : ((n : Int) != 2) = true := by simp; omega
    have HV := hide (show numVal p = .complex .f64 0 0 ∧ numCode p = 2 from ⟨by unfold numVal; rw [small_not (by rw [h.len]; exact h2)]; rfl, by unfold numCode; rw [if_pos (by rw [h.len]; exact h2)]⟩)
    rw [HV.out.1, HV.out.2]
    have hb0 := Below.refl w.heap.size w
    clear h
    go_enter Try.func20, Try.ntmps20
    go_wp2
    go_ret2
    exact ⟨rfl, hb0⟩
end Go.Proofs.Ytlgdllohmmmegaa
