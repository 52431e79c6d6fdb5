/- pantilelaw08.WalkMoves: whatever moves a cursor makes, it tells what lies where it stands: the walk. -/
import Derived.Test.YtnopacldaoekiaaGreatLwRunA
set_option linter.unusedSimpArgs false
set_option linter.unusedVariables false
namespace Go.Proofs.YtnopacldaoekiaaGreat
open Go.RowKit
/-- A move: its kind, its point. -/
structure TM where
  kd : Nat
  A : Option Addr
  n : Nat
  c : Nat
  p : List Nat
def tmv (r : TM) : List Value := [.int .u8 (r.kd : Int), .slice r.A r.n r.c]
theorem tmv_len (r : TM) : (tmv r).length = 2 := rfl
def TM.ok (w : World) (r : TM) : Prop := Pt w r.A r.n r.p ∧ r.n ≤ r.c ∧ r.c ≤ maxLen ∧ r.kd < 256
theorem TM.ok.below {w w' : World} {r : TM} (h : r.ok w) (hb : Below w.heap.size w w') : r.ok w' := ⟨h.1.below hb, h.2⟩
def MovesAt (w : World) (A : Option Addr) (n : Nat) (rows : List TM) : Prop := Rw w 2 A n (rows.flatMap tmv) ∧ ∀ r ∈ rows, r.ok w
section
open Go.ChangeShapes Go.WideShapes Go.Deep
theorem wf_u8 {z : Int} (h : (Lit.int .u8 z).wf = true) : 0 ≤ z ∧ z < 256 := by
  simp [Lit.wf] at h
  have h1 : IntKind.u8.min = 0 := by decide
  have h2 : IntKind.u8.max = 255 := by decide
  rw [h1, h2] at h
  omega
set_option maxRecDepth 100000 in
theorem open_moves {H : Type} {enc : TypeId × Value → H} {w : World} {A : Option Addr} {len cap : Nat} {d : DataW H} {ps : List MemPlace}
    (h : DataW.Trod enc Tryz.prog w 0 (fun _ => true) true 23 (.slice A len cap) d ps) :
    ∃ rows : List TM, MovesAt w A len rows ∧ len ≤ cap ∧ cap ≤ maxLen := by
  obtain ⟨fuel, h⟩ := h
  obtain ⟨rows, -, hok, h1, h2, h3⟩ := open_elems (sz := 2) tmv (fun r => TM.ok w r) tmv_len (by omega) Tryz.underlying23 (by kernel_rfl) (fun n cs d hd => by
    obtain ⟨y0, y1, n', -, hl, g0, g1⟩ := trod_struct2 Tryz.underlying34 hd
    have hl2 : cs.length = 2 := hl
    match cs, hl2 with
    | [u1, u0], _ =>
      obtain ⟨z, e1, -, hw⟩ := DataW.trod_int Tryz.underlying5 g0
      have e1' : u1 = .int .u8 z := by
        rw [show Tryz.prog.cellsOf 5 = 1 by kernel_rfl] at e1
        simpa using e1
      have hz := wf_u8 hw
      have hz1 : u1 = .int .u8 ((z.toNat : Nat) : Int) := by rw [e1', Int.toNat_of_nonneg hz.1]
      have g1' : DataW.trod enc Tryz.prog w 0 (fun _ => true) true n' 32 [u0] = some y1 := by simpa [show Tryz.prog.cellsOf 5 = 1 by kernel_rfl, show Tryz.prog.cellsOf 32 = 1 by kernel_rfl] using g1
      rcases Go.Deep.open_slice Tryz.underlying32 g1' with ⟨h0, _⟩ | ⟨a, l, c, _, _, _, _, h0, _⟩
      · have h0' : u0 = .slice none 0 0 := by simpa using h0
        exact ⟨⟨z.toNat, none, 0, 0, []⟩, by rw [h0', hz1]; rfl, pt_nil w, Nat.le_refl _, Nat.zero_le _, by show z.toNat < 256; omega⟩
      · have h0' : u0 = .slice (some a) l c := by simpa using h0
        rw [h0'] at g1'
        obtain ⟨p, q1, q2, q3⟩ := open_point' g1'
        exact ⟨⟨z.toNat, some a, l, c, p⟩, by rw [h0', hz1]; rfl, q1, q2, q3, by show z.toNat < 256; omega⟩) h
  exact ⟨rows, ⟨h1, hok⟩, h2, h3⟩
end
theorem MovesAt.below {w w' : World} {A : Option Addr} {n : Nat} {rows : List TM} (h : MovesAt w A n rows) (hb : Below w.heap.size w w') : MovesAt w' A n rows := ⟨h.1.below hb, fun r hr => (h.2 r hr).below hb⟩
theorem MovesAt.at_ {w : World} {A : Option Addr} {n i : Nat} {rows : List TM} (h : MovesAt w A n rows) (hi : i < n) :
    ∃ b o r, A = some ⟨b, o, none⟩ ∧ b < w.heap.size ∧ rows[i]? = some r ∧ r.ok w ∧ w.cell? ⟨b, o + i * 2, none⟩ = some (.int .u8 (r.kd : Int)) ∧ w.cell? ⟨b, o + i * 2 + 1, none⟩ = some (.slice r.A r.n r.c) := by
  obtain ⟨b, o, r, hA, hb, hr, hc⟩ := h.1.elem tmv_len hi (by omega)
  exact ⟨b, o, r, hA, hb, hr, h.2 r (List.mem_of_getElem? hr), hc 0 _ rfl, by rw [Nat.add_assoc]; exact hc 1 _ rfl⟩
set_option maxHeartbeats 16000000 in
set_option maxRecDepth 100000 in
theorem walk_moves (w : World) (k0 : Int) (_ : (Lit.int .i64 k0).wf = true) (AL : Option Addr) (nl cl : Nat) (al : List TA) (hl : ActsAt w AL nl al ∧ nl ≤ cl ∧ cl ≤ maxLen) (AM : Option Addr) (nm cm : Nat) (mv : List TM) (hmv : MovesAt w AM nm mv ∧ nm ≤ cm ∧ cm ≤ maxLen) :
    Calls Tryz.prog 3 #[.int .i64 k0, .slice AL nl cl, .slice AM nm cm] w fun e w' => e = .returned (.bool true) ∧ Below w.heap.size w w' := by
  have HEL := hide hl.1
  have HMV := hide hmv.1
  clear hl hmv
  go_enter Tryz.func3, Tryz.ntmps3
  go_wp2_with fail
  refine (awake8 w).mono ?_
  rintro e w1 ⟨rfl, hb1⟩
  have HB1 := hide hb1
  have HH := hide (heavy7 AL nl cl 40 al w1 (HEL.out.below hb1) (by omega))
  simp only [Int.cast_ofNat_Int] at HH
  clear hb1
  go_wp2_with fail
  refine HH.out.mono ?_
  rintro e w3 ⟨rfl | ⟨rfl, hnl⟩, hb3⟩
  · have HB3 := hide (below_then HB1.out hb3)
    clear hb3 HH
    go_wp2
    go_ret
    exact ⟨rfl, HB3.out⟩
  have HB3 := hide (below_then HB1.out hb3)
  clear hb3 HH
  by_cases h1 : k0 < 1
  · have e1 : decide (k0 < 1) = true := by simpa using h1
    clear h1
    go_wp2
    go_ret
    exact ⟨rfl, HB3.out⟩
  have e1 : decide (k0 < 1) = false := by simpa using h1
  by_cases h2 : 16 < k0
  · have e2 : decide ((16 : Int) < k0) = true := by simpa using h2
    clear h1 h2
    go_wp2
    go_ret
    exact ⟨rfl, HB3.out⟩
  have e2 : decide ((16 : Int) < k0) = false := by simpa using h2
  by_cases h3 : 100 < nm
  · have e3 : decide ((100 : Int) < (nm : Int)) = true := by simp; omega
    clear h1 h2 h3
    go_wp2
    go_ret
    exact ⟨rfl, HB3.out⟩
  have e3 : decide ((100 : Int) < (nm : Int)) = false := by simp; omega
  have hnm : nm ≤ 100 := by omega
  obtain ⟨k, rfl⟩ : ∃ k : Nat, k0 = (k : Int) := ⟨k0.toNat, by omega⟩
  have hk1 : 1 ≤ k := by omega
  have hk16 : k ≤ 16 := by omega
  have HG := hide (grown7 (c := cl) hk1 hk16 (HEL.out.below HB3.out) (by omega))
  clear h1 h2 h3
  go_wp2_with fail
  refine HG.out.mono ?_
  rintro e w4 ⟨t, A4, n4, c4, rfl, ⟨rows, es, hT4, hE4, hnc4, hS4, hkk4, hes4⟩, hn4, hb4⟩
  have hlen : es.length = n4 := by rw [← hes4]; unfold ents; rw [List.length_map]; exact hE4.len
  have HT4 := hide hT4
  have HB4 := hide (below_then HB3.out hb4)
  have HE4 := hide hE4
  have HNC4 := hide hnc4
  have HKK := hide hkk4
  have HEN := hide hes4
  have HLEN := hide hlen
  have hn4b : n4 ≤ 50 := by omega
  have HNEW := hide (cur_new hT4)
  clear hT4 hE4 hnc4 hS4 hkk4 hes4 hb4 hlen HG
  go_wp2_with fail
  refine HNEW.out.mono ?_
  rintro e w5 ⟨⟨c, rfl, hcg, hcu⟩, hb5⟩
  have HCU := hide hcu
  have HB := hide hb5
  clear hcu hb5 HNEW
  go_wp2
  go_loopw [11, 12] (fun x11 x12 wr => ∃ (i m : Nat), x11 = .int .i64 (i : Int) ∧ x12 = .int .i64 (m : Int) ∧ i ≤ n4 ∧ m ≤ nm ∧ CurAt wr c t k es i ∧ Below w4.heap.size w4 wr) (fun _ x _ => nm - (intOf x).toNat)
  case atStart => exact ⟨0, 0, rfl, rfl, Nat.zero_le _, Nat.zero_le _, HCU.out, HB.out⟩
  case round =>
    obtain ⟨i, m, rfl, rfl, hi, hm, hcu, hb⟩ := hrel
    clear HCU HB
    have HCU := hide hcu
    have HB := hide hb
    have hi50 : (i : Int) ≤ 50 := by omega
    have hm100 : (m : Int) ≤ 100 := by omega
    rename World => wz
    clear hcu hb
    by_cases hmn : m < nm
    case neg =>
      have e9 : decide (m < nm) = false := by simpa using hmn
      have HIS := hide (is_tree (c := c4) (HT4.out.stay HB.out) (HE4.out.below HB.out) HNC4.out (by omega) HKK.out HEN.out)
      clear hmn
      go_wp2_with fail
      refine HIS.out.mono ?_
      rintro e w6 ⟨rfl, hb6⟩
      have HB6 := hide (below_then HB4.out (below_then HB.out hb6))
      clear hb6 HIS
      go_wp2
      go_ret
      exact ⟨rfl, HB6.out⟩
    have e9 : decide (m < nm) = true := by simpa using hmn
    obtain ⟨b, o, r, rfl, hbl, hr, hok, x0, x1⟩ := (HMV.out.below (below_then HB4.out HB.out)).at_ hmn
    have hmi : (m : Int) < (nm : Int) := by omega
    have HOK := hide hok
    have HMN := hide hmn
    have HR := hide hr
    clear hr hok hmn
    by_cases h40 : 40 < r.n
    · have e10 : decide ((40 : Int) < (r.n : Int)) = true := by simp; omega
      clear h40
      go_wp2
      go_roundw
      case rel => exact ⟨i, m + 1, rfl, by go_num, hi, HMN.out, HCU.out, HB.out⟩
      case measure =>
        have := HMN.out
        simp [intOf]
        omega
    have e10 : decide ((40 : Int) < (r.n : Int)) = false := by simp; omega
    have hr40 : r.n ≤ 40 := by omega
    clear h40
    by_cases hk0 : r.kd = 0
    · rw [hk0] at x0
      have HMO := hide (cur_next HT4.out HB.out hcg HCU.out)
      go_wp2_with fail
      refine HMO.out.mono ?_
      rintro e w6 ⟨r6, ok6, rfl, hi6, hcu6, hx6⟩
      have hb6 := hx6.to_below (B := w4.heap.size) hcg HB.out.size
      have hal := (Below.refl w6.heap.size w6).alloc (Nat.le_refl _) (.cells #[.slice r6.A r6.n r6.c, .int .u64 (r6.v : Int)] 37)
      have hN6 := Blk.new w6 37 #[.slice r6.A r6.n r6.c, .int .u64 (r6.v : Int)]
      have y0 := hN6.cell 0
      have y1 := hN6.cell 1
      simp at y0 y1
      have HB7 := hide (below_then (HB.out.trans hb6) hal)
      have HCU7 := hide (hcu6.below hal)
      have HAT := hide (at8 (c := c4) (i := ((i : Nat) : Int)) (HE4.out.below HB7.out) HKK.out hk16 (hi6.below hal) (by rw [HEN.out]; exact at_here i))
      clear hi6 hcu6 hx6 hb6 hal hN6 HMO
      go_wp2_with fail
      refine HAT.out.mono ?_
      rintro e w8 ⟨rfl, hb8⟩
      have HB8 := hide (below_then HB7.out hb8)
      have HCU8 := hide (HCU7.out.below hb8)
      clear hb8 HAT y0 y1 x0 x1
      by_cases hin : i < n4
      · have e12 : decide (i < n4) = true := by simpa using hin
        have HIN := hide hin
        clear hin
        go_wp2
        go_roundw
        case rel =>
          refine ⟨i + 1, m + 1, by go_num, by go_num, HIN.out, HMN.out, ?_, HB8.out⟩
          have := HCU8.out
          rw [Nat.min_eq_left (by have := HLEN.out; have := HIN.out; omega)] at this
          exact this
        case measure =>
          have := HMN.out
          simp [intOf]
          omega
      · have e12 : decide (i < n4) = false := by simpa using hin
        have HIN := hide (show i = n4 by omega)
        clear hin
        go_wp2
        go_roundw
        case rel =>
          refine ⟨i, m + 1, rfl, by go_num, hi, HMN.out, ?_, HB8.out⟩
          have := HCU8.out
          rw [Nat.min_eq_right (by have := HLEN.out; have := HIN.out; omega), HLEN.out, ← HIN.out] at this
          exact this
        case measure =>
          have := HMN.out
          simp [intOf]
          omega
    by_cases hk1' : r.kd = 1
    · rw [hk1'] at x0
      have HMO := hide (cur_back HT4.out HB.out hcg HCU.out)
      go_wp2_with fail
      refine HMO.out.mono ?_
      rintro e w6 ⟨r6, ok6, rfl, hi6, hcu6, hx6⟩
      have hb6 := hx6.to_below (B := w4.heap.size) hcg HB.out.size
      have hal := (Below.refl w6.heap.size w6).alloc (Nat.le_refl _) (.cells #[.slice r6.A r6.n r6.c, .int .u64 (r6.v : Int)] 37)
      have hN6 := Blk.new w6 37 #[.slice r6.A r6.n r6.c, .int .u64 (r6.v : Int)]
      have y0 := hN6.cell 0
      have y1 := hN6.cell 1
      simp at y0 y1
      have HB7 := hide (below_then (HB.out.trans hb6) hal)
      have HCU7 := hide (hcu6.below hal)
      have HAT := hide (at8 (c := c4) (i := ((i : Nat) : Int) - 1) (HE4.out.below HB7.out) HKK.out hk16 (hi6.below hal) (by rw [HEN.out]; exact at_prev i))
      clear hi6 hcu6 hx6 hb6 hal hN6 HMO
      go_wp2_with fail
      refine HAT.out.mono ?_
      rintro e w8 ⟨rfl, hb8⟩
      have HB8 := hide (below_then HB7.out hb8)
      have HCU8 := hide (HCU7.out.below hb8)
      clear hb8 HAT y0 y1 x0 x1
      by_cases hin : 0 < i
      · have e12 : decide ((0 : Int) < (i : Int)) = true := by simp; omega
        have e13 : decide (0 < i) = true := by simpa using hin
        have HIN := hide hin
        have hi1 : (1 : Int) ≤ (i : Int) := by omega
        clear hin
        go_wp2
        go_roundw
        case rel => exact ⟨i - 1, m + 1, by congr 1; have := HIN.out; omega, by go_num, by omega, HMN.out, HCU8.out, HB8.out⟩
        case measure =>
          have := HMN.out
          simp [intOf]
          omega
      · obtain rfl : i = 0 := by omega
        clear hin
        go_wp2
        go_roundw
        case rel => exact ⟨0, m + 1, rfl, by go_num, hi, HMN.out, HCU8.out, HB8.out⟩
        case measure =>
          have := HMN.out
          simp [intOf]
          omega
    by_cases hk2' : r.kd = 2
    · rw [hk2'] at x0
      by_cases hrk : r.n = k
      · have hp := HOK.out.1
        rw [hrk] at hp x1
        have e11 : ((k : Int) != (k : Int)) = false := by simp
        have HSK := hide (cur_seek (pc := r.c) HT4.out HB.out hcg HCU.out hp)
        have HP := hide hp
        clear hp hk0 hk1' hk2'
        go_wp2_with fail
        refine HSK.out.mono ?_
        rintro e w6 ⟨rfl, hcu6, hx6⟩
        have hb6 := hx6.to_below (B := w4.heap.size) hcg HB.out.size
        have HCU6 := hide hcu6
        have HB6 := hide (HB.out.trans hb6)
        obtain ⟨b', o', r', hq1, hbl', hr', hok', x0', x1'⟩ := (HMV.out.below (below_then HB4.out HB6.out)).at_ HMN.out
        injection hq1 with hq1
        injection hq1 with hq2 hq3
        subst hq2 hq3
        have hrr : r' = r := by
          have := HR.out
          rw [hr'] at this
          injection this
        subst hrr
        rw [hrk] at x1'
        have hp' := hok'.1
        rw [hrk] at hp'
        have HRF := hide (ref_from8 (c := c4) (d := r'.c) (HE4.out.below HB6.out) HKK.out hp' (by omega) (by omega))
        clear hcu6 hx6 hb6 hr' hok' hbl' hp' HSK x0 x1
        go_wp2_with fail
        refine HRF.out.mono ?_
        rintro e w7 ⟨rfl, rfl⟩
        go_wp2
        go_roundw
        case rel =>
          refine ⟨fromI (ents rows) r'.p, m + 1, rfl, by go_num, ?_, HMN.out, ?_, HB6.out⟩
          · have := fromI_le (ents rows) r'.p
            rw [HEN.out, HLEN.out] at this
            rw [HEN.out]
            exact this
          · rw [HEN.out]
            exact HCU6.out
        case measure =>
          have := HMN.out
          simp [intOf]
          omega
      · have e11 : ((r.n : Int) != (k : Int)) = true := by simp; omega
        have HSK := hide (cur_seek_dim HT4.out HB.out HCU.out r.A r.n r.c hrk)
        clear hk0 hk1' hk2'
        go_wp2_with fail
        refine HSK.out.mono ?_
        rintro e w6 ⟨rfl, rfl⟩
        go_wp2
        go_roundw
        case rel => exact ⟨i, m + 1, rfl, by go_num, hi, HMN.out, HCU.out, HB.out⟩
        case measure =>
          have := HMN.out
          simp [intOf]
          omega
    · have e11 : ((r.kd : Int) == 0) = false := by simp; omega
      have e12 : ((r.kd : Int) == 1) = false := by simp; omega
      have e13 : ((r.kd : Int) == 2) = false := by simp; omega
      clear hk0 hk1' hk2'
      go_wp2
      go_roundw
      case rel => exact ⟨i, m + 1, rfl, by go_num, hi, HMN.out, HCU.out, HB.out⟩
      case measure =>
        have := HMN.out
        simp [intOf]
        omega
end Go.Proofs.YtnopacldaoekiaaGreat
