/- Lists of entries in memory; pantileref06.Sums, Heavy, Dense. -/
import Derived.Test.YtkknfnjojamgjaaOpen
import Derived.Test.YtkknfnjojamgjaaNdA
import Derived.Test.YtkknfnjojamgjaaRefS
set_option linter.unusedSimpArgs false
set_option linter.unusedVariables false
namespace Go.Proofs.Ytkknfnjojamgjaa
open Go.RowKit
/-- An entry in memory: its point's slice, the point, the value. -/
structure ER where
  A : Option Addr
  n : Nat
  c : Nat
  p : List Nat
  v : Nat
def entv (r : ER) : List Value := [.slice r.A r.n r.c, .int .u64 (r.v : Int)]
def ER.e (r : ER) : Ent := (r.p, r.v)
theorem entv_len (r : ER) : (entv r).length = 2 := rfl
def ER.ok (w : World) (r : ER) : Prop := Pt w r.A r.n r.p ∧ r.n ≤ r.c ∧ r.c ≤ maxLen ∧ r.v < 2 ^ 64
/-- A slice of entries. -/
def EntsAt (w : World) (A : Option Addr) (n : Nat) (rows : List ER) : Prop := Rw w 2 A n (rows.flatMap entv) ∧ ∀ r ∈ rows, r.ok w
def ents (rows : List ER) : List Ent := rows.map ER.e
section
variable {w w' : World} {A : Option Addr} {n : Nat} {rows : List ER}
theorem ER.ok.below {r : ER} (h : r.ok w) (hb : Below w.heap.size w w') : r.ok w' := ⟨h.1.below hb, h.2⟩
theorem EntsAt.below (h : EntsAt w A n rows) (hb : Below w.heap.size w w') : EntsAt w' A n rows := ⟨h.1.below hb, fun r hr => (h.2 r hr).below hb⟩
theorem EntsAt.len (h : EntsAt w A n rows) : rows.length = n := by
  have := h.1.1
  rw [flat_length entv_len] at this
  omega
theorem EntsAt.at_ {i : Nat} (h : EntsAt w A n rows) (hi : i < n) :
    ∃ b o r, A = some ⟨b, o, none⟩ ∧ b < w.heap.size ∧ rows[i]? = some r ∧ r.ok w ∧ w.cell? ⟨b, o + i * 2, none⟩ = some (.slice r.A r.n r.c) ∧ w.cell? ⟨b, o + i * 2 + 1, none⟩ = some (.int .u64 (r.v : Int)) := by
  obtain ⟨b, o, r, hA, hb, hr, hc⟩ := h.1.elem entv_len hi (by omega)
  exact ⟨b, o, r, hA, hb, hr, h.2 r (List.mem_of_getElem? hr), hc 0 _ rfl, by rw [Nat.add_assoc]; exact hc 1 _ rfl⟩
end
theorem maxL_snoc (l : List Nat) (v : Nat) : maxL (l ++ [v]) = Nat.max (maxL l) v := by
  rw [maxL_append]
  have : maxL [v] = v := by unfold maxL; simp
  rw [this]
theorem minL_snoc {l : List Nat} (h : l ≠ []) (v : Nat) : minL (l ++ [v]) = Nat.min (minL l) v := minL_append h (by simp)
theorem sums_step (l : List Ent) (e : Ent) : sumsOf (l ++ [e]) = ⟨((sumsOf l).c + 1) % 2 ^ 64, ((sumsOf l).s + e.2) % 2 ^ 64, if l = [] then e.2 else Nat.min (sumsOf l).mn e.2, Nat.max (sumsOf l).mx e.2⟩ := by
  unfold sumsOf
  simp only [List.map_append, List.length_append, List.sum_append, List.map_cons, List.map_nil, List.sum_cons, List.sum_nil, List.length_cons, List.length_nil, maxL_snoc]
  congr 1
  · omega
  · omega
  · split
    · rename_i h; subst h; rfl
    · rename_i h; exact minL_snoc (by simpa using h) _
theorem sums_empty : sumsOf [] = ⟨0, 0, 0, 0⟩ := rfl
theorem ents_take {rows : List ER} {j : Nat} {r : ER} (h : rows[j]? = some r) : ents (rows.take (j + 1)) = ents (rows.take j) ++ [r.e] := by
  unfold ents
  rw [List.take_add_one, h]
  simp
theorem wrap_u64_nat' (a b : Nat) : IntKind.u64.wrap ((a : Int) + (b : Int)) = (((a + b) % 2 ^ 64 : Nat) : Int) := by
  rw [IntKind.wrap_u64]; omega
theorem Blk.sums4 {w : World} {g : Nat} {t : TypeId} {x0 x1 x2 x3 y0 y1 y2 y3 : Value} (h : Blk w g t #[x0, x1, x2, x3]) :
    Blk ((((w.setCell ⟨g, 2, none⟩ y2).setCell ⟨g, 3, none⟩ y3).setCell ⟨g, 0, none⟩ y0).setCell ⟨g, 1, none⟩ y1) g t #[y0, y1, y2, y3] :=
  (((h.set1 y2).set1 y3).set1 y0).set1 y1
theorem Blk.sums3a {w : World} {g : Nat} {t : TypeId} {x0 x1 x2 x3 y0 y1 y3 : Value} (h : Blk w g t #[x0, x1, x2, x3]) :
    Blk (((w.setCell ⟨g, 3, none⟩ y3).setCell ⟨g, 0, none⟩ y0).setCell ⟨g, 1, none⟩ y1) g t #[y0, y1, x2, y3] :=
  ((h.set1 y3).set1 y0).set1 y1
theorem Blk.sums3b {w : World} {g : Nat} {t : TypeId} {x0 x1 x2 x3 y0 y1 y2 : Value} (h : Blk w g t #[x0, x1, x2, x3]) :
    Blk (((w.setCell ⟨g, 2, none⟩ y2).setCell ⟨g, 0, none⟩ y0).setCell ⟨g, 1, none⟩ y1) g t #[y0, y1, y2, x3] :=
  ((h.set1 y2).set1 y0).set1 y1
theorem Blk.sums2 {w : World} {g : Nat} {t : TypeId} {x0 x1 x2 x3 y0 y1 : Value} (h : Blk w g t #[x0, x1, x2, x3]) :
    Blk ((w.setCell ⟨g, 0, none⟩ y0).setCell ⟨g, 1, none⟩ y1) g t #[y0, y1, x2, x3] :=
  (h.set1 y0).set1 y1
theorem Blk.far1 {w : World} {g b i : Nat} {t : TypeId} {cs : Array Value} {u : Value} (h : Blk w g t cs) (hne : g ≠ b) : Blk (w.setCell ⟨b, i, none⟩ u) g t cs := h.set_ b i u hne
theorem below_set1 {B g i : Nat} {a w : World} {x : Value} (h : Below B a w) (hg : B ≤ g) : Below B a (w.setCell ⟨g, i, none⟩ x) := h.setCell hg _
def sumCells (s : Sum4) : Array Value := #[.int .u64 (s.c : Int), .int .u64 (s.s : Int), .int .u64 (s.mn : Int), .int .u64 (s.mx : Int)]
set_option maxHeartbeats 8000000 in
set_option maxRecDepth 100000 in
theorem ref_sums (A : Option Addr) (n c : Nat) (rows : List ER) (w : World) (h : EntsAt w A n rows) (hn : n ≤ 70368744177664) :
    Calls Try.prog 100 #[.slice A n c] w fun e w' => e = .returned (sumsOf (ents rows)).val ∧ Below w.heap.size w w' := by
  have hl := h.len
  have b2 := below_alloc ((Below.refl w.heap.size w).alloc (Nat.le_refl _) (.cells #[.int .u64 0, .int .u64 0, .int .u64 0, .int .u64 0] 79)) (Nat.le_refl _) (.cells #[.int .u64 0, .int .u64 0, .int .u64 0, .int .u64 0] 79)
  have hN1 := (Blk.new w 79 #[.int .u64 0, .int .u64 0, .int .u64 0, .int .u64 0]).alloc (.cells #[.int .u64 0, .int .u64 0, .int .u64 0, .int .u64 0] 79)
  have hN2 := Blk.new (w.alloc (.cells #[.int .u64 0, .int .u64 0, .int .u64 0, .int .u64 0] 79)) 79 #[.int .u64 0, .int .u64 0, .int .u64 0, .int .u64 0]
  have hs : (w.alloc (.cells #[.int .u64 0, .int .u64 0, .int .u64 0, .int .u64 0] 79)).heap.size = w.heap.size + 1 := by simp
  rw [hs] at hN2
  have HN1 := hide hN1
  have HN2 := hide hN2
  have HE := hide h
  have HL := hide hl
  clear hN1 hN2 hs h hl
  go_enter Try.func100, Try.ntmps100
  go_wp2
  go_loopw [4] (fun x wr => ∃ (j : Nat), x = .int .i64 j ∧ j ≤ n ∧ Blk wr (w.heap.size + 1) 79 (sumCells (sumsOf (ents (rows.take j)))) ∧ Blk wr w.heap.size 79 #[.int .u64 0, .int .u64 0, .int .u64 0, .int .u64 0] ∧ Below w.heap.size w wr) (fun x _ => n - (intOf x).toNat)
  case atStart => exact ⟨0, rfl, Nat.zero_le _, HN2.out, HN1.out, b2⟩
  case round =>
    obtain ⟨j, rfl, hj, hB, hB0, hb⟩ := hrel
    have HB := hide hB
    have HB0 := hide hB0
    have HHB := hide hb
    generalize hsp : sumsOf (ents (rows.take j)) = sp at *
    have r0 := hB.cell 0
    have r1 := hB.cell 1
    have r2 := hB.cell 2
    have r3 := hB.cell 3
    have z0 := hB.frozen 0
    have z1 := hB.frozen 1
    have z2 := hB.frozen 2
    have z3 := hB.frozen 3
    simp [sumCells] at r0 r1 r2 r3
    clear hB hB0
    by_cases hjn : j < n
    · obtain ⟨b, o, r, rfl, hbl, hr, hok, k0, k1⟩ := (HE.out.below hb).at_ hjn
      have hst := sums_step (ents (rows.take j)) r.e
      rw [← ents_take hr, hsp] at hst
      have hv : r.e.2 = r.v := rfl
      rw [hv] at hst
      have hempty : ents (rows.take j) = [] ↔ j = 0 := by
        unfold ents
        rw [List.map_eq_nil_iff, List.take_eq_nil_iff]
        constructor
        · rintro (h | h)
          · exact h
          · rw [h] at hr; simp at hr
        · intro h; exact .inl h
      have HST := hide hst
      have HEM := hide hempty
      clear hr hok hst hempty
      rcases Nat.eq_zero_or_pos j with h1 | h1
      · rcases Nat.lt_or_ge sp.mx r.v with h2 | h2
        · have e0 : ((j : Int) == 0) = true := by simp; omega
          have f2 : sp.mx < r.v := by omega
          have HC := hide (And.intro h1 h2)
          clear h1 h2
          go_wp2
          go_roundw
          case rel =>
            refine ⟨j + 1, by go_num, by omega, ?_, ?b0, ?bb⟩
            case b0 => exact ((((HB0.out.far1 (Nat.ne_of_lt (Nat.lt_succ_self _))).far1 (Nat.ne_of_lt (Nat.lt_succ_self _))).far1 (Nat.ne_of_lt (Nat.lt_succ_self _))).far1 (Nat.ne_of_lt (Nat.lt_succ_self _)))
            case bb => exact (below_set1 (below_set1 (below_set1 (below_set1 HHB.out (Nat.le_succ _)) (Nat.le_succ _)) (Nat.le_succ _)) (Nat.le_succ _))
            have hnew : sumsOf (ents (rows.take (j + 1))) = ⟨(sp.c + 1) % 2 ^ 64, (sp.s + r.v) % 2 ^ 64, r.v, r.v⟩ := by
              rw [HST.out]
              have h1 := HC.out.1
              have h2 := HC.out.2
              rw [if_pos (HEM.out.2 h1)]
              have : Nat.max sp.mx r.v = r.v := by show max sp.mx r.v = _; omega
              rw [this]
            rw [hnew]
            have i0 : IntKind.u64.wrap ((sp.c : Int) + 1) = (((sp.c + 1) % 2 ^ 64 : Nat) : Int) := wrap_u64_nat' sp.c 1
            have i1 := wrap_u64_nat' sp.s r.v
            rw [i0, i1]
            exact HB.out.sums4
          case measure => simp [intOf]; omega
        · have e0 : ((j : Int) == 0) = true := by simp; omega
          have f2 : ¬ sp.mx < r.v := by omega
          have HC := hide (And.intro h1 h2)
          clear h1 h2
          go_wp2
          go_roundw
          case rel =>
            refine ⟨j + 1, by go_num, by omega, ?_, ?b0, ?bb⟩
            case b0 => exact (((HB0.out.far1 (Nat.ne_of_lt (Nat.lt_succ_self _))).far1 (Nat.ne_of_lt (Nat.lt_succ_self _))).far1 (Nat.ne_of_lt (Nat.lt_succ_self _)))
            case bb => exact (below_set1 (below_set1 (below_set1 HHB.out (Nat.le_succ _)) (Nat.le_succ _)) (Nat.le_succ _))
            have hnew : sumsOf (ents (rows.take (j + 1))) = ⟨(sp.c + 1) % 2 ^ 64, (sp.s + r.v) % 2 ^ 64, r.v, sp.mx⟩ := by
              rw [HST.out]
              have h1 := HC.out.1
              have h2 := HC.out.2
              rw [if_pos (HEM.out.2 h1)]
              have : Nat.max sp.mx r.v = sp.mx := by show max sp.mx r.v = _; omega
              rw [this]
            rw [hnew]
            have i0 : IntKind.u64.wrap ((sp.c : Int) + 1) = (((sp.c + 1) % 2 ^ 64 : Nat) : Int) := wrap_u64_nat' sp.c 1
            have i1 := wrap_u64_nat' sp.s r.v
            rw [i0, i1]
            exact HB.out.sums3b
          case measure => simp [intOf]; omega
      · rcases Nat.lt_or_ge r.v sp.mn with h3 | h3
        · replace h1 := And.intro h1 h3
          clear h3
          rcases Nat.lt_or_ge sp.mx r.v with h2 | h2
          · have e0 : ((j : Int) == 0) = false := by simp; omega
            have f1 : r.v < sp.mn := h1.2
            have f2 : sp.mx < r.v := by omega
            have HC := hide (And.intro h1 h2)
            clear h1 h2
            go_wp2
            go_roundw
            case rel =>
              refine ⟨j + 1, by go_num, by omega, ?_, ?b0, ?bb⟩
              case b0 => exact ((((HB0.out.far1 (Nat.ne_of_lt (Nat.lt_succ_self _))).far1 (Nat.ne_of_lt (Nat.lt_succ_self _))).far1 (Nat.ne_of_lt (Nat.lt_succ_self _))).far1 (Nat.ne_of_lt (Nat.lt_succ_self _)))
              case bb => exact (below_set1 (below_set1 (below_set1 (below_set1 HHB.out (Nat.le_succ _)) (Nat.le_succ _)) (Nat.le_succ _)) (Nat.le_succ _))
              have hnew : sumsOf (ents (rows.take (j + 1))) = ⟨(sp.c + 1) % 2 ^ 64, (sp.s + r.v) % 2 ^ 64, r.v, r.v⟩ := by
                rw [HST.out]
                have h1 := HC.out.1
                have h2 := HC.out.2
                rw [if_neg (fun h => by have := HEM.out.1 h; omega)]
                have : Nat.max sp.mx r.v = r.v := by show max sp.mx r.v = _; omega
                rw [this]
                have : Nat.min sp.mn r.v = r.v := by show min sp.mn r.v = _; omega
                rw [this]
              rw [hnew]
              have i0 : IntKind.u64.wrap ((sp.c : Int) + 1) = (((sp.c + 1) % 2 ^ 64 : Nat) : Int) := wrap_u64_nat' sp.c 1
              have i1 := wrap_u64_nat' sp.s r.v
              rw [i0, i1]
              exact HB.out.sums4
            case measure => simp [intOf]; omega
          · have e0 : ((j : Int) == 0) = false := by simp; omega
            have f1 : r.v < sp.mn := h1.2
            have f2 : ¬ sp.mx < r.v := by omega
            have HC := hide (And.intro h1 h2)
            clear h1 h2
            go_wp2
            go_roundw
            case rel =>
              refine ⟨j + 1, by go_num, by omega, ?_, ?b0, ?bb⟩
              case b0 => exact (((HB0.out.far1 (Nat.ne_of_lt (Nat.lt_succ_self _))).far1 (Nat.ne_of_lt (Nat.lt_succ_self _))).far1 (Nat.ne_of_lt (Nat.lt_succ_self _)))
              case bb => exact (below_set1 (below_set1 (below_set1 HHB.out (Nat.le_succ _)) (Nat.le_succ _)) (Nat.le_succ _))
              have hnew : sumsOf (ents (rows.take (j + 1))) = ⟨(sp.c + 1) % 2 ^ 64, (sp.s + r.v) % 2 ^ 64, r.v, sp.mx⟩ := by
                rw [HST.out]
                have h1 := HC.out.1
                have h2 := HC.out.2
                rw [if_neg (fun h => by have := HEM.out.1 h; omega)]
                have : Nat.max sp.mx r.v = sp.mx := by show max sp.mx r.v = _; omega
                rw [this]
                have : Nat.min sp.mn r.v = r.v := by show min sp.mn r.v = _; omega
                rw [this]
              rw [hnew]
              have i0 : IntKind.u64.wrap ((sp.c : Int) + 1) = (((sp.c + 1) % 2 ^ 64 : Nat) : Int) := wrap_u64_nat' sp.c 1
              have i1 := wrap_u64_nat' sp.s r.v
              rw [i0, i1]
              exact HB.out.sums3b
            case measure => simp [intOf]; omega
        · replace h1 := And.intro h1 h3
          clear h3
          rcases Nat.lt_or_ge sp.mx r.v with h2 | h2
          · have e0 : ((j : Int) == 0) = false := by simp; omega
            have f1 : ¬ r.v < sp.mn := by have := h1.2; omega
            have f2 : sp.mx < r.v := by omega
            have HC := hide (And.intro h1 h2)
            clear h1 h2
            go_wp2
            go_roundw
            case rel =>
              refine ⟨j + 1, by go_num, by omega, ?_, ?b0, ?bb⟩
              case b0 => exact (((HB0.out.far1 (Nat.ne_of_lt (Nat.lt_succ_self _))).far1 (Nat.ne_of_lt (Nat.lt_succ_self _))).far1 (Nat.ne_of_lt (Nat.lt_succ_self _)))
              case bb => exact (below_set1 (below_set1 (below_set1 HHB.out (Nat.le_succ _)) (Nat.le_succ _)) (Nat.le_succ _))
              have hnew : sumsOf (ents (rows.take (j + 1))) = ⟨(sp.c + 1) % 2 ^ 64, (sp.s + r.v) % 2 ^ 64, sp.mn, r.v⟩ := by
                rw [HST.out]
                have h1 := HC.out.1
                have h2 := HC.out.2
                rw [if_neg (fun h => by have := HEM.out.1 h; omega)]
                have : Nat.max sp.mx r.v = r.v := by show max sp.mx r.v = _; omega
                rw [this]
                have : Nat.min sp.mn r.v = sp.mn := by show min sp.mn r.v = _; omega
                rw [this]
              rw [hnew]
              have i0 : IntKind.u64.wrap ((sp.c : Int) + 1) = (((sp.c + 1) % 2 ^ 64 : Nat) : Int) := wrap_u64_nat' sp.c 1
              have i1 := wrap_u64_nat' sp.s r.v
              rw [i0, i1]
              exact HB.out.sums3a
            case measure => simp [intOf]; omega
          · have e0 : ((j : Int) == 0) = false := by simp; omega
            have f1 : ¬ r.v < sp.mn := by have := h1.2; omega
            have f2 : ¬ sp.mx < r.v := by omega
            have HC := hide (And.intro h1 h2)
            clear h1 h2
            go_wp2
            go_roundw
            case rel =>
              refine ⟨j + 1, by go_num, by omega, ?_, ?b0, ?bb⟩
              case b0 => exact ((HB0.out.far1 (Nat.ne_of_lt (Nat.lt_succ_self _))).far1 (Nat.ne_of_lt (Nat.lt_succ_self _)))
              case bb => exact (below_set1 (below_set1 HHB.out (Nat.le_succ _)) (Nat.le_succ _))
              have hnew : sumsOf (ents (rows.take (j + 1))) = ⟨(sp.c + 1) % 2 ^ 64, (sp.s + r.v) % 2 ^ 64, sp.mn, sp.mx⟩ := by
                rw [HST.out]
                have h1 := HC.out.1
                have h2 := HC.out.2
                rw [if_neg (fun h => by have := HEM.out.1 h; omega)]
                have : Nat.max sp.mx r.v = sp.mx := by show max sp.mx r.v = _; omega
                rw [this]
                have : Nat.min sp.mn r.v = sp.mn := by show min sp.mn r.v = _; omega
                rw [this]
              rw [hnew]
              have i0 : IntKind.u64.wrap ((sp.c : Int) + 1) = (((sp.c + 1) % 2 ^ 64 : Nat) : Int) := wrap_u64_nat' sp.c 1
              have i1 := wrap_u64_nat' sp.s r.v
              rw [i0, i1]
              exact HB.out.sums2
            case measure => simp [intOf]; omega
    · have hj' : j = n := by omega
      have hsum : sumsOf (ents rows) = sp := by
        rw [← hsp, List.take_of_length_le (by have := HL.out; omega)]
      have HS := hide hsum
      clear hsum
      have q0 := HB0.out.frozen 0
      have q1 := HB0.out.frozen 1
      have q2 := HB0.out.frozen 2
      have q3 := HB0.out.frozen 3
      have p0 := HB0.out.cell 0
      have p1 := HB0.out.cell 1
      have p2 := HB0.out.cell 2
      have p3 := HB0.out.cell 3
      simp at p0 p1 p2 p3
      have HJ := hide hj'
      have e9 : decide ((j : Int) < (n : Int)) = false := by simp; omega
      clear hj'
      have e4 := (((HB0.out.set1 (i := 0) (.int .u64 (sp.c : Int))).set1 (i := 1) (.int .u64 (sp.s : Int))).set1 (i := 2) (.int .u64 (sp.mn : Int))).set1 (i := 3) (.int .u64 (sp.mx : Int))
      have b4 := below_set1 (i := 3) (x := .int .u64 (sp.mx : Int)) (below_set1 (i := 2) (x := .int .u64 (sp.mn : Int)) (below_set1 (i := 1) (x := .int .u64 (sp.s : Int)) (below_set1 (i := 0) (x := .int .u64 (sp.c : Int)) HHB.out (Nat.le_refl _)) (Nat.le_refl _)) (Nat.le_refl _)) (Nat.le_refl _)
      have g0 := e4.cell 0
      have g1 := e4.cell 1
      have g2 := e4.cell 2
      have g3 := e4.cell 3
      simp at g0 g1 g2 g3
      go_wp2
      refine bodyPost_ret (v := sp.val) (by simp [results, Try.results100, go_sem, g0, g1, g2, g3, Sum4.val]) rfl ⟨?_, b4⟩
      rw [HS.out]
end Go.Proofs.Ytkknfnjojamgjaa
