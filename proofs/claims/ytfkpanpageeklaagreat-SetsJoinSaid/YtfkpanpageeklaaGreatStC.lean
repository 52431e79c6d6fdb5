/- sets: an entry that both have. -/
import Derived.Test.YtfkpanpageeklaaGreatStB
set_option linter.unusedSimpArgs false
set_option linter.unusedVariables false
namespace Go.Proofs.YtfkpanpageeklaaGreat
open Go.RowKit
def EtOut (w : World) (k r : Nat) (bo : Bool) (p : List Nat) (va vb : Nat) (e : Ending) (w' : World) : Prop :=
  ∃ tc, e = .returned (ptrOf tc) ∧ TopOk w' k tc ∧ (∀ x, x ∈ esOf tc ↔ bo = true ∧ x = (p, stval r va vb)) ∧ Below w.heap.size w w'
set_option maxHeartbeats 8000000 in
set_option maxRecDepth 100000 in
theorem st_entry {w : World} {k ga gb r va vb xc : Nat} {l rt bo : Bool} {p : List Nat} {XA : Option Addr} (hk1 : 1 ≤ k) (hk : k ≤ 16) (h1 : 1 ≤ r) (h6 : r ≤ 6) (hA : NodeOf w k ga (-1) p [(p, va)]) (hB : NodeOf w k gb (-1) p [(p, vb)]) (hX : Pt w XA k p) :
    Calls Tryz.prog 91 #[.agg #[.int .i64 (r : Int), .bool l, .bool rt, .bool bo], .pointer (some ⟨ga, 0, none⟩), .agg #[.slice XA k xc, .int .u64 (va : Int)], .pointer (some ⟨gb, 0, none⟩)] w (EtOut w k r bo p va vb) := by
  have hb1 := (Below.refl w.heap.size w).alloc (Nat.le_refl _) (.cells #[.int .i64 (r : Int), .bool l, .bool rt, .bool bo] 71)
  have hJ := Blk.new w 71 #[.int .i64 (r : Int), .bool l, .bool rt, .bool bo]
  generalize hw1 : w.alloc (.cells #[.int .i64 (r : Int), .bool l, .bool rt, .bool bo] 71) = w1 at *
  have hs1 : w1.heap.size = w.heap.size + 1 := by rw [← hw1]; simp
  have hb2 := below_alloc hb1 (Nat.le_refl _) (.cells #[.slice XA k xc, .int .u64 (va : Int)] 83)
  have hq2 := (Below.refl w1.heap.size w1).alloc (Nat.le_refl _) (.cells #[.slice XA k xc, .int .u64 (va : Int)] 83)
  have hE := Blk.new w1 83 #[.slice XA k xc, .int .u64 (va : Int)]
  rw [hs1] at hE
  have hJ2 := hJ.below hq2
  generalize hw2 : w1.alloc (.cells #[.slice XA k xc, .int .u64 (va : Int)] 83) = w2 at *
  have hva : va < 2 ^ 64 := (hA.info.2.2.2.2.1 _ (List.mem_singleton.2 rfl)).2.1
  have hvb : vb < 2 ^ 64 := (hB.info.2.2.2.2.1 _ (List.mem_singleton.2 rfl)).2.1
  have j0 := hJ2.cell 0
  have j3 := hJ2.cell 3
  simp at j0 j3
  have HB2 := hide hb2
  have HJ := hide hJ2
  have HE := hide hE
  have HA := hide hA
  have HX := hide hX
  have HV := hide (And.intro hva hvb)
  have HW := hide (And.intro hw1 hw2)
  have hcB := hB.cases'
  clear hb1 hJ hb2 hq2 hE hJ2 hA hX hva hvb
  cases bo with
  | false =>
    have HF := hide (show EtOut w k r false p va vb (.returned (.pointer none)) w2 from by
      refine ⟨none, rfl, ?_, ?_, HB2.out⟩
      · intro x hx
        cases hx
      · intro x
        simp [esOf])
    subst hw1 hw2
    clear hcB hB
    go_enter Tryz.func91, Tryz.ntmps91
    go_wp2
    go_ret
    exact HF.out
  | true =>
    rcases hcB with ⟨A, c, v, _, hes, hv, hP, hc, hBk⟩ | ⟨m, ks, h0, _⟩
    case inr => omega
    obtain rfl : v = vb := by
      injection hes with h _
      injection h with _ h
      exact h.symm
    have HEN := hide (nd_entry_leaf (hBk.below HB2.out) (hP.below HB2.out) hk)
    have hval := st_value
    subst hw1 hw2
    clear hB hes hv hP hc hBk hval
    go_enter Tryz.func91, Tryz.ntmps91
    go_wp2_with fail
    refine HEN.out.mono ?_
    rintro e w3 ⟨BB, d, rfl, ho, hb3⟩
    have hal := (Below.refl w3.heap.size w3).alloc (Nat.le_refl _) (.cells #[.slice BB k d, .int .u64 (v : Int)] 83)
    have hb4 := below_then hb3 hal
    have hN4 := Blk.new w3 83 #[.slice BB k d, .int .u64 (v : Int)]
    have hJ4 := HJ.out.below hb4
    have hE4 := HE.out.below hb4
    have y1 := hN4.cell 1
    have j0 := hJ4.cell 0
    have x0 := hE4.cell 0
    have x1 := hE4.cell 1
    simp at y1 j0 x0 x1
    have HB4 := hide (below_then HB2.out hb4)
    clear ho hb3 hal hb4 hN4 hJ4 hE4 HEN
    go_wp2_with fail
    refine (st_value _ r va v h1 h6 HV.out.1 HV.out.2).mono ?_
    rintro e w5 ⟨rfl, rfl⟩
    by_cases hsv : stval r va v = va
    · have e7 : (((stval r va v : Nat) : Int) == (va : Int)) = true := by rw [hsv]; simp
      have HF := hide (show EtOut w k r true p va v (.returned (.pointer (some ⟨ga, 0, none⟩))) _ from ⟨some (ga, ⟨-1, p, [(p, va)]⟩), rfl, fun x hx => by injection hx with hx; subst hx; exact HA.out.stay HB4.out, fun x => by rw [hsv]; simp [esOf], HB4.out⟩)
      clear hsv
      go_wp2
      go_ret
      exact HF.out
    · have e7 : (((stval r va v : Nat) : Int) == (va : Int)) = false := by simp; omega
      have HLF := hide (nd_leaf XA k xc p (stval r va v) _ (HX.out.below HB4.out) (stval_lt HV.out.1 HV.out.2) hk1 hk)
      clear hsv
      go_wp2_with fail
      refine HLF.out.mono ?_
      rintro e w6 ⟨g6, rfl, hn6, -, hb6⟩
      have HF := hide (show EtOut w k r true p va v (.returned (.pointer (some ⟨g6, 0, none⟩))) w6 from ⟨some (g6, ⟨-1, p, [(p, stval r va v)]⟩), rfl, fun x hx => by injection hx with hx; subst hx; exact hn6, fun x => by simp [esOf], below_then HB4.out hb6⟩)
      clear hn6 hb6
      go_wp2
      go_ret
      exact HF.out
end Go.Proofs.YtfkpanpageeklaaGreat
