/- sets: the small ones. -/
import Derived.Test.YtfkpanpageeklaaRkU
set_option linter.unusedSimpArgs false
set_option linter.unusedVariables false
namespace Go.Proofs.Ytfkpanpageeklaa
open Go.RowKit
/-- Two tops as one: who is in it. -/
def JdOut (w : World) (k : Nat) (ea eb : List Ent) (e : Ending) (w' : World) : Prop :=
  ∃ tc, e = .returned (ptrOf tc) ∧ TopOk w' k tc ∧ (∀ x, x ∈ esOf tc ↔ x ∈ ea ∨ x ∈ eb) ∧ Below w.heap.size w w'
set_option maxHeartbeats 8000000 in
set_option maxRecDepth 100000 in
theorem st_add {w : World} {k m a : Nat} {pre : List Nat} {tn tk : Option (Nat × NT)} (hk1 : 1 ≤ k) (hk : k ≤ 16) (hm : m < 64) (hN : TopOk w k tn) (hK : TopOk w k tk)
    (hn : ∀ x ∈ esOf tn, addrOf x.1 m ≠ a ∧ ∀ b, m < b → addrOf x.1 b = addrOf pre b) (hq : ∀ x ∈ esOf tk, addrOf x.1 m = a ∧ ∀ b, m < b → addrOf x.1 b = addrOf pre b) :
    Calls Try.prog 103 #[ptrOf tn, .int .i64 (m : Int), ptrOf tk] w (JdOut w k (esOf tn) (esOf tk)) := by
  cases tk with
  | none =>
    have HF := hide (show JdOut w k (esOf tn) [] (.returned (ptrOf tn)) w from ⟨tn, rfl, hN, fun x => by simp, Below.refl _ _⟩)
    clear hN hK hn hq
    cases tn with
    | none =>
      unfold ptrOf at HF ⊢
      simp only [Option.map_none] at HF ⊢
      go_enter Try.func103, Try.ntmps103
      go_wp2
      go_ret
      exact HF.out
    | some y =>
      unfold ptrOf at HF ⊢
      simp only [Option.map_some, Option.map_none] at HF ⊢
      go_enter Try.func103, Try.ntmps103
      go_wp2
      go_ret
      exact HF.out
  | some z =>
    obtain ⟨gk, lk, pk, ek⟩ := z
    have hZ := hK _ rfl
    simp only [esOf] at hq hZ ⊢
    cases tn with
    | none =>
      have HF := hide (show JdOut w k [] ek (.returned (.pointer (some ⟨gk, 0, none⟩))) w from ⟨some (gk, ⟨lk, pk, ek⟩), rfl, hK, fun x => by simp [esOf], Below.refl _ _⟩)
      clear hN hK hn hq hZ
      unfold ptrOf
      simp only [Option.map_some, Option.map_none]
      go_enter Try.func103, Try.ntmps103
      go_wp2
      go_ret
      exact HF.out
    | some y =>
      obtain ⟨gn, ln, pn, en⟩ := y
      have hY := hN _ rfl
      simp only [esOf] at hn hY ⊢
      obtain ⟨x0, hx0⟩ := List.exists_mem_of_ne_nil _ hZ.info.2.1
      have hku := under (m := m) (z := x0.1) hZ (fun x hx b hb => by
        rcases Nat.eq_or_lt_of_le hb with h | h
        · subst h
          rw [(hq x hx).1, (hq x0 hx0).1]
        · rw [(hq x hx).2 b h, (hq x0 hx0).2 b h])
      have hka : addrOf pk m = a := (hku.2 m (Nat.le_refl _)).trans (hq x0 hx0).1
      have hkb : ∀ b, m < b → addrOf pk b = addrOf pre b := fun b hb => (hku.2 b (by omega)).trans ((hq x0 hx0).2 b hb)
      have hnu := under (m := m + 1) (z := pre) hY (fun x hx b hb => (hn x hx).2 b (by omega))
      have hagr : ∀ b, m < b → addrOf pn b = addrOf pk b := fun b hb => (hnu.2 b (by omega)).trans (hkb b hb).symm
      have HLE := hide (nd_level hY)
      rcases Int.lt_or_le ln (m : Int) with hl | hl
      · obtain ⟨x1, hx1⟩ := List.exists_mem_of_ne_nil _ hY.info.2.1
        have hna : addrOf pn m ≠ addrOf pk m := by
          rw [hka, ← (hY.info.2.2.2.2.1 x1 hx1).2.2 m hl]
          exact (hn x1 hx1).1
        have hpm := part_unique hY.info.1 hZ.info.1 hagr hna
        have HPA := hide (nd_pair hY hZ hk1 hk hpm hl hku.1)
        have HNA := hide hna
        have e1 : decide (ln < (m : Int)) = true := by simpa using hl
        clear hN hK hn hq hZ hY hku hka hkb hnu hagr hna hpm hl hx0 hx1
        unfold ptrOf
        simp only [Option.map_some]
        go_enter Try.func103, Try.ntmps103
        go_wp2_with fail
        refine HLE.out.mono ?_
        rintro e w1 ⟨rfl, rfl⟩
        go_wp2_with fail
        refine HPA.out.mono ?_
        rintro e w2 ⟨g2, rfl, hF, -, hb⟩
        have HF := hide (show JdOut w k en ek (.returned (.pointer (some ⟨g2, 0, none⟩))) w2 from ⟨some (g2, ⟨m, _, _⟩), rfl, fun x hx => by injection hx with hx; subst hx; exact hF.node, pair_mem HNA.out, hb⟩)
        clear hF hb
        go_wp2
        go_ret
        exact HF.out
      · rcases hY.cases' with ⟨_, _, _, h0, _⟩ | ⟨m', ks, hm', hes, hF⟩
        · exfalso
          have := hnu.1
          omega
        have hmm : m' = m := by have := hnu.1; omega
        subst hmm hm' hes
        have HWI := hide (nd_with hF hZ hk1 hk ((part_le_iff hF.node.info.1 hZ.info.1 m' (by omega)).2 fun b hb => hagr b (by omega)) hku.1)
        have HFK := hide hF
        have HKA := hide hka
        have HN := hide (fun x hx => (hn x hx).1)
        have HQ := hide (fun x hx => (hq x hx).1)
        have e1 : decide ((m' : Int) < (m' : Int)) = false := by simp
        clear hN hK hn hq hZ hY hku hka hkb hnu hagr hl hx0 hF
        unfold ptrOf
        simp only [Option.map_some]
        go_enter Try.func103, Try.ntmps103
        go_wp2_with fail
        refine HLE.out.mono ?_
        rintro e w1 ⟨rfl, rfl⟩
        go_wp2_with fail
        refine HWI.out.mono ?_
        rintro e w2 ⟨g2, rfl, hF2, -, hb⟩
        have HF := hide (show JdOut w k (kidEs ks) ek (.returned (.pointer (some ⟨g2, 0, none⟩))) w2 from ⟨some (g2, ⟨m', _, _⟩), rfl, fun x hx => by injection hx with hx; subst hx; exact hF2.node, fun x => by
          show x ∈ kidEs (insK ks _) ↔ _
          rw [mem_ins hF2 HFK.out]
          simp only
          rw [HKA.out]
          constructor
          · rintro (⟨_, h⟩ | ⟨_, h⟩)
            · exact .inr h
            · exact .inl h
          · rintro (h | h)
            · exact .inr ⟨HN.out x h, h⟩
            · exact .inl ⟨HQ.out x h, h⟩, hb⟩)
        clear hF2 hb
        go_wp2
        go_ret
        exact HF.out
/-- Of two values, by a rule. -/
def stval (r a b : Nat) : Nat := if r = 1 then a else if r = 2 then b else if r = 3 then min a b else if r = 4 then max a b else if r = 5 then (a + b) % 2 ^ 64 else max a b - min a b
theorem stval_lt {r a b : Nat} (ha : a < 2 ^ 64) (hb : b < 2 ^ 64) : stval r a b < 2 ^ 64 := by
  unfold stval
  split
  · exact ha
  split
  · exact hb
  split
  · omega
  split
  · omega
  split
  · exact Nat.mod_lt _ (by decide)
  · omega
set_option maxHeartbeats 2000000 in
set_option maxRecDepth 100000 in
theorem st_value (w : World) (r a b : Nat) (h1 : 1 ≤ r) (h6 : r ≤ 6) (ha : a < 2 ^ 64) (hb : b < 2 ^ 64) : Calls Try.prog 113 #[.int .i64 (r : Int), .int .u64 (a : Int), .int .u64 (b : Int)] w fun e w' => e = .returned (.int .u64 (stval r a b : Nat)) ∧ w = w' := by
  have hmin : min (a : Int) (b : Int) = ((min a b : Nat) : Int) := by omega
  have hmax : max (a : Int) (b : Int) = ((max a b : Nat) : Int) := by omega
  have hadd := wrap_u64_nat' a b
  have hsub : IntKind.u64.wrap (((max a b : Nat) : Int) - ((min a b : Nat) : Int)) = ((max a b - min a b : Nat) : Int) := by
    have h := wrap_u64_nat' (max a b - min a b) 0
    rw [Nat.add_zero, Nat.mod_eq_of_lt (by omega), Int.natCast_zero, Int.add_zero] at h
    rw [show ((max a b : Nat) : Int) - ((min a b : Nat) : Int) = ((max a b - min a b : Nat) : Int) by omega]
    exact h
  have hr : r = 1 ∨ r = 2 ∨ r = 3 ∨ r = 4 ∨ r = 5 ∨ r = 6 := by omega
  clear h1 h6 ha hb
  rcases hr with rfl | rfl | rfl | rfl | rfl | rfl
  · clear hmin hmax hadd hsub
    go_enter Try.func113, Try.ntmps113
    go_wp2
    go_ret
    exact ⟨rfl, rfl⟩
  · clear hmin hmax hadd hsub
    go_enter Try.func113, Try.ntmps113
    go_wp2
    go_ret
    exact ⟨rfl, rfl⟩
  · have HF := hide hmin
    clear hmin hmax hadd hsub
    go_enter Try.func113, Try.ntmps113
    go_wp2
    go_ret
    refine ⟨?_, rfl⟩
    first
      | rfl
      | (rw [HF.out]; rfl)
  · have HF := hide hmax
    clear hmin hmax hadd hsub
    go_enter Try.func113, Try.ntmps113
    go_wp2
    go_ret
    refine ⟨?_, rfl⟩
    first
      | rfl
      | (rw [HF.out]; rfl)
  · have HF := hide hadd
    clear hmin hmax hadd hsub
    go_enter Try.func113, Try.ntmps113
    go_wp2
    go_ret
    refine ⟨?_, rfl⟩
    first
      | rfl
      | (rw [HF.out]; rfl)
  · have HF := hide (And.intro hmin (And.intro hmax hsub))
    clear hmin hmax hadd hsub
    go_enter Try.func113, Try.ntmps113
    go_wp2
    go_ret
    refine ⟨?_, rfl⟩
    first
      | rfl
      | (rw [HF.out.1, HF.out.2.1, HF.out.2.2]; rfl)
set_option maxHeartbeats 1000000 in
set_option maxRecDepth 100000 in
theorem st_check_nil_l (w : World) (b : Value) (r : Int) (hb : b = .pointer none ∨ ∃ g, b = .pointer (some ⟨g, 0, none⟩)) : Calls Try.prog 28 #[.pointer none, b, .int .i64 r] w fun e w' => e = .returned (.int .i64 1) ∧ w = w' := by
  rcases hb with rfl | ⟨g, rfl⟩
  all_goals
    go_enter Try.func28, Try.ntmps28
    go_wp2
    go_ret
    exact ⟨rfl, rfl⟩
set_option maxHeartbeats 1000000 in
set_option maxRecDepth 100000 in
theorem st_check_nil_r (w : World) (g : Nat) (r : Int) : Calls Try.prog 28 #[.pointer (some ⟨g, 0, none⟩), .pointer none, .int .i64 r] w fun e w' => e = .returned (.int .i64 1) ∧ w = w' := by
  go_enter Try.func28, Try.ntmps28
  go_wp2
  go_ret
  exact ⟨rfl, rfl⟩
def ckCode (k k' : Nat) (r : Int) : Int := if k ≠ k' then 2 else if r < 1 ∨ 6 < r then 12 else 0
set_option maxHeartbeats 2000000 in
set_option maxRecDepth 100000 in
theorem st_check {w : World} {a b k k' : Nat} {ra rb : Option Addr} (hA : TreeBlk w a k ra) (hB : TreeBlk w b k' rb) (r : Int) : Calls Try.prog 28 #[.pointer (some ⟨a, 0, none⟩), .pointer (some ⟨b, 0, none⟩), .int .i64 r] w fun e w' => e = .returned (.int .i64 (ckCode k k' r)) ∧ w = w' := by
  have HK := hide (tr_k hA)
  have HK' := hide (tr_k hB)
  clear hA hB
  by_cases hk : k = k'
  · subst hk
    have e1 : ((k : Int) != (k : Int)) = false := by simp
    by_cases h1 : r < 1
    · have e2 : decide (r < 1) = true := by simpa using h1
      have HF := hide (show ckCode k k r = 12 by simp [ckCode, h1])
      clear h1
      go_enter Try.func28, Try.ntmps28
      go_wp2_with fail
      refine HK.out.mono ?_
      rintro e w1 ⟨rfl, rfl⟩
      go_wp2_with fail
      refine HK'.out.mono ?_
      rintro e w1 ⟨rfl, rfl⟩
      go_wp2
      go_ret
      exact ⟨by rw [HF.out]; rfl, rfl⟩
    · have e2 : decide (r < 1) = false := by simpa using h1
      by_cases h6 : 6 < r
      · have e3 : decide ((6 : Int) < r) = true := by simpa using h6
        have HF := hide (show ckCode k k r = 12 by simp [ckCode, h6])
        clear h1 h6
        go_enter Try.func28, Try.ntmps28
        go_wp2_with fail
        refine HK.out.mono ?_
        rintro e w1 ⟨rfl, rfl⟩
        go_wp2_with fail
        refine HK'.out.mono ?_
        rintro e w1 ⟨rfl, rfl⟩
        go_wp2
        go_ret
        exact ⟨by rw [HF.out]; rfl, rfl⟩
      · have e3 : decide ((6 : Int) < r) = false := by simpa using h6
        have HF := hide (show ckCode k k r = 0 by simp [ckCode, h1, h6])
        clear h1 h6
        go_enter Try.func28, Try.ntmps28
        go_wp2_with fail
        refine HK.out.mono ?_
        rintro e w1 ⟨rfl, rfl⟩
        go_wp2_with fail
        refine HK'.out.mono ?_
        rintro e w1 ⟨rfl, rfl⟩
        go_wp2
        go_ret
        exact ⟨by rw [HF.out]; rfl, rfl⟩
  · have e1 : ((k : Int) != (k' : Int)) = true := by simp; omega
    have HF := hide (show ckCode k k' r = 2 by simp [ckCode, hk])
    clear hk
    go_enter Try.func28, Try.ntmps28
    go_wp2_with fail
    refine HK.out.mono ?_
    rintro e w1 ⟨rfl, rfl⟩
    go_wp2_with fail
    refine HK'.out.mono ?_
    rintro e w1 ⟨rfl, rfl⟩
    go_wp2
    go_ret
    exact ⟨by rw [HF.out]; rfl, rfl⟩
set_option maxHeartbeats 1000000 in
set_option maxRecDepth 100000 in
theorem st_side (w : World) (t : Option (Nat × NT)) (b : Bool) : Calls Try.prog 99 #[ptrOf t, .bool b] w fun e w' => e = .returned (ptrOf (if b then t else none)) ∧ w = w' := by
  cases b with
  | false =>
    go_enter Try.func99, Try.ntmps99
    go_wp2
    go_ret
    exact ⟨rfl, rfl⟩
  | true =>
    go_enter Try.func99, Try.ntmps99
    go_wp2
    go_ret
    exact ⟨rfl, rfl⟩
end Go.Proofs.Ytfkpanpageeklaa
