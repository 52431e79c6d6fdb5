/- diff: Changes, Count, Same. -/
import Derived.Test.YtfkpanpageeklaaDfG
set_option linter.unusedSimpArgs false
set_option linter.unusedVariables false
namespace Go.Proofs.Ytfkpanpageeklaa
open Go.RowKit
theorem rootq {w : World} {t k : Nat} {top : Option (Nat × NT)} (h : TreeBlk w t k (top.map fun y => ⟨y.1, 0, none⟩)) : Calls Try.prog 30 #[.pointer (some ⟨t, 0, none⟩)] w fun e w' => e = .returned (ptrOf top) ∧ w = w' := by
  have h1 := tr_root h
  cases top <;> exact h1
def dcCode (k k' : Nat) : Int := if k = k' then 0 else 2
set_option maxHeartbeats 8000000 in
set_option maxRecDepth 100000 in
theorem df_check_nil_ll (w : World) : Calls Try.prog 35 #[.pointer none, .pointer none] w fun e w' => e = .returned (.int .i64 1) ∧ w = w' := by
  go_enter Try.func35, Try.ntmps35
  go_wp2
  go_ret
  exact ⟨rfl, rfl⟩
set_option maxHeartbeats 8000000 in
set_option maxRecDepth 100000 in
theorem df_changes_nil_ll (w : World) : Calls Try.prog 14 #[.pointer none, .pointer none] w fun e w' => e = .returned (.tuple #[.slice none 0 0, .int .i64 1]) ∧ w = w' := by
  have HC := hide (df_check_nil_ll w)
  go_enter Try.func14, Try.ntmps14
  go_wp2_with fail
  refine HC.out.mono ?_
  rintro e w1 ⟨rfl, rfl⟩
  go_wp2
  go_ret2
  exact ⟨rfl, rfl⟩
set_option maxHeartbeats 8000000 in
set_option maxRecDepth 100000 in
theorem df_count_nil_ll (w : World) : Calls Try.prog 15 #[.pointer none, .pointer none] w fun e w' => e = .returned (.tuple #[.int .i64 0, .int .i64 1]) ∧ w = w' := by
  have HC := hide (df_changes_nil_ll w)
  go_enter Try.func15, Try.ntmps15
  go_wp2_with fail
  refine HC.out.mono ?_
  rintro e w1 ⟨rfl, rfl⟩
  go_wp2
  go_ret2
  exact ⟨rfl, rfl⟩
set_option maxHeartbeats 8000000 in
set_option maxRecDepth 100000 in
theorem df_steps_nil_ll (w : World) : Calls Try.prog 20 #[.pointer none, .pointer none] w fun e w' => e = .returned (.tuple #[.int .i64 0, .int .i64 1]) ∧ w = w' := by
  have HC := hide (df_check_nil_ll w)
  go_enter Try.func20, Try.ntmps20
  go_wp2_with fail
  refine HC.out.mono ?_
  rintro e w1 ⟨rfl, rfl⟩
  go_wp2
  go_ret2
  exact ⟨rfl, rfl⟩
set_option maxHeartbeats 8000000 in
set_option maxRecDepth 100000 in
theorem df_check_nil_l (w : World) (g : Nat) : Calls Try.prog 35 #[.pointer none, .pointer (some ⟨g, 0, none⟩)] w fun e w' => e = .returned (.int .i64 1) ∧ w = w' := by
  go_enter Try.func35, Try.ntmps35
  go_wp2
  go_ret
  exact ⟨rfl, rfl⟩
set_option maxHeartbeats 8000000 in
set_option maxRecDepth 100000 in
theorem df_changes_nil_l (w : World) (g : Nat) : Calls Try.prog 14 #[.pointer none, .pointer (some ⟨g, 0, none⟩)] w fun e w' => e = .returned (.tuple #[.slice none 0 0, .int .i64 1]) ∧ w = w' := by
  have HC := hide (df_check_nil_l w g)
  go_enter Try.func14, Try.ntmps14
  go_wp2_with fail
  refine HC.out.mono ?_
  rintro e w1 ⟨rfl, rfl⟩
  go_wp2
  go_ret2
  exact ⟨rfl, rfl⟩
set_option maxHeartbeats 8000000 in
set_option maxRecDepth 100000 in
theorem df_count_nil_l (w : World) (g : Nat) : Calls Try.prog 15 #[.pointer none, .pointer (some ⟨g, 0, none⟩)] w fun e w' => e = .returned (.tuple #[.int .i64 0, .int .i64 1]) ∧ w = w' := by
  have HC := hide (df_changes_nil_l w g)
  go_enter Try.func15, Try.ntmps15
  go_wp2_with fail
  refine HC.out.mono ?_
  rintro e w1 ⟨rfl, rfl⟩
  go_wp2
  go_ret2
  exact ⟨rfl, rfl⟩
set_option maxHeartbeats 8000000 in
set_option maxRecDepth 100000 in
theorem df_steps_nil_l (w : World) (g : Nat) : Calls Try.prog 20 #[.pointer none, .pointer (some ⟨g, 0, none⟩)] w fun e w' => e = .returned (.tuple #[.int .i64 0, .int .i64 1]) ∧ w = w' := by
  have HC := hide (df_check_nil_l w g)
  go_enter Try.func20, Try.ntmps20
  go_wp2_with fail
  refine HC.out.mono ?_
  rintro e w1 ⟨rfl, rfl⟩
  go_wp2
  go_ret2
  exact ⟨rfl, rfl⟩
set_option maxHeartbeats 8000000 in
set_option maxRecDepth 100000 in
theorem df_check_nil_r (w : World) (g : Nat) : Calls Try.prog 35 #[.pointer (some ⟨g, 0, none⟩), .pointer none] w fun e w' => e = .returned (.int .i64 1) ∧ w = w' := by
  go_enter Try.func35, Try.ntmps35
  go_wp2
  go_ret
  exact ⟨rfl, rfl⟩
set_option maxHeartbeats 8000000 in
set_option maxRecDepth 100000 in
theorem df_changes_nil_r (w : World) (g : Nat) : Calls Try.prog 14 #[.pointer (some ⟨g, 0, none⟩), .pointer none] w fun e w' => e = .returned (.tuple #[.slice none 0 0, .int .i64 1]) ∧ w = w' := by
  have HC := hide (df_check_nil_r w g)
  go_enter Try.func14, Try.ntmps14
  go_wp2_with fail
  refine HC.out.mono ?_
  rintro e w1 ⟨rfl, rfl⟩
  go_wp2
  go_ret2
  exact ⟨rfl, rfl⟩
set_option maxHeartbeats 8000000 in
set_option maxRecDepth 100000 in
theorem df_count_nil_r (w : World) (g : Nat) : Calls Try.prog 15 #[.pointer (some ⟨g, 0, none⟩), .pointer none] w fun e w' => e = .returned (.tuple #[.int .i64 0, .int .i64 1]) ∧ w = w' := by
  have HC := hide (df_changes_nil_r w g)
  go_enter Try.func15, Try.ntmps15
  go_wp2_with fail
  refine HC.out.mono ?_
  rintro e w1 ⟨rfl, rfl⟩
  go_wp2
  go_ret2
  exact ⟨rfl, rfl⟩
set_option maxHeartbeats 8000000 in
set_option maxRecDepth 100000 in
theorem df_steps_nil_r (w : World) (g : Nat) : Calls Try.prog 20 #[.pointer (some ⟨g, 0, none⟩), .pointer none] w fun e w' => e = .returned (.tuple #[.int .i64 0, .int .i64 1]) ∧ w = w' := by
  have HC := hide (df_check_nil_r w g)
  go_enter Try.func20, Try.ntmps20
  go_wp2_with fail
  refine HC.out.mono ?_
  rintro e w1 ⟨rfl, rfl⟩
  go_wp2
  go_ret2
  exact ⟨rfl, rfl⟩
theorem tptr_ns (b : Nat) (w : World) : (binOp .eql 25 (.pointer none) (.pointer (some ⟨b, 0, none⟩))).run Try.prog w = .ok (.bool false) w := by
  have h : ∀ d : Nat, (Op.equalIn (d + 1) 25 (.pointer none) (.pointer (some ⟨b, 0, none⟩))).run Try.prog w = .ok false w := fun d => by
    simp [Op.equalIn, run_underlying Try.underlying25, sizeOf, typeInfo]
  simp only [binOp]
  simp [Op.equal, Op.maxDepth, h 9999]
set_option maxHeartbeats 8000000 in
set_option maxRecDepth 100000 in
theorem df_same_nil_ll (w : World) : Calls Try.prog 19 #[.pointer none, .pointer none] w fun e w' => e = .returned (.bool true) ∧ w = w' := by
  go_enter Try.func19, Try.ntmps19
  go_wp2
  go_ret
  exact ⟨rfl, rfl⟩
set_option maxHeartbeats 8000000 in
set_option maxRecDepth 100000 in
theorem df_same_nil_l (w : World) (g : Nat) : Calls Try.prog 19 #[.pointer none, .pointer (some ⟨g, 0, none⟩)] w fun e w' => e = .returned (.bool false) ∧ w = w' := by
  have hns := tptr_ns
  go_enter Try.func19, Try.ntmps19
  go_wp2
  go_ret
  exact ⟨rfl, rfl⟩
set_option maxHeartbeats 8000000 in
set_option maxRecDepth 100000 in
theorem df_same_nil_r (w : World) (g : Nat) : Calls Try.prog 19 #[.pointer (some ⟨g, 0, none⟩), .pointer none] w fun e w' => e = .returned (.bool false) ∧ w = w' := by
  go_enter Try.func19, Try.ntmps19
  go_wp2
  go_ret
  exact ⟨rfl, rfl⟩
set_option maxHeartbeats 8000000 in
set_option maxRecDepth 100000 in
theorem df_check {w : World} {a b k k' : Nat} {ra rb : Option Addr} (hA : TreeBlk w a k ra) (hB : TreeBlk w b k' rb) : Calls Try.prog 35 #[.pointer (some ⟨a, 0, none⟩), .pointer (some ⟨b, 0, none⟩)] w fun e w' => e = .returned (.int .i64 (dcCode k k')) ∧ w = w' := by
  have HK := hide (tr_k hA)
  have HK' := hide (tr_k hB)
  clear hA hB
  by_cases hk : k = k'
  · have e1 : ((k : Int) != (k' : Int)) = false := by simp; omega
    have HF := hide (show dcCode k k' = 0 by simp [dcCode, hk])
    clear hk
    go_enter Try.func35, Try.ntmps35
    go_wp2_with fail
    refine HK.out.mono ?_
    rintro e w1 ⟨rfl, rfl⟩
    go_wp2_with fail
    refine HK'.out.mono ?_
    rintro e w1 ⟨rfl, rfl⟩
    go_wp2
    go_ret
    exact ⟨by rw [HF.out]; rfl, rfl⟩
  · have e1 : ((k : Int) != (k' : Int)) = true := by simp; omega
    have HF := hide (show dcCode k k' = 2 by simp [dcCode, hk])
    clear hk
    go_enter Try.func35, Try.ntmps35
    go_wp2_with fail
    refine HK.out.mono ?_
    rintro e w1 ⟨rfl, rfl⟩
    go_wp2_with fail
    refine HK'.out.mono ?_
    rintro e w1 ⟨rfl, rfl⟩
    go_wp2
    go_ret
    exact ⟨by rw [HF.out]; rfl, rfl⟩
/-- What Changes gives. -/
def DcOut (w : World) (k : Nat) (ea eb : List Ent) (e : Ending) (w' : World) : Prop :=
  ∃ (A : Option Addr) (c : Nat) (rows : List CR), e = .returned (.tuple #[.slice A rows.length c, .int .i64 0]) ∧ Chgs ea eb (ces rows) ∧ w'.ownsRow w.heap.size 70 5 (.slice A rows.length c) rows.length (rows.flatMap chv) ∧ (∀ r ∈ rows, r.okT w' ∧ r.n = k) ∧ Below w.heap.size w w'
set_option maxHeartbeats 8000000 in
set_option maxRecDepth 100000 in
theorem df_changes_dim {w : World} {k k' a b : Nat} {ea eb : List Ent} (hA : TreeOf w k a ea) (hB : TreeOf w k' b eb) (hkk : k ≠ k') :
    Calls Try.prog 14 #[.pointer (some ⟨a, 0, none⟩), .pointer (some ⟨b, 0, none⟩)] w fun e w' => e = .returned (.tuple #[.slice none 0 0, .int .i64 2]) ∧ w = w' := by
  obtain ⟨ta, hTA, -, -, -, -⟩ := hA.top
  obtain ⟨tb, hTB, -, -, -, -⟩ := hB.top
  have hck := df_check hTA hTB
  rw [show dcCode k k' = 2 by simp [dcCode, hkk]] at hck
  have HCK := hide hck
  clear hA hB hTA hTB hck
  go_enter Try.func14, Try.ntmps14
  go_wp2_with fail
  refine HCK.out.mono ?_
  rintro e w1 ⟨rfl, rfl⟩
  go_wp2
  go_ret2
  exact ⟨rfl, rfl⟩
set_option maxHeartbeats 8000000 in
set_option maxRecDepth 100000 in
theorem df_changes {w : World} {k a b : Nat} {ea eb : List Ent} (hA : TreeOf w k a ea) (hB : TreeOf w k b eb) (hla : ea.length ≤ 60000) (hlb : eb.length ≤ 60000) :
    Calls Try.prog 14 #[.pointer (some ⟨a, 0, none⟩), .pointer (some ⟨b, 0, none⟩)] w (DcOut w k ea eb) := by
  obtain ⟨ta, hTA, hTopA, hea, hk1, hk⟩ := hA.top
  obtain ⟨tb, hTB, hTopB, heb, -, -⟩ := hB.top
  have hck := df_check hTA hTB
  rw [show dcCode k k = 0 by simp [dcCode]] at hck
  have HCK := hide hck
  have hal := (Below.refl w.heap.size w).alloc (Nat.le_refl _) (.cells #[.slice none 0 0] 36)
  have HAL := hide hal
  have HRA := hide (rootq (Blk.below hTA hal))
  have HRB := hide (rootq (Blk.below hTB hal))
  have HBO := hide (show Calls Try.prog 37 #[.agg #[.func (.func 36) #[] #[.pointer (some ⟨w.heap.size, 0, none⟩)]], ptrOf ta, ptrOf tb] (w.alloc (.cells #[.slice none 0 0] 36)) (DfOut true w (w.alloc (.cells #[.slice none 0 0] 36)) k w.heap.size [] (esOf ta) (esOf tb)) from
    df_hyp hk1 hk _ (w.alloc (.cells #[.slice none 0 0] 36)) w.heap.size [] ta tb (Nat.lt_succ_self _) hTopA hTopB (by rw [hea]; exact hla) (by rw [heb]; exact hlb) (Col.start _ _ _ _ w) hal (by rw [hea, heb]; simp only [List.length_nil]; omega))
  have hmf : ∀ (fn : Fn) (first cap : Array Value) (w : World), (Instr.makeFunc fn first cap).run Try.prog w = .ok (.func fn first cap) w := fun _ _ _ _ => rfl
  have HEE := hide (And.intro hea heb)
  clear hA hB hTA hTB hTopA hTopB hck hal hea heb
  go_enter Try.func14, Try.ntmps14
  go_wp2_with fail
  refine HCK.out.mono ?_
  rintro e w1 ⟨rfl, rfl⟩
  go_wp2_with fail
  refine HRA.out.mono ?_
  rintro e w1 ⟨rfl, rfl⟩
  go_wp2_with fail
  refine HRB.out.mono ?_
  rintro e w1 ⟨rfl, rfl⟩
  go_wp2_with fail
  refine HBO.out.mono ?_
  rintro e w2 ⟨rows, rfl, hs⟩
  have hcol := hs.col
  rw [List.nil_append] at hcol
  obtain ⟨A, c, z0, z1, z2, hBk, ho⟩ := hcol.cell
  have HF := hide (show DcOut w k ea eb (.returned (.tuple #[.slice A rows.length c, .int .i64 0])) w2 from ⟨A, c, rows, rfl, by have := hs.chg; rw [HEE.out.1, HEE.out.2] at this; exact this, ho, hs.ok, hs.below⟩)
  clear hs hcol hBk ho z1 z2
  go_wp2
  go_ret2
  exact HF.out
set_option maxHeartbeats 8000000 in
set_option maxRecDepth 100000 in
theorem df_count_dim {w : World} {k k' a b : Nat} {ea eb : List Ent} (hA : TreeOf w k a ea) (hB : TreeOf w k' b eb) (hkk : k ≠ k') :
    Calls Try.prog 15 #[.pointer (some ⟨a, 0, none⟩), .pointer (some ⟨b, 0, none⟩)] w fun e w' => e = .returned (.tuple #[.int .i64 0, .int .i64 2]) ∧ w = w' := by
  have HC := hide (df_changes_dim hA hB hkk)
  clear hA hB
  go_enter Try.func15, Try.ntmps15
  go_wp2_with fail
  refine HC.out.mono ?_
  rintro e w1 ⟨rfl, rfl⟩
  go_wp2
  go_ret2
  exact ⟨rfl, rfl⟩
set_option maxHeartbeats 8000000 in
set_option maxRecDepth 100000 in
theorem df_count {w : World} {k a b : Nat} {ea eb : List Ent} (hA : TreeOf w k a ea) (hB : TreeOf w k b eb) (hla : ea.length ≤ 60000) (hlb : eb.length ≤ 60000) :
    Calls Try.prog 15 #[.pointer (some ⟨a, 0, none⟩), .pointer (some ⟨b, 0, none⟩)] w fun e w' => ∃ (L : List CE), e = .returned (.tuple #[.int .i64 (L.length : Nat), .int .i64 0]) ∧ Chgs ea eb L ∧ Below w.heap.size w w' := by
  have HC := hide (df_changes hA hB hla hlb)
  clear hA hB
  go_enter Try.func15, Try.ntmps15
  go_wp2_with fail
  refine HC.out.mono ?_
  rintro e w1 ⟨A, c, rows, rfl, hch, -, -, hb⟩
  have HF := hide (And.intro hch hb)
  have HLN := hide (ces_len rows)
  clear hch hb
  go_wp2
  go_ret2
  exact ⟨ces rows, by rw [HLN.out]; rfl, HF.out.1, HF.out.2⟩
set_option maxHeartbeats 8000000 in
set_option maxRecDepth 100000 in
theorem df_same {w : World} {k k' a b : Nat} {ea eb : List Ent} (hA : TreeOf w k a ea) (hB : TreeOf w k' b eb) (hla : ea.length ≤ 60000) (hlb : eb.length ≤ 60000) :
    Calls Try.prog 19 #[.pointer (some ⟨a, 0, none⟩), .pointer (some ⟨b, 0, none⟩)] w fun e w' => e = .returned (.bool (decide (k = k' ∧ ea = eb))) ∧ Below w.heap.size w w' := by
  by_cases hkk : k = k'
  · subst hkk
    have HC := hide (df_count hA hB hla hlb)
    have HS := hide (And.intro hA.sorted.1 hB.sorted.1)
    generalize hbb : decide (k = k ∧ ea = eb) = bb
    have HBB := hide hbb
    clear hbb
    clear hA hB
    go_enter Try.func19, Try.ntmps19
    go_wp2_with fail
    refine HC.out.mono ?_
    rintro e w1 ⟨L, rfl, hch, hb⟩
    have hiff := Chgs.empty_iff HS.out.1 HS.out.2 hch
    cases L with
    | nil =>
      have HF := hide (show bb = true by rw [← HBB.out]; simp [hiff.1 rfl])
      have HB := hide hb
      simp only [List.length_nil, Int.natCast_zero]
      clear hch hb hiff
      go_wp2
      go_ret
      exact ⟨by rw [HF.out]; rfl, HB.out⟩
    | cons x L =>
      have HF := hide (show bb = false by
        rw [← HBB.out]
        have : ea ≠ eb := fun h => by have := hiff.2 h; cases this
        simp [this])
      have HB := hide hb
      have e1 : ((((x :: L).length : Nat) : Int) == 0) = false := by simp only [List.length_cons, beq_eq_false_iff_ne, ne_eq]; omega
      clear hch hb hiff
      go_wp2
      go_ret
      exact ⟨by rw [HF.out]; rfl, HB.out⟩
  · have HC := hide (df_count_dim hA hB hkk)
    have HF := hide (show decide (k = k' ∧ ea = eb) = false by simp [hkk])
    clear hA hB hkk
    go_enter Try.func19, Try.ntmps19
    go_wp2_with fail
    refine HC.out.mono ?_
    rintro e w1 ⟨rfl, rfl⟩
    go_wp2
    go_ret
    exact ⟨by rw [HF.out]; rfl, Below.refl _ _⟩
end Go.Proofs.Ytfkpanpageeklaa
