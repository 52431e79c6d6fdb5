/- rank: two trees, one behind the other, as one. -/
import Derived.Test.YtnopacldaoekiaaRkU
import Derived.Test.YtnopacldaoekiaaWkE
set_option linter.unusedSimpArgs false
set_option linter.unusedVariables false
namespace Go.Proofs.Ytnopacldaoekiaa
open Go.RowKit
set_option maxHeartbeats 1000000 in
set_option maxRecDepth 100000 in
theorem tr_of_some {w : World} {k g : Nat} {lv : Int} {pre : List Nat} {es : List Ent} (hN : NodeOf w k g lv pre es) (h1 : 1 ≤ k) (h2 : k ≤ 16) : Calls Try.prog 95 #[.int .i64 (k : Int), .pointer (some ⟨g, 0, none⟩)] w fun e w' => e = .returned (.tuple #[.pointer (some ⟨w.heap.size, 0, none⟩), .int .i64 0]) ∧ TreeBlk w' w.heap.size k (some ⟨g, 0, none⟩) ∧ Below w.heap.size w w' := by
  have e1 : decide ((k : Int) < 1) = false := by simp; omega
  have e2 : decide ((16 : Int) < (k : Int)) = false := by simp; omega
  have HK := hide (nd_k hN)
  clear hN
  go_enter Try.func95, Try.ntmps95
  go_wp2_with fail
  refine HK.out.mono ?_
  rintro e w1 ⟨rfl, rfl⟩
  go_wp2
  go_ret2
  exact ⟨rfl, Blk.new w _ _, (Below.refl _ _).alloc (Nat.le_refl _) _⟩
set_option maxHeartbeats 1000000 in
set_option maxRecDepth 100000 in
theorem zb_cmp_bad (A B : Option Addr) (n c m d : Nat) (w : World) (h : rightB n = false ∨ n ≠ m) : Calls Try.prog 96 #[.slice A n c, .slice B m d] w fun e w' => e = .returned (.tuple #[.int .i64 0, .int .i64 2]) ∧ w = w' := by
  have HP := hide (zb_part_bad A B n c m d w h)
  clear h
  go_enter Try.func96, Try.ntmps96
  go_wp2_with fail
  refine HP.out.mono ?_
  rintro e w' ⟨rfl, rfl⟩
  go_wp2
  go_ret2
  exact ⟨rfl, rfl⟩
set_option maxHeartbeats 1000000 in
set_option maxRecDepth 100000 in
theorem rk_join_nil_l (w : World) (b : Value) (hb : b = .pointer none ∨ ∃ g, b = .pointer (some ⟨g, 0, none⟩)) : Calls Try.prog 41 #[.pointer none, b] w fun e w' => e = .returned (.tuple #[.pointer none, .int .i64 1]) ∧ w = w' := by
  rcases hb with rfl | ⟨g, rfl⟩
  all_goals
    go_enter Try.func41, Try.ntmps41
    go_wp2
    go_ret2
    exact ⟨rfl, rfl⟩
set_option maxHeartbeats 1000000 in
set_option maxRecDepth 100000 in
theorem rk_join_nil_r (w : World) (g : Nat) : Calls Try.prog 41 #[.pointer (some ⟨g, 0, none⟩), .pointer none] w fun e w' => e = .returned (.tuple #[.pointer none, .int .i64 1]) ∧ w = w' := by
  go_enter Try.func41, Try.ntmps41
  go_wp2
  go_ret2
  exact ⟨rfl, rfl⟩
set_option maxHeartbeats 1000000 in
set_option maxRecDepth 100000 in
theorem rk_join_dim {w : World} {a b k k' : Nat} {ra rb : Option Addr} (hA : TreeBlk w a k ra) (hB : TreeBlk w b k' rb) (hne : k ≠ k') : Calls Try.prog 41 #[.pointer (some ⟨a, 0, none⟩), .pointer (some ⟨b, 0, none⟩)] w fun e w' => e = .returned (.tuple #[.pointer none, .int .i64 2]) ∧ w = w' := by
  have HK := hide (tr_k hA)
  have HK' := hide (tr_k hB)
  have e1 : ((k : Int) != (k' : Int)) = true := by simp; omega
  clear hA hB hne
  go_enter Try.func41, Try.ntmps41
  go_wp2_with fail
  refine HK.out.mono ?_
  rintro e w1 ⟨rfl, rfl⟩
  go_wp2_with fail
  refine HK'.out.mono ?_
  rintro e w1 ⟨rfl, rfl⟩
  go_wp2
  go_ret2
  exact ⟨rfl, rfl⟩
/-- The last of the one is not ahead of the first of the other. -/
def Clash (ea eb : List Ent) : Prop := ∃ x y, ea.getLast? = some x ∧ eb.head? = some y ∧ 0 ≤ cmp x.1 y.1
theorem last_le {es : List Ent} (hs : Zsorted es) {x : Ent} (hl : es.getLast? = some x) {y : Ent} (hy : y ∈ es) : y = x ∨ Zlt y.1 x.1 := by
  obtain ⟨i, hi, rfl⟩ := List.mem_iff_getElem.1 hy
  rw [List.getLast?_eq_getElem?] at hl
  have hl2 := (List.getElem?_eq_some_iff.1 hl).2
  rcases Nat.lt_or_ge i (es.length - 1) with h | h
  · right
    have := List.pairwise_iff_getElem.1 hs i (es.length - 1) hi (by omega) h
    rw [hl2] at this
    exact this
  · left
    have : i = es.length - 1 := by omega
    subst this
    exact hl2
theorem head_le {es : List Ent} (hs : Zsorted es) {x : Ent} (hl : es.head? = some x) {y : Ent} (hy : y ∈ es) : y = x ∨ Zlt x.1 y.1 := by
  cases es with
  | nil => simp at hl
  | cons z zs =>
    simp at hl
    subst hl
    rcases List.mem_cons.1 hy with h | h
    · exact .inl h
    · exact .inr ((List.pairwise_cons.1 hs).1 y h)
theorem clear_order {k : Nat} {ea eb : List Ent} (ha : Zsorted ea ∧ ∀ e ∈ ea, Zp k e.1 ∧ e.2 < 2 ^ 64) (hb : Zsorted eb ∧ ∀ e ∈ eb, Zp k e.1 ∧ e.2 < 2 ^ 64) (hc : ¬ Clash ea eb) : ∀ x ∈ ea, ∀ y ∈ eb, Zlt x.1 y.1 := by
  intro x hx y hy
  have h1 : ∃ l, ea.getLast? = some l := by
    cases h : ea.getLast? with
    | none => rw [List.getLast?_eq_none_iff] at h; subst h; simp at hx
    | some l => exact ⟨l, rfl⟩
  have h2 : ∃ f, eb.head? = some f := by
    cases h : eb.head? with
    | none => rw [List.head?_eq_none_iff] at h; subst h; simp at hy
    | some l => exact ⟨l, rfl⟩
  obtain ⟨l, hl⟩ := h1
  obtain ⟨f, hf⟩ := h2
  have hlm := List.mem_of_getLast? hl
  have hfm := List.mem_of_head? hf
  have hlf := cmp_neg (ha.2 l hlm).1 (hb.2 f hfm).1 (fun h => hc ⟨l, f, hl, hf, h⟩)
  have h3 : Zlt x.1 f.1 := by
    rcases last_le ha.1 hl hx with rfl | h
    · exact hlf
    · exact zlt_trans h hlf
  rcases head_le hb.1 hf hy with rfl | h
  · exact h3
  · exact zlt_trans h3 h
theorem sorted_app {ea eb : List Ent} (ha : Zsorted ea) (hb : Zsorted eb) (h : ∀ x ∈ ea, ∀ y ∈ eb, Zlt x.1 y.1) : Zsorted (ea ++ eb) := List.pairwise_append.2 ⟨ha, hb, h⟩
/-- What the two trees' nodes are as one. -/
theorem un_top {w : World} {k : Nat} {ta tb : Option (Nat × NT)} (hk1 : 1 ≤ k) (hk : k ≤ 16) (hA : TopOk w k ta) (hB : TopOk w k tb) (hd : Apart (esOf ta) (esOf tb)) :
    Calls Try.prog 97 #[ptrOf ta, ptrOf tb] w fun e w' => (∃ tc, e = .returned (ptrOf tc) ∧ TopOk w' k tc ∧ ∀ x, x ∈ esOf tc ↔ x ∈ esOf ta ∨ x ∈ esOf tb) ∧ Below w.heap.size w w' := by
  cases ta with
  | none =>
    refine (rk_union_l w _ (by cases tb with | none => exact .inl rfl | some x => exact .inr ⟨x.1, rfl⟩)).mono ?_
    rintro e w' ⟨rfl, rfl⟩
    exact ⟨⟨tb, rfl, hB, fun x => by simp [esOf]⟩, Below.refl _ _⟩
  | some a =>
    cases tb with
    | none =>
      refine (rk_union_r w a.1).mono ?_
      rintro e w' ⟨rfl, rfl⟩
      exact ⟨⟨some a, rfl, hA, fun x => by simp [esOf]⟩, Below.refl _ _⟩
    | some b =>
      refine (rk_union hk1 hk (hA a rfl) (hB b rfl) hd).mono ?_
      rintro e w' ⟨g, lv, pre, es, rfl, hn, hm, hb⟩
      exact ⟨⟨some (g, ⟨lv, pre, es⟩), rfl, fun x hx => by injection hx with hx; subst hx; exact hn, hm⟩, hb⟩
theorem of_top {w : World} {k : Nat} {top : Option (Nat × NT)} (hk1 : 1 ≤ k) (hk : k ≤ 16) (hT : TopOk w k top) :
    Calls Try.prog 95 #[.int .i64 (k : Int), ptrOf top] w fun e w' => (∃ t, e = .returned (.tuple #[.pointer (some ⟨t, 0, none⟩), .int .i64 0]) ∧ TreeOf w' k t (esOf top)) ∧ Below w.heap.size w w' := by
  cases top with
  | none =>
    refine (tr_of_nil k w hk1 hk).mono ?_
    rintro e w' ⟨rfl, hB, hb⟩
    exact ⟨⟨_, rfl, hk1, hk, .inl ⟨hB, rfl⟩⟩, hb⟩
  | some x =>
    refine (tr_of_some (hT x rfl) hk1 hk).mono ?_
    rintro e w' ⟨rfl, hB, hb⟩
    exact ⟨⟨_, rfl, hk1, hk, .inr ⟨_, _, _, hB, (hT x rfl).stay hb⟩⟩, hb⟩
def JoinOut (w : World) (k : Nat) (ea eb : List Ent) (e : Ending) (w' : World) : Prop :=
  ((Clash ea eb ∧ e = .returned (.tuple #[.pointer none, .int .i64 7])) ∨ (¬ Clash ea eb ∧ ∃ t, e = .returned (.tuple #[.pointer (some ⟨t, 0, none⟩), .int .i64 0]) ∧ TreeOf w' k t (ea ++ eb))) ∧ Below w.heap.size w w'
set_option maxHeartbeats 8000000 in
set_option maxRecDepth 100000 in
theorem rk_join {w : World} {a b k : Nat} {ea eb : List Ent} (hA : TreeOf w k a ea) (hB : TreeOf w k b eb) : Calls Try.prog 41 #[.pointer (some ⟨a, 0, none⟩), .pointer (some ⟨b, 0, none⟩)] w (JoinOut w k ea eb) := by
  obtain ⟨ta, hTA, hTopA, hea, hk1, hk⟩ := hA.top
  obtain ⟨tb, hTB, hTopB, heb, -, -⟩ := hB.top
  have HSA := hide hA.sorted
  have HSB := hide hB.sorted
  have HKA := hide (tr_k hTA)
  have HKB := hide (tr_k hTB)
  have HTA := hide hTA
  have HTB := hide hTB
  have HA := hide hTopA
  have HBB := hide hTopB
  have HEA := hide hea
  have HEB := hide heb
  have e1 : ((k : Int) != (k : Int)) = false := by simp
  clear hA hB hTA hTB hTopA hTopB hea heb
  go_enter Try.func41, Try.ntmps41
  go_wp2_with fail
  refine HKA.out.mono ?_
  rintro e w1 ⟨rfl, rfl⟩
  go_wp2_with fail
  refine HKB.out.mono ?_
  rintro e w1 ⟨rfl, rfl⟩
  go_wp2_with fail
  refine (tr_root_top HTA.out).mono ?_
  rintro e w1 ⟨rfl, rfl⟩
  have HLA := hide (walk_upto_none hk HA.out)
  go_wp2_with fail
  refine HLA.out.mono ?_
  rintro e w2 ⟨r, ok, rfl, hi, hb2⟩
  rw [HEA.out] at hi
  have hal := (Below.refl w2.heap.size w2).alloc (Nat.le_refl _) (.cells #[.slice r.A r.n r.c, .int .u64 (r.v : Int)] 27)
  have hN := Blk.new w2 27 #[.slice r.A r.n r.c, .int .u64 (r.v : Int)]
  have HI := hide (And.intro (hi.below hal) hN)
  have HB2 := hide (below_then hb2 hal)
  have HRB := hide (tr_root_top (Blk.below HTB.out (below_then hb2 hal)))
  clear hi hb2 hal hN HLA
  go_wp2_with fail
  refine HRB.out.mono ?_
  rintro e w3 ⟨rfl, rfl⟩
  have HFB := hide (walk_from_none hk (HBB.out.stay HB2.out))
  go_wp2_with fail
  refine HFB.out.mono ?_
  rintro e w4 ⟨r', ok', rfl, hi', hb4⟩
  rw [HEB.out] at hi'
  have hal := (Below.refl w4.heap.size w4).alloc (Nat.le_refl _) (.cells #[.slice r'.A r'.n r'.c, .int .u64 (r'.v : Int)] 27)
  have hN' := Blk.new w4 27 #[.slice r'.A r'.n r'.c, .int .u64 (r'.v : Int)]
  have hi4 := HI.out.1.below hb4
  have hN4 := HI.out.2.below (below_then hb4 hal)
  have x0 := hN4.cell 0
  simp at x0
  have hi4' := hi'
  have HAL4 := hide hal
  have HB4 := hide (below_then HB2.out (below_then hb4 hal))
  obtain ⟨hok, hcs⟩ := hi4
  obtain ⟨hok', hcs'⟩ := hi4'
  have HOK := hide (And.intro hok hok')
  clear hi' hb4 hal hN' hN4 HFB HRB HI hok hok'
  by_cases hcl : Clash ea eb
  · obtain ⟨x, y, hx, hy, hc⟩ := hcl
    rcases hcs with ⟨rfl, hn, he⟩ | ⟨_, _, he⟩
    case inr => rw [hx] at he; cases he
    rcases hcs' with ⟨rfl, hn', he'⟩ | ⟨_, _, he'⟩
    case inr => rw [hy] at he'; cases he'
    obtain rfl : x = r.e := by rw [hx] at he; injection he
    obtain rfl : y = r'.e := by rw [hy] at he'; injection he'
    have e2 : decide ((0 : Int) ≤ cmp r.p r'.p) = true := decide_eq_true hc
    have HF := hide (show Clash ea eb from ⟨_, _, hx, hy, hc⟩)
    have HCM : Hid (∀ W, Below w4.heap.size w4 W → Calls Try.prog 96 #[.slice r.A r.n r.c, .slice r'.A r'.n r'.c] W fun e w' => e = .returned (.tuple #[.int .i64 (cmp r.p r'.p), .int .i64 0]) ∧ W = w') := hide (fun W hW => by
      have hp := (HOK.out.1.below hW).1.1
      have hp' := (HOK.out.2.below hW).1.1
      rw [hn] at hp
      rw [hn'] at hp'
      rw [hn, hn']
      exact zb_cmp r.A r'.A k r.c r'.c r.p r'.p _ hp hp' hk1 hk)
    clear hx hy hc hn hn' he he'
    go_wp2_with fail
    refine (HCM.out _ HAL4.out).mono ?_
    rintro e w5 ⟨rfl, rfl⟩
    go_wp2
    go_ret2
    exact ⟨.inl ⟨HF.out, rfl⟩, HB4.out⟩
  · have hord := clear_order HSA.out HSB.out hcl
    have HORD := hide hord
    have HNC := hide hcl
    have hcm : ∃ c e' : Int, (ok = true → ok' = true → decide ((0 : Int) ≤ c) = false) ∧ ∀ W, Below w4.heap.size w4 W → Calls Try.prog 96 #[.slice r.A r.n r.c, .slice r'.A r'.n r'.c] W fun e w' => e = .returned (.tuple #[.int .i64 c, .int .i64 e']) ∧ W = w' := by
      rcases hcs with ⟨rfl, hn, he⟩ | ⟨rfl, hr, he⟩
      · rcases hcs' with ⟨rfl, hn', he'⟩ | ⟨rfl, hr', he'⟩
        · refine ⟨cmp r.p r'.p, 0, fun _ _ => ?_, fun W hW => ?_⟩
          · simp only [decide_eq_false_iff_not]
            exact fun h => hcl ⟨_, _, he, he', h⟩
          · have hp := (HOK.out.1.below hW).1.1
            have hp' := (HOK.out.2.below hW).1.1
            rw [hn] at hp
            rw [hn'] at hp'
            rw [hn, hn']
            exact zb_cmp r.A r'.A k r.c r'.c r.p r'.p _ hp hp' hk1 hk
        · refine ⟨0, 2, fun _ h => (by cases h), fun W hW => ?_⟩
          rw [hr']
          exact zb_cmp_bad _ _ _ _ _ _ _ (.inr (by rw [hn]; show k ≠ 0; omega))
      · refine ⟨0, 2, fun h _ => (by cases h), fun W hW => ?_⟩
        rw [hr]
        exact zb_cmp_bad _ _ _ _ _ _ _ (.inl rfl)
    obtain ⟨cc, ce, hcc, hcm⟩ := hcm
    have HCM := hide hcm
    have htest : (ok = false) ∨ (ok = true ∧ ok' = false) ∨ (ok = true ∧ ok' = true ∧ decide ((0 : Int) ≤ cc) = false) := by
      cases ok with
      | false => exact .inl rfl
      | true =>
        cases ok' with
        | false => exact .inr (.inl ⟨rfl, rfl⟩)
        | true => exact .inr (.inr ⟨rfl, rfl, hcc rfl rfl⟩)
    clear hcs hcs' hcl hord hcm hcc
    rcases htest with rfl | ⟨rfl, rfl⟩ | ⟨rfl, rfl, e2⟩
    all_goals
      go_wp2_with fail
      refine (HCM.out _ HAL4.out).mono ?_
      rintro e w5 ⟨rfl, rfl⟩
      clear HAL4
      generalize hw5 : w4.alloc (.cells #[.slice r'.A r'.n r'.c, .int .u64 (r'.v : Int)] 27) = w5 at *
      go_wp2_with fail
      refine (tr_k (Blk.below HTA.out HB4.out)).mono ?_
      rintro e w6 ⟨rfl, rfl⟩
      go_wp2_with fail
      refine (tr_root_top (Blk.below HTA.out HB4.out)).mono ?_
      rintro e w6 ⟨rfl, rfl⟩
      go_wp2_with fail
      refine (tr_root_top (Blk.below HTB.out HB4.out)).mono ?_
      rintro e w6 ⟨rfl, rfl⟩
      have HUN := hide (un_top hk1 hk (HA.out.stay HB4.out) (HBB.out.stay HB4.out) (by
        rw [HEA.out, HEB.out]
        exact fun x hx y hy h => zlt_irrefl _ (h ▸ HORD.out x hx y hy)))
      go_wp2_with fail
      refine HUN.out.mono ?_
      rintro e w7 ⟨⟨tc, rfl, htc, hmc⟩, hb7⟩
      rw [HEA.out, HEB.out] at hmc
      have HB7 := hide (below_then HB4.out hb7)
      have HOF := hide (of_top hk1 hk htc)
      have HMC := hide hmc
      clear htc hmc hb7 HUN
      go_wp2_with fail
      refine HOF.out.mono ?_
      rintro e w8 ⟨⟨t, rfl, ht⟩, hb8⟩
      have hes : esOf tc = ea ++ eb := sorted_ext ht.sorted.1 (sorted_app HSA.out.1 HSB.out.1 HORD.out) fun x => by rw [HMC.out, List.mem_append]
      rw [hes] at ht
      have HF := hide (show JoinOut w k ea eb (.returned (.tuple #[.pointer (some ⟨t, 0, none⟩), .int .i64 0])) w8 from ⟨.inr ⟨HNC.out, t, rfl, ht⟩, below_then HB7.out hb8⟩)
      clear ht hb8 hes HOF
      go_wp2
      go_ret2
      exact HF.out
end Go.Proofs.Ytnopacldaoekiaa
