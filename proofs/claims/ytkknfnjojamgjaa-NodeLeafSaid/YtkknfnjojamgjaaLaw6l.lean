/- pantilelaw06.NodeLeaf: an entry. -/
import Derived.Test.YtkknfnjojamgjaaLaw6b
import Derived.Test.YtkknfnjojamgjaaNd2b
import Derived.Test.YtkknfnjojamgjaaOpenPt
set_option linter.unusedSimpArgs false
set_option linter.unusedVariables false
namespace Go.Proofs.Ytkknfnjojamgjaa
open Go.RowKit
theorem part_same {k : Nat} {p q : List Nat} (hp : Zp k p) (hq : Zp k q) : decide (part p q ≤ -1) = sameB (p.map fun (x : Nat) => (x : Int)) (q.map fun (x : Nat) => (x : Int)) := by
  apply boolI
  rw [decide_eq_true_eq]
  unfold sameB
  rw [decide_eq_true_eq]
  constructor
  · intro h
    rw [part_neg hp hq (by omega)]
  · intro h
    have : p = q := by
      apply List.ext_getElem (by rw [hp.1, hq.1])
      intro i h1 h2
      have := congrArg (fun l => l[i]?) h
      simp [h1, h2] at this
      omega
    subst this
    rw [part_self hp]
    omega
set_option maxHeartbeats 4000000 in
set_option maxRecDepth 100000 in
theorem node_leaf_far (A B : Option Addr) (n c m d : Nat) (v addr : Int) (w : World) (h : 40 < n ∨ 40 < m) :
    Calls Try.prog 6 #[.slice A n c, .slice B m d, .int .u64 v, .int .i64 addr] w fun e w' => e = .returned (.bool true) ∧ Below w.heap.size w w' := by
  have HA := hide (awake6 w)
  by_cases h1 : 40 < n
  · have e1 : decide ((40 : Int) < (n : Int)) = true := by simp; omega
    clear h h1
    go_enter Try.func6, Try.ntmps6
    go_wp2_with fail
    refine HA.out.mono ?_
    rintro e w1 ⟨rfl, hb1⟩
    go_wp2
    go_ret
    exact ⟨rfl, hb1⟩
  · have e1 : decide ((40 : Int) < (n : Int)) = false := by simp; omega
    have e2 : decide ((40 : Int) < (m : Int)) = true := by simp; omega
    clear h h1
    go_enter Try.func6, Try.ntmps6
    go_wp2_with fail
    refine HA.out.mono ?_
    rintro e w1 ⟨rfl, hb1⟩
    go_wp2
    go_ret
    exact ⟨rfl, hb1⟩
theorem u64_add (a b : Nat) : IntKind.u64.wrap ((a : Int) + (b : Int)) = (((a + b) % 2 ^ 64 : Nat) : Int) := by
  rw [IntKind.wrap_u64]; omega
/-- A row of a call's own whose elements are turned one by one. -/
def turned (f : Nat → Nat) (p : List Nat) (j : Nat) : List Nat := (p.take j).map f ++ p.drop j
theorem turned_zero (f : Nat → Nat) (p : List Nat) : turned f p 0 = p := by simp [turned]
theorem turned_at {f : Nat → Nat} {p : List Nat} {j : Nat} {z : Nat} (h : p[j]? = some z) : (u64s (turned f p j))[j]? = some (.int .u64 (z : Int)) := by
  have hj := (List.getElem?_eq_some_iff.1 h).1
  unfold u64s turned
  rw [List.getElem?_map, List.getElem?_append_right (by simp; omega)]
  simp
  have : min j p.length = j := by omega
  rw [this, Nat.sub_self]
  simp [h]
theorem turned_set {f : Nat → Nat} {p : List Nat} {j : Nat} {z : Nat} (h : p[j]? = some z) : (u64s (turned f p j)).set j (.int .u64 ((f z : Nat) : Int)) = u64s (turned f p (j + 1)) := by
  have hj := (List.getElem?_eq_some_iff.1 h).1
  have hz := (List.getElem?_eq_some_iff.1 h).2
  unfold u64s turned
  rw [List.take_succ_eq_append_getElem hj, List.map_append, List.map_append, List.map_append, List.set_append_right _ _ (by simp; omega)]
  rw [List.drop_eq_getElem_cons hj, hz]
  have : (List.map (fun (x : Nat) => Value.int IntKind.u64 (x : Int)) (List.map f (List.take j p))).length = j := by simp; omega
  rw [this, Nat.sub_self]
  simp
theorem turned_length (f : Nat → Nat) (p : List Nat) (j : Nat) : (turned f p j).length = p.length := by
  unfold turned; simp; omega
/-- Covers of an entry: is it the same point? -/
theorem covers_leaf {w : World} {g k c v : Nat} {A B : Option Addr} {p q : List Nat} {m d : Nat} (hB : Blk w g 139 (nodeCells (-1) A k c v none ⟨1, v, v, v⟩)) (hp : Pt w A k p) (hkc : k ≤ c) (hk1 : 1 ≤ k) (hk : k ≤ 16)
    (hv : v < 2 ^ 64) (hq : Pt w B m q) :
    Calls Try.prog 40 #[.pointer (some ⟨g, 0, none⟩), .slice B m d] w fun e w' => e = .returned (.bool (sameB (p.map fun (x : Nat) => (x : Int)) (q.map fun (x : Nat) => (x : Int)))) ∧ w = w' := by
  have hN := NodeOf.leaf hv hp hkc hB
  by_cases h : k = m
  · subst h
    rw [← part_same hp.zp hq.zp]
    exact nd_covers hN hk1 hk hq
  · rw [sameB_len (by simp; rw [hp.1, hq.1]; exact h)]
    exact nd_covers_bad hN h
set_option maxHeartbeats 4000000 in
set_option maxRecDepth 100000 in
theorem node_leaf_wrong (A B : Option Addr) (n c m d : Nat) (v addr : Int) (p : List Nat) (w : World) (h1 : n ≤ 40) (h2 : m ≤ 40) (h3 : rightB n = false) (hp : Pt w A n p) :
    Calls Try.prog 6 #[.slice A n c, .slice B m d, .int .u64 v, .int .i64 addr] w fun e w' => e = .returned (.bool true) ∧ Below w.heap.size w w' := by
  have HA := hide (awake6 w)
  have HP := hide hp
  have HR := hide h3
  have e1 : decide ((40 : Int) < (n : Int)) = false := by simp; omega
  have e2 : decide ((40 : Int) < (m : Int)) = false := by simp; omega
  have HN := hide h1
  clear h1 h2 h3 hp
  go_enter Try.func6, Try.ntmps6
  go_wp2_with fail
  refine HA.out.mono ?_
  rintro e w1 ⟨rfl, hb1⟩
  have b2 := (Below.refl w1.heap.size w1).alloc (Nat.le_refl _) (.cells #[] 28)
  have hp2 := hide ((HP.out.below hb1).below b2)
  go_wp2_with (first
    | (at_builtin
       refine app_b _ rfl (.tmp 34) (.tmp 35) _ rfl w1.heap.size 28 _ 1 8 Try.underlying30 info_u rfl (by omega) _ 0 [] rfl (own_empty _ _ _) A n c (u64s p) rfl w1 b2 (Nat.le_refl _) hp2.out.2.1 ?h2 (by have := HN.out; unfold maxLen; omega) (by have := HN.out; omega) ?_
       case h2 =>
         intro u hu
         obtain ⟨x, _, rfl⟩ := List.mem_map.1 hu
         rfl
       intro v3 w3 ho3 hb3 _
       obtain ⟨A3, c3, rfl, -, -⟩ := Rw.of_own ho3
       have hc3 := below_then hb1 hb3
       rw [Nat.zero_add] at ho3
       have HZ := hide (show 0 + n = n from Nat.zero_add n)
       clear ho3 hb3)
    | fail)
  refine (nd_leaf_bad _ _ _ _ _ HR.out).mono ?_
  rintro e w4 ⟨rfl, rfl⟩
  have CR := ref_right A n c w3
  rw [HR.out] at CR
  have HCR := hide CR
  clear CR
  go_wp2_with fail
  refine HCR.out.mono ?_
  rintro e w4 ⟨rfl, rfl⟩
  go_wp2
  go_ret
  exact ⟨rfl, hc3⟩
set_option maxHeartbeats 4000000 in
set_option maxRecDepth 100000 in
theorem node_leaf_main (A B : Option Addr) (n c m d : Nat) (v : Nat) (addr : Int) (p q : List Nat) (w : World) (h0 : 1 ≤ n) (h1 : n ≤ 16) (h2 : m ≤ 40) (hp : Pt w A n p) (hq : Pt w B m q) (hv : v < 2 ^ 64) (hnc : n ≤ c) (hcm : c ≤ maxLen) :
    Calls Try.prog 6 #[.slice A n c, .slice B m d, .int .u64 (v : Int), .int .i64 addr] w fun e w' => e = .returned (.bool true) ∧ Below w.heap.size w w' := by
  have HA := hide (awake6 w)
  have HP := hide hp
  have HQ := hide hq
  have e1 : decide ((40 : Int) < (n : Int)) = false := by simp; omega
  have e2 : decide ((40 : Int) < (m : Int)) = false := by simp; omega
  have HN := hide (And.intro h0 h1)
  have HM := hide h2
  have HV := hide (And.intro hv (And.intro hnc hcm))
  have hpl := hp.1
  have HPL := hide hpl
  clear h0 h1 h2 hp hq hv hnc hcm hpl
  go_enter Try.func6, Try.ntmps6
  go_wp2_with fail
  refine HA.out.mono ?_
  rintro e w1 ⟨rfl, hb1⟩
  have b2 := (Below.refl w1.heap.size w1).alloc (Nat.le_refl _) (.cells #[] 28)
  have hp2 := hide ((HP.out.below hb1).below b2)
  go_wp2_with (first
    | (at_builtin
       refine app_b _ rfl (.tmp 34) (.tmp 35) _ rfl w1.heap.size 28 _ 1 8 Try.underlying30 info_u rfl (by omega) _ 0 [] rfl (own_empty _ _ _) A n c (u64s p) rfl w1 b2 (Nat.le_refl _) hp2.out.2.1 ?h2 (by have := HN.out.2; unfold maxLen; omega) (by have := HN.out.2; omega) ?_
       case h2 =>
         intro u hu
         obtain ⟨x, _, rfl⟩ := List.mem_map.1 hu
         rfl
       intro v3 w3 ho3 hb3 _
       obtain ⟨g3, c3, hv3, hg3, hg3l⟩ := ho3.form (by have := HN.out.1; omega)
       subst hv3
       rw [List.nil_append] at ho3
       rw [Nat.zero_add] at ho3
       have HO3 := hide ho3
       have HB3 := hide hb3
       have HZ := hide (show 0 + n = n from Nat.zero_add n)
       clear ho3 hb3)
    | fail)
  have hP3 : Pt w3 (some ⟨g3, 0, none⟩) n p := ⟨HP.out.1, (own_rw HO3.out).2, HP.out.2.2⟩
  have HL := hide (nd_leaf_own _ n c3 p v w3 hP3 HN.out.1 HN.out.2)
  clear hP3 b2 hp2
  go_wp2_with fail
  refine HL.out.mono ?_
  rintro e w4 ⟨g, A4, c4, rfl, hB4, hc4, ho4, hg4, hb4⟩
  have CR := ref_right A n c w4
  rw [show rightB n = true by have := HN.out; unfold rightB; simp; omega] at CR
  have HCR := hide CR
  have HO3' := hide (own_below HO3.out hb4)
  have HB4 := hide hB4
  have HO4 := hide ho4
  have HC4 := hide (below_then HB3.out hb4)
  have HG4 := hide (And.intro hg4 hc4)
  clear CR hB4 ho4 hb4 hg4 hc4 HL HO3
  go_wp2_with fail
  refine HCR.out.mono ?_
  rintro e w5 ⟨rfl, rfl⟩
  have en : ((0 : Nat) : Int) = 0 := rfl
  have hn16 := HN.out.2
  go_wp2
  go_loopw [12] (fun x wr => ∃ (j : Nat), x = .int .i64 j ∧ j ≤ n ∧ wr.ownsRow w1.heap.size 28 1 (.slice (some ⟨g3, 0, none⟩) n c3) n (u64s (turned (fun x => (x + 1) % 2 ^ 64) p j)) ∧ Blk wr g 139 (nodeCells (-1) A4 n c4 v none ⟨1, v, v, v⟩) ∧ wr.ownsRow w3.heap.size 28 1 (.slice A4 n c4) n (u64s p) ∧ Below w1.heap.size w1 wr) (fun x _ => n - (intOf x).toNat)
  case atStart => exact ⟨0, rfl, Nat.zero_le _, by rw [turned_zero]; exact HO3'.out, HB4.out, HO4.out, HC4.out⟩
  case round =>
    obtain ⟨j, rfl, hj, hO, hB, hO4, hb⟩ := hrel
    by_cases hjn : j < n
    · obtain ⟨z, hz, hzl⟩ := HP.out.z_ hjn
      have k0 := (hO.cellAt j (by omega)).trans (turned_at hz)
      have hf := hO.frozenAt j
      have HST := hide (hO.stored j (.int .u64 (((z + 1) % 2 ^ 64 : Nat) : Int)))
      have HZZ := hide hz
      have HBB := hide hB
      have HOO := hide hO4
      have HHB := hide hb
      clear hO hB hO4 hb hz
      go_wp2
      go_roundw
      case rel =>
        have hst := HST.out.1
        rw [turned_set (f := fun x => (x + 1) % 2 ^ 64) HZZ.out] at hst
        have := HG4.out.1
        have i0 : IntKind.u64.wrap ((z : Int) + 1) = (((z + 1) % 2 ^ 64 : Nat) : Int) := u64_add z 1
        rw [i0]
        have hne : g ≠ g3 := Nat.ne_of_gt (Nat.lt_of_lt_of_le hg3l this)
        exact ⟨j + 1, by go_num, hjn, hst, HBB.out.far1 hne, ownsRow_setCell_below HOO.out (a := ⟨g3, j, none⟩) hg3l _, HHB.out.setCell (p := ⟨g3, j, none⟩) hg3 _⟩
      case measure => simp [intOf]; omega
    · have hj' : j = n := by omega
      rename World => wa
      have e3 : decide ((j : Int) < (n : Int)) = false := by simp; omega
      have HB5 := hide hB
      have HO5 := hide hO4
      have HB1 := hide (below_then hb1 hb)
      have hP5 : Pt wa A4 n p := ⟨HP.out.1, (own_rw hO4).2, HP.out.2.2⟩
      have HEN := hide (nd_entry_leaf hB hP5 HN.out.2)
      have HP5 := hide hP5
      clear hO hB hO4 hb hj' hP5 HCR HB3 HC4 HB4 HO4 HO3'
      go_wp2_with fail
      refine HEN.out.mono ?_
      rintro e w5 ⟨B5, d5, rfl, ho5, hb5⟩
      obtain ⟨g5, d5', hv5, hg5, hg5l⟩ := ho5.form HN.out.1
      injection hv5 with hv5 hv6 hv7
      subst hv5
      subst hv7
      have b6 := below_alloc hb5 (Nat.le_refl _) (.cells #[.slice (some ⟨g5, 0, none⟩) n d5, .int .u64 (v : Int)] 59)
      have HT := hide (Blk.new w5 59 #[.slice (some ⟨g5, 0, none⟩) n d5, .int .u64 (v : Int)])
      have HO6 := hide (own_below ho5 ((Below.refl w5.heap.size w5).alloc (Nat.le_refl _) (.cells #[.slice (some ⟨g5, 0, none⟩) n d5, .int .u64 (v : Int)] 59)))
      have t0 : (w5.alloc (.cells #[.slice (some ⟨g5, 0, none⟩) n d5, .int .u64 (v : Int)] 59)).cell? ⟨w5.heap.size, 0, none⟩ = some (.slice (some ⟨g5, 0, none⟩) n d5) := HT.out.cell 0
      have hsz : wa.heap.size < w5.heap.size := by omega
      clear ho5 hb5 HEN
      go_upto_region 14 with fail
      generalize w5.alloc (.cells #[.slice (some ⟨g5, 0, none⟩) n d5, .int .u64 (v : Int)] 59) = w6 at *
      go_wp2
      go_loopw [15] (fun x wr => ∃ (i : Nat), x = .int .i64 i ∧ i ≤ n ∧ wr.ownsRow (wa.heap.size + 1) 28 1 (.slice (some ⟨g5, 0, none⟩) n d5) n (u64s (turned (fun x => (x + 2) % 2 ^ 64) p i)) ∧ Blk wr w5.heap.size 59 #[.slice (some ⟨g5, 0, none⟩) n d5, .int .u64 (v : Int)] ∧ Below wa.heap.size wa wr) (fun x _ => n - (intOf x).toNat)
      case atStart => exact ⟨0, rfl, Nat.zero_le _, by rw [turned_zero]; exact HO6.out, HT.out, b6⟩
      case round =>
        obtain ⟨i, rfl, hi, hO, hT, hb⟩ := hrel
        clear t0
        have t0 := hT.cell 0
        simp at t0
        by_cases hin : i < n
        · obtain ⟨z, hz, hzl⟩ := HP.out.z_ hin
          have k0 := (hO.cellAt i (by omega)).trans (turned_at hz)
          have hf := hO.frozenAt i
          have HST := hide (hO.stored i (.int .u64 (((z + 2) % 2 ^ 64 : Nat) : Int)))
          have HZZ := hide hz
          have HTT := hide hT
          have HHB := hide hb
          clear hO hT hb hz
          go_wp2
          go_still_tail 10, (by kernel_rfl)
          change wpList _ _ _ _ _ wr.drew
          have hf' : wr.drew.frozen? ⟨g5, i, none⟩ = false := hf
          have k0' : wr.drew.cell? ⟨g5, i, none⟩ = some (.int .u64 (z : Int)) := k0
          go_wp2
          go_roundw
          case rel =>
            have hst := HST.out.1
            rw [turned_set (f := fun x => (x + 2) % 2 ^ 64) HZZ.out] at hst
            have i0 : IntKind.u64.wrap ((z : Int) + 2) = (((z + 2) % 2 ^ 64 : Nat) : Int) := u64_add z 2
            rw [i0]
            exact ⟨i + 1, by go_num, hin, hst.drew, (HTT.out.far1 (Nat.ne_of_gt hg5l)).drewN 1, (HHB.out.setCell (p := ⟨g5, i, none⟩) (Nat.le_of_succ_le hg5) _).drew⟩
          case measure => simp [intOf]; omega
        · have e4 : decide ((i : Int) < (n : Int)) = false := by simp; omega
          have HB7 := hide (HB5.out.below hb)
          have HP7 := hide (HP5.out.below hb)
          have hb7 := below_then HB1.out hb
          rename World => wz
          clear hO hT hb
          go_wp2_with fail
          refine (nd_with_leaf HB7.out _).mono ?_
          rintro e w8 ⟨rfl, rfl⟩
          go_wp2_with fail
          refine (nd_without_leaf HB7.out _).mono ?_
          rintro e w8 ⟨rfl, rfl⟩
          go_wp2_with fail
          refine (nd_from_leaf HB7.out _).mono ?_
          rintro e w8 ⟨rfl, rfl⟩
          go_wp2_with fail
          refine (nd_upto_leaf HB7.out _).mono ?_
          rintro e w8 ⟨rfl, rfl⟩
          have b8 := (Below.refl wz.heap.size wz).alloc (Nat.le_refl _) (.cells #[.slice A n c, .int .u64 (v : Int)] 59)
          have hE8 : EntsAt (wz.alloc (.cells #[.slice A n c, .int .u64 (v : Int)] 59)) (some ⟨wz.heap.size, 0, none⟩) 1 [⟨A, n, c, p, v⟩] := by
            refine ⟨by simpa [entv] using Rw.new1 wz 59 #[.slice A n c, .int .u64 (v : Int)] (sz := 2) rfl, ?_⟩
            intro r hr
            rw [List.mem_singleton] at hr
            subst hr
            exact ⟨(HP.out.below hb7).below b8, HV.out.2.1, HV.out.2.2, HV.out.1⟩
          have HIS := hide (is_leaf 1 (HB7.out.below b8) (HP7.out.below b8) HG4.out.2 HN.out.1 HN.out.2 HV.out.1 hE8 rfl rfl)
          have b9 := below_then hb7 b8
          clear hE8
          go_wp2_with fail
          refine HIS.out.mono ?_
          rintro e wy ⟨rfl, hby⟩
          have hby2 := below_then b8 hby
          have hbt := below_then hb7 hby2
          have HCV := hide (covers_leaf (d := d) (HB7.out.below hby2) (HP7.out.below hby2) HG4.out.2 HN.out.1 HN.out.2 HV.out.1 (HQ.out.below hbt))
          have hPu := (HP.out.below hbt).2.1
          have hQu := (HQ.out.below hbt).2.1
          rw [u64s_int] at hPu hQu
          have HSM := hide (same_u64 A B n c m d _ _ wy hPu hQu (by omega) (by have := HM.out; omega))
          have HKL := hide (nd_kid_leaf (HB7.out.below hby2) addr)
          generalize sameB (p.map fun (x : Nat) => (x : Int)) (q.map fun (x : Nat) => (x : Int)) = sb at *
          clear hPu hQu HIS b8 hby
          go_wp2_with fail
          refine HCV.out.mono ?_
          rintro e wx ⟨rfl, rfl⟩
          go_wp2_with fail
          refine HSM.out.mono ?_
          rintro e wx ⟨rfl, hbx⟩
          have hbt2 := below_then hbt hbx
          have HKL := hide (nd_kid_leaf ((HB7.out.below hby2).below hbx) addr)
          go_wp2_with fail
          refine HKL.out.mono ?_
          rintro e wx' ⟨rfl, rfl⟩
          go_wp2
          go_ret
          exact ⟨rfl, hbt2⟩
/-- NodeLeaf. -/
theorem node_leaf (A : Option Addr) (n c : Nat) (p : List Nat) (w : World) (h : Pt w A n p ∧ n ≤ c ∧ c ≤ maxLen) (B : Option Addr) (m d : Nat) (q : List Nat) (h' : Pt w B m q ∧ m ≤ d ∧ d ≤ maxLen) (v : Int) (hv : (Lit.int .u64 v).wf = true) (addr : Int) (_ : (Lit.int .i64 addr).wf = true) :
    Calls Try.prog 6 #[.slice A n c, .slice B m d, .int .u64 v, .int .i64 addr] w fun e w' => e = .returned (.bool true) ∧ Below w.heap.size w w' := by
  by_cases h1 : 40 < n ∨ 40 < m
  · exact node_leaf_far A B n c m d v addr w h1
  · cases h2 : rightB n with
    | false => exact node_leaf_wrong A B n c m d v addr p w (by omega) (by omega) h2 h.1
    | true =>
      have h3 : 1 ≤ n ∧ n ≤ 16 := by unfold rightB at h2; simp at h2; omega
      have hz := wf_u64 hv
      have := node_leaf_main A B n c m d v.toNat addr p q w h3.1 h3.2 (by omega) h.1 h'.1 (by omega) h.2.1 h.2.2
      rwa [Int.toNat_of_nonneg hz.1] at this
end Go.Proofs.Ytkknfnjojamgjaa
