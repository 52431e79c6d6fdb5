/- pantileref12: a point's change. -/
import Derived.Test.YtfkpanpageeklaaR12a
set_option linter.unusedSimpArgs false
set_option linter.unusedVariables false
namespace Go.Proofs.Ytfkpanpageeklaa
open Go.RowKit
/-- A point's change in memory. -/
def chR (A : Option Addr) (k d : Nat) (ea eb : List Ent) (p : List Nat) : CR := ⟨A, k, d, p, (getE ea p).isSome, (getE eb p).isSome, (getE ea p).getD 0, (getE eb p).getD 0⟩
theorem chR_ce (A : Option Addr) (k d : Nat) (ea eb : List Ent) (p : List Nat) : (chR A k d ea eb p).ce = chgAt ea eb p := rfl
set_option maxHeartbeats 8000000 in
set_option maxRecDepth 100000 in
theorem ref_change {w : World} {A B P : Option Addr} {n m c d k pc : Nat} {ra rb : List ER} {p : List Nat} (hA : EntsAt w A n ra) (hS : SortR k ra) (hka : ∀ r ∈ ra, r.n = k) (hB : EntsAt w B m rb) (hSb : SortR k rb) (hkb : ∀ r ∈ rb, r.n = k) (hp : Pt w P k p) (hk : k ≤ 40) (hn : n ≤ 1000) (hm : m ≤ 1000) :
    Calls Try.prog 38 #[.slice A n c, .slice B m d, .slice P k pc] w fun e w' => e = .returned (.tuple #[.agg (chv (chR P k pc (ents ra) (ents rb) p)).toArray, .bool (decide (getE (ents ra) p ≠ getE (ents rb) p))]) ∧ Below w.heap.size w w' := by
  have hal := (Below.refl w.heap.size w).alloc (Nat.le_refl _) (.cells #[.slice none 0 0, .bool false, .bool false, .int .u64 0, .int .u64 0] 70)
  have hN := Blk.new w 70 #[.slice none 0 0, .bool false, .bool false, .int .u64 0, .int .u64 0]
  have HGA := hide (ref_get_e (d := pc) (c := c) (hA.below hal) hS hka (hp.below hal) hk (by omega))
  have HGB := hide (ref_get_e (d := pc) (c := d) (hB.below hal) hSb hkb (hp.below hal) hk (by omega))
  generalize hea : ents ra = ea at *
  generalize heb : ents rb = eb at *
  generalize hoa : getE ea p = oa at *
  generalize hob : getE eb p = ob at *
  have e4 := Blk.new w 70 #[.slice P k pc, .bool oa.isSome, .bool ob.isSome, .int .u64 ((oa.getD 0 : Nat) : Int), .int .u64 ((ob.getD 0 : Nat) : Int)]
  have b4 := (Below.refl w.heap.size w).alloc (Nat.le_refl _) (.cells #[.slice P k pc, .bool oa.isSome, .bool ob.isSome, .int .u64 ((oa.getD 0 : Nat) : Int), .int .u64 ((ob.getD 0 : Nat) : Int)] 70)
  have g0 := e4.cell 0
  have g1 := e4.cell 1
  have g2 := e4.cell 2
  have g3 := e4.cell 3
  have g4 := e4.cell 4
  simp at g0 g1 g2 g3 g4
  have HB4 := hide b4
  have HV := hide (show chv (chR P k pc ea eb p) = [.slice P k pc, .bool oa.isSome, .bool ob.isSome, .int .u64 ((oa.getD 0 : Nat) : Int), .int .u64 ((ob.getD 0 : Nat) : Int)] from by
    unfold chv chR
    simp only [hoa, hob])
  clear hA hS hka hB hSb hkb hp hN hal e4 b4 hea heb hoa hob
  rw [HV.out]
  cases oa with
  | none =>
    cases ob with
    | none =>
      simp only [Option.isSome_none, Option.isSome_some, Option.getD_none, Option.getD_some, Int.natCast_zero, Int.cast_ofNat_Int] at *
      go_enter Try.func38, Try.ntmps38
      go_wp2_with fail
      refine HGA.out.mono ?_
      rintro e w1 ⟨rfl, rfl⟩
      go_wp2_with fail
      refine HGB.out.mono ?_
      rintro e w1 ⟨rfl, rfl⟩
      go_wp2
      (try simp only [Exit.inBlock, Exit.then])
      refine bodyPost_ret (v := .tuple #[.agg #[.slice P k pc, .bool false, .bool false, .int .u64 0, .int .u64 0], .bool false]) (by simp [results, Try.results38, go_sem, g0, g1, g2, g3, g4]) rfl ⟨?_, HB4.out⟩
      rfl
    | some y =>
      simp only [Option.isSome_none, Option.isSome_some, Option.getD_none, Option.getD_some, Int.natCast_zero, Int.cast_ofNat_Int] at *
      go_enter Try.func38, Try.ntmps38
      go_wp2_with fail
      refine HGA.out.mono ?_
      rintro e w1 ⟨rfl, rfl⟩
      go_wp2_with fail
      refine HGB.out.mono ?_
      rintro e w1 ⟨rfl, rfl⟩
      go_wp2
      (try simp only [Exit.inBlock, Exit.then])
      refine bodyPost_ret (v := .tuple #[.agg #[.slice P k pc, .bool false, .bool true, .int .u64 0, .int .u64 ((y : Nat) : Int)], .bool true]) (by simp [results, Try.results38, go_sem, g0, g1, g2, g3, g4]) rfl ⟨?_, HB4.out⟩
      rfl
  | some x =>
    cases ob with
    | none =>
      simp only [Option.isSome_none, Option.isSome_some, Option.getD_none, Option.getD_some, Int.natCast_zero, Int.cast_ofNat_Int] at *
      go_enter Try.func38, Try.ntmps38
      go_wp2_with fail
      refine HGA.out.mono ?_
      rintro e w1 ⟨rfl, rfl⟩
      go_wp2_with fail
      refine HGB.out.mono ?_
      rintro e w1 ⟨rfl, rfl⟩
      go_wp2
      (try simp only [Exit.inBlock, Exit.then])
      refine bodyPost_ret (v := .tuple #[.agg #[.slice P k pc, .bool true, .bool false, .int .u64 ((x : Nat) : Int), .int .u64 0], .bool true]) (by simp [results, Try.results38, go_sem, g0, g1, g2, g3, g4]) rfl ⟨?_, HB4.out⟩
      rfl
    | some y =>
      simp only [Option.isSome_none, Option.isSome_some, Option.getD_none, Option.getD_some, Int.natCast_zero, Int.cast_ofNat_Int] at *
      by_cases hxy : x = y
      · have f1 : ((x : Int) != (y : Int)) = false := by simp; omega
        have HR := hide (show decide (some x ≠ some y) = false by simp [hxy])
        clear hxy
        go_enter Try.func38, Try.ntmps38
        go_wp2_with fail
        refine HGA.out.mono ?_
        rintro e w1 ⟨rfl, rfl⟩
        go_wp2_with fail
        refine HGB.out.mono ?_
        rintro e w1 ⟨rfl, rfl⟩
        go_wp2
        (try simp only [Exit.inBlock, Exit.then])
        refine bodyPost_ret (v := .tuple #[.agg #[.slice P k pc, .bool true, .bool true, .int .u64 ((x : Nat) : Int), .int .u64 ((y : Nat) : Int)], .bool false]) (by simp [results, Try.results38, go_sem, g0, g1, g2, g3, g4]) rfl ⟨?_, HB4.out⟩
        rw [HR.out]
      · have f1 : ((x : Int) != (y : Int)) = true := by simp; omega
        have HR := hide (show decide (some x ≠ some y) = true by simp [hxy])
        clear hxy
        go_enter Try.func38, Try.ntmps38
        go_wp2_with fail
        refine HGA.out.mono ?_
        rintro e w1 ⟨rfl, rfl⟩
        go_wp2_with fail
        refine HGB.out.mono ?_
        rintro e w1 ⟨rfl, rfl⟩
        go_wp2
        (try simp only [Exit.inBlock, Exit.then])
        refine bodyPost_ret (v := .tuple #[.agg #[.slice P k pc, .bool true, .bool true, .int .u64 ((x : Nat) : Int), .int .u64 ((y : Nat) : Int)], .bool true]) (by simp [results, Try.results38, go_sem, g0, g1, g2, g3, g4]) rfl ⟨?_, HB4.out⟩
        rw [HR.out]
end Go.Proofs.Ytfkpanpageeklaa
