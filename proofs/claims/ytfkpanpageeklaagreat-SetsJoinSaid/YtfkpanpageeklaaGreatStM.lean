/- sets: two trees as one. -/
import Derived.Test.YtfkpanpageeklaaGreatStLa
import Derived.Test.YtfkpanpageeklaaGreatTrD
set_option linter.unusedSimpArgs false
set_option linter.unusedVariables false
namespace Go.Proofs.YtfkpanpageeklaaGreat
open Go.RowKit
/-- What becomes of two trees. -/
def StT (w : World) (k k' : Nat) (r : Int) (l rt bo : Bool) (ea eb : List Ent) (e : Ending) (w' : World) : Prop :=
  ((ckCode k k' r ≠ 0 ∧ e = .returned (.tuple #[.pointer none, .int .i64 (ckCode k k' r)])) ∨ (ckCode k k' r = 0 ∧ ∃ t es, e = .returned (.tuple #[.pointer (some ⟨t, 0, none⟩), .int .i64 0]) ∧ TreeOf w' k t es ∧ (∀ x, x ∈ es ↔ JM r.toNat l rt bo ea eb x))) ∧ Below w.heap.size w w'
set_option maxHeartbeats 8000000 in
set_option maxRecDepth 100000 in
theorem st_trees_bad {w : World} {k k' a b : Nat} {r : Int} {l rt bo : Bool} {ea eb : List Ent} (hA : TreeOf w k a ea) (hB : TreeOf w k' b eb) (hck : ckCode k k' r ≠ 0) :
    Calls Tryz.prog 34 #[.agg #[.int .i64 r, .bool l, .bool rt, .bool bo], .pointer (some ⟨a, 0, none⟩), .pointer (some ⟨b, 0, none⟩)] w (StT w k k' r l rt bo ea eb) := by
  obtain ⟨ta, hTA, -, -, -, -⟩ := hA.top
  obtain ⟨tb, hTB, -, -, -, -⟩ := hB.top
  have hb1 := (Below.refl w.heap.size w).alloc (Nat.le_refl _) (.cells #[.int .i64 r, .bool l, .bool rt, .bool bo] 71)
  have hJ := Blk.new w 71 #[.int .i64 r, .bool l, .bool rt, .bool bo]
  have j0 := hJ.cell 0
  simp at j0
  have HCK := hide (st_check (Blk.below hTA hb1) (Blk.below hTB hb1) r)
  have e1 : (ckCode k k' r == 0) = false := by simpa using hck
  have e2 : (ckCode k k' r != 0) = true := by simpa using hck
  have HF := hide (show StT w k k' r l rt bo ea eb (.returned (.tuple #[.pointer none, .int .i64 (ckCode k k' r)])) (w.alloc (.cells #[.int .i64 r, .bool l, .bool rt, .bool bo] 71)) from ⟨.inl ⟨hck, rfl⟩, hb1⟩)
  clear hA hB hTA hTB hb1 hJ hck
  go_enter Tryz.func34, Tryz.ntmps34
  go_wp2_with fail
  refine HCK.out.mono ?_
  rintro e w1 ⟨rfl, rfl⟩
  go_wp2
  go_ret2
  exact HF.out
theorem rootp {w : World} {t k : Nat} {top : Option (Nat × NT)} (h : TreeBlk w t k (top.map fun y => ⟨y.1, 0, none⟩)) : Calls Tryz.prog 39 #[.pointer (some ⟨t, 0, none⟩)] w fun e w' => e = .returned (ptrOf top) ∧ w = w' := by
  have h1 := tr_root h
  cases top <;> exact h1
set_option maxHeartbeats 8000000 in
set_option maxRecDepth 100000 in
theorem st_trees_fine {w : World} {k a b r : Nat} {l rt bo : Bool} {ea eb : List Ent} (h1 : 1 ≤ r) (h6 : r ≤ 6) (hA : TreeOf w k a ea) (hB : TreeOf w k b eb) :
    Calls Tryz.prog 34 #[.agg #[.int .i64 (r : Int), .bool l, .bool rt, .bool bo], .pointer (some ⟨a, 0, none⟩), .pointer (some ⟨b, 0, none⟩)] w (StT w k k (r : Int) l rt bo ea eb) := by
  obtain ⟨ta, hTA, hTopA, hea, hk1, hk⟩ := hA.top
  obtain ⟨tb, hTB, hTopB, heb, -, -⟩ := hB.top
  have hb1 := (Below.refl w.heap.size w).alloc (Nat.le_refl _) (.cells #[.int .i64 (r : Int), .bool l, .bool rt, .bool bo] 71)
  have hJ := Blk.new w 71 #[.int .i64 (r : Int), .bool l, .bool rt, .bool bo]
  have j0 := hJ.cell 0
  simp at j0
  have HB1 := hide hb1
  have HEA := hide hea
  have HEB := hide heb
  have HJ := hide hJ
  have hck := st_check (Blk.below hTA hb1) (Blk.below hTB hb1) (r : Int)
  have hc0 : ckCode k k (r : Int) = 0 := by simp [ckCode]; omega
  have HC0 := hide hc0
  rw [hc0] at hck
  have HCK := hide hck
  have HK := hide (fun W (hW : Below w.heap.size w W) => tr_k (Blk.below hTA hW))
  have HRA := hide (fun W (hW : Below w.heap.size w W) => show Calls Tryz.prog 39 #[.pointer (some ⟨a, 0, none⟩)] W fun e w' => e = .returned (ptrOf ta) ∧ W = w' from rootp (Blk.below hTA hW))
  have HRB := hide (fun W (hW : Below w.heap.size w W) => show Calls Tryz.prog 39 #[.pointer (some ⟨b, 0, none⟩)] W fun e w' => e = .returned (ptrOf tb) ∧ W = w' from rootp (Blk.below hTB hW))
  have HJN := hide (fun W (hW : Below w.heap.size w W) => st_join (l := l) (rt := rt) (bo := bo) hk1 hk h1 h6 (hTopA.stay hW) (hTopB.stay hW))
  clear hA hB hTA hTB hTopA hTopB hck hJ hc0 hea heb
  clear hb1
  go_enter Tryz.func34, Tryz.ntmps34
  go_wp2_with fail
  refine HCK.out.mono ?_
  rintro e w1 ⟨rfl, rfl⟩
  go_upto_region 4 with fail
  generalize w.alloc (.cells #[.int .i64 (r : Int), .bool l, .bool rt, .bool bo] 71) = w1 at *
  have hJ1 := HJ.out
  have k0 := hJ1.cell 0
  have k1 := hJ1.cell 1
  have k2 := hJ1.cell 2
  have k3 := hJ1.cell 3
  simp at k0 k1 k2 k3
  have hd : Below w.heap.size w w1.drew := HB1.out.drew
  have hqd : Below w1.heap.size w1 w1.drew := (Below.refl _ _).drew
  have HCELL := hide (fun W (hW : Below w1.heap.size w1 W) => And.intro ((HJ.out.below hW).cell 0) (And.intro ((HJ.out.below hW).cell 1) (And.intro ((HJ.out.below hW).cell 2) ((HJ.out.below hW).cell 3))))
  clear hJ1 HCK
  go_region_held3 (fun w' => w'.cell? ⟨w.heap.size, 0, none⟩ = some (.int .i64 (r : Int)) ∧ w'.cell? ⟨w.heap.size, 1, none⟩ = some (.bool l) ∧ w'.cell? ⟨w.heap.size, 2, none⟩ = some (.bool rt) ∧ w'.cell? ⟨w.heap.size, 3, none⟩ = some (.bool bo))
    (first
      | go_keep
      | exact HCELL.out _ hqd)
    (first
      | (go_at_call 35
         with_reducible refine (HK.out _ hd).mono ?_
         rintro e w2 ⟨rfl, rfl⟩)
      | (go_at_call 39
         with_reducible refine (HRA.out _ hd).mono ?_
         rintro e w2 ⟨rfl, rfl⟩)
      | (go_at_call 39
         with_reducible refine (HRB.out _ hd).mono ?_
         rintro e w2 ⟨rfl, rfl⟩)
      | (go_at_call 61
         refine (HJN.out _ hd).mono ?_
         rintro e w5 ⟨tc, rfl, htc, hmc, hb5⟩
         have HTC := hide htc
         have HMC := hide hmc
         replace hd := below_then hd hb5
         replace hqd := hqd.trans (hb5.mono (by simp))
         clear htc hmc hb5)
      | (go_at_call 44
         refine (of_top hk1 hk HTC.out).mono ?_
         rintro e w6 ⟨⟨t6, rfl, ht6⟩, hb6⟩
         have HT6 := hide ht6
         replace hd := below_then hd hb6
         replace hqd := hqd.trans (hb6.mono hqd.size)
         clear ht6 hb6))
  all_goals
    have HF := hide (show StT w k k (r : Int) l rt bo ea eb (.returned (.tuple #[.pointer (some ⟨t6, 0, none⟩), .int .i64 0])) w6 from ⟨.inr ⟨HC0.out, t6, _, rfl, HT6.out, fun x => by rw [HMC.out, HEA.out, HEB.out]; rfl⟩, hd⟩)
    go_wp2
    go_ret2
    exact HF.out
theorem st_trees {w : World} {k k' a b : Nat} {r : Int} {l rt bo : Bool} {ea eb : List Ent} (hA : TreeOf w k a ea) (hB : TreeOf w k' b eb) :
    Calls Tryz.prog 34 #[.agg #[.int .i64 r, .bool l, .bool rt, .bool bo], .pointer (some ⟨a, 0, none⟩), .pointer (some ⟨b, 0, none⟩)] w (StT w k k' r l rt bo ea eb) := by
  by_cases hck : ckCode k k' r = 0
  · have hkk : k = k' := by
      unfold ckCode at hck
      split at hck
      · omega
      · rename_i h
        omega
    subst hkk
    have hr : 1 ≤ r ∧ r ≤ 6 := by
      unfold ckCode at hck
      simp only [ne_eq, not_true_eq_false, if_false] at hck
      split at hck
      · omega
      · omega
    obtain ⟨n, rfl⟩ : ∃ n : Nat, r = (n : Int) := ⟨r.toNat, by omega⟩
    exact st_trees_fine (by omega) (by omega) hA hB
  · exact st_trees_bad hA hB hck
set_option maxHeartbeats 8000000 in
set_option maxRecDepth 100000 in
theorem st_union {w : World} {k k' a b : Nat} {r : Int} {ea eb : List Ent} (hA : TreeOf w k a ea) (hB : TreeOf w k' b eb) :
    Calls Tryz.prog 8 #[.pointer (some ⟨a, 0, none⟩), .pointer (some ⟨b, 0, none⟩), .int .i64 r] w (StT w k k' r true true true ea eb) := by
  have HT := hide (st_trees (r := r) (l := true) (rt := true) (bo := true) hA hB)
  clear hA hB
  go_enter Tryz.func8, Tryz.ntmps8
  go_wp2_with fail
  refine HT.out.mono ?_
  rintro e w1 ⟨⟨hc, rfl⟩ | ⟨hc, t, es, rfl, ht, hm⟩, hb⟩
  · have HF := hide (show StT w k k' r true true true ea eb (.returned (.tuple #[.pointer none, .int .i64 (ckCode k k' r)])) w1 from ⟨.inl ⟨hc, rfl⟩, hb⟩)
    clear hc hb
    go_wp2
    go_ret2
    exact HF.out
  · have HF := hide (show StT w k k' r true true true ea eb (.returned (.tuple #[.pointer (some ⟨t, 0, none⟩), .int .i64 0])) w1 from ⟨.inr ⟨hc, t, es, rfl, ht, hm⟩, hb⟩)
    clear hc ht hm hb
    go_wp2
    go_ret2
    exact HF.out
set_option maxHeartbeats 8000000 in
set_option maxRecDepth 100000 in
theorem st_common {w : World} {k k' a b : Nat} {r : Int} {ea eb : List Ent} (hA : TreeOf w k a ea) (hB : TreeOf w k' b eb) :
    Calls Tryz.prog 9 #[.pointer (some ⟨a, 0, none⟩), .pointer (some ⟨b, 0, none⟩), .int .i64 r] w (StT w k k' r false false true ea eb) := by
  have HT := hide (st_trees (r := r) (l := false) (rt := false) (bo := true) hA hB)
  clear hA hB
  go_enter Tryz.func9, Tryz.ntmps9
  go_wp2_with fail
  refine HT.out.mono ?_
  rintro e w1 ⟨⟨hc, rfl⟩ | ⟨hc, t, es, rfl, ht, hm⟩, hb⟩
  · have HF := hide (show StT w k k' r false false true ea eb (.returned (.tuple #[.pointer none, .int .i64 (ckCode k k' r)])) w1 from ⟨.inl ⟨hc, rfl⟩, hb⟩)
    clear hc hb
    go_wp2
    go_ret2
    exact HF.out
  · have HF := hide (show StT w k k' r false false true ea eb (.returned (.tuple #[.pointer (some ⟨t, 0, none⟩), .int .i64 0])) w1 from ⟨.inr ⟨hc, t, es, rfl, ht, hm⟩, hb⟩)
    clear hc ht hm hb
    go_wp2
    go_ret2
    exact HF.out
set_option maxHeartbeats 8000000 in
set_option maxRecDepth 100000 in
theorem st_without {w : World} {k k' a b : Nat} {ea eb : List Ent} (hA : TreeOf w k a ea) (hB : TreeOf w k' b eb) :
    Calls Tryz.prog 10 #[.pointer (some ⟨a, 0, none⟩), .pointer (some ⟨b, 0, none⟩)] w (StT w k k' 1 true false false ea eb) := by
  have HT := hide (st_trees (r := 1) (l := true) (rt := false) (bo := false) hA hB)
  clear hA hB
  go_enter Tryz.func10, Tryz.ntmps10
  go_wp2_with fail
  refine HT.out.mono ?_
  rintro e w1 ⟨⟨hc, rfl⟩ | ⟨hc, t, es, rfl, ht, hm⟩, hb⟩
  · have HF := hide (show StT w k k' 1 true false false ea eb (.returned (.tuple #[.pointer none, .int .i64 (ckCode k k' 1)])) w1 from ⟨.inl ⟨hc, rfl⟩, hb⟩)
    clear hc hb
    go_wp2
    go_ret2
    exact HF.out
  · have HF := hide (show StT w k k' 1 true false false ea eb (.returned (.tuple #[.pointer (some ⟨t, 0, none⟩), .int .i64 0])) w1 from ⟨.inr ⟨hc, t, es, rfl, ht, hm⟩, hb⟩)
    clear hc ht hm hb
    go_wp2
    go_ret2
    exact HF.out
end Go.Proofs.YtfkpanpageeklaaGreat
