/- sets: two trees of one entry; pantilelaw15: the chapter's example; what isn't there. -/
import Derived.Test.YtfkpanpageeklaaGreatStD
import Derived.Test.YtfkpanpageeklaaGreatTrD
set_option linter.unusedSimpArgs false
set_option linter.unusedVariables false
namespace Go.Proofs.YtfkpanpageeklaaGreat
open Go.RowKit
/-- Two trees of one entry each, of the same point, as one. -/
def LfOut (w : World) (k r : Nat) (p : List Nat) (va vb : Nat) (e : Ending) (w' : World) : Prop :=
  ∃ t es, e = .returned (.tuple #[.pointer (some ⟨t, 0, none⟩), .int .i64 0]) ∧ TreeOf w' k t es ∧ (∀ x, x ∈ es ↔ x = (p, stval r va vb)) ∧ Below w.heap.size w w'
set_option maxHeartbeats 8000000 in
set_option maxRecDepth 100000 in
theorem st_trees_leaf {w : World} {k a b r va vb : Nat} {l rt : Bool} {p : List Nat} (h1 : 1 ≤ r) (h6 : r ≤ 6) (hA : TreeOf w k a [(p, va)]) (hB : TreeOf w k b [(p, vb)]) :
    Calls Tryz.prog 34 #[.agg #[.int .i64 (r : Int), .bool l, .bool rt, .bool true], .pointer (some ⟨a, 0, none⟩), .pointer (some ⟨b, 0, none⟩)] w (LfOut w k r p va vb) := by
  obtain ⟨ta, hTA, hTopA, hea, hk1, hk⟩ := hA.top
  obtain ⟨tb, hTB, hTopB, heb, -, -⟩ := hB.top
  obtain ⟨x, rfl⟩ : ∃ x, ta = some x := by
    cases ta with
    | none => simp [esOf] at hea
    | some x => exact ⟨x, rfl⟩
  obtain ⟨y, rfl⟩ : ∃ y, tb = some y := by
    cases tb with
    | none => simp [esOf] at heb
    | some y => exact ⟨y, rfl⟩
  obtain ⟨ga, la, pa, ea⟩ := x
  obtain ⟨gb, lb, pb, eb⟩ := y
  simp only [esOf] at hea heb
  subst hea heb
  have hNA := hTopA _ rfl
  have hNB := hTopB _ rfl
  simp only at hNA hNB
  obtain ⟨rfl, rfl⟩ := leaf_of hNA
  obtain ⟨rfl, rfl⟩ := leaf_of hNB
  have hb1 := (Below.refl w.heap.size w).alloc (Nat.le_refl _) (.cells #[.int .i64 (r : Int), .bool l, .bool rt, .bool true] 71)
  have hJ := Blk.new w 71 #[.int .i64 (r : Int), .bool l, .bool rt, .bool true]
  have j0 := hJ.cell 0
  simp at j0
  have HB1 := hide hb1
  have HJ := hide hJ
  have hck := st_check (Blk.below hTA hb1) (Blk.below hTB hb1) (r : Int)
  rw [show ckCode k k (r : Int) = 0 by simp [ckCode]; omega] at hck
  have HCK := hide hck
  have HK := hide (fun W (hW : Below w.heap.size w W) => tr_k (Blk.below hTA hW))
  have HRA := hide (fun W (hW : Below w.heap.size w W) => show Calls Tryz.prog 39 #[.pointer (some ⟨a, 0, none⟩)] W fun e w' => e = .returned (.pointer (some ⟨ga, 0, none⟩)) ∧ W = w' from tr_root (Blk.below hTA hW))
  have HRB := hide (fun W (hW : Below w.heap.size w W) => show Calls Tryz.prog 39 #[.pointer (some ⟨b, 0, none⟩)] W fun e w' => e = .returned (.pointer (some ⟨gb, 0, none⟩)) ∧ W = w' from tr_root (Blk.below hTB hW))
  have HJN := hide (fun W (hW : Below w.heap.size w W) => st_join_leaf (l := l) (rt := rt) (bo := true) hk1 hk h1 h6 (hNA.stay hW) (hNB.stay hW))
  clear hA hB hTA hTB hTopA hTopB hNA hNB hck hJ
  clear hb1
  go_enter Tryz.func34, Tryz.ntmps34
  go_wp2_with fail
  refine HCK.out.mono ?_
  rintro e w1 ⟨rfl, rfl⟩
  go_upto_region 4 with fail
  generalize w.alloc (.cells #[.int .i64 (r : Int), .bool l, .bool rt, .bool true] 71) = w1 at *
  have hJ1 := HJ.out
  have k0 := hJ1.cell 0
  have k1 := hJ1.cell 1
  have k2 := hJ1.cell 2
  have k3 := hJ1.cell 3
  simp at k0 k1 k2 k3
  have hd : Below w.heap.size w w1.drew := HB1.out.drew
  have hqd : Below w1.heap.size w1 w1.drew := (Below.refl _ _).drew
  have HCELL := hide (fun W (hW : Below w1.heap.size w1 W) => And.intro ((HJ.out.below hW).cell 0) (And.intro ((HJ.out.below hW).cell 1) (And.intro ((HJ.out.below hW).cell 2) ((HJ.out.below hW).cell 3))))
  clear hJ1 HCK
  go_region_held3 (fun w' => w'.cell? ⟨w.heap.size, 0, none⟩ = some (.int .i64 (r : Int)) ∧ w'.cell? ⟨w.heap.size, 1, none⟩ = some (.bool l) ∧ w'.cell? ⟨w.heap.size, 2, none⟩ = some (.bool rt) ∧ w'.cell? ⟨w.heap.size, 3, none⟩ = some (.bool true))
    (first
      | go_keep
      | exact HCELL.out _ hqd)
    (first
      | (go_at_call 35
         with_reducible refine (HK.out _ hd).mono ?_
         rintro e w2 ⟨rfl, rfl⟩)
      | (go_at_call 39
         with_reducible refine (HRA.out _ hd).mono ?_
         rintro e w2 ⟨rfl, rfl⟩)
      | (go_at_call 39
         with_reducible refine (HRB.out _ hd).mono ?_
         rintro e w2 ⟨rfl, rfl⟩)
      | (go_at_call 61
         refine (HJN.out _ hd).mono ?_
         rintro e w5 ⟨tc, rfl, htc, hmc, hb5⟩
         have HTC := hide htc
         have HMC := hide hmc
         replace hd := below_then hd hb5
         replace hqd := hqd.trans (hb5.mono (by simp))
         clear htc hmc hb5)
      | (go_at_call 44
         refine (of_top hk1 hk HTC.out).mono ?_
         rintro e w6 ⟨⟨t6, rfl, ht6⟩, hb6⟩
         have HT6 := hide ht6
         replace hd := below_then hd hb6
         replace hqd := hqd.trans (hb6.mono hqd.size)
         clear ht6 hb6))
  all_goals
    have HF := hide (show LfOut w k r pb va vb (.returned (.tuple #[.pointer (some ⟨t6, 0, none⟩), .int .i64 0])) w6 from ⟨t6, _, rfl, HT6.out, fun x => by rw [HMC.out]; simp, hd⟩)
    go_wp2
    go_ret2
    exact HF.out
set_option maxHeartbeats 8000000 in
set_option maxRecDepth 100000 in
theorem st_union_leaf {w : World} {k a b r va vb : Nat} {p : List Nat} (h1 : 1 ≤ r) (h6 : r ≤ 6) (hA : TreeOf w k a [(p, va)]) (hB : TreeOf w k b [(p, vb)]) :
    Calls Tryz.prog 8 #[.pointer (some ⟨a, 0, none⟩), .pointer (some ⟨b, 0, none⟩), .int .i64 (r : Int)] w (LfOut w k r p va vb) := by
  have HT := hide (st_trees_leaf (l := true) (rt := true) h1 h6 hA hB)
  clear hA hB
  go_enter Tryz.func8, Tryz.ntmps8
  go_wp2_with fail
  refine HT.out.mono ?_
  rintro e w1 ⟨t, es, rfl, ht, hm, hb⟩
  have HF := hide (show LfOut w k r p va vb (.returned (.tuple #[.pointer (some ⟨t, 0, none⟩), .int .i64 0])) w1 from ⟨t, es, rfl, ht, hm, hb⟩)
  clear ht hm hb
  go_wp2
  go_ret2
  exact HF.out
set_option maxHeartbeats 8000000 in
set_option maxRecDepth 100000 in
theorem st_common_leaf {w : World} {k a b r va vb : Nat} {p : List Nat} (h1 : 1 ≤ r) (h6 : r ≤ 6) (hA : TreeOf w k a [(p, va)]) (hB : TreeOf w k b [(p, vb)]) :
    Calls Tryz.prog 9 #[.pointer (some ⟨a, 0, none⟩), .pointer (some ⟨b, 0, none⟩), .int .i64 (r : Int)] w (LfOut w k r p va vb) := by
  have HT := hide (st_trees_leaf (l := false) (rt := false) h1 h6 hA hB)
  clear hA hB
  go_enter Tryz.func9, Tryz.ntmps9
  go_wp2_with fail
  refine HT.out.mono ?_
  rintro e w1 ⟨t, es, rfl, ht, hm, hb⟩
  have HF := hide (show LfOut w k r p va vb (.returned (.tuple #[.pointer (some ⟨t, 0, none⟩), .int .i64 0])) w1 from ⟨t, es, rfl, ht, hm, hb⟩)
  clear ht hm hb
  go_wp2
  go_ret2
  exact HF.out
theorem one_ent {es : List Ent} (hs : Zsorted es) {x : Ent} (hm : ∀ y, y ∈ es ↔ y = x) : es = [x] := sorted_ext hs (List.pairwise_singleton _ _) fun y => by rw [hm, List.mem_singleton]
set_option maxHeartbeats 8000000 in
set_option maxRecDepth 100000 in
theorem awake15 (w : World) : Calls Tryz.prog 5 #[] w fun e w' => e = .returned (.bool true) ∧ Below w.heap.size w w' := by
  have HN := hide (tr_new 2 w (by omega) (by omega))
  go_enter Tryz.func5, Tryz.ntmps5
  go_wp2_with fail
  refine HN.out.mono ?_
  rintro e w1 ⟨rfl, hT1, hb1⟩
  have HT1 := hide (show TreeOf w1 2 w.heap.size [] from ⟨by omega, by omega, .inl ⟨hT1, rfl⟩⟩)
  have HB1 := hide hb1
  clear hT1 hb1 HN
  have hb := below_alloc HB1.out (Nat.le_refl _) (.cells #[.int .u64 4, .int .u64 0] 45)
  have hq := (Below.refl w1.heap.size w1).alloc (Nat.le_refl _) (.cells #[.int .u64 4, .int .u64 0] 45)
  have HPa := hide (tr_put (v := 3) (c := 2) (HT1.out.stay hq) (pt_lit2 w1 4 0 (by omega) (by omega)) (by omega))
  have HBq := hide hb
  have HQq := hide hq
  clear hb hq
  go_wp2_with fail
  refine HPa.out.mono ?_
  rintro e w3 ⟨ta, esa, rfl, ht, hm, -, hb⟩
  obtain rfl : esa = [([4, 0], 3)] := one_ent ht.sorted.1 (fun y => by rw [hm]; simp)
  have HTa := hide ht
  have HT3 := hide ((HT1.out.stay HQq.out).stay hb)
  have HB3 := hide (below_then HBq.out hb)
  clear ht hm hb HPa HBq HQq HT1 HB1
  have hb := below_alloc HB3.out (Nat.le_refl _) (.cells #[.int .u64 4, .int .u64 0] 45)
  have hq := (Below.refl w3.heap.size w3).alloc (Nat.le_refl _) (.cells #[.int .u64 4, .int .u64 0] 45)
  have HPb := hide (tr_put (v := 5) (c := 2) (HT3.out.stay hq) (pt_lit2 w3 4 0 (by omega) (by omega)) (by omega))
  have HBq := hide hb
  have HQq := hide hq
  clear hb hq
  go_wp2_with fail
  refine HPb.out.mono ?_
  rintro e w5 ⟨tb, esb, rfl, ht, hm, -, hb⟩
  obtain rfl : esb = [([4, 0], 5)] := one_ent ht.sorted.1 (fun y => by rw [hm]; simp)
  have HTb := hide ht
  have HTa5 := hide ((HTa.out.stay HQq.out).stay hb)
  have HB5 := hide (below_then HBq.out hb)
  clear ht hm hb HPb HBq HQq HTa HB3 HT3
  have HU := hide (st_union_leaf (r := 5) (by omega) (by omega) HTa5.out HTb.out)
  go_wp2_with fail
  refine HU.out.mono ?_
  rintro e w6 ⟨u, eu, rfl, hu, hmu, hb⟩
  have HUT := hide hu
  have HMU := hide hmu
  have HTa6 := hide (HTa5.out.stay hb)
  have HTb6 := hide (HTb.out.stay hb)
  have HB6 := hide (below_then HB5.out hb)
  clear hu hmu hb HU HTa5 HTb HB5
  have HC := hide (st_common_leaf (r := 6) (by omega) (by omega) HTa6.out HTb6.out)
  go_wp2_with fail
  refine HC.out.mono ?_
  rintro e w7 ⟨c, ec, rfl, hc, hmc, hb⟩
  have HCT := hide hc
  have HMC := hide hmc
  have HUT7 := hide (HUT.out.stay hb)
  have HB7 := hide (below_then HB6.out hb)
  clear hc hmc hb HC HUT HTa6 HTb6 HB6
  have hb := below_alloc HB7.out (Nat.le_refl _) (.cells #[.int .u64 4, .int .u64 0] 45)
  have hq := (Below.refl w7.heap.size w7).alloc (Nat.le_refl _) (.cells #[.int .u64 4, .int .u64 0] 45)
  have HG1 := hide (tr_get (c := 2) (HUT7.out.stay hq) (pt_lit2 w7 4 0 (by omega) (by omega)))
  have HBq := hide hb
  have HCT8 := hide (HCT.out.stay hq)
  clear hb hq HCT
  go_wp2_with fail
  refine HG1.out.mono ?_
  rintro e w9 ⟨⟨v, rfl, hv⟩ | ⟨_, hno⟩, hb⟩
  case inr => exact absurd ((HMU.out ([4, 0], stval 5 3 5)).2 rfl) (hno _)
  obtain rfl : v = 8 := (Prod.mk.inj ((HMU.out _).1 hv)).2
  have HCT9 := hide (HCT8.out.stay hb)
  have HB9 := hide (below_then HBq.out hb)
  clear hv hb HG1 HCT8 HBq HB7
  have hb := below_alloc HB9.out (Nat.le_refl _) (.cells #[.int .u64 4, .int .u64 0] 45)
  have hq := (Below.refl w9.heap.size w9).alloc (Nat.le_refl _) (.cells #[.int .u64 4, .int .u64 0] 45)
  have HG2 := hide (tr_get (c := 2) (HCT9.out.stay hq) (pt_lit2 w9 4 0 (by omega) (by omega)))
  have HBq := hide hb
  clear hb hq
  go_wp2_with fail
  refine HG2.out.mono ?_
  rintro e w11 ⟨⟨v, rfl, hv⟩ | ⟨_, hno⟩, hb⟩
  case inr => exact absurd ((HMC.out ([4, 0], stval 6 3 5)).2 rfl) (hno _)
  obtain rfl : v = 2 := (Prod.mk.inj ((HMC.out _).1 hv)).2
  have HB11 := hide (below_then HBq.out hb)
  clear hv hb HG2 HBq HB9
  go_wp2
  go_ret
  exact ⟨rfl, HB11.out⟩
end Go.Proofs.YtfkpanpageeklaaGreat
