/- pantilelaw12: the chapter's example; what isn't there. -/
import Derived.Test.YtfkpanpageeklaaDfH
import Derived.Test.YtfkpanpageeklaaR12s
import Derived.Test.YtfkpanpageeklaaTrD
set_option linter.unusedSimpArgs false
set_option linter.unusedVariables false
namespace Go.Proofs.Ytfkpanpageeklaa
open Go.RowKit
theorem ent_one {es : List Ent} (hs : Zsorted es) {x : Ent} (hm : ∀ y, y ∈ es ↔ y = x) : es = [x] := sorted_ext hs (List.pairwise_singleton _ _) fun y => by rw [hm, List.mem_singleton]
theorem ent_two {es : List Ent} (hs : Zsorted es) {x z : Ent} (hl : Zlt x.1 z.1) (hm : ∀ y, y ∈ es ↔ y = x ∨ y = z) : es = [x, z] := sorted_ext hs (List.pairwise_cons.2 ⟨fun y hy => by rw [List.mem_singleton] at hy; subst hy; exact hl, List.pairwise_singleton _ _⟩) fun y => by rw [hm]; simp
theorem mem_two {p q : List Nat} {u v : Nat} (h : p ≠ q) (y : Ent) : (y = (q, v) ∨ (y ∈ [(p, u)] ∧ y.1 ≠ q)) ↔ y = (p, u) ∨ y = (q, v) := by
  rw [List.mem_singleton]
  constructor
  · rintro (rfl | ⟨rfl, _⟩)
    · exact .inr rfl
    · exact .inl rfl
  · rintro (rfl | rfl)
    · exact .inr ⟨rfl, h⟩
    · exact .inl rfl
theorem zlt_47 : Zlt [4, 0] [7, 3] := ⟨1, fun b hb => by
  unfold addrOf
  have h2 : b = 2 ∨ 3 ≤ b := by omega
  rcases h2 with rfl | h2
  · decide
  · have hz : ∀ c, c < 8 → bit c b = 0 := fun c hc => by
      unfold bit
      have : c < 2 ^ b := Nat.lt_of_lt_of_le (show c < 2 ^ 3 by omega) (Nat.pow_le_pow_right (by omega) h2)
      rw [Nat.div_eq_of_lt this]
    simp [List.foldl, hz 4 (by omega), hz 0 (by omega), hz 7 (by omega), hz 3 (by omega)], by decide⟩
theorem chg12 : Chgs [([4, 0], 3)] [([4, 0], 5), ([7, 3], 1)] [⟨[4, 0], true, true, 3, 5⟩, ⟨[7, 3], false, true, 0, 1⟩] := by
  have h1 := Chgs.one (p := [4, 0]) (v := 3) (u := 5)
  rw [if_neg (by decide)] at h1
  have h2 : Chgs [] [([7, 3], 1)] _ := Chgs.come (List.pairwise_singleton _ _)
  have hah : Ahead [([4, 0], 5)] [([7, 3], 1)] := fun e he f hf => by
    rw [List.mem_singleton] at he hf
    subst he hf
    exact zlt_47
  have hah' : Ahead [([4, 0], 3)] [([7, 3], 1)] := fun e he f hf => by
    rw [List.mem_singleton] at he hf
    subst he hf
    exact zlt_47
  exact h1.append h2 (Ahead.nil_r _) hah' (Ahead.nil_r _) hah
set_option maxHeartbeats 8000000 in
set_option maxRecDepth 100000 in
theorem awake12 (w : World) : Calls Try.prog 12 #[] w fun e w' => e = .returned (.bool true) ∧ Below w.heap.size w w' := by
  have HN := hide (tr_new 2 w (by omega) (by omega))
  go_enter Try.func12, Try.ntmps12
  go_wp2_with fail
  refine HN.out.mono ?_
  rintro e w1 ⟨rfl, hT1, hb1⟩
  have HT1 := hide (show TreeOf w1 2 w.heap.size [] from ⟨by omega, by omega, .inl ⟨hT1, rfl⟩⟩)
  have HB1 := hide hb1
  clear hT1 hb1 HN
  have hb := below_alloc HB1.out (Nat.le_refl _) (.cells #[.int .u64 4, .int .u64 0] 50)
  have hq := (Below.refl w1.heap.size w1).alloc (Nat.le_refl _) (.cells #[.int .u64 4, .int .u64 0] 50)
  have HP := hide (tr_put (v := 3) (c := 2) (HT1.out.stay hq) (pt_lit2 w1 4 0 (by omega) (by omega)) (by omega))
  have HBq := hide hb
  have HQq := hide hq
  clear hb hq
  go_wp2_with fail
  refine HP.out.mono ?_
  rintro e w3 ⟨t3, es3, rfl, ht, hm, -, hb⟩
  obtain rfl : es3 = [([4, 0], 3)] := ent_one ht.sorted.1 (fun y => by rw [hm]; simp)
  replace HT1 := hide ((HT1.out.stay HQq.out).stay hb)
  have HT3 := hide ht
  have HB3 := hide (below_then HBq.out hb)
  clear ht hm hb HP HBq HQq
  have hb := below_alloc HB3.out (Nat.le_refl _) (.cells #[.int .u64 4, .int .u64 0] 50)
  have hq := (Below.refl w3.heap.size w3).alloc (Nat.le_refl _) (.cells #[.int .u64 4, .int .u64 0] 50)
  have HP := hide (tr_put (v := 5) (c := 2) (HT1.out.stay hq) (pt_lit2 w3 4 0 (by omega) (by omega)) (by omega))
  have HBq := hide hb
  have HQq := hide hq
  clear hb hq
  go_wp2_with fail
  refine HP.out.mono ?_
  rintro e w5 ⟨t5, es5, rfl, ht, hm, -, hb⟩
  obtain rfl : es5 = [([4, 0], 5)] := ent_one ht.sorted.1 (fun y => by rw [hm]; simp)
  replace HT3 := hide ((HT3.out.stay HQq.out).stay hb)
  have HT5 := hide ht
  have HB5 := hide (below_then HBq.out hb)
  clear ht hm hb HP HBq HQq
  have hb := below_alloc HB5.out (Nat.le_refl _) (.cells #[.int .u64 7, .int .u64 3] 50)
  have hq := (Below.refl w5.heap.size w5).alloc (Nat.le_refl _) (.cells #[.int .u64 7, .int .u64 3] 50)
  have HP := hide (tr_put (v := 1) (c := 2) (HT5.out.stay hq) (pt_lit2 w5 7 3 (by omega) (by omega)) (by omega))
  have HBq := hide hb
  have HQq := hide hq
  clear hb hq
  go_wp2_with fail
  refine HP.out.mono ?_
  rintro e w7 ⟨t7, es7, rfl, ht, hm, -, hb⟩
  obtain rfl : es7 = [([4, 0], 5), ([7, 3], 1)] := ent_two ht.sorted.1 zlt_47 (fun y => by rw [hm]; exact mem_two (by decide) y)
  replace HT3 := hide ((HT3.out.stay HQq.out).stay hb)
  have HT7 := hide ht
  have HB7 := hide (below_then HBq.out hb)
  clear ht hm hb HP HBq HQq
  have HC := hide (df_changes HT3.out HT7.out (by simp) (by simp))
  go_wp2_with fail
  refine HC.out.mono ?_
  rintro e w8 ⟨A, c, rows, rfl, hch, ho, hok, hb8⟩
  have hces := hch.uniq chg12
  have hlen : rows.length = 2 := by
    have := congrArg List.length hces
    rw [ces_len] at this
    exact this
  have hca : ChgsAt w8 A rows.length rows := ChgsAt.of_own ho (fun r hr => (hok r hr).1.1)
  rw [hlen] at hca ⊢
  have HCA := hide hca
  have HCE := hide hces
  have HOK := hide (fun r hr => (hok r hr).2)
  have HB8 := hide (below_then HB7.out hb8)
  clear hch ho hok hb8 hces hlen hca HC
  -- the literal
  have l1 := (Below.refl w8.heap.size w8).alloc (Nat.le_refl _) (.cells #[.int .u64 4, .int .u64 0] 50)
  have l2 := below_alloc l1 (Nat.le_refl _) (.cells #[.int .u64 7, .int .u64 3] 50)
  have l3 := below_alloc l2 (Nat.le_refl _) (.cells #[.slice (some ⟨w8.heap.size, 0, none⟩) 2 2, .bool true, .bool true, .int .u64 3, .int .u64 5, .slice (some ⟨w8.heap.size + 1, 0, none⟩) 2 2, .bool false, .bool true, .int .u64 0, .int .u64 1] 70)
  have p1 := pt_lit2 w8 4 0 (by omega) (by omega)
  have p2 := pt_lit2 (w8.alloc (.cells #[.int .u64 4, .int .u64 0] 50)) 7 3 (by omega) (by omega)
  have hbk := Blk.new ((w8.alloc (.cells #[.int .u64 4, .int .u64 0] 50)).alloc (.cells #[.int .u64 7, .int .u64 3] 50)) 70 #[.slice (some ⟨w8.heap.size, 0, none⟩) 2 2, .bool true, .bool true, .int .u64 3, .int .u64 5, .slice (some ⟨w8.heap.size + 1, 0, none⟩) 2 2, .bool false, .bool true, .int .u64 0, .int .u64 1]
  have k1 := p1.below ((Below.refl _ _).alloc (Nat.le_refl _) (.cells #[.int .u64 7, .int .u64 3] 50))
  have k1' := k1.below ((Below.refl _ _).alloc (Nat.le_refl _) (.cells #[.slice (some ⟨w8.heap.size, 0, none⟩) 2 2, .bool true, .bool true, .int .u64 3, .int .u64 5, .slice (some ⟨w8.heap.size + 1, 0, none⟩) 2 2, .bool false, .bool true, .int .u64 0, .int .u64 1] 70))
  have k2' := p2.below ((Below.refl _ _).alloc (Nat.le_refl _) (.cells #[.slice (some ⟨w8.heap.size, 0, none⟩) 2 2, .bool true, .bool true, .int .u64 3, .int .u64 5, .slice (some ⟨w8.heap.size + 1, 0, none⟩) 2 2, .bool false, .bool true, .int .u64 0, .int .u64 1] 70))
  rw [show ((w8.alloc (.cells #[.int .u64 4, .int .u64 0] 50)).alloc (.cells #[.int .u64 7, .int .u64 3] 50)).heap.size = w8.heap.size + 1 + 1 by simp] at hbk
  rw [show (w8.alloc (.cells #[.int .u64 4, .int .u64 0] 50)).heap.size = w8.heap.size + 1 by simp] at k2'
  have hlit : ChgsAt (((w8.alloc (.cells #[.int .u64 4, .int .u64 0] 50)).alloc (.cells #[.int .u64 7, .int .u64 3] 50)).alloc (.cells #[.slice (some ⟨w8.heap.size, 0, none⟩) 2 2, .bool true, .bool true, .int .u64 3, .int .u64 5, .slice (some ⟨w8.heap.size + 1, 0, none⟩) 2 2, .bool false, .bool true, .int .u64 0, .int .u64 1] 70)) (some ⟨w8.heap.size + 1 + 1, 0, none⟩) 2 [⟨some ⟨w8.heap.size, 0, none⟩, 2, 2, [4, 0], true, true, 3, 5⟩, ⟨some ⟨w8.heap.size + 1, 0, none⟩, 2, 2, [7, 3], false, true, 0, 1⟩] := by
    refine ⟨Rw.of_blk hbk (by simp [chv]) (fun j u hu => by simpa [chv] using hu), fun r hr => ?_⟩
    simp only [List.mem_cons, List.not_mem_nil, or_false] at hr
    rcases hr with rfl | rfl
    · exact ⟨k1', Nat.le_refl _, (by show 2 ≤ maxLen; unfold maxLen; omega), by show 3 < 2 ^ 64; omega, by show 5 < 2 ^ 64; omega⟩
    · exact ⟨k2', Nat.le_refl _, (by show 2 ≤ maxLen; unfold maxLen; omega), by show 0 < 2 ^ 64; omega, by show 1 < 2 ^ 64; omega⟩
  have HS := hide (ref12_same (c := c) (d := 2) (HCA.out.below l3) hlit (by rw [HCE.out]; rfl) (by omega) (fun r hr => by rw [HOK.out r hr]; omega) (fun r hr => by
    simp only [List.mem_cons, List.not_mem_nil, or_false] at hr
    rcases hr with rfl | rfl <;> (show 2 ≤ 65536; omega)))
  have HL3 := hide (below_then HB8.out l3)
  clear l1 l2 l3 p1 p2 hbk k1 k1' k2' hlit
  go_wp2_with fail
  refine HS.out.mono ?_
  rintro e w9 ⟨rfl, hb9⟩
  have HB9 := hide (below_then HL3.out hb9)
  clear hb9 HS
  go_wp2
  go_ret
  exact ⟨rfl, HB9.out⟩
end Go.Proofs.Ytfkpanpageeklaa
