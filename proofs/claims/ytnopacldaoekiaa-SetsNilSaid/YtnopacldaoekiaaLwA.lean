/- pantilelaw08: the places of the reference, what an answer is held against, the chapter's example. -/
import Derived.Test.YtnopacldaoekiaaWkA
import Derived.Test.YtnopacldaoekiaaWkB
import Derived.Test.YtnopacldaoekiaaWkC
import Derived.Test.YtnopacldaoekiaaTrD
set_option linter.unusedSimpArgs false
set_option linter.unusedVariables false
namespace Go.Proofs.Ytnopacldaoekiaa
open Go.RowKit
theorem fromI_at {rows : List ER} {p : List Nat} {j : Nat} (hj : j ≤ rows.length) (h1 : ∀ r ∈ rows.take j, cmp r.p p < 0) (h2 : ∀ r, rows[j]? = some r → ¬ cmp r.p p < 0) : fromI (ents rows) p = j := by
  unfold fromI
  have hs : ents rows = ents (rows.take j) ++ ents (rows.drop j) := by unfold ents; rw [← List.map_append, List.take_append_drop]
  rw [hs, List.takeWhile_append_of_pos]
  · have : ((ents (rows.drop j)).takeWhile fun e => decide (cmp e.1 p < 0)) = [] := by
      cases hr : rows[j]? with
      | none => rw [List.drop_eq_nil_of_le (by simpa using hr)]; rfl
      | some r =>
        obtain ⟨h3, h4⟩ := List.getElem?_eq_some_iff.1 hr
        rw [List.drop_eq_getElem_cons h3, h4]
        unfold ents
        rw [List.map_cons, List.takeWhile_cons_of_neg (p := fun e : Ent => decide (cmp e.1 p < 0)) (show ¬ (decide (cmp r.e.1 p < 0)) = true from fun hh => h2 r hr (of_decide_eq_true hh))]
    rw [this]
    unfold ents
    simp
    omega
  · intro e he
    unfold ents at he
    obtain ⟨r, hr, rfl⟩ := List.mem_map.1 he
    exact decide_eq_true (h1 r hr)
set_option maxHeartbeats 2000000 in
set_option maxRecDepth 100000 in
theorem ref_from8 {w : World} {A B : Option Addr} {n c d k : Nat} {rows : List ER} {p : List Nat} (hE : EntsAt w A n rows) (hkk : ∀ r ∈ rows, r.n = k) (hp : Pt w B k p) (hk : k ≤ 40) (hn : n ≤ 65536) :
    Calls Try.prog 33 #[.slice A n c, .slice B k d] w fun e w' => e = .returned (.int .i64 ((fromI (ents rows) p : Nat) : Int)) ∧ w = w' := by
  have HE := hide hE
  have HKK := hide hkk
  have HP := hide hp
  have HL := hide hE.len
  clear hE hkk hp
  go_enter Try.func33, Try.ntmps33
  go_wp2
  go_loop [5] (fun x => ∃ (j : Nat), x = .int .i64 (j : Int) ∧ j ≤ n ∧ ∀ r ∈ rows.take j, cmp r.p p < 0) (fun x => n - (intOf x).toNat)
  case atStart => exact ⟨0, rfl, Nat.zero_le _, fun r hr => (by simp at hr)⟩
  case round =>
    obtain ⟨j, rfl, hj, hall⟩ := hrel
    have HALL := hide hall
    clear hall
    by_cases hjn : j < n
    · obtain ⟨b, o, r, rfl, hbl, hr, hok, x0, x1⟩ := HE.out.at_ hjn
      have hrn := HKK.out r (List.mem_of_getElem? hr)
      have hpr := hok.1
      rw [hrn] at hpr x0
      have HC := hide (ref_cmp r.A B k r.c d r.p p w hpr HP.out hk)
      have HR := hide hr
      clear hr hok hrn hpr
      by_cases hc : cmp r.p p < 0
      · have e1 : decide (cmp r.p p < 0) = true := by simpa using hc
        have HCC := hide hc
        clear hc
        go_wp2_with fail
        refine HC.out.mono ?_
        rintro e w1 ⟨rfl, rfl⟩
        go_wp2
        go_round
        case rel =>
          refine ⟨j + 1, by go_num, by omega, fun s hs => ?_⟩
          rw [List.take_add_one, HR.out] at hs
          rcases List.mem_append.1 hs with hs | hs
          · exact HALL.out s hs
          · simp at hs
            subst hs
            exact HCC.out
        case measure => simp [intOf]; omega
      · have e1 : decide (cmp r.p p < 0) = false := by simpa using hc
        have HF := hide (fromI_at (by have := HL.out; omega) HALL.out (fun s hs => by rw [HR.out] at hs; injection hs with hs; subst hs; exact hc))
        clear hc
        go_wp2_with fail
        refine HC.out.mono ?_
        rintro e w1 ⟨rfl, rfl⟩
        go_wp2
        go_ret
        exact ⟨by rw [HF.out]; rfl, rfl⟩
    · have e9 : decide ((j : Int) < (n : Int)) = false := by simp; omega
      have HF := hide (fromI_at (rows := rows) (p := p) (j := j) (by have := HL.out; omega) HALL.out (fun s hs => by rw [List.getElem?_eq_none (by have := HL.out; omega)] at hs; cases hs))
      go_wp2
      go_ret
      exact ⟨by rw [HF.out]; rfl, rfl⟩
/-- The place of the last one that isn't behind a point, and one more. -/
def UpI (rows : List ER) (p : List Nat) (j : Nat) : Prop := j ≤ rows.length ∧ (∀ r ∈ rows.drop j, 0 < cmp r.p p) ∧ ∀ i r, j = i + 1 → rows[i]? = some r → ¬ 0 < cmp r.p p
set_option maxHeartbeats 2000000 in
set_option maxRecDepth 100000 in
theorem ref_upto8 {w : World} {A B : Option Addr} {n c d k : Nat} {rows : List ER} {p : List Nat} (hE : EntsAt w A n rows) (hkk : ∀ r ∈ rows, r.n = k) (hp : Pt w B k p) (hk : k ≤ 40) (hn : n ≤ 65536) :
    Calls Try.prog 34 #[.slice A n c, .slice B k d] w fun e w' => (∃ j : Nat, e = .returned (.int .i64 ((j : Int) - 1)) ∧ UpI rows p j) ∧ w = w' := by
  have HE := hide hE
  have HKK := hide hkk
  have HP := hide hp
  have HL := hide hE.len
  have hn' : (n : Int) ≤ 65536 := by omega
  clear hE hkk hp
  go_enter Try.func34, Try.ntmps34
  go_wp2
  go_loop [5] (fun x => ∃ (j : Nat), x = .int .i64 ((j : Int) - 1) ∧ j ≤ n ∧ ∀ r ∈ rows.drop j, 0 < cmp r.p p) (fun x => (intOf x + 1).toNat)
  case atStart => exact ⟨n, rfl, Nat.le_refl _, fun r hr => (by rw [List.drop_eq_nil_of_le (by have := HL.out; omega)] at hr; cases hr)⟩
  case round =>
    obtain ⟨j, rfl, hj, hall⟩ := hrel
    have HALL := hide hall
    clear hall
    cases j with
    | succ j =>
      obtain ⟨b, o, r, rfl, hbl, hr, hok, x0, x1⟩ := HE.out.at_ (i := j) (by omega)
      have hrn := HKK.out r (List.mem_of_getElem? hr)
      have hpr := hok.1
      rw [hrn] at hpr x0
      have HC := hide (ref_cmp r.A B k r.c d r.p p w hpr HP.out hk)
      have HR := hide hr
      have ej : ((j + 1 : Nat) : Int) - 1 = (j : Int) := by omega
      rw [ej]
      have HJ := hide ej
      have e0 : decide ((0 : Int) ≤ (j : Int)) = true := by simp
      have hjn : j < n := by omega
      have hjn' : (j : Int) < (n : Int) := by omega
      clear hr hok hrn hpr ej
      by_cases hc : 0 < cmp r.p p
      · have e1 : decide (0 < cmp r.p p) = true := by simpa using hc
        have HCC := hide hc
        clear hc
        go_wp2_with fail
        refine HC.out.mono ?_
        rintro e w1 ⟨rfl, rfl⟩
        go_wp2
        go_round
        case rel =>
          refine ⟨j, rfl, by omega, fun s hs => ?_⟩
          have h3 := (List.getElem?_eq_some_iff.1 HR.out)
          obtain ⟨h3, h4⟩ := h3
          rw [List.drop_eq_getElem_cons h3, h4] at hs
          rcases List.mem_cons.1 hs with rfl | hs
          · exact HCC.out
          · exact HALL.out s hs
        case measure => simp [intOf]
      · have e1 : decide (0 < cmp r.p p) = false := by simpa using hc
        have HF := hide (show UpI rows p (j + 1) from ⟨by have := HL.out; omega, HALL.out, fun i s hi hs => (by obtain rfl : i = j := (by omega); rw [HR.out] at hs; injection hs with hs; subst hs; exact hc)⟩)
        clear hc
        go_wp2_with fail
        refine HC.out.mono ?_
        rintro e w1 ⟨rfl, rfl⟩
        go_wp2
        go_ret
        exact ⟨⟨j + 1, by rw [HJ.out]; rfl, HF.out⟩, rfl⟩
    | zero =>
      have HF := hide (show UpI rows p 0 from ⟨Nat.zero_le _, HALL.out, fun i s hi _ => absurd hi (by omega)⟩)
      go_wp2
      go_ret
      exact ⟨⟨0, rfl, HF.out⟩, rfl⟩
theorem UpI.cut {k : Nat} {rows : List ER} {p : List Nat} {j : Nat} {A B : List Ent} (h : UpI rows p j) (hc : Cut3 p (ents rows) A B) (hz : ∀ r ∈ rows, Zp k r.p) (hp : Zp k p) : j = A.length ∧ ((j : Int) - 1 < 0 → A = []) ∧ (∀ i, j = i + 1 → (ents rows)[i]? = A.getLast?) := by
  obtain ⟨h1, h2, h3⟩ := h
  have hlen : rows.length = A.length + B.length := by
    have := congrArg List.length hc.eq
    unfold ents at this
    simpa using this
  have key : ∀ (i : Nat) (r : ER), rows[i]? = some r → (ents rows)[i]? = some r.e := fun i r hr => by unfold ents; rw [List.getElem?_map, hr]; rfl
  have hj : j = A.length := by
    rcases Nat.lt_trichotomy j A.length with h | h | h
    · exfalso
      obtain ⟨r, hr⟩ : ∃ r, rows[j]? = some r := ⟨rows[j]'(by omega), List.getElem?_eq_getElem _⟩
      have hm := h2 r (List.mem_of_getElem? (i := 0) (by rw [List.getElem?_drop]; simpa using hr))
      have hA : r.e ∈ A := by
        have := key j r hr
        rw [hc.eq, List.getElem?_append_left h] at this
        exact List.mem_of_getElem? this
      have hzr := hz r (List.mem_of_getElem? hr)
      rcases cmp_cases r.p p with h4 | h4 | h4
      · omega
      · omega
      · exact hc.lo _ hA ((cmp_gt hzr hp).1 h4)
    · exact h
    · exfalso
      obtain ⟨i, rfl⟩ : ∃ i, j = i + 1 := ⟨j - 1, by omega⟩
      obtain ⟨r, hr⟩ : ∃ r, rows[i]? = some r := ⟨rows[i]'(by omega), List.getElem?_eq_getElem _⟩
      have hB : r.e ∈ B := by
        have := key i r hr
        rw [hc.eq, List.getElem?_append_right (by omega)] at this
        exact List.mem_of_getElem? this
      have hzr := hz r (List.mem_of_getElem? hr)
      exact h3 i r rfl hr (by rw [(cmp_gt hzr hp).2 (hc.hi _ hB)]; decide)
  refine ⟨hj, fun h => ?_, fun i hi => ?_⟩
  · exact List.length_eq_zero_iff.1 (by omega)
  · rw [hc.eq, List.getElem?_append_left (by omega), List.getLast?_eq_getElem?, show A.length - 1 = i by omega]
set_option maxHeartbeats 1000000 in
set_option maxRecDepth 100000 in
theorem at8_none {w : World} {A : Option Addr} {n c : Nat} {i : Int} (hi : i < 0 ∨ (n : Int) ≤ i) :
    Calls Try.prog 32 #[.slice A n c, .int .i64 i, .agg #[.slice none 0 0, .int .u64 0], .bool false] w fun e w' => e = .returned (.bool true) ∧ Below w.heap.size w w' := by
  have b1 := (Below.refl w.heap.size w).alloc (Nat.le_refl _) (.cells #[.slice none 0 0, .int .u64 0] 27)
  have hN := Blk.new w 27 #[.slice none 0 0, .int .u64 0]
  have y0 := hN.cell 0
  have y1 := hN.cell 1
  simp at y0 y1
  have HB := hide b1
  clear b1 hN
  by_cases h1 : i < 0
  · have e1 : decide (i < 0) = true := by simpa using h1
    clear h1 hi
    go_enter Try.func32, Try.ntmps32
    go_wp2
    go_ret
    exact ⟨rfl, HB.out⟩
  · have e1 : decide (i < 0) = false := by simpa using h1
    have e2 : decide ((n : Int) ≤ i) = true := by simp; omega
    clear h1 hi
    go_enter Try.func32, Try.ntmps32
    go_wp2
    go_ret
    exact ⟨rfl, HB.out⟩
set_option maxHeartbeats 2000000 in
set_option maxRecDepth 100000 in
theorem at8_some {w : World} {A : Option Addr} {n c j : Nat} {rows : List ER} {r : ER} (hE : EntsAt w A n rows) (hj : j < n) (hok : r.ok w) (hn : r.n ≤ 65536) (hnn : ∀ s ∈ rows, s.n ≤ 65536) (he : (ents rows)[j]? = some r.e) :
    Calls Try.prog 32 #[.slice A n c, .int .i64 (j : Int), .agg #[.slice r.A r.n r.c, .int .u64 (r.v : Int)], .bool true] w fun e w' => e = .returned (.bool true) ∧ Below w.heap.size w w' := by
  have b1 := (Below.refl w.heap.size w).alloc (Nat.le_refl _) (.cells #[.slice r.A r.n r.c, .int .u64 (r.v : Int)] 27)
  have hN := Blk.new w 27 #[.slice r.A r.n r.c, .int .u64 (r.v : Int)]
  obtain ⟨b, o, s, rfl, hbl, hs, hoks, x0, x1⟩ := (hE.below b1).at_ hj
  have hse : s.e = r.e := by
    unfold ents at he
    rw [List.getElem?_map, hs] at he
    simpa using he
  have hsp : s.p = r.p := congrArg Prod.fst hse
  have hsv : s.v = r.v := congrArg Prod.snd hse
  rw [hsv] at x1
  have hsn := hnn s (List.mem_of_getElem? hs)
  have hok1 := hok.below b1
  generalize hw1 : w.alloc (.cells #[.slice r.A r.n r.c, .int .u64 (r.v : Int)] 27) = w1 at *
  have HSP := hide (fun (W : World) (hW : Below w1.heap.size w1 W) => same_pt (c := r.c) (d := s.c) (hok1.1.below hW) (hoks.1.below hW) (by omega) (by omega))
  have HD := hide (show decide (r.p = s.p) = true by rw [hsp]; simp)
  have y0 := hN.cell 0
  have y1 := hN.cell 1
  simp at y0 y1
  have e1 : decide ((j : Int) < 0) = false := by simp
  have e2 : decide ((n : Int) ≤ (j : Int)) = false := by simp; omega
  have hq1 : w.heap.size < w1.heap.size := hN.lt
  have HB := hide b1
  have HW := hide hw1
  clear b1 hN hs hoks he hse hsp hsv hok hok1 hE hnn hsn hw1
  go_enter Try.func32, Try.ntmps32
  go_upto_region 1 with fail
  rw [HW.out]
  go_wp2_with fail
  go_region_held3 (fun w' => w'.cell? ⟨w.heap.size, 0, none⟩ = some (.slice r.A r.n r.c) ∧ w'.cell? ⟨w.heap.size, 1, none⟩ = some (.int .u64 (r.v : Int)) ∧ w'.cell? ⟨b, o + j * 2, none⟩ = some (.slice s.A s.n s.c) ∧ w'.cell? ⟨b, o + j * 2 + 1, none⟩ = some (.int .u64 (r.v : Int)))
    (first
      | go_keep
      | exact hk5)
    (first
      | (go_at_call 52
         refine (HSP.out w1.drew (Below.refl _ w1).drew).mono ?_
         rintro e w5 ⟨rfl, hb5⟩
         rw [HD.out]
         have hd5 : Below w1.heap.size w1 w5 := (Below.refl _ w1).drew.trans hb5
         have hk5 := And.intro ((hd5.cell (p := ⟨w.heap.size, 0, none⟩) hq1).trans y0) (And.intro ((hd5.cell (p := ⟨w.heap.size, 1, none⟩) hq1).trans y1) (And.intro ((hd5.cell (p := ⟨b, o + j * 2, none⟩) hbl).trans x0) ((hd5.cell (p := ⟨b, o + j * 2 + 1, none⟩) hbl).trans x1)))))
  go_wp2
  go_ret
  exact ⟨rfl, HB.out.trans (hd5.mono HB.out.size)⟩
/-- An answer at a place of a list. -/
theorem at8 {w : World} {A : Option Addr} {n c k : Nat} {rows : List ER} {r : ER} {ok : Bool} {i : Int} {o : Option Ent} (hE : EntsAt w A n rows) (hkk : ∀ s ∈ rows, s.n = k) (hk : k ≤ 16) (hi : EntIs w k o r ok) (ho : o = if i < 0 then none else (ents rows)[i.toNat]?) :
    Calls Try.prog 32 #[.slice A n c, .int .i64 i, .agg #[.slice r.A r.n r.c, .int .u64 (r.v : Int)], .bool ok] w fun e w' => e = .returned (.bool true) ∧ Below w.heap.size w w' := by
  obtain ⟨h1, ⟨rfl, h2, h3⟩ | ⟨rfl, rfl, h3⟩⟩ := hi
  · rw [h3] at ho
    by_cases hn : i < 0
    · rw [if_pos hn] at ho
      cases ho
    · rw [if_neg hn] at ho
      have hj : i.toNat < n := by
        have := (List.getElem?_eq_some_iff.1 ho.symm).1
        unfold ents at this
        rw [List.length_map, hE.len] at this
        exact this
      have h := at8_some (c := c) hE hj h1.1 (by omega) (fun s hs => by have := hkk s hs; omega) ho.symm
      rw [Int.toNat_of_nonneg (by omega)] at h
      exact h
  · rw [h3] at ho
    refine at8_none ?_
    by_cases hn : i < 0
    · exact .inl hn
    · rw [if_neg hn] at ho
      have := List.getElem?_eq_none_iff.1 ho.symm
      unfold ents at this
      rw [List.length_map, hE.len] at this
      omega
end Go.Proofs.Ytnopacldaoekiaa
