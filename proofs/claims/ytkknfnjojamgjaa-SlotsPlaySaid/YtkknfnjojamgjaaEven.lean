/- pantilelaw05.even: slots and the document's alike. -/
import Derived.Test.YtkknfnjojamgjaaRefC
import Derived.Test.YtkknfnjojamgjaaSames
set_option linter.unusedSimpArgs false
set_option linter.unusedVariables false
namespace Go.Proofs.Ytkknfnjojamgjaa
open Go.RowKit
theorem sameB_self (xs : List Int) : sameB xs xs = true := by unfold sameB; simp
theorem same_ints_t {A B : Option Addr} {n c d : Nat} {L : Th} {w : World} (hA : Rw w 1 A n (L.map fun t => .int .i64 (t.1 : Int))) (hB : Rw w 1 B n (L.map fun t => .int .i64 (t.1 : Int))) (hn : n ≤ 70368744177664) :
    Calls Try.prog 89 #[.slice A n c, .slice B n d] w fun e w' => e = .returned (.bool true) ∧ Below w.heap.size w w' := by
  have e : (L.map fun t => Value.int .i64 (t.1 : Int)) = (L.map fun t => (t.1 : Int)).map fun z => Value.int .i64 z := by simp
  rw [e] at hA hB
  have := same_ints A B n c n d _ _ w hA hB hn hn
  rw [sameB_self] at this
  exact this
theorem xs_of {L : Th} (hX : ∀ t ∈ L, ∃ x, t.2 = Value.int .u64 x) : ∃ xs : List Int, (L.map fun t => t.2) = xs.map fun z => Value.int .u64 z := by
  induction L with
  | nil => exact ⟨[], rfl⟩
  | cons t L ih =>
    obtain ⟨xs, hxs⟩ := ih fun s hs => hX s (List.mem_cons_of_mem _ hs)
    obtain ⟨x, hx⟩ := hX t (List.mem_cons_self)
    exact ⟨x :: xs, by simp [hx, hxs]⟩
theorem same_u64_t {A B : Option Addr} {n c d : Nat} {L : Th} {w : World} (hX : ∀ t ∈ L, ∃ x, t.2 = Value.int .u64 x) (hA : Rw w 1 A n (L.map fun t => t.2)) (hB : Rw w 1 B n (L.map fun t => t.2)) (hn : n ≤ 70368744177664) :
    Calls Try.prog 37 #[.slice A n c, .slice B n d] w fun e w' => e = .returned (.bool true) ∧ Below w.heap.size w w' := by
  obtain ⟨xs, e⟩ := xs_of hX
  rw [e] at hA hB
  have := same_u64 A B n c n d _ _ w hA hB hn hn
  rw [sameB_self] at this
  exact this
theorem getTh_int {k : Nat} {L : Th} (hO : OkTh k L) (hX : ∀ t ∈ L, ∃ x, t.2 = Value.int .u64 x) (addr : Int) : ∃ z, (getTh L addr).getD (.int .u64 0) = .int .u64 z := by
  cases h : getTh L addr with
  | none => exact ⟨0, rfl⟩
  | some x =>
    obtain ⟨p, t, h1, h2⟩ := getTh_idx h
    have ht := List.mem_of_getElem? h1
    rw [← h2, getTh_some hO ht] at h
    injection h with h
    obtain ⟨z, hz⟩ := hX t ht
    exact ⟨z, by rw [← h]; exact hz⟩
theorem fromTh_at {k : Nat} {L : Th} {addr : Int} {i : Nat} (hO : OkTh k L) (hl : ∀ (j : Nat) t, L[j]? = some t → j < i → (t.1 : Int) < addr) (hr : ∀ t, L[i]? = some t → addr ≤ (t.1 : Int)) : fromTh L addr = L[i]? := by
  unfold fromTh
  conv => lhs; rw [← List.take_append_drop i L]
  have g1 : (L.take i).filter (fun t => decide (addr ≤ (t.1 : Int))) = [] := by
    rw [List.filter_eq_nil_iff]
    intro t ht
    obtain ⟨j, hj, ht⟩ := mem_take_idx ht
    have := hl j t ht hj
    simp only [decide_eq_true_eq]
    omega
  rw [List.filter_append, g1, List.nil_append]
  cases h : L[i]? with
  | none => rw [List.drop_eq_nil_of_le (by simpa using h)]; rfl
  | some t =>
    obtain ⟨h1, h2⟩ := List.getElem?_eq_some_iff.1 h
    rw [List.drop_eq_getElem_cons h1, h2, List.filter_cons_of_pos (by simpa using hr t h)]
    rfl
theorem upTh_at {k : Nat} {L : Th} {addr : Int} {i : Nat} (hO : OkTh k L) (hl : ∀ t, L[i]? = some t → (t.1 : Int) ≤ addr) (hr : ∀ (j : Nat) t, L[j]? = some t → i < j → addr < (t.1 : Int)) (hi : i < L.length) : upTh L addr = L[i]? := by
  unfold upTh
  have ht : L[i]? = some L[i] := List.getElem?_eq_getElem hi
  conv => lhs; rw [split_at ht]
  have g1 : (L.drop (i + 1)).filter (fun t => decide ((t.1 : Int) ≤ addr)) = [] := by
    rw [List.filter_eq_nil_iff]
    intro t ht
    obtain ⟨j, hj, ht⟩ := mem_drop_idx ht
    have := hr j t ht (by omega)
    simp only [decide_eq_true_eq]
    omega
  rw [List.filter_append, List.filter_cons_of_pos (by simpa using hl _ ht), g1, ht]
  simp
theorem upTh_no {L : Th} {addr : Int} (hr : ∀ (j : Nat) t, L[j]? = some t → addr < (t.1 : Int)) : upTh L addr = none := by
  unfold upTh
  have : L.filter (fun t => decide ((t.1 : Int) ≤ addr)) = [] := by
    rw [List.filter_eq_nil_iff]
    intro t ht
    obtain ⟨j, hj⟩ := List.getElem?_of_mem ht
    have := hr j t hj
    simp only [decide_eq_true_eq]
    omega
  rw [this]
  rfl
set_option maxHeartbeats 4000000 in
set_option maxRecDepth 100000 in
theorem even5 (g k : Nat) (v : Value) (L : Th) (addr : Int) (w : World) (hS : SlotsAt_u w g k L) (hR : RefAt w v k L) :
    Calls Try.prog 23 #[.pointer (some ⟨g, 0, none⟩), v, .int .i64 addr] w fun e w' => e = .returned (.bool true) ∧ Below w.heap.size w w' := by
  have HR := hide hR
  have HS := hide hS
  obtain ⟨A, c, B, d, rfl, hk, hO, hX, hlc, hld, hA, hB, -⟩ := hR
  obtain ⟨z, hz⟩ := getTh_int hO hX addr
  have hl16 : L.length ≤ 65536 := by have := len_le_of_ok hO; have := pow16 hk; omega
  have b0 := below_alloc (Below.refl w.heap.size w) (Nat.le_refl _) (.cells #[.int .i64 (k : Nat), .slice A L.length c, .slice B L.length d] 32)
  have B0 := Blk.new w 32 #[.int .i64 (k : Nat), .slice A L.length c, .slice B L.length d]
  have C1 := get_u g k L addr _ (hS.below b0)
  rw [hz] at C1
  have C1' := hide C1
  have HO := hide hO
  clear C1 hS hO
  go_enter Try.func23, Try.ntmps23
  go_wp2_with fail
  refine C1'.out.mono ?_
  rintro e w1 ⟨rfl, b1⟩
  have hb1 := below_then b0 b1
  have B1 := B0.below b1
  clear B0 b1 C1'
  have C2 := r5_get _ k L addr _ (HR.out.below hb1)
  rw [hz] at C2
  have C2' := hide C2
  have q0 := B1.cell 0
  have q1 := B1.cell 1
  have q2 := B1.cell 2
  simp at q0 q1 q2
  clear C2 hz b0
  go_wp2_with fail
  refine C2'.out.mono ?_
  rintro e w2 ⟨rfl, b2⟩
  have hb2 := below_then hb1 b2
  have B2 := B1.below b2
  have hlt : w.heap.size < w2.heap.size := B2.lt
  clear B1 b2 C2' q0 q1 q2 hb1
  have q0 := B2.cell 0
  have q1 := B2.cell 1
  have q2 := B2.cell 2
  simp at q0 q1 q2
  generalize hs : (getTh L addr).isSome = sm
  clear hs
  go_wp2_with fail
  go_region_held3 (fun w' => w'.cell? ⟨w.heap.size, 0, none⟩ = some (.int .i64 (k : Nat)) ∧ w'.cell? ⟨w.heap.size, 1, none⟩ = some (.slice A L.length c) ∧ w'.cell? ⟨w.heap.size, 2, none⟩ = some (.slice B L.length d))
    (first
      | go_keep
      | exact hk3
      | exact hk4
      | exact hk5
      | exact hk6
      | exact hk7
      | exact hk8)
    (first
      | (go_at_call 27
         refine (k_u g k L w2.drew (HS.out.below hb2.drew)).mono ?_
         rintro e _ ⟨rfl, rfl⟩)
      | (go_at_call 28
         refine (len_u g k L w2.drew (HS.out.below hb2.drew)).mono ?_
         rintro e _ ⟨rfl, rfl⟩)
      | (go_at_call 29
         refine (denseM_u g k L w2.drew (HS.out.below hb2.drew)).mono ?_
         rintro e w3 ⟨rfl, hb3⟩
         have hc3 : Below w2.heap.size w2 w3 := (Below.refl _ w2).drew.trans hb3
         have hk3 : w3.cell? ⟨w.heap.size, 0, none⟩ = some (.int .i64 (k : Nat)) ∧ w3.cell? ⟨w.heap.size, 1, none⟩ = some (.slice A L.length c) ∧ w3.cell? ⟨w.heap.size, 2, none⟩ = some (.slice B L.length d) := ⟨(hc3.cell (p := ⟨w.heap.size, 0, none⟩) hlt).trans q0, (hc3.cell (p := ⟨w.heap.size, 1, none⟩) hlt).trans q1, (hc3.cell (p := ⟨w.heap.size, 2, none⟩) hlt).trans q2⟩)
      | (go_at_call 88
         refine (r5_dense _ k L w3 (HR.out.below (below_then hb2 hc3))).mono ?_
         rintro e w4 ⟨rfl, hb4⟩
         have hc4 : Below w2.heap.size w2 w4 := below_then hc3 hb4
         have hk4 : w4.cell? ⟨w.heap.size, 0, none⟩ = some (.int .i64 (k : Nat)) ∧ w4.cell? ⟨w.heap.size, 1, none⟩ = some (.slice A L.length c) ∧ w4.cell? ⟨w.heap.size, 2, none⟩ = some (.slice B L.length d) := ⟨(hc4.cell (p := ⟨w.heap.size, 0, none⟩) hlt).trans q0, (hc4.cell (p := ⟨w.heap.size, 1, none⟩) hlt).trans q1, (hc4.cell (p := ⟨w.heap.size, 2, none⟩) hlt).trans q2⟩)
      | (go_at_call 30
         refine (places_u g k L w4 (HS.out.below (below_then hb2 hc4))).mono ?_
         rintro e w5 ⟨v5, rfl, ho5, hb5⟩
         obtain ⟨A5, c5, rfl, -, hR5⟩ := Rw.of_own ho5
         have hc5 : Below w2.heap.size w2 w5 := below_then hc4 hb5
         have hk5 : w5.cell? ⟨w.heap.size, 0, none⟩ = some (.int .i64 (k : Nat)) ∧ w5.cell? ⟨w.heap.size, 1, none⟩ = some (.slice A L.length c) ∧ w5.cell? ⟨w.heap.size, 2, none⟩ = some (.slice B L.length d) := ⟨(hc5.cell (p := ⟨w.heap.size, 0, none⟩) hlt).trans q0, (hc5.cell (p := ⟨w.heap.size, 1, none⟩) hlt).trans q1, (hc5.cell (p := ⟨w.heap.size, 2, none⟩) hlt).trans q2⟩)
      | (go_at_call 89
         refine (same_ints_t hR5 (hA.below (below_then hb2 hc5)) (by omega)).mono ?_
         rintro e w6 ⟨rfl, hb6⟩
         have hc6 : Below w2.heap.size w2 w6 := below_then hc5 hb6
         have hk6 : w6.cell? ⟨w.heap.size, 0, none⟩ = some (.int .i64 (k : Nat)) ∧ w6.cell? ⟨w.heap.size, 1, none⟩ = some (.slice A L.length c) ∧ w6.cell? ⟨w.heap.size, 2, none⟩ = some (.slice B L.length d) := ⟨(hc6.cell (p := ⟨w.heap.size, 0, none⟩) hlt).trans q0, (hc6.cell (p := ⟨w.heap.size, 1, none⟩) hlt).trans q1, (hc6.cell (p := ⟨w.heap.size, 2, none⟩) hlt).trans q2⟩)
      | (go_at_call 31
         refine (all_u g k L w6 (HS.out.below (below_then hb2 hc6))).mono ?_
         rintro e w7 ⟨v7, rfl, ho7, hb7⟩
         obtain ⟨A7, c7, rfl, -, hR7⟩ := Rw.of_own ho7
         have hc7 : Below w2.heap.size w2 w7 := below_then hc6 hb7
         have hk7 : w7.cell? ⟨w.heap.size, 0, none⟩ = some (.int .i64 (k : Nat)) ∧ w7.cell? ⟨w.heap.size, 1, none⟩ = some (.slice A L.length c) ∧ w7.cell? ⟨w.heap.size, 2, none⟩ = some (.slice B L.length d) := ⟨(hc7.cell (p := ⟨w.heap.size, 0, none⟩) hlt).trans q0, (hc7.cell (p := ⟨w.heap.size, 1, none⟩) hlt).trans q1, (hc7.cell (p := ⟨w.heap.size, 2, none⟩) hlt).trans q2⟩)
      | (go_at_call 37
         refine (same_u64_t hX hR7 (hB.below (below_then hb2 hc7)) (by omega)).mono ?_
         rintro e w8 ⟨rfl, hb8⟩
         have hc8 : Below w2.heap.size w2 w8 := below_then hc7 hb8
         have hk8 : w8.cell? ⟨w.heap.size, 0, none⟩ = some (.int .i64 (k : Nat)) ∧ w8.cell? ⟨w.heap.size, 1, none⟩ = some (.slice A L.length c) ∧ w8.cell? ⟨w.heap.size, 2, none⟩ = some (.slice B L.length d) := ⟨(hc8.cell (p := ⟨w.heap.size, 0, none⟩) hlt).trans q0, (hc8.cell (p := ⟨w.heap.size, 1, none⟩) hlt).trans q1, (hc8.cell (p := ⟨w.heap.size, 2, none⟩) hlt).trans q2⟩))
  have hb8' := below_then hb2 hc8
  have HU := fun W (h : Below w8.heap.size w8 W) => upto_u g k L addr W (HS.out.below (below_then hb8' h))
  have HU' := hide HU
  have q0 := hk8.1
  have q1 := hk8.2.1
  have q2 := hk8.2.2
  clear hk3 hk4 hk5 hk6 hk7 hc3 hc4 hc5 hc6 hc7 hb3 hb4 hb5 hb6 hb7 hb8 ho5 ho7 hR5 hR7 HU HR B2
  have hlt8 : w.heap.size < w8.heap.size := by have := hc8.size; omega
  go_wp2_with fail
  refine (from_u g k L addr w8 (HS.out.below hb8')).mono ?_
  rintro e w9 ⟨⟨a1, x1, ok1, rfl, h1, h2⟩, hb9'⟩
  have F1 := hide h1
  have F2 := hide h2
  have hb9 := below_then hb8' hb9'
  have p0 := (hb9'.cell (p := ⟨w.heap.size, 0, none⟩) hlt8).trans hk8.1
  have p1 := (hb9'.cell (p := ⟨w.heap.size, 1, none⟩) hlt8).trans hk8.2.1
  have p2 := (hb9'.cell (p := ⟨w.heap.size, 2, none⟩) hlt8).trans hk8.2.2
  have hlt9 : w.heap.size < w9.heap.size := by have := hb9'.size; omega
  have HU9 := hide (HU'.out w9 hb9')
  have en : IntKind.i64.wrap ((L.length : Int) - 1) = (L.length : Int) - 1 := by rw [IntKind.wrap_i64]; omega
  clear h1 h2 HU' q0 q1 q2 hk8 hb9' hb8' hc8
  go_wp2
  go_loopw [14] (fun x wr => ∃ (j : Nat), x = .int .i64 j ∧ j ≤ L.length ∧ (∀ (i : Nat) t, L[i]? = some t → i < j → (t.1 : Int) < addr) ∧ wr = w9) (fun x _ => L.length - (intOf x).toNat)
  case atStart => exact ⟨0, rfl, Nat.zero_le _, fun _ _ _ h => absurd h (by omega), rfl⟩
  case round =>
    obtain ⟨j, rfl, hj, hl, rfl⟩ := hrel
    have Hl := hide hl
    clear hl
    by_cases hjn : j < L.length
    · obtain ⟨b, o, rfl, hbl, u, hu, k0⟩ := (hA.below hb9).one hjn
      rw [List.getElem?_map] at hu
      obtain ⟨t, ht, rfl⟩ := Option.map_eq_some_iff.1 hu
      obtain ⟨b1, o1, rfl, hbl1, u1, hu1, k1⟩ := (hB.below hb9).one hjn
      rw [List.getElem?_map, ht] at hu1
      obtain ⟨y, hy⟩ := hX t (List.mem_of_getElem? ht)
      simp [hy] at hu1
      subst hu1
      have HT := hide ht
      have HY := hide hy
      clear hu ht hy
      rcases (show (t.1 : Int) < addr ∨ addr ≤ (t.1 : Int) by omega) with hc | hc
      · go_wp2
        go_roundw
        case rel =>
          refine ⟨j + 1, by go_num, by omega, fun i s hs hi => ?_, by first | rfl | trivial⟩
          rcases Nat.lt_or_ge i j with h3 | h3
          · exact Hl.out i s hs h3
          · obtain rfl : i = j := by omega
            have := HT.out
            rw [hs] at this
            injection this with this
            rw [this]
            exact hc
        case measure => first | (simp [intOf]; done) | (simp [intOf]; omega)
      · have hN := fromTh_at (i := j) HO.out Hl.out (fun t h => by have := HT.out; rw [h] at this; injection this with this; rw [this]; exact hc)
        rw [HT.out] at hN
        rcases ok1 with _ | _
        · obtain ⟨hM, -⟩ := F2.out rfl
          rw [hN] at hM
          cases hM
        · have hM := F1.out rfl
          rw [hN] at hM
          injection hM with hM
          have hM1 : t.1 = a1 := by rw [hM]
          have hM2 : t.2 = x1 := by rw [hM]
          rw [HY.out] at hM2
          subst hM1 hM2
          clear hM hN
          go_wp2_with fail
          refine HU9.out.mono ?_
          rintro e w10 ⟨⟨a2, x2, ok2, rfl, h1, h2⟩, hbU⟩
          have U1 := hide h1
          have U2 := hide h2
          have r1 := (hbU.cell (p := ⟨w.heap.size, 1, none⟩) hlt9).trans p1
          have r2 := (hbU.cell (p := ⟨w.heap.size, 2, none⟩) hlt9).trans p2
          clear h1 h2 p0 p1 p2 k0 k1
          have hbF := below_then hb9 hbU
          clear hbU
          go_wp2
          go_loopw [18] (fun x wr => ∃ (m : Nat), x = .int .i64 ((m : Int) - 1) ∧ m ≤ L.length ∧ (∀ (j : Nat) t, L[j]? = some t → m ≤ j → addr < (t.1 : Int)) ∧ wr = w10) (fun x _ => (intOf x + 1).toNat)
          case atStart => exact ⟨L.length, rfl, Nat.le_refl _, fun j t h hj => absurd (List.getElem?_eq_some_iff.1 h).1 (by omega), rfl⟩
          case round =>
            obtain ⟨m, rfl, hm, hh, rfl⟩ := hrel
            have HH := hide hh
            clear hh
            rcases m with _ | p
            · have hN := upTh_no (L := L) (addr := addr) fun j t h => HH.out j t h (Nat.zero_le _)
              rcases ok2 with _ | _
              · obtain ⟨-, rfl, rfl⟩ := U2.out rfl
                clear hN
                go_wp2
                go_ret
                exact ⟨rfl, hbF⟩
              · have := U1.out rfl
                rw [hN] at this
                cases this
            · rw [show (((p + 1 : Nat) : Int) - 1) = (p : Int) by omega]
              have ew : IntKind.i64.wrap ((p : Int) - 1) = (p : Int) - 1 := by rw [IntKind.wrap_i64]; omega
              obtain ⟨b', o', hee, hbl', u, hu, k0'⟩ := (hA.below hbF).one (i := p) (by omega)
              first
                | subst hee
                | (injection hee with hee
                   injection hee with e1 e2
                   subst e1 e2)
              rw [List.getElem?_map] at hu
              obtain ⟨t', ht', rfl⟩ := Option.map_eq_some_iff.1 hu
              obtain ⟨b'', o'', hee, hbl'', u', hu', k1'⟩ := (hB.below hbF).one (i := p) (by omega)
              first
                | subst hee
                | (injection hee with hee
                   injection hee with e1 e2
                   subst e1 e2)
              rw [List.getElem?_map, ht'] at hu'
              obtain ⟨y', hy'⟩ := hX t' (List.mem_of_getElem? ht')
              simp [hy'] at hu'
              subst hu'
              have HT' := hide ht'
              have HY' := hide hy'
              clear ht' hu hy'
              rcases (show addr < (t'.1 : Int) ∨ (t'.1 : Int) ≤ addr by omega) with hc | hc
              · go_wp2
                go_roundw
                case rel =>
                  refine ⟨p, by first | rfl | (congr 1; omega), by omega, fun j s hs hj => ?_, by first | rfl | trivial⟩
                  rcases Nat.lt_or_ge p j with h3 | h3
                  · exact HH.out j s hs h3
                  · obtain rfl : j = p := by omega
                    have := HT'.out
                    rw [hs] at this
                    injection this with this
                    rw [this]
                    exact hc
                case measure => first | (simp [intOf]; done) | (simp [intOf]; omega)
              · have hN := upTh_at (i := p) HO.out (fun t h => by have := HT'.out; rw [h] at this; injection this with this; rw [this]; exact hc) (fun j t h hj => HH.out j t h hj) (by omega)
                rw [HT'.out] at hN
                rcases ok2 with _ | _
                · obtain ⟨hM, -⟩ := U2.out rfl
                  rw [hN] at hM
                  cases hM
                · have hM := U1.out rfl
                  rw [hN] at hM
                  injection hM with hM
                  have hM1 : t'.1 = a2 := by rw [hM]
                  have hM2 : t'.2 = x2 := by rw [hM]
                  rw [HY'.out] at hM2
                  subst hM1 hM2
                  clear hM hN
                  go_wp2
                  go_ret
                  exact ⟨rfl, hbF⟩
    · obtain rfl : j = L.length := by omega
      have hN := fromTh_at (i := L.length) HO.out Hl.out (fun t h => by simp at h)
      rw [List.getElem?_eq_none (Nat.le_refl _)] at hN
      rcases ok1 with _ | _
      · obtain ⟨-, rfl, rfl⟩ := F2.out rfl
        clear hN
        go_wp2_with fail
        refine HU9.out.mono ?_
        rintro e w10 ⟨⟨a2, x2, ok2, rfl, h1, h2⟩, hbU⟩
        have U1 := hide h1
        have U2 := hide h2
        have r1 := (hbU.cell (p := ⟨w.heap.size, 1, none⟩) hlt9).trans p1
        have r2 := (hbU.cell (p := ⟨w.heap.size, 2, none⟩) hlt9).trans p2
        clear h1 h2 p0 p1 p2
        have hbF := below_then hb9 hbU
        clear hbU
        go_wp2
        go_loopw [18] (fun x wr => ∃ (m : Nat), x = .int .i64 ((m : Int) - 1) ∧ m ≤ L.length ∧ (∀ (j : Nat) t, L[j]? = some t → m ≤ j → addr < (t.1 : Int)) ∧ wr = w10) (fun x _ => (intOf x + 1).toNat)
        case atStart => exact ⟨L.length, rfl, Nat.le_refl _, fun j t h hj => absurd (List.getElem?_eq_some_iff.1 h).1 (by omega), rfl⟩
        case round =>
          obtain ⟨m, rfl, hm, hh, rfl⟩ := hrel
          have HH := hide hh
          clear hh
          rcases m with _ | p
          · have hN := upTh_no (L := L) (addr := addr) fun j t h => HH.out j t h (Nat.zero_le _)
            rcases ok2 with _ | _
            · obtain ⟨-, rfl, rfl⟩ := U2.out rfl
              clear hN
              go_wp2
              go_ret
              exact ⟨rfl, hbF⟩
            · have := U1.out rfl
              rw [hN] at this
              cases this
          · rw [show (((p + 1 : Nat) : Int) - 1) = (p : Int) by omega]
            have ew : IntKind.i64.wrap ((p : Int) - 1) = (p : Int) - 1 := by rw [IntKind.wrap_i64]; omega
            obtain ⟨b', o', hee, hbl', u, hu, k0'⟩ := (hA.below hbF).one (i := p) (by omega)
            first
              | subst hee
              | (injection hee with hee
                 injection hee with e1 e2
                 subst e1 e2)
            rw [List.getElem?_map] at hu
            obtain ⟨t', ht', rfl⟩ := Option.map_eq_some_iff.1 hu
            obtain ⟨b'', o'', hee, hbl'', u', hu', k1'⟩ := (hB.below hbF).one (i := p) (by omega)
            first
              | subst hee
              | (injection hee with hee
                 injection hee with e1 e2
                 subst e1 e2)
            rw [List.getElem?_map, ht'] at hu'
            obtain ⟨y', hy'⟩ := hX t' (List.mem_of_getElem? ht')
            simp [hy'] at hu'
            subst hu'
            have HT' := hide ht'
            have HY' := hide hy'
            clear ht' hu hy'
            rcases (show addr < (t'.1 : Int) ∨ (t'.1 : Int) ≤ addr by omega) with hc | hc
            · go_wp2
              go_roundw
              case rel =>
                refine ⟨p, by first | rfl | (congr 1; omega), by omega, fun j s hs hj => ?_, by first | rfl | trivial⟩
                rcases Nat.lt_or_ge p j with h3 | h3
                · exact HH.out j s hs h3
                · obtain rfl : j = p := by omega
                  have := HT'.out
                  rw [hs] at this
                  injection this with this
                  rw [this]
                  exact hc
              case measure => first | (simp [intOf]; done) | (simp [intOf]; omega)
            · have hN := upTh_at (i := p) HO.out (fun t h => by have := HT'.out; rw [h] at this; injection this with this; rw [this]; exact hc) (fun j t h hj => HH.out j t h hj) (by omega)
              rw [HT'.out] at hN
              rcases ok2 with _ | _
              · obtain ⟨hM, -⟩ := U2.out rfl
                rw [hN] at hM
                cases hM
              · have hM := U1.out rfl
                rw [hN] at hM
                injection hM with hM
                have hM1 : t'.1 = a2 := by rw [hM]
                have hM2 : t'.2 = x2 := by rw [hM]
                rw [HY'.out] at hM2
                subst hM1 hM2
                clear hM hN
                go_wp2
                go_ret
                exact ⟨rfl, hbF⟩
      · have := F1.out rfl
        rw [hN] at this
        cases this
end Go.Proofs.Ytkknfnjojamgjaa
