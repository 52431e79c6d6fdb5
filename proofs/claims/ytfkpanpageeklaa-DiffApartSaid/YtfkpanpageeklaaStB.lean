/- sets: an entry that both have; a fork whose kid is another. -/
import Derived.Test.YtfkpanpageeklaaStA
set_option linter.unusedSimpArgs false
set_option linter.unusedVariables false
namespace Go.Proofs.Ytfkpanpageeklaa
open Go.RowKit
def InOut (w : World) (k m a : Nat) (st : Bool) (en ek : List Ent) (e : Ending) (w' : World) : Prop :=
  ∃ tc, e = .returned (ptrOf tc) ∧ TopOk w' k tc ∧ (∀ x, x ∈ esOf tc ↔ (st = true ∧ addrOf x.1 m ≠ a ∧ x ∈ en) ∨ x ∈ ek) ∧ Below w.heap.size w w'
theorem mem_del {w : World} {k g m a : Nat} {pre : List Nat} {ks : List Kid} (h : Fork w k g m pre ks) (x : Ent) : x ∈ kidEs (delK ks a) ↔ addrOf x.1 m ≠ a ∧ x ∈ kidEs ks := by
  rw [mem_kidEs, mem_kidEs]
  constructor
  · rintro ⟨q, hq, hx⟩
    have h1 := mem_delK.1 hq
    have h2 := (h.fk'.es q h1.1 x hx).2.1
    simp only at h2
    exact ⟨by rw [h2]; exact h1.2, q, h1.1, hx⟩
  · rintro ⟨h1, q, hq, hx⟩
    have h2 := (h.fk'.es q hq x hx).2.1
    simp only at h2
    exact ⟨q, mem_delK.2 ⟨hq, by rw [← h2]; exact h1⟩, hx⟩
theorem two_kids_d {ks : List Kid} {q : Kid} {a : Nat} (h2 : ks.length = 2) (hs : ks.Pairwise fun q r => q.at_ < r.at_) (hq : q ∈ ks) (ha : q.at_ = a) : ∃ s0, s0 ∈ ks ∧ delK ks a = [s0] := by
  match ks, h2 with
  | [x, y], _ =>
    have hxy : x.at_ < y.at_ := (List.pairwise_cons.1 hs).1 y (by simp)
    simp only [List.mem_cons, List.not_mem_nil, or_false] at hq
    rcases hq with rfl | rfl
    · have h1 : y.at_ ≠ a := by omega
      exact ⟨y, by simp, by unfold delK; simp [ha, h1]⟩
    · have h1 : x.at_ ≠ a := by omega
      exact ⟨x, by simp, by unfold delK; simp [ha, h1]⟩
set_option maxHeartbeats 8000000 in
set_option maxRecDepth 100000 in
theorem st_inner {w : World} {k g m a r : Nat} {l rt bo : Bool} {pre : List Nat} {ks : List Kid} {tk : Option (Nat × NT)} (hk1 : 1 ≤ k) (hk : k ≤ 16) (hF : Fork w k g m pre ks) (hK : TopOk w k tk) (ha : a < 2 ^ k)
    (hq : ∀ x ∈ esOf tk, addrOf x.1 m = a ∧ ∀ b, m < b → addrOf x.1 b = addrOf pre b) (st : Bool) :
    Calls Try.prog 102 #[.agg #[.int .i64 (r : Int), .bool l, .bool rt, .bool bo], .pointer (some ⟨g, 0, none⟩), .bool st, .int .i64 (a : Int), ptrOf tk] w (InOut w k m a st (kidEs ks) (esOf tk)) := by
  have hb := (Below.refl w.heap.size w).alloc (Nat.le_refl _) (.cells #[.int .i64 (r : Int), .bool l, .bool rt, .bool bo] 92)
  have HB := hide hb
  cases st with
  | false =>
    have HF := hide (show InOut w k m a false (kidEs ks) (esOf tk) (.returned (ptrOf tk)) (w.alloc (.cells #[.int .i64 (r : Int), .bool l, .bool rt, .bool bo] 92)) from ⟨tk, rfl, hK.stay hb, fun x => by simp, hb⟩)
    clear hF hK hq hb
    go_enter Try.func102, Try.ntmps102
    go_wp2
    go_ret
    exact HF.out
  | true =>
    cases tk with
    | some z =>
      obtain ⟨gk, lk, pk, ek⟩ := z
      have hZ := hK _ rfl
      simp only [esOf] at hq hZ ⊢
      obtain ⟨x0, hx0⟩ := List.exists_mem_of_ne_nil _ hZ.info.2.1
      have hku := under (m := m) (z := x0.1) hZ (fun x hx b hb => by
        rcases Nat.eq_or_lt_of_le hb with h | h
        · subst h
          rw [(hq x hx).1, (hq x0 hx0).1]
        · rw [(hq x hx).2 b h, (hq x0 hx0).2 b h])
      have hka : addrOf pk m = a := (hku.2 m (Nat.le_refl _)).trans (hq x0 hx0).1
      have hkb : ∀ b, m < b → addrOf pk b = addrOf pre b := fun b hb => (hku.2 b (by omega)).trans ((hq x0 hx0).2 b hb)
      have HWI := hide (nd_with (hF.stay hb) (hZ.stay hb) hk1 hk ((part_le_iff hF.node.info.1 hZ.info.1 m (by omega)).2 fun b hb => (hkb b (by omega)).symm) hku.1)
      have HFK := hide hF
      have HKA := hide hka
      have HQ := hide (fun x hx => (hq x hx).1)
      clear hF hK hq hZ hku hka hkb hb hx0
      unfold ptrOf
      simp only [Option.map_some]
      go_enter Try.func102, Try.ntmps102
      go_wp2_with fail
      refine HWI.out.mono ?_
      rintro e w2 ⟨g2, rfl, hF2, -, hb2⟩
      have HF := hide (show InOut w k m a true (kidEs ks) ek (.returned (.pointer (some ⟨g2, 0, none⟩))) w2 from ⟨some (g2, ⟨m, _, _⟩), rfl, fun x hx => by injection hx with hx; subst hx; exact hF2.node, fun x => by
        show x ∈ kidEs (insK ks _) ↔ _
        rw [mem_ins hF2 HFK.out]
        simp only
        rw [HKA.out]
        constructor
        · rintro (⟨_, h⟩ | h)
          · exact .inr h
          · exact .inl ⟨by trivial, h⟩
        · rintro (⟨_, h⟩ | h)
          · exact .inr h
          · exact .inl ⟨HQ.out x h, h⟩, below_then HB.out hb2⟩)
      clear hF2 hb2
      go_wp2
      go_ret
      exact HF.out
    | none =>
      have HKD := hide (nd_kid_at (hF.stay hb) a)
      have HFK := hide hF
      clear hK hq hb
      simp only [esOf]
      unfold ptrOf
      simp only [Option.map_none]
      cases hkk : kidAt ks a with
      | none =>
        rw [hkk] at HKD
        have HMK := hide (show ∀ x, x ∈ kidEs ks ↔ addrOf x.1 m ≠ a ∧ x ∈ kidEs ks from fun x => ⟨fun h => ⟨fun h2 => by
          have := (hF.fk'.mem (e := x) h2).1 h
          simp only at this
          rw [hkk] at this
          simp [esOf] at this, h⟩, (·.2)⟩)
        unfold ptrOf at HKD
        simp only [Option.map_none] at HKD
        clear hF hkk
        go_enter Try.func102, Try.ntmps102
        go_wp2_with fail
        refine HKD.out.mono ?_
        rintro e w2 ⟨rfl, hb2⟩
        have HF := hide (show InOut w k m a true (kidEs ks) [] (.returned (.pointer (some ⟨g, 0, none⟩))) w2 from ⟨some (g, ⟨m, pre, kidEs ks⟩), rfl, fun x hx => by injection hx with hx; subst hx; exact (HFK.out.stay (below_then HB.out hb2)).node, fun x => ⟨fun h => .inl ⟨rfl, (HMK.out x).1 h⟩, fun h => h.elim (fun h => h.2.2) (fun h => by simp at h)⟩, below_then HB.out hb2⟩)
        clear hb2
        go_wp2
        go_ret
        exact HF.out
      | some y =>
        obtain ⟨q, hqm, hqa, rfl⟩ := kidAt_some hkk
        rw [hkk] at HKD
        unfold ptrOf at HKD
        simp only [Option.map_some] at HKD
        have HQM := hide hqm
        have h2 := hF.two
        clear hkk
        by_cases h3 : 3 ≤ ks.length
        · have HWO : Hid (∀ W, Below w.heap.size w W → Calls Try.prog 84 #[.pointer (some ⟨g, 0, none⟩), .int .i64 (a : Int)] W fun e w' => ∃ gn, e = .returned (.tuple #[.pointer (some ⟨gn, 0, none⟩), .int .i64 0]) ∧ Fork w' k gn m pre (delK ks a) ∧ W.heap.size ≤ gn ∧ Below W.heap.size W w') := hide (fun W hW => nd_without (hF.stay hW) ha hqm hqa h3)
          clear hF hqm hqa h2 h3
          go_enter Try.func102, Try.ntmps102
          go_wp2_with fail
          refine HKD.out.mono ?_
          rintro e w2 ⟨rfl, hb2⟩
          have HB2 := hide (below_then HB.out hb2)
          clear hb2
          go_wp2_with fail
          refine (HWO.out _ HB2.out).mono ?_
          rintro e w3 ⟨gn, rfl, hF3, -, hb3⟩
          have HF := hide (show InOut w k m a true (kidEs ks) [] (.returned (.pointer (some ⟨gn, 0, none⟩))) w3 from ⟨some (gn, ⟨m, pre, kidEs (delK ks a)⟩), rfl, fun x hx => by injection hx with hx; subst hx; exact hF3.node, fun x => by
            show x ∈ kidEs (delK ks a) ↔ _
            rw [mem_del HFK.out]
            simp, below_then HB2.out hb3⟩)
          clear hF3 hb3
          go_wp2
          go_ret
          exact HF.out
        · obtain ⟨s0, hs0, hsd⟩ := two_kids_d (by omega) hF.sorted hqm hqa
          have HWO : Hid (∀ W, Below w.heap.size w W → Calls Try.prog 84 #[.pointer (some ⟨g, 0, none⟩), .int .i64 (a : Int)] W fun e w' => e = .returned (.tuple #[.pointer (some ⟨s0.blk, 0, none⟩), .int .i64 0]) ∧ Below W.heap.size W w') := hide (fun W hW => nd_without_two (hF.stay hW) ha hqm hqa hsd)
          have HS := hide (hF.kid s0 hs0).1
          have HSD := hide hsd
          clear hF hqm hqa h2 h3 hs0 hsd
          go_enter Try.func102, Try.ntmps102
          go_wp2_with fail
          refine HKD.out.mono ?_
          rintro e w2 ⟨rfl, hb2⟩
          have HB2 := hide (below_then HB.out hb2)
          clear hb2
          go_wp2_with fail
          refine (HWO.out _ HB2.out).mono ?_
          rintro e w3 ⟨rfl, hb3⟩
          have HF := hide (show InOut w k m a true (kidEs ks) [] (.returned (.pointer (some ⟨s0.blk, 0, none⟩))) w3 from ⟨some (s0.blk, ⟨s0.lv, s0.pre, s0.es⟩), rfl, fun x hx => by injection hx with hx; subst hx; exact HS.out.stay (below_then HB2.out hb3), fun x => by
            show x ∈ s0.es ↔ _
            have h := mem_del (a := a) HFK.out x
            rw [HSD.out] at h
            simp [kidEs] at h
            rw [h]
            simp [kidEs], below_then HB2.out hb3⟩)
          clear hb3
          go_wp2
          go_ret
          exact HF.out
end Go.Proofs.Ytfkpanpageeklaa
