/- pantilelaw22: not more than fifty are kept. -/
import Derived.Test.YtnopacldaoekiaaLwP
set_option linter.unusedSimpArgs false
set_option linter.unusedVariables false
namespace Go.Proofs.Ytnopacldaoekiaa
open Go.RowKit
def v200 : Value → Nat
  | .int _ n => (200 - n).toNat
  | _ => 0
def vpos : Value → Nat
  | .int _ n => n.toNat
  | _ => 0
/-- The trees of a past: each holds one entry more than the one before. -/
structure Kept (W : World) (p i t : Nat) (es : List Ent) (Ls : List (Nat × List Ent)) : Prop where
  trs : Trs W 1 Ls
  last : Ls.getLast? = some (t, es)
  len : Ls.length = min (i + 1) 51
  each : ∀ (j : Nat) x, Ls[j]? = some x → x.2.length = i + 1 - Ls.length + j ∧ ∀ e ∈ x.2, ∃ y, y < x.2.length ∧ e.1 = [y]
section
variable {W W' : World} {p i t : Nat} {es : List Ent} {Ls : List (Nat × List Ent)}
theorem Kept.below (h : Kept W p i t es Ls) (hb : Below W.heap.size W W') : Kept W' p i t es Ls := ⟨h.trs.below hb, h.last, h.len, h.each⟩
theorem Kept.ex (h : Kept W p i t es Ls) (hP : PastBlk W p) (hx : Ex p W W') : Kept W' p i t es Ls := ⟨h.trs.ex hP hx, h.last, h.len, h.each⟩
theorem Kept.pos (h : Kept W p i t es Ls) : 0 < Ls.length := by
  have := h.len
  omega
theorem Kept.at_ (h : Kept W p i t es Ls) : Ls[Ls.length - 1]? = some (t, es) := by
  rw [← List.getLast?_eq_getElem?]
  exact h.last
theorem Kept.now (h : Kept W p i t es Ls) : (Ls.map Prod.fst)[Ls.length - 1]? = some t := by
  rw [List.getElem?_map, h.at_]
  rfl
theorem Kept.tree (h : Kept W p i t es Ls) : TreeOf W 1 t es := h.trs _ (List.mem_of_getElem? h.at_)
theorem Kept.here (h : Kept W p i t es Ls) : es.length = i ∧ ∀ e ∈ es, ∃ y, y < i ∧ e.1 = [y] := by
  have h1 := h.each _ _ h.at_
  have h2 := h.len
  have h3 := h.pos
  have h4 : es.length = i := by
    have := h1.1
    simp only at this
    omega
  refine ⟨h4, fun e he => ?_⟩
  have := h1.2 e he
  simp only [h4] at this
  exact this
theorem Kept.start (hT : TreeOf W 1 t []) : Kept W p 0 t [] [(t, [])] := by
  refine ⟨fun x hx => ?_, rfl, rfl, fun j x hx => ?_⟩
  · rw [List.mem_singleton] at hx
    subst hx
    exact hT
  · rcases j with _ | j
    · simp at hx
      subst hx
      simp
    · simp at hx
theorem Kept.next (h : Kept W p i t es Ls) {t' : Nat} {es' : List Ent} (hT : TreeOf W 1 t' es') (hm : ∀ x, x ∈ es' ↔ x = ([i], 1) ∨ (x ∈ es ∧ x.1 ≠ [i])) : Kept W p (i + 1) t' es' (clip (Ls ++ [(t', es')])) := by
  have h1 := h.here
  have h2 := h.len
  have hl : es'.length = i + 1 := by
    have := grow_len h.tree.sorted.1 hT.sorted.1 hm (fun x hx h0 => by
      obtain ⟨y, hy, he⟩ := h1.2 x hx
      rw [he] at h0
      injection h0 with h0
      omega)
    omega
  have hcl := clip_len (Ls ++ [(t', es')])
  rw [List.length_append, List.length_singleton] at hcl
  refine ⟨fun x hx => ?_, ?_, by rw [hcl]; omega, fun j x hx => ?_⟩
  · have hx := List.mem_of_mem_drop hx
    rcases List.mem_append.1 hx with hx | hx
    · exact h.trs x hx
    · rw [List.mem_singleton] at hx
      subst hx
      exact hT
  · have : (clip (Ls ++ [(t', es')])).length - 1 < (clip (Ls ++ [(t', es')])).length := by rw [hcl]; omega
    rw [List.getLast?_eq_getElem?]
    unfold clip
    rw [List.getElem?_drop, List.length_drop, List.length_append, List.length_singleton, List.getElem?_append_right (by omega), show Ls.length + 1 - 51 + (Ls.length + 1 - (Ls.length + 1 - 51) - 1) - Ls.length = 0 by omega]
    rfl
  · rw [hcl]
    unfold clip at hx
    rw [List.getElem?_drop, List.length_append, List.length_singleton] at hx
    rcases Nat.lt_or_ge (Ls.length + 1 - 51 + j) Ls.length with hj | hj
    · rw [List.getElem?_append_left hj] at hx
      have := h.each _ _ hx
      exact ⟨by rw [this.1]; omega, this.2⟩
    · rw [List.getElem?_append_right hj] at hx
      rcases hj' : Ls.length + 1 - 51 + j - Ls.length with _ | m
      · rw [hj'] at hx
        simp at hx
        subst hx
        refine ⟨by simp only [hl]; omega, fun e he => ?_⟩
        simp only [hl]
        rcases (hm e).1 he with rfl | ⟨he, _⟩
        · exact ⟨i, by omega, rfl⟩
        · obtain ⟨y, hy, h0⟩ := h1.2 e he
          exact ⟨y, by omega, h0⟩
      · rw [hj'] at hx
        simp at hx
end
theorem clip_next {Ls : List (Nat × List Ent)} {t' : Nat} {es' : List Ent} (h : 0 < Ls.length) : clip ((Ls.map Prod.fst).take (Ls.length - 1 + 1) ++ [t']) = (clip (Ls ++ [(t', es')])).map Prod.fst := by
  rw [← clip_map, List.map_append, List.take_of_length_le (by rw [List.length_map]; omega)]
  rfl
set_option maxHeartbeats 8000000 in
set_option maxRecDepth 100000 in
theorem past_keeps (w : World) (n : Int) (_ : (Lit.int .i64 n).wf = true) : Calls Try.prog 16 #[.int .i64 n] w fun e w' => e = .returned (.bool true) ∧ Below w.heap.size w w' := by
  have HA := hide (awake22 w)
  by_cases hk : 0 ≤ n ∧ n ≤ 120
  case neg =>
    have e1 : decide (n < 0) = true ∨ (decide (n < 0) = false ∧ decide (120 < n) = true) := by
      by_cases h : n < 0
      · exact .inl (by simpa using h)
      · exact .inr ⟨by simpa using h, by simp; omega⟩
    clear hk
    rcases e1 with e1 | ⟨e1, e2⟩
    all_goals
      go_enter Try.func16, Try.ntmps16
      go_wp2_with fail
      refine HA.out.mono ?_
      rintro e w1 ⟨rfl, hb⟩
      have HB := hide hb
      clear hb
      go_wp2
      go_ret
      exact ⟨rfl, HB.out⟩
  obtain ⟨nn, rfl⟩ : ∃ nn : Nat, n = (nn : Int) := ⟨n.toNat, by omega⟩
  have hn : nn ≤ 120 := by omega
  have e1 : decide ((nn : Int) < 0) = false := by simp
  have e2 : decide ((120 : Int) < (nn : Int)) = false := by simp; omega
  clear hk
  go_enter Try.func16, Try.ntmps16
  go_wp2_with fail
  refine HA.out.mono ?_
  rintro e w1 ⟨rfl, hb⟩
  have HB1 := hide hb
  have HN1 := hide (tr_new 1 w1 (by omega) (by omega))
  clear hb HA
  go_wp2_with fail
  refine HN1.out.mono ?_
  rintro e w2 ⟨rfl, hT1, hb⟩
  have HB2 := hide (below_then HB1.out hb)
  have HT1 := hide (show TreeOf w2 1 w1.heap.size [] from ⟨by omega, by omega, .inl ⟨hT1, rfl⟩⟩)
  have HPN := hide (ps_new w2 w1.heap.size)
  clear hb hT1 HN1
  go_wp2_with fail
  refine HPN.out.mono ?_
  rintro e w3 ⟨⟨p, rfl, hpl, hp⟩, hb⟩
  have HPL := hide (show w.heap.size ≤ p by have := HB2.out.size; omega)
  have HB3 := hide (below_then HB2.out hb)
  have HK3 := hide (Kept.start (p := p) (HT1.out.stay hb))
  have HP3 := hide hp
  clear hpl hp hb HPN HT1
  go_wp2
  go_loopw [3, 7] (fun x3 x7 wr => ∃ (i t : Nat) (es : List Ent) (Ls : List (Nat × List Ent)), x3 = .pointer (some ⟨t, 0, none⟩) ∧ x7 = .int .i64 (i : Int) ∧ i ≤ nn ∧ Kept wr p i t es Ls ∧ PastAt wr p (Ls.map Prod.fst) (Ls.length - 1) ∧ Below w.heap.size w wr) (fun _ x7 _ => v200 x7)
  case atStart => exact ⟨0, w1.heap.size, [], [(w1.heap.size, [])], rfl, rfl, Nat.zero_le _, HK3.out, HP3.out, HB3.out⟩
  case round =>
    obtain ⟨i, t, es, Ls, rfl, rfl, hi, hK, hP, hB⟩ := hrel
    rename World => wz
    have HK := hide hK
    have HP := hide hP
    have HB := hide hB
    clear HK3 HP3 HB3 hK hP hB
    by_cases hin : i < nn
    · have e3 : decide ((i : Int) < (nn : Int)) = true := by simp; omega
      have e4 : IntKind.u64.wrap (i : Int) = (i : Int) := by
        have := wrap_u64_nat' i 0
        simp only [Int.natCast_zero, Int.add_zero, Nat.add_zero] at this
        rw [this, Nat.mod_eq_of_lt (by omega)]
      have hb4 := below_alloc HB.out (Nat.le_refl _) (.cells #[.int .u64 (i : Int)] 25)
      have hq4 := (Below.refl wz.heap.size wz).alloc (Nat.le_refl _) (.cells #[.int .u64 (i : Int)] 25)
      have HPUT := hide (tr_put (v := 1) (c := 1) (HK.out.tree.stay hq4) (pt_lit1 wz i (by omega)) (by omega))
      have HQ4 := hide hq4
      have HB4 := hide hb4
      clear hb4 hq4
      go_wp2_with fail
      refine HPUT.out.mono ?_
      rintro e w5 ⟨t', es', rfl, hT', hm, hne, hb⟩
      have hq5 := below_then HQ4.out hb
      have hne' : t' ≠ t := fun h0 => by
        obtain ⟨y, hy, he⟩ := HK.out.here.2 _ (hne.1 h0)
        injection he with he
        omega
      have HK5 := hide (HK.out.below hq5)
      have HP5 := hide (HP.out.below hq5)
      have HB5 := hide (below_then HB4.out hb)
      obtain ⟨r1, hr1⟩ := hT'.blk
      obtain ⟨r0, hr0⟩ := HK5.out.tree.blk
      have hd := ps_do HP5.out HK5.out.now hr1 hr0 (by omega) hne'
      rw [clip_next (es' := es') HK5.out.pos] at hd
      have HD := hide hd
      have HT' := hide hT'
      have HM := hide hm
      clear hT' hm hne hb hq5 hne' hr1 hr0 hd HPUT
      go_wp2_with fail
      refine HD.out.mono ?_
      rintro e w6 ⟨rfl, hp, hx⟩
      have hk6 := (HK5.out.next HT'.out HM.out).ex HP5.out.blk hx
      have hb6 := HB5.out.trans (hx.to_below HPL.out (by have := HB5.out.size; omega))
      rw [List.length_map] at hp
      obtain ⟨r1, hr1⟩ := hk6.tree.blk
      have HD2 := hide (ps_do_same hp hk6.now hr1 (by omega))
      have HK6 := hide hk6
      have HP6 := hide hp
      have HB6 := hide hb6
      clear hp hx hk6 hb6 hr1 HD HK5 HP5 HB5 HT' HM
      go_wp2_with fail
      refine HD2.out.mono ?_
      rintro e w7 ⟨rfl, hb⟩
      have HK7 := hide (HK6.out.below hb)
      have HP7 := hide (HP6.out.below hb)
      have HB7 := hide (below_then HB6.out hb)
      clear hb HD2 HK6 HP6 HB6
      go_wp2
      go_roundw
      case rel => exact ⟨i + 1, t', es', _, rfl, by go_num, by omega, HK7.out, HP7.out, HB7.out⟩
      case measure =>
        simp only [v200]
        go_num
    · have e3 : decide ((i : Int) < (nn : Int)) = false := by simp; omega
      obtain rfl : i = nn := by omega
      have HNOW := hide HK.out.now
      have HLEN := hide HK.out.len
      have HPOS := hide HK.out.pos
      have hl51 : Ls.length ≤ 51 := by have := HK.out.len; omega
      have hl1 : 1 ≤ Ls.length := HK.out.pos
      have HL51 := hide (And.intro hl1 hl51)
      clear hl51 hl1
      go_wp2
      go_loopw [8] (fun x8 wr => ∃ (a m : Nat), x8 = .int .i64 (m : Int) ∧ m + a = Ls.length - 1 ∧ Kept wr p i t es Ls ∧ PastAt wr p (Ls.map Prod.fst) a ∧ Below w.heap.size w wr) (fun x8 _ => v200 x8)
      case atStart => exact ⟨Ls.length - 1, 0, rfl, by omega, HK.out, HP.out, HB.out⟩
      case round =>
        obtain ⟨a, m, rfl, hma, hK, hP, hB⟩ := hrel
        rename World => wy
        have HMA := hide hma
        have hm50 : (m : Int) ≤ 50 := by have := HL51.out; omega
        have HK2 := hide hK
        have HP2 := hide hP
        have HB2 := hide hB
        clear HK HP HB hK hP hB hma
        by_cases ha : 0 < a
        · have HU := hide (ps_undo HP2.out ha)
          have HA0 := hide ha
          clear ha
          go_wp2_with fail
          refine HU.out.mono ?_
          rintro e w8 ⟨rfl, hp, hx⟩
          have HK3 := hide (HK2.out.ex HP2.out.blk hx)
          have HP3 := hide hp
          have HB3 := hide (HB2.out.trans (hx.to_below HPL.out (by have := HB2.out.size; omega)))
          clear hp hx HU
          go_wp2
          go_roundw
          case rel => exact ⟨a - 1, m + 1, by go_num, by have := HMA.out; have := HA0.out; omega, HK3.out, HP3.out, HB3.out⟩
          case measure =>
            simp only [v200]
            go_num
        · obtain rfl : a = 0 := by omega
          have hU := ps_undo_no HP2.out rfl
          obtain ⟨x0, hx0⟩ : ∃ x0, Ls[0]? = some x0 := ⟨Ls[0]'(by have := HL51.out; omega), List.getElem?_eq_getElem _⟩
          have HX0 := hide hx0
          have hlen0 : x0.2.length = i - m := by
            have h1 := (HK2.out.each 0 x0 hx0).1
            have h2 := HMA.out
            have h3 := HL51.out
            omega
          have HLEN0 := hide hlen0
          have hmm : m = min i 50 := by
            have h1 := HLEN.out
            have h2 := HMA.out
            omega
          have HU := hide hU
          clear hU ha hx0 hlen0
          go_wp2_with fail
          refine HU.out.mono ?_
          rintro e w8 ⟨rfl, hb⟩
          have HK3 := hide (HK2.out.below hb)
          have HP3 := hide (HP2.out.below hb)
          have HB3 := hide (below_then HB2.out hb)
          have HNO := hide (ps_now HP3.out (show (Ls.map Prod.fst)[0]? = some x0.1 by rw [List.getElem?_map, HX0.out]; rfl))
          clear hb HU HK2 HP2 HB2
          have hcut : (decide ((50 : Int) < (i : Int)) = true ∧ m = 50) ∨ (decide ((50 : Int) < (i : Int)) = false ∧ i = m) := by
            rcases Nat.lt_or_ge 50 i with h | h
            · exact .inl ⟨by simp; omega, by omega⟩
            · exact .inr ⟨by simp; omega, by omega⟩
          clear hmm
          rcases hcut with ⟨e5, hm5⟩ | ⟨e5, hm5⟩
          all_goals
            subst hm5
            try have e6 : ((50 : Int) != (50 : Int)) = false := rfl
            have e8 : decide ((50 : Int) < (i : Int)) = true → (((i - 50 : Nat) : Int) != (i : Int) - 50) = false := fun h => by
              have h50 : (50 : Int) < (i : Int) := of_decide_eq_true h
              rw [show ((i - 50 : Nat) : Int) = (i : Int) - 50 by omega]
              simp
            first | (replace e8 := e8 e5) | clear e8
            go_wp2_with fail
            refine HNO.out.mono ?_
            rintro e w9 ⟨rfl, hb⟩
            have HK4 := hide (HK3.out.below hb)
            have HP4 := hide (HP3.out.below hb)
            have HB4 := hide (below_then HB3.out hb)
            have htl := tr_len (HK4.out.trs _ (List.mem_of_getElem? HX0.out)) (by have := HLEN0.out; omega)
            rw [HLEN0.out] at htl
            have HTL := hide htl
            clear hb htl HNO
            go_wp2_with fail
            refine HTL.out.mono ?_
            rintro e w10 ⟨rfl, hb⟩
            have HK5 := hide (HK4.out.below hb)
            have HP5 := hide (HP4.out.below hb)
            have HB5 := hide (below_then HB4.out hb)
            clear hb HTL HK3 HP3 HB3 HK4 HP4 HB4
            go_wp2
            go_loopw [8] (fun x8 wr => ∃ (b m : Nat), x8 = .int .i64 (m : Int) ∧ m + b = Ls.length - 1 ∧ Kept wr p i t es Ls ∧ PastAt wr p (Ls.map Prod.fst) b ∧ Below w.heap.size w wr) (fun x8 _ => vpos x8)
            case atStart => exact ⟨0, _, by first | rfl | (go_num), by have := HMA.out; omega, HK5.out, HP5.out, HB5.out⟩
            case round =>
              obtain ⟨b, m, rfl, hmb, hK, hP, hB⟩ := hrel
              rename World => wv
              have HMB := hide hmb
              have HK6 := hide hK
              have HP6 := hide hP
              have HB6 := hide hB
              have hm51 : (m : Int) ≤ 51 := by have := HL51.out; omega
              clear HK5 HP5 HB5 hK hP hB hmb
              by_cases hb1 : b + 1 < Ls.length
              · have HR := hide (ps_redo HP6.out (by rw [List.length_map]; exact hb1))
                have HA1 := hide hb1
                have hm1 : (1 : Int) ≤ (m : Int) := by have := HMB.out; omega
                clear hb1
                go_wp2_with fail
                refine HR.out.mono ?_
                rintro e w11 ⟨rfl, hp, hx⟩
                have HK7 := hide (HK6.out.ex HP6.out.blk hx)
                have HP7 := hide hp
                have HB7 := hide (HB6.out.trans (hx.to_below HPL.out (by have := HB6.out.size; omega)))
                clear hp hx HR
                go_wp2
                go_roundw
                case rel => exact ⟨b + 1, m - 1, by congr 1; omega, by have := HMB.out; have := HA1.out; omega, HK7.out, HP7.out, HB7.out⟩
                case measure =>
                  simp only [vpos]
                  first | omega | (go_num; done) | (go_num; omega)
              · have hm0 : m = 0 := by have := HMB.out; have := HL51.out; omega
                subst hm0
                have hbl : b = Ls.length - 1 := by have := HMB.out; omega
                subst hbl
                have HR := hide (ps_redo_no HP6.out (by rw [List.length_map]; omega))
                clear hb1
                go_wp2_with fail
                refine HR.out.mono ?_
                rintro e w11 ⟨rfl, hb⟩
                have HK7 := hide (HK6.out.below hb)
                have HP7 := hide (HP6.out.below hb)
                have HB7 := hide (below_then HB6.out hb)
                have HNO := hide (ps_now HP7.out HK7.out.now)
                clear hb HR HK6 HP6 HB6
                go_wp2_with fail
                refine HNO.out.mono ?_
                rintro e w12 ⟨rfl, hb⟩
                obtain ⟨r1, hr1⟩ := (HK7.out.below hb).tree.blk
                have e7 := ptr_eq_t t t w12 hr1 hr1
                rw [decide_eq_true rfl] at e7
                have HB8 := hide (below_then HB7.out hb)
                clear hb hr1 HNO
                go_wp2
                go_ret
                exact ⟨rfl, HB8.out⟩
end Go.Proofs.Ytnopacldaoekiaa
