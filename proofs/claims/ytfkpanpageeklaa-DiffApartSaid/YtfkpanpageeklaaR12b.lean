/- pantileref12: the changes. -/
import Derived.Test.YtfkpanpageeklaaR12d
import Derived.Test.YtfkpanpageeklaaR12s
import Derived.Test.YtfkpanpageeklaaRwN
set_option linter.unusedSimpArgs false
set_option linter.unusedVariables false
namespace Go.Proofs.Ytfkpanpageeklaa
open Go.RowKit
/-- What the reference's Changes gives. -/
def RcOut (w : World) (k : Nat) (ea eb : List Ent) (e : Ending) (w' : World) : Prop :=
  ∃ (A : Option Addr) (c : Nat) (rows : List CR), e = .returned (.slice A rows.length c) ∧ Chgs ea eb (ces rows) ∧ ChgsAt w' A rows.length rows ∧ rows.length ≤ 2000 ∧ (∀ r ∈ rows, r.n = k) ∧ Below w.heap.size w w'
theorem take_snocC {l : List ER} {j : Nat} {r : ER} (h : l[j]? = some r) : l.take (j + 1) = l.take j ++ [r] := by
  rw [List.take_add_one, h]
  rfl
theorem filterMap_snocC {α β : Type} (f : α → Option β) (l : List α) (x : α) : (l ++ [x]).filterMap f = l.filterMap f ++ (f x).toList := by
  rw [List.filterMap_append]
  rfl
theorem getE_ltC {A : List Ent} (h : ∀ x ∈ A, x.2 < 2 ^ 64) (p : List Nat) : (getE A p).getD 0 < 2 ^ 64 := by
  cases hg : getE A p with
  | none => exact Nat.two_pow_pos 64
  | some v => exact h (p, v) (getE_mem hg)
def chgR (ea eb : List Ent) (r : ER) : Option CE := chgP ea eb r.p
theorem chv_1 (q : CR) : ∀ u ∈ chv q, u.oneCell' = true := by
  intro u hu
  simp only [chv, List.mem_cons, List.not_mem_nil, or_false] at hu
  rcases hu with rfl | rfl | rfl | rfl | rfl <;> rfl
theorem new1c (w3 : World) (q : CR) : Rw ((w3.alloc (.cells #[.slice q.A q.n q.c, .bool q.had, .bool q.has, .int .u64 (q.old : Int), .int .u64 (q.new : Int)] 70)).alloc (.cells #[.slice q.A q.n q.c, .bool q.had, .bool q.has, .int .u64 (q.old : Int), .int .u64 (q.new : Int)] 70)) 5 (some ⟨w3.heap.size + 1, 0, none⟩) 1 (chv q) := by
  have := Rw.new1 (w3.alloc (.cells #[.slice q.A q.n q.c, .bool q.had, .bool q.has, .int .u64 (q.old : Int), .int .u64 (q.new : Int)] 70)) 70 #[.slice q.A q.n q.c, .bool q.had, .bool q.has, .int .u64 (q.old : Int), .int .u64 (q.new : Int)] (sz := 5) rfl
  simp at this
  exact this
set_option maxHeartbeats 8000000 in
set_option maxRecDepth 100000 in
theorem ref_changes {w : World} {A B : Option Addr} {n m c d k : Nat} {ra rb : List ER} (hA : EntsAt w A n ra) (hnc : n ≤ c) (hS : SortR k ra) (hka : ∀ r ∈ ra, r.n = k) (hB : EntsAt w B m rb) (hSb : SortR k rb) (hkb : ∀ r ∈ rb, r.n = k) (hk : k ≤ 40) (hn : n ≤ 1000) (hm : m ≤ 1000) :
    Calls Try.prog 16 #[.slice A n c, .slice B m d] w (RcOut w k (ents ra) (ents rb)) := by
  have hal := (Below.refl w.heap.size w).alloc (Nat.le_refl _) (.cells #[] 70)
  have HAL := hide hal
  have HE0' := hide (Blk.new w 70 #[])
  have HOW := hide (own_empty w 70 5)
  have HP := hide (ref_points (c := c) (d := d) (hA.below hal) hnc hS hka (hB.below hal) hkb hk hn hm)
  have HCH := hide (fun W (hW : Below w.heap.size w W) P pc p (hp : Pt W P k p) => ref_change (c := c) (d := d) (pc := pc) (P := P) (p := p) (hA.below hW) hS hka (hB.below hW) hSb hkb hp hk hn hm)
  have HPW := hide (show ∀ q ∈ ra ++ rb, Pt w q.A k q.p ∧ k ≤ q.c ∧ q.c ≤ maxLen from fun q hq => by
    rcases List.mem_append.1 hq with hq | hq
    · obtain ⟨g1, g2, g3, _⟩ := hA.2 q hq
      rw [hka q hq] at g1 g2
      exact ⟨g1, g2, g3⟩
    · obtain ⟨g1, g2, g3, _⟩ := hB.2 q hq
      rw [hkb q hq] at g1 g2
      exact ⟨g1, g2, g3⟩)
  have HVA := hide (show (∀ x ∈ ents ra, x.2 < 2 ^ 64) ∧ (∀ x ∈ ents rb, x.2 < 2 ^ 64) from ⟨fun x hx => by
    obtain ⟨r, hr, rfl⟩ := ents_mem_iff.1 hx
    exact (hA.2 r hr).2.2.2, fun x hx => by
    obtain ⟨r, hr, rfl⟩ := ents_mem_iff.1 hx
    exact (hB.2 r hr).2.2.2⟩)
  generalize hea : ents ra = ea at *
  generalize heb : ents rb = eb at *
  have HEA := hide hea
  have HEB := hide heb
  clear hA hnc hS hka hB hSb hkb hal hea heb
  go_enter Try.func16, Try.ntmps16
  go_wp2_with fail
  refine HP.out.mono ?_
  rintro e w2 ⟨A2, n2, c2, rp, rfl, hE2, hnc2, hn2, hS2, hkk2, hpt2, hpp2, hb2⟩
  have HRW2 := hide hE2.1
  have HLN2 := hide hE2.len
  have hpw2 : ∀ q ∈ rp, Pt w q.A k q.p ∧ k ≤ q.c ∧ q.c ≤ maxLen := fun q hq => by
    obtain ⟨x, hx, e1, e2, e3⟩ := hpp2 q hq
    have := HPW.out x hx
    rw [e1, e2, e3] at this
    exact this
  have HR2 := hide (And.intro hS2 (And.intro hkk2 (And.intro hpt2 hpw2)))
  have HB2 := hide (below_then HAL.out hb2)
  have HE0 := hide (HE0'.out.below hb2)
  have HOW2 := hide (own_below HOW.out hb2)
  have hn2b : n2 ≤ 2000 := by omega
  clear hE2 hnc2 hS2 hkk2 hpt2 hpp2 hpw2 hb2 HP HE0' HOW
  go_wp2
  go_loopw [5, 7] (fun x5 x7 wr => ∃ (j : Nat) (A5 : Option Addr) (c5 : Nat) (rows : List CR), x5 = .slice A5 rows.length c5 ∧ x7 = .int .i64 (j : Int) ∧ j ≤ n2 ∧ rows.length ≤ j ∧ wr.ownsRow w.heap.size 70 5 (.slice A5 rows.length c5) rows.length (rows.flatMap chv) ∧ NewB w.heap.size w2.heap.size (.slice A5 rows.length c5) ∧ (∀ x ∈ rows, x.ok w ∧ x.n = k) ∧ ces rows = (rp.take j).filterMap (chgR ea eb) ∧ Rw wr 2 A2 n2 (rp.flatMap entv) ∧ w2.heap.size ≤ wr.heap.size ∧ Below w.heap.size w wr) (fun _ x7 _ => n2 - (intOf x7).toNat)
  case atStart => exact ⟨0, _, 0, [], rfl, rfl, Nat.zero_le _, Nat.zero_le _, HOW2.out, fun g hg => .inl (by simpa [Value.ownBlock] using hg.symm), fun x hx => (by cases hx), rfl, HRW2.out, Nat.le_refl _, HB2.out⟩
  case round =>
    obtain ⟨j, A5, c5, rows, rfl, rfl, hj, hrl, ho, hnb, hrows, hce, hrw, hw2, hb⟩ := hrel
    rename World => wz
    have HO := hide ho
    have HNB := hide hnb
    have HROWS := hide hrows
    have HCE := hide hce
    have HRW := hide hrw
    have HW2 := hide hw2
    have HBz := hide hb
    by_cases hjn : j < n2
    · obtain ⟨b, o, r, rfl, hbl, hr, hc⟩ := hrw.elem entv_len hjn (by omega)
      have x0 : wz.cell? ⟨b, o + j * 2, none⟩ = some (.slice r.A r.n r.c) := hc 0 _ rfl
      have hrm := List.mem_of_getElem? hr
      have hrn := HR2.out.2.1 r hrm
      rw [hrn] at x0
      have HR := hide hr
      have hrp := HR2.out.2.2.2 r hrm
      have hch := HCH.out wz hb r.A r.c r.p (hrp.1.below hb)
      obtain ⟨q, hq⟩ : ∃ q, q = chR r.A k r.c ea eb r.p := ⟨_, rfl⟩
      rw [← hq] at hch
      have hqce : q.ce = chgAt ea eb r.p := by rw [hq]; rfl
      have hqo : q.ok w ∧ q.n = k := by rw [hq]; exact ⟨⟨hrp.1, hrp.2.1, hrp.2.2, getE_ltC HVA.out.1 _, getE_ltC HVA.out.2 _⟩, rfl⟩
      have HQ := hide (And.intro hqce hqo)
      clear hbl hr hc hrm hrn hrp ho hnb hrows hce hrw hb hw2 hq hqce hqo
      by_cases hd : getE ea r.p = getE eb r.p
      · rw [show decide (getE ea r.p ≠ getE eb r.p) = false by simp [hd]] at hch
        have HC := hide (show Calls Try.prog 38 #[.slice A n c, .slice B m d, .slice r.A k r.c] wz fun e w' => e = .returned (.tuple #[.agg #[.slice q.A q.n q.c, .bool q.had, .bool q.has, .int .u64 (q.old : Int), .int .u64 (q.new : Int)], .bool false]) ∧ Below wz.heap.size wz w' from hch)
        have HN := hide (show chgR ea eb r = none by unfold chgR chgP; rw [if_pos hd])
        clear hch hd
        go_wp2_with fail
        refine HC.out.mono ?_
        rintro e w3 ⟨rfl, hb3⟩
        have hb4 := below_then hb3 ((Below.refl w3.heap.size w3).alloc (Nat.le_refl _) (.cells #[.slice q.A q.n q.c, .bool q.had, .bool q.has, .int .u64 (q.old : Int), .int .u64 (q.new : Int)] 70))
        have HO4 := hide (own_below HO.out hb4)
        have HRW4 := hide (HRW.out.below hb4)
        have HB4 := hide (below_then HBz.out hb4)
        have HW4 := hide (Nat.le_trans HW2.out hb4.size)
        clear hb3 hb4 HC
        go_wp2
        go_roundw
        case rel => exact ⟨j + 1, A5, c5, rows, rfl, by go_num, by omega, by omega, HO4.out, HNB.out, HROWS.out, by rw [take_snocC HR.out, filterMap_snocC, HN.out, HCE.out]; simp, HRW4.out, HW4.out, HB4.out⟩
        case measure => simp [intOf]; omega
      · rw [show decide (getE ea r.p ≠ getE eb r.p) = true by simp [hd]] at hch
        have HC := hide (show Calls Try.prog 38 #[.slice A n c, .slice B m d, .slice r.A k r.c] wz fun e w' => e = .returned (.tuple #[.agg #[.slice q.A q.n q.c, .bool q.had, .bool q.has, .int .u64 (q.old : Int), .int .u64 (q.new : Int)], .bool true]) ∧ Below wz.heap.size wz w' from hch)
        have HN := hide (show chgR ea eb r = some q.ce by unfold chgR chgP; rw [if_neg hd, HQ.out.1])
        clear hch hd
        go_wp2_with fail
        refine HC.out.mono ?_
        rintro e w3 ⟨rfl, hb3⟩
        have hal4 := (Below.refl w3.heap.size w3).alloc (Nat.le_refl _) (.cells #[.slice q.A q.n q.c, .bool q.had, .bool q.has, .int .u64 (q.old : Int), .int .u64 (q.new : Int)] 70)
        have hal5 := below_alloc hal4 (Nat.le_refl _) (.cells #[.slice q.A q.n q.c, .bool q.had, .bool q.has, .int .u64 (q.old : Int), .int .u64 (q.new : Int)] 70)
        have hb5 := below_then hb3 hal5
        have HO5 := hide (own_below HO.out hb5)
        have HRW5 := hide (HRW.out.below hb5)
        have HB5 := hide (below_then HBz.out hb5)
        have HW5 := hide (Nat.le_trans HW2.out hb5.size)
        clear hb3 hal4 hal5 hb5 HC
        go_wp2_with (first
          | (at_builtin
             refine app_bn _ rfl (.tmp 32) (.tmp 34) _ rfl w.heap.size 70 _ 5 48 Try.underlying36 info_c rfl (by omega) _ rows.length _ rfl HO5.out (some ⟨w3.heap.size + 1, 0, none⟩) 1 1 (chv q) rfl w HB5.out (Nat.le_refl _) (new1c w3 q) (chv_1 q) (by unfold maxLen; omega) (by omega) ?_
             intro v6 w6 ho6 hb6 hg6 hv6
             obtain ⟨A6, c6, rfl, -, -⟩ := Rw.of_own ho6
             have HG6 := hide hg6
             have HV6 := hide hv6
             have HO6 := hide ho6
             have HB6 := hide hb6
             clear ho6 hb6 hg6 hv6)
          | fail)
        go_wp2
        go_roundw
        case rel =>
          refine ⟨j + 1, A6, c6, rows ++ [q], by simp, by go_num, by omega, by simp; omega, by simpa using HO6.out, by have := HNB.out.step HV6.out HW5.out; simpa using this, fun x hx => ?_, ?_, rw_beside (w1 := w) HRW5.out HRW2.out (by omega) HNB.out HG6.out HE0.out, Nat.le_trans HW5.out HG6.out.size, HB6.out⟩
          · rcases List.mem_append.1 hx with hx | hx
            · exact HROWS.out x hx
            · rw [List.mem_singleton] at hx
              subst hx
              exact HQ.out.2
          · rw [take_snocC HR.out, filterMap_snocC, HN.out, ces_append, HCE.out]
            rfl
        case measure => simp [intOf]; omega
    · obtain rfl : j = n2 := by omega
      have HF := hide (show RcOut w k ea eb (.returned (.slice A5 rows.length c5)) wz from by
        refine ⟨A5, c5, rows, rfl, ?_, ChgsAt.of_own HO.out (fun r hr => (HROWS.out r hr).1.below hb), by omega, fun r hr => (HROWS.out r hr).2, HBz.out⟩
        have hl : rp.take j = rp := List.take_of_length_le (by rw [HLN2.out]; omega)
        rw [HCE.out, hl]
        have h := chgs_pts (A := ea) (B := eb) (P := rp.map ER.p) ?_ ?_
        · rw [List.filterMap_map] at h
          exact h
        · rw [List.pairwise_map]
          exact HR2.out.1.2
        · intro p hp
          rw [List.mem_map]
          refine (HR2.out.2.2.1 p).2 ?_
          rcases ne_some hp with h | h
          · obtain ⟨v, hv⟩ := Option.ne_none_iff_exists'.1 h
            have := getE_mem hv
            rw [← HEA.out] at this
            obtain ⟨r, hr, hre⟩ := ents_mem_iff.1 this
            exact .inl ⟨r, hr, congrArg Prod.fst hre⟩
          · obtain ⟨v, hv⟩ := Option.ne_none_iff_exists'.1 h
            have := getE_mem hv
            rw [← HEB.out] at this
            obtain ⟨r, hr, hre⟩ := ents_mem_iff.1 this
            exact .inr ⟨r, hr, congrArg Prod.fst hre⟩)
      clear ho hnb hrows hce hrw hb
      go_wp2
      go_ret
      exact HF.out
end Go.Proofs.Ytfkpanpageeklaa
