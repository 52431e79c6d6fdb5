/- pantileref15: the join, point by point. -/
import Derived.Test.YtfkpanpageeklaaGreatR12a
import Derived.Test.YtfkpanpageeklaaGreatR15a
import Derived.Test.YtfkpanpageeklaaGreatRwN
import Derived.Test.YtfkpanpageeklaaGreatStJ
set_option linter.unusedSimpArgs false
set_option linter.unusedVariables false
namespace Go.Proofs.YtfkpanpageeklaaGreat
open Go.RowKit
/-- What a join has at a point. -/
def jnP (r : Nat) (l rt bo : Bool) (oa ob : Option Nat) : Option Nat :=
  match oa, ob with
  | some x, some y => if bo then some (stval r x y) else none
  | some x, none => if l then some x else none
  | none, some y => if rt then some y else none
  | none, none => none
theorem jnP_JM {r : Nat} {l rt bo : Bool} {ea eb : List Ent} (ha : Zsorted ea) (hb : Zsorted eb) (p : List Nat) (v : Nat) : jnP r l rt bo (getE ea p) (getE eb p) = some v ↔ JM r l rt bo ea eb (p, v) := by
  have key : ∀ (E : List Ent), Zsorted E → ∀ u, (p, u) ∈ E ↔ getE E p = some u := fun E hE u => ⟨fun h => getE_of hE h, getE_mem⟩
  unfold JM
  simp only [key ea ha, key eb hb]
  cases hga : getE ea p with
  | none =>
    cases hgb : getE eb p with
    | none => simp [jnP]
    | some y => cases rt <;> simp [jnP]
  | some x =>
    cases hgb : getE eb p with
    | none => cases l <;> simp [jnP]
    | some y =>
      cases bo with
      | false => simp [jnP]
      | true => simp [jnP, eq_comm]
/-- What the reference's Join gives. -/
def RjOut (w : World) (k r : Nat) (l rt bo : Bool) (ea eb : List Ent) (e : Ending) (w' : World) : Prop :=
  ∃ (A : Option Addr) (n c : Nat) (rows : List ER), e = .returned (.slice A n c) ∧ EntsAt w' A n rows ∧ n ≤ c ∧ n ≤ 2000 ∧ SortR k rows ∧ (∀ x ∈ rows, x.n = k) ∧ (∀ x, x ∈ ents rows ↔ JM r l rt bo ea eb x) ∧ Below w.heap.size w w'
theorem take_snocR {l : List ER} {j : Nat} {r : ER} (h : l[j]? = some r) : l.take (j + 1) = l.take j ++ [r] := by
  rw [List.take_add_one, h]
  rfl
theorem filterMap_snocR {α β : Type} (f : α → Option β) (l : List α) (x : α) : (l ++ [x]).filterMap f = l.filterMap f ++ (f x).toList := by
  rw [List.filterMap_append]
  rfl
theorem getE_lt {A : List Ent} (h : ∀ x ∈ A, x.2 < 2 ^ 64) {p : List Nat} {v : Nat} (hg : getE A p = some v) : v < 2 ^ 64 := h (p, v) (getE_mem hg)
def jnE (r : Nat) (l rt bo : Bool) (ea eb : List Ent) (x : ER) : Option Ent := (jnP r l rt bo (getE ea x.p) (getE eb x.p)).map fun v => (x.p, v)
set_option maxHeartbeats 8000000 in
set_option maxRecDepth 100000 in
theorem ref15_join {w : World} {A B : Option Addr} {n m c d k r : Nat} {l rt bo : Bool} {ra rb : List ER} (h1 : 1 ≤ r) (h6 : r ≤ 6) (hA : EntsAt w A n ra) (hnc : n ≤ c) (hS : SortR k ra) (hka : ∀ r ∈ ra, r.n = k) (hB : EntsAt w B m rb) (hSb : SortR k rb) (hkb : ∀ r ∈ rb, r.n = k) (hk : k ≤ 40) (hn : n ≤ 1000) (hm : m ≤ 1000) :
    Calls Tryz.prog 12 #[.slice A n c, .slice B m d, .int .i64 (r : Int), .bool l, .bool rt, .bool bo] w (RjOut w k r l rt bo (ents ra) (ents rb)) := by
  have hal := (Below.refl w.heap.size w).alloc (Nat.le_refl _) (.cells #[] 83)
  have HAL := hide hal
  have HE0' := hide (Blk.new w 83 #[])
  have HOW := hide (own_empty w 83 2)
  have HP := hide (ref_points (c := c) (d := d) (hA.below hal) hnc hS hka (hB.below hal) hkb hk hn hm)
  have HGA := hide (fun W (hW : Below w.heap.size w W) P pc p (hp : Pt W P k p) => ref_get_e (c := c) (d := pc) (B := P) (p := p) (hA.below hW) hS hka hp hk (by omega))
  have HGB := hide (fun W (hW : Below w.heap.size w W) P pc p (hp : Pt W P k p) => ref_get_e (c := d) (d := pc) (B := P) (p := p) (hB.below hW) hSb hkb hp hk (by omega))
  have HSE := hide (And.intro hS.ents hSb.ents)
  have HPW := hide (show ∀ q ∈ ra ++ rb, Pt w q.A k q.p ∧ k ≤ q.c ∧ q.c ≤ maxLen from fun q hq => by
    rcases List.mem_append.1 hq with hq | hq
    · obtain ⟨g1, g2, g3, _⟩ := hA.2 q hq
      rw [hka q hq] at g1 g2
      exact ⟨g1, g2, g3⟩
    · obtain ⟨g1, g2, g3, _⟩ := hB.2 q hq
      rw [hkb q hq] at g1 g2
      exact ⟨g1, g2, g3⟩)
  have HVA := hide (show (∀ x ∈ ents ra, x.2 < 2 ^ 64) ∧ (∀ x ∈ ents rb, x.2 < 2 ^ 64) from ⟨fun x hx => by
    obtain ⟨r, hr, rfl⟩ := ents_mem_iff.1 hx
    exact (hA.2 r hr).2.2.2, fun x hx => by
    obtain ⟨r, hr, rfl⟩ := ents_mem_iff.1 hx
    exact (hB.2 r hr).2.2.2⟩)
  generalize hea : ents ra = ea at *
  generalize heb : ents rb = eb at *
  have HEA := hide hea
  have HEB := hide heb
  clear hA hnc hS hka hB hSb hkb hal hea heb
  go_enter Tryz.func12, Tryz.ntmps12
  go_wp2_with fail
  refine HP.out.mono ?_
  rintro e w2 ⟨A2, n2, c2, rp, rfl, hE2, hnc2, hn2, hS2, hkk2, hpt2, hpp2, hb2⟩
  have HRW2 := hide hE2.1
  have HLN2 := hide hE2.len
  have hpw2 : ∀ q ∈ rp, Pt w q.A k q.p ∧ k ≤ q.c ∧ q.c ≤ maxLen := fun q hq => by
    obtain ⟨x, hx, e1, e2, e3⟩ := hpp2 q hq
    have := HPW.out x hx
    rw [e1, e2, e3] at this
    exact this
  have HR2 := hide (And.intro hS2 (And.intro hkk2 (And.intro hpt2 hpw2)))
  have HB2 := hide (below_then HAL.out hb2)
  have HE0 := hide (HE0'.out.below hb2)
  have HOW2 := hide (own_below HOW.out hb2)
  have hn2b : n2 ≤ 2000 := by omega
  clear hE2 hnc2 hS2 hkk2 hpt2 hpp2 hpw2 hb2 HP HE0' HOW
  go_wp2
  go_loopw [13, 15] (fun x13 x15 wr => ∃ (j : Nat) (A5 : Option Addr) (c5 : Nat) (rows : List ER), x13 = .slice A5 rows.length c5 ∧ x15 = .int .i64 (j : Int) ∧ j ≤ n2 ∧ rows.length ≤ j ∧ wr.ownsRow w.heap.size 83 2 (.slice A5 rows.length c5) rows.length (rows.flatMap entv) ∧ NewB w.heap.size w2.heap.size (.slice A5 rows.length c5) ∧ (∀ x ∈ rows, (Pt w x.A k x.p ∧ k ≤ x.c ∧ x.c ≤ maxLen ∧ x.v < 2 ^ 64) ∧ x.n = k) ∧ ents rows = (rp.take j).filterMap (jnE r l rt bo ea eb) ∧ Rw wr 2 A2 n2 (rp.flatMap entv) ∧ w2.heap.size ≤ wr.heap.size ∧ Below w.heap.size w wr) (fun _ x15 _ => n2 - (intOf x15).toNat)
  case atStart => exact ⟨0, _, 0, [], rfl, rfl, Nat.zero_le _, Nat.zero_le _, HOW2.out, fun g hg => .inl (by simpa [Value.ownBlock] using hg.symm), fun x hx => (by cases hx), rfl, HRW2.out, Nat.le_refl _, HB2.out⟩
  case round =>
    obtain ⟨j, A5, c5, rows, rfl, rfl, hj, hrl, ho, hnb, hrows, hes, hrw, hw2, hb⟩ := hrel
    rename World => wz
    have HO := hide ho
    have HNB := hide hnb
    have HROWS := hide hrows
    have HES := hide hes
    have HRW := hide hrw
    have HW2 := hide hw2
    have HBz := hide hb
    by_cases hjn : j < n2
    · obtain ⟨b, o, q, rfl, hbl, hq, hc⟩ := hrw.elem entv_len hjn (by omega)
      have x0 : wz.cell? ⟨b, o + j * 2, none⟩ = some (.slice q.A q.n q.c) := hc 0 _ rfl
      have hqm := List.mem_of_getElem? hq
      have hqn := HR2.out.2.1 q hqm
      rw [hqn] at x0
      have HQ := hide hq
      have HQP := hide (HR2.out.2.2.2 q hqm)
      have HG1 := hide (HGA.out wz hb q.A q.c q.p (HQP.out.1.below hb))
      have HG2 := hide (HGB.out wz hb q.A q.c q.p (HQP.out.1.below hb))
      clear hbl hq hc hqm hqn ho hnb hrows hes hrw hb hw2
      have HVX := hide (fun v => getE_lt (p := q.p) (v := v) HVA.out.1)
      have HVY := hide (fun v => getE_lt (p := q.p) (v := v) HVA.out.2)
      have HJE := hide (show jnE r l rt bo ea eb q = (jnP r l rt bo (getE ea q.p) (getE eb q.p)).map fun v => (q.p, v) from rfl)
      generalize getE ea q.p = oa at *
      generalize getE eb q.p = ob at *
      cases oa with
      | none =>
        cases ob with
        | none =>
          have HJN := hide (show jnE r l rt bo ea eb q = none by rw [HJE.out]; rfl)
          simp only [Option.isSome_none, Option.isSome_some, Option.getD_none, Option.getD_some] at HG1 HG2
          clear HJE HVX HVY
          go_wp2_with fail
          refine HG1.out.mono ?_
          rintro e wx ⟨rfl, rfl⟩
          go_wp2_with fail
          refine HG2.out.mono ?_
          rintro e wx ⟨rfl, rfl⟩
          go_wp2
          go_roundw
          case rel => exact ⟨j + 1, A5, c5, rows, rfl, by go_num, by omega, by omega, HO.out, HNB.out, HROWS.out, by rw [take_snocR HQ.out, filterMap_snocR, HJN.out, HES.out]; simp, HRW.out, HW2.out, HBz.out⟩
          case measure => simp [intOf]; omega
        | some y =>
          cases rt with
          | false =>
            have HJN := hide (show jnE r l false bo ea eb q = none by rw [HJE.out]; rfl)
            simp only [Option.isSome_none, Option.isSome_some, Option.getD_none, Option.getD_some] at HG1 HG2
            clear HJE HVX HVY
            go_wp2_with fail
            refine HG1.out.mono ?_
            rintro e wx ⟨rfl, rfl⟩
            go_wp2_with fail
            refine HG2.out.mono ?_
            rintro e wx ⟨rfl, rfl⟩
            go_wp2
            go_roundw
            case rel => exact ⟨j + 1, A5, c5, rows, rfl, by go_num, by omega, by omega, HO.out, HNB.out, HROWS.out, by rw [take_snocR HQ.out, filterMap_snocR, HJN.out, HES.out]; simp, HRW.out, HW2.out, HBz.out⟩
            case measure => simp [intOf]; omega
          | true =>
            have HVL := hide (show y < 2 ^ 64 from HVY.out y rfl)
            have HJN := hide (show jnE r l true bo ea eb q = some (q.p, y) by rw [HJE.out]; rfl)
            simp only [Option.isSome_none, Option.isSome_some, Option.getD_none, Option.getD_some] at HG1 HG2
            have hal4 := ((Below.refl wz.heap.size wz).alloc (Nat.le_refl _) (.cells #[.slice q.A k q.c, .int .u64 (y : Int)] 83))
            have HO4 := hide (own_below HO.out hal4)
            have HRW4 := hide (HRW.out.below hal4)
            have HB4 := hide (below_then HBz.out hal4)
            clear hal4 HJE
            clear HVX HVY
            go_wp2_with fail
            refine HG1.out.mono ?_
            rintro e wx ⟨rfl, rfl⟩
            go_wp2_with fail
            refine HG2.out.mono ?_
            rintro e wx ⟨rfl, rfl⟩
            go_wp2_with (first
              | (at_builtin
                 refine app_bn _ rfl (.tmp 96) (.tmp 104) _ rfl w.heap.size 83 _ 2 32 Tryz.underlying26 info_e rfl (by omega) _ rows.length _ rfl HO4.out (some ⟨wz.heap.size, 0, none⟩) 1 1 [.slice q.A k q.c, .int .u64 (y : Int)] rfl w HB4.out (Nat.le_refl _) (Rw.new1 wz 83 #[.slice q.A k q.c, .int .u64 (y : Int)] (sz := 2) rfl) (fun u hu => by rcases List.mem_cons.1 hu with rfl | hu; rfl; rw [List.mem_singleton] at hu; rw [hu]; rfl) (by unfold maxLen; omega) (by omega) ?_
                 intro v6 w6 ho6 hb6 hg6 hv6
                 obtain ⟨A6, c6, rfl, -, -⟩ := Rw.of_own ho6
                 have HG6 := hide hg6
                 have HV6 := hide hv6
                 have HO6 := hide ho6
                 have HB6 := hide hb6
                 clear ho6 hb6 hg6 hv6)
              | fail)
            go_wp2
            go_roundw
            case rel =>
              refine ⟨j + 1, A6, c6, rows ++ [⟨q.A, k, q.c, q.p, y⟩], by simp, by go_num, by omega, by simp; omega, by simpa [entv] using HO6.out, by have := HNB.out.step HV6.out (Nat.le_trans HW2.out (by simp)); simpa using this, fun x hx => ?_, ?_, rw_beside (w1 := w) HRW4.out HRW2.out (by omega) HNB.out HG6.out HE0.out, Nat.le_trans HW2.out (Nat.le_trans (by simp) HG6.out.size), HB6.out⟩
              · rcases List.mem_append.1 hx with hx | hx
                · exact HROWS.out x hx
                · rw [List.mem_singleton] at hx
                  subst hx
                  exact ⟨⟨HQP.out.1, HQP.out.2.1, HQP.out.2.2, HVL.out⟩, rfl⟩
              · rw [take_snocR HQ.out, filterMap_snocR, HJN.out]
                unfold ents
                rw [List.map_append]
                unfold ents at HES
                rw [HES.out]
                rfl
            case measure => simp [intOf]; omega
      | some x =>
        cases ob with
        | none =>
          cases l with
          | false =>
            have HJN := hide (show jnE r false rt bo ea eb q = none by rw [HJE.out]; rfl)
            simp only [Option.isSome_none, Option.isSome_some, Option.getD_none, Option.getD_some] at HG1 HG2
            clear HJE HVX HVY
            go_wp2_with fail
            refine HG1.out.mono ?_
            rintro e wx ⟨rfl, rfl⟩
            go_wp2_with fail
            refine HG2.out.mono ?_
            rintro e wx ⟨rfl, rfl⟩
            go_wp2
            go_roundw
            case rel => exact ⟨j + 1, A5, c5, rows, rfl, by go_num, by omega, by omega, HO.out, HNB.out, HROWS.out, by rw [take_snocR HQ.out, filterMap_snocR, HJN.out, HES.out]; simp, HRW.out, HW2.out, HBz.out⟩
            case measure => simp [intOf]; omega
          | true =>
            have HVL := hide (show x < 2 ^ 64 from HVX.out x rfl)
            have HJN := hide (show jnE r true rt bo ea eb q = some (q.p, x) by rw [HJE.out]; rfl)
            simp only [Option.isSome_none, Option.isSome_some, Option.getD_none, Option.getD_some] at HG1 HG2
            have hal4 := ((Below.refl wz.heap.size wz).alloc (Nat.le_refl _) (.cells #[.slice q.A k q.c, .int .u64 (x : Int)] 83))
            have HO4 := hide (own_below HO.out hal4)
            have HRW4 := hide (HRW.out.below hal4)
            have HB4 := hide (below_then HBz.out hal4)
            clear hal4 HJE
            clear HVX HVY
            go_wp2_with fail
            refine HG1.out.mono ?_
            rintro e wx ⟨rfl, rfl⟩
            go_wp2_with fail
            refine HG2.out.mono ?_
            rintro e wx ⟨rfl, rfl⟩
            go_wp2_with (first
              | (at_builtin
                 refine app_bn _ rfl (.tmp 78) (.tmp 86) _ rfl w.heap.size 83 _ 2 32 Tryz.underlying26 info_e rfl (by omega) _ rows.length _ rfl HO4.out (some ⟨wz.heap.size, 0, none⟩) 1 1 [.slice q.A k q.c, .int .u64 (x : Int)] rfl w HB4.out (Nat.le_refl _) (Rw.new1 wz 83 #[.slice q.A k q.c, .int .u64 (x : Int)] (sz := 2) rfl) (fun u hu => by rcases List.mem_cons.1 hu with rfl | hu; rfl; rw [List.mem_singleton] at hu; rw [hu]; rfl) (by unfold maxLen; omega) (by omega) ?_
                 intro v6 w6 ho6 hb6 hg6 hv6
                 obtain ⟨A6, c6, rfl, -, -⟩ := Rw.of_own ho6
                 have HG6 := hide hg6
                 have HV6 := hide hv6
                 have HO6 := hide ho6
                 have HB6 := hide hb6
                 clear ho6 hb6 hg6 hv6)
              | fail)
            go_wp2
            go_roundw
            case rel =>
              refine ⟨j + 1, A6, c6, rows ++ [⟨q.A, k, q.c, q.p, x⟩], by simp, by go_num, by omega, by simp; omega, by simpa [entv] using HO6.out, by have := HNB.out.step HV6.out (Nat.le_trans HW2.out (by simp)); simpa using this, fun x hx => ?_, ?_, rw_beside (w1 := w) HRW4.out HRW2.out (by omega) HNB.out HG6.out HE0.out, Nat.le_trans HW2.out (Nat.le_trans (by simp) HG6.out.size), HB6.out⟩
              · rcases List.mem_append.1 hx with hx | hx
                · exact HROWS.out x hx
                · rw [List.mem_singleton] at hx
                  subst hx
                  exact ⟨⟨HQP.out.1, HQP.out.2.1, HQP.out.2.2, HVL.out⟩, rfl⟩
              · rw [take_snocR HQ.out, filterMap_snocR, HJN.out]
                unfold ents
                rw [List.map_append]
                unfold ents at HES
                rw [HES.out]
                rfl
            case measure => simp [intOf]; omega
        | some y =>
          cases bo with
          | false =>
            have HJN := hide (show jnE r l rt false ea eb q = none by rw [HJE.out]; rfl)
            simp only [Option.isSome_none, Option.isSome_some, Option.getD_none, Option.getD_some] at HG1 HG2
            clear HJE HVX HVY
            go_wp2_with fail
            refine HG1.out.mono ?_
            rintro e wx ⟨rfl, rfl⟩
            go_wp2_with fail
            refine HG2.out.mono ?_
            rintro e wx ⟨rfl, rfl⟩
            go_wp2
            go_roundw
            case rel => exact ⟨j + 1, A5, c5, rows, rfl, by go_num, by omega, by omega, HO.out, HNB.out, HROWS.out, by rw [take_snocR HQ.out, filterMap_snocR, HJN.out, HES.out]; simp, HRW.out, HW2.out, HBz.out⟩
            case measure => simp [intOf]; omega
          | true =>
            have HVL := hide (show stval r x y < 2 ^ 64 from stval_lt (HVX.out x rfl) (HVY.out y rfl))
            have HVAL := hide (ref15_value wz.drew r x y h1 h6 (HVX.out x rfl) (HVY.out y rfl))
            have HJN := hide (show jnE r l rt true ea eb q = some (q.p, stval r x y) by rw [HJE.out]; rfl)
            simp only [Option.isSome_none, Option.isSome_some, Option.getD_none, Option.getD_some] at HG1 HG2
            have hal4 := ((Below.refl wz.heap.size wz).alloc (Nat.le_refl _) (.cells #[.slice q.A k q.c, .int .u64 (stval r x y : Int)] 83)).drew
            have HO4 := hide (own_below HO.out hal4)
            have HRW4 := hide (HRW.out.below hal4)
            have HB4 := hide (below_then HBz.out hal4)
            clear hal4 HJE
            clear HVX HVY
            go_wp2_with fail
            refine HG1.out.mono ?_
            rintro e wx ⟨rfl, rfl⟩
            go_wp2_with fail
            refine HG2.out.mono ?_
            rintro e wx ⟨rfl, rfl⟩
            go_wp2_with fail
            go_region_law (first
              | (refine step_app_n _ (by rfl) (.tmp 57) (.tmp 68) _ (by rfl) w.heap.size 83 _ 2 32 Tryz.underlying26 info_e rfl (by omega) _ rows.length _ (by rfl) HO4.out (some ⟨wz.heap.size, 0, none⟩) 1 1 [.slice q.A k q.c, .int .u64 (stval r x y : Int)] (by rfl) w HB4.out (Nat.le_refl _) (Rw.new1 wz 83 #[.slice q.A k q.c, .int .u64 (stval r x y : Int)] (sz := 2) rfl) (fun u hu => by rcases List.mem_cons.1 hu with rfl | hu; rfl; rw [List.mem_singleton] at hu; rw [hu]; rfl) (by unfold maxLen; omega) (by omega) ?_
                 intro v6 w6 ho6 hb6 hg6 hv6
                 obtain ⟨A6, c6, rfl, -, -⟩ := Rw.of_own ho6
                 have HG6 := hide hg6
                 have HV6 := hide hv6
                 have HO6 := hide ho6
                 have HB6 := hide hb6
                 clear ho6 hb6 hg6 hv6)
              | (go_simp
                 go_at_call 43
                 refine HVAL.out.mono ?_
                 rintro e wv ⟨rfl, rfl⟩))
            all_goals
              go_wp2
              go_roundw
              case rel =>
                refine ⟨j + 1, A6, c6, rows ++ [⟨q.A, k, q.c, q.p, stval r x y⟩], by simp, by go_num, by omega, by simp; omega, by simpa [entv] using HO6.out, by have := HNB.out.step HV6.out (Nat.le_trans HW2.out (by simp)); simpa using this, fun x hx => ?_, ?_, rw_beside (w1 := w) HRW4.out HRW2.out (by omega) HNB.out HG6.out HE0.out, Nat.le_trans HW2.out (Nat.le_trans (by simp) HG6.out.size), HB6.out⟩
                · rcases List.mem_append.1 hx with hx | hx
                  · exact HROWS.out x hx
                  · rw [List.mem_singleton] at hx
                    subst hx
                    exact ⟨⟨HQP.out.1, HQP.out.2.1, HQP.out.2.2, HVL.out⟩, rfl⟩
                · rw [take_snocR HQ.out, filterMap_snocR, HJN.out]
                  unfold ents
                  rw [List.map_append]
                  unfold ents at HES
                  rw [HES.out]
                  rfl
              case measure => simp [intOf]; omega
    · obtain rfl : j = n2 := by omega
      have HF := hide (show RjOut w k r l rt bo ea eb (.returned (.slice A5 rows.length c5)) wz from by
        have hl : rp.take j = rp := List.take_of_length_le (by rw [HLN2.out]; omega)
        have hes2 : ents rows = rp.filterMap (jnE r l rt bo ea eb) := by rw [← hl]; exact hes
        have hsort : rows.Pairwise fun a b => Zlt a.p b.p := by
          have h1 : (ents rows).Pairwise fun a b => Zlt a.1 b.1 := by
            rw [hes2]
            refine List.Pairwise.filterMap _ ?_ HR2.out.1.2
            intro a b hab x hx y hy
            unfold jnE at hx hy
            obtain ⟨_, _, rfl⟩ := Option.map_eq_some_iff.1 hx
            obtain ⟨_, _, rfl⟩ := Option.map_eq_some_iff.1 hy
            exact hab
          unfold ents at h1
          rw [List.pairwise_map] at h1
          exact h1
        refine ⟨A5, rows.length, c5, rows, rfl, ⟨(own_rw ho).2, fun x hx => ?_⟩, (own_rw ho).1, by omega, ⟨fun x hx => (hrows x hx).1.1.zp, hsort⟩, fun x hx => (hrows x hx).2, fun x => ?_, hb⟩
        · obtain ⟨⟨g1, g2, g3, g4⟩, g5⟩ := hrows x hx
          refine ⟨?_, ?_, g3, g4⟩
          · rw [g5]
            exact g1.below hb
          · rw [g5]
            exact g2
        · rw [hes2, List.mem_filterMap]
          obtain ⟨p, v⟩ := x
          rw [← jnP_JM HSE.out.1 HSE.out.2]
          constructor
          · rintro ⟨q, hq, hx⟩
            unfold jnE at hx
            obtain ⟨u, hu, hx⟩ := Option.map_eq_some_iff.1 hx
            injection hx with hx1 hx2
            subst hx1 hx2
            exact hu
          · intro hv
            have hpt : ∃ q ∈ rp, q.p = p := by
              refine (HR2.out.2.2.1 p).2 ?_
              rcases ((jnP_JM HSE.out.1 HSE.out.2 p v).1 hv).has with ⟨u, hu⟩ | ⟨u, hu⟩
              · rw [← HEA.out] at hu
                obtain ⟨q, hq, hqe⟩ := ents_mem_iff.1 hu
                exact .inl ⟨q, hq, congrArg Prod.fst hqe⟩
              · rw [← HEB.out] at hu
                obtain ⟨q, hq, hqe⟩ := ents_mem_iff.1 hu
                exact .inr ⟨q, hq, congrArg Prod.fst hqe⟩
            obtain ⟨q, hq, rfl⟩ := hpt
            exact ⟨q, hq, by unfold jnE; rw [hv]; rfl⟩)
      clear ho hnb hrows hes hrw hb
      go_wp2
      go_ret
      exact HF.out
end Go.Proofs.YtfkpanpageeklaaGreat
