/- walk: Cmp, the entries that are compared, All. -/
import Derived.Test.YtfkpanpageeklaaPlW
import Derived.Test.YtfkpanpageeklaaKe
set_option linter.unusedSimpArgs false
set_option linter.unusedVariables false
namespace Go.Proofs.Ytfkpanpageeklaa
open Go.RowKit
theorem xor_shr (z z' a : Nat) : (z ^^^ z') / 2 ^ a = 0 ↔ z / 2 ^ a = z' / 2 ^ a := by
  rw [← Nat.shiftRight_eq_div_pow, ← Nat.shiftRight_eq_div_pow, ← Nat.shiftRight_eq_div_pow, Nat.shiftRight_xor_distrib]
  generalize z >>> a = x
  generalize z' >>> a = y
  constructor
  · intro h
    refine Nat.eq_of_testBit_eq fun i => ?_
    have h1 := congrArg (fun n => Nat.testBit n i) h
    simp only [Nat.testBit_xor, Nat.zero_testBit] at h1
    revert h1
    cases x.testBit i <;> cases y.testBit i <;> simp
  · rintro rfl
    exact Nat.xor_self x
theorem div_bit (z a : Nat) : z / 2 ^ a = 2 * (z / 2 ^ (a + 1)) + bit z a := by
  unfold bit
  rw [Nat.pow_succ, ← Nat.div_div_eq_div_mul]
  omega
set_option maxHeartbeats 1000000 in
set_option maxRecDepth 100000 in
theorem zb_cmp (A B : Option Addr) (n c d : Nat) (p q : List Nat) (w : World) (hp : Pt w A n p) (hq : Pt w B n q) (h1 : 1 ≤ n) (h2 : n ≤ 16) :
    Calls Try.prog 68 #[.slice A n c, .slice B n d] w fun e w' => e = .returned (.tuple #[.int .i64 (cmp p q), .int .i64 0]) ∧ w = w' := by
  have hl : p.length = q.length := hp.len.trans hq.len.symm
  obtain ⟨g1, g2, g3, g4⟩ := part_spec p q hl hp.2.2 hq.2.2
  by_cases hneg : part p q < 0
  · have HP := hide (zb_part A B n c d p q w hp hq h1 h2)
    have HC := hide (show cmp p q = 0 by simp [cmp, hneg])
    have e1 : decide (part p q < 0) = true := by simpa using hneg
    clear g1 g2 g3 g4 hneg
    go_enter Try.func68, Try.ntmps68
    go_wp2_with fail
    refine HP.out.mono ?_
    rintro e w' ⟨rfl, rfl⟩
    go_wp2
    go_ret2
    exact ⟨by rw [HC.out]; rfl, rfl⟩
  · obtain ⟨a, ha⟩ := Int.eq_ofNat_of_zero_le (show 0 ≤ part p q by omega)
    have ha' : a < 64 := by omega
    have hd : decide ((a : Int) < 0) = false := by simp
    have HK := hide (fun (k z z' : Nat) (hz : p[k]? = some z) (hz' : q[k]? = some z') => cmp_step p q hl a ha k z z' hp.2.2 hq.2.2 hz hz')
    have HG := hide (g4 (by omega))
    rw [ha] at HG
    have hpart := zb_part A B n c d p q w hp hq h1 h2
    rw [ha] at hpart
    have HP := hide hpart
    clear g1 g2 g3 g4 hneg hpart ha
    go_enter Try.func68, Try.ntmps68
    go_wp2_with fail
    refine HP.out.mono ?_
    rintro e w' ⟨rfl, rfl⟩
    go_wp2
    go_loop [25] (fun i => ∃ (k : Nat), k ≤ n ∧ i = .int .i64 k ∧ addrOf (p.take k) a = addrOf (q.take k) a) (fun i => n - (intOf i).toNat)
    case atStart => exact ⟨0, by omega, rfl, rfl⟩
    case round =>
      obtain ⟨k, hk, rfl, hak⟩ := hrel
      have HA := hide hak
      clear hak
      by_cases hlt : k < n
      · obtain ⟨b, o, z, rfl, hb, hz, hzl, hc⟩ := hp.at_ hlt
        obtain ⟨b', o', z', rfl, hb', hz', hzl', hc'⟩ := hq.at_ hlt
        obtain ⟨s1, s2, s3⟩ := HK.out k z z' hz hz'
        have hx : bits .xor .u64 (z : Int) (z' : Int) = ((z ^^^ z' : Nat) : Int) := u64_xor_nat _ _ hzl hzl'
        have hxl := Nat.xor_lt_two_pow (n := 64) hzl hzl'
        have hsh := shr_nat (z ^^^ z') a
        have d1 := div_bit z a
        have d2 := div_bit z' a
        have S2 := hide (s2 HA.out)
        have S3 := hide (s3 HA.out)
        have hxs := xor_shr z z' a
        by_cases hbit : bit z a = bit z' a
        · have e2 : (((z ^^^ z' : Nat) : Int) / 2 ^ a == 0) = true := by
            rw [hsh, hxs.2 (by rw [d1, d2, s1, hbit])]
            rfl
          have HN := hide (S3.out hbit)
          clear s1 s2 s3 hz hz' hsh hxs d1 d2 hbit
          go_wp2
          go_round
          case rel => exact ⟨k + 1, by omega, by go_num, HN.out⟩
          case measure => simp [intOf]; omega
        · have e2 : (((z ^^^ z' : Nat) : Int) / 2 ^ a == 0) = false := by
            rw [hsh]
            have : (z ^^^ z') / 2 ^ a ≠ 0 := by
              rw [ne_eq, hxs, d1, d2, s1]
              omega
            simp only [beq_eq_false_iff_ne, ne_eq]
            omega
          have HN := hide (S2.out hbit)
          clear s1 s2 s3 hz hz' hsh hxs d1 d2 hbit
          by_cases hzz : z < z'
          · have e3 : decide (z < z') = true := by simpa using hzz
            have HC := hide (show cmp p q = -1 by rw [HN.out, if_pos hzz])
            clear hzz
            go_wp2
            go_ret2
            exact ⟨by rw [HC.out]; rfl, rfl⟩
          · have e3 : decide (z < z') = false := by simpa using hzz
            have HC := hide (show cmp p q = 1 by rw [HN.out, if_neg hzz])
            clear hzz
            go_wp2
            go_ret2
            exact ⟨by rw [HC.out]; rfl, rfl⟩
      · exfalso
        have h5 := HA.out
        rw [List.take_of_length_le (by have := hp.len; omega), List.take_of_length_le (by have := hq.len; omega)] at h5
        exact HG.out (by simpa using h5)
theorem same_pt {w : World} {A B : Option Addr} {n m c d : Nat} {p q : List Nat} (hA : Pt w A n p) (hB : Pt w B m q) (hn : n ≤ 70368744177664) (hm : m ≤ 70368744177664) :
    Calls Try.prog 39 #[.slice A n c, .slice B m d] w fun e w' => e = .returned (.bool (decide (p = q))) ∧ Below w.heap.size w w' := by
  have hu : ∀ (p : List Nat), u64s p = (p.map fun (x : Nat) => (x : Int)).map fun z => Value.int .u64 z := fun p => by unfold u64s; rw [List.map_map]; rfl
  have h1 := hA.2.1
  have h2 := hB.2.1
  rw [hu] at h1 h2
  have h := same_u64 A B n c m d _ _ w h1 h2 hn hm
  have hs : sameB (p.map fun (x : Nat) => (x : Int)) (q.map fun (x : Nat) => (x : Int)) = decide (p = q) := by
    unfold sameB
    have : ((p.map fun (x : Nat) => (x : Int)) = (q.map fun (x : Nat) => (x : Int))) ↔ p = q := List.map_inj_right fun x y h => Int.ofNat.inj h
    simp only [this]
  rw [hs] at h
  exact h
theorem ents_ne {ra rb : List ER} {j : Nat} {r s : ER} (hr : ra[j]? = some r) (hs : rb[j]? = some s) (h : r.e ≠ s.e) : decide (ents ra = ents rb) = false := by
  simp only [decide_eq_false_iff_not]
  intro e
  have h1 : (ents ra)[j]? = some r.e := by unfold ents; rw [List.getElem?_map, hr]; rfl
  have h2 : (ents rb)[j]? = some s.e := by unfold ents; rw [List.getElem?_map, hs]; rfl
  rw [e, h2] at h1
  injection h1 with h1
  exact h h1.symm
set_option maxHeartbeats 4000000 in
set_option maxRecDepth 100000 in
theorem same_entries {w : World} {A B : Option Addr} {n m c d : Nat} {ra rb : List ER} (hA : EntsAt w A n ra) (hB : EntsAt w B m rb) (hna : ∀ r ∈ ra, r.n ≤ 65536) (hnb : ∀ r ∈ rb, r.n ≤ 65536) (hn : n ≤ 65536) (hm : m ≤ 65536) :
    Calls Try.prog 21 #[.slice A n c, .slice B m d] w fun e w' => e = .returned (.bool (decide (ents ra = ents rb))) ∧ Below w.heap.size w w' := by
  have HA := hide hA
  have HB := hide hB
  have HNA := hide hna
  have HNB := hide hnb
  have hla := hA.len
  have hlb := hB.len
  go_enter Try.func21, Try.ntmps21
  rcases Nat.decEq n m with hne | rfl
  · have e1 : ((n : Int) != (m : Int)) = true := by simp; omega
    have HR : Hid (decide (ents ra = ents rb) = false) := hide (by
      simp only [decide_eq_false_iff_not]
      intro e
      have := congrArg List.length e
      unfold ents at this
      simp only [List.length_map] at this
      omega)
    clear hA hB hna hnb hla hlb
    go_wp2
    go_ret
    rw [HR.out]
    exact ⟨rfl, Below.refl _ _⟩
  · have e1 : ((n : Int) != (n : Int)) = false := by simp
    have HLA := hide hla
    have HLB := hide hlb
    clear hA hB hna hnb hla hlb
    go_wp2
    go_loopw [5] (fun x wr => ∃ (j : Nat), x = .int .i64 j ∧ j ≤ n ∧ ents (ra.take j) = ents (rb.take j) ∧ Below w.heap.size w wr) (fun x _ => n - (intOf x).toNat)
    case atStart => exact ⟨0, rfl, Nat.zero_le _, rfl, Below.refl _ _⟩
    case round =>
      obtain ⟨j, rfl, hj, ht, hb⟩ := hrel
      have HT := hide ht
      have HBL := hide hb
      rename World => wz
      clear ht
      by_cases hjn : j < n
      · obtain ⟨b1, o1, r, rfl, hb1, hr, hok1, x0, x1⟩ := (HA.out.below hb).at_ hjn
        obtain ⟨b2, o2, s, rfl, hb2, hs, hok2, y0, y1⟩ := (HB.out.below hb).at_ hjn
        have HR := hide hr
        have HS := hide hs
        have hrn := HNA.out r (List.mem_of_getElem? hr)
        have hsn := HNB.out s (List.mem_of_getElem? hs)
        have HSP := hide (fun (W : World) (hW : Below wz.heap.size wz W) => same_pt (c := r.c) (d := s.c) (hok1.1.below hW) (hok2.1.below hW) (by omega) (by omega))
        clear hr hs hok1 hok2 hb
        by_cases hv : r.v = s.v
        · have e2 : ((r.v : Int) != (s.v : Int)) = false := by simp; omega
          have HV := hide hv
          clear hv
          by_cases hp : r.p = s.p
          · have HE := hide (show r.e = s.e by unfold ER.e; rw [hp, HV.out])
            have HD := hide (show decide (r.p = s.p) = true by simpa using hp)
            clear hp
            go_wp2_with fail
            go_region_held3 (fun w' => w'.cell? ⟨b1, o1 + j * 2, none⟩ = some (.slice r.A r.n r.c) ∧ w'.cell? ⟨b1, o1 + j * 2 + 1, none⟩ = some (.int .u64 (r.v : Int)) ∧ w'.cell? ⟨b2, o2 + j * 2, none⟩ = some (.slice s.A s.n s.c) ∧ w'.cell? ⟨b2, o2 + j * 2 + 1, none⟩ = some (.int .u64 (s.v : Int)))
              (first
                | go_keep
                | exact hk5)
              (first
                | (go_at_call 39
                   refine (HSP.out wz.drew (Below.refl _ wz).drew).mono ?_
                   rintro e w5 ⟨rfl, hb5⟩
                   rw [HD.out]
                   have hd5 : Below wz.heap.size wz w5 := (Below.refl _ wz).drew.trans hb5
                   have hk5 := And.intro ((hd5.cell (p := ⟨b1, o1 + j * 2, none⟩) hb1).trans x0) (And.intro ((hd5.cell (p := ⟨b1, o1 + j * 2 + 1, none⟩) hb1).trans x1) (And.intro ((hd5.cell (p := ⟨b2, o2 + j * 2, none⟩) hb2).trans y0) ((hd5.cell (p := ⟨b2, o2 + j * 2 + 1, none⟩) hb2).trans y1)))))
            go_wp2
            go_roundw
            case rel => exact ⟨j + 1, by go_num, by omega, by rw [ents_take HR.out, ents_take HS.out, HT.out, HE.out], below_then HBL.out hd5⟩
            case measure => simp [intOf]; omega
          · have HE := hide (ents_ne HR.out HS.out (fun he => hp (congrArg Prod.fst he)))
            have HD := hide (show decide (r.p = s.p) = false by simpa using hp)
            clear hp
            go_wp2_with fail
            go_region_held3 (fun w' => w'.cell? ⟨b1, o1 + j * 2, none⟩ = some (.slice r.A r.n r.c) ∧ w'.cell? ⟨b1, o1 + j * 2 + 1, none⟩ = some (.int .u64 (r.v : Int)) ∧ w'.cell? ⟨b2, o2 + j * 2, none⟩ = some (.slice s.A s.n s.c) ∧ w'.cell? ⟨b2, o2 + j * 2 + 1, none⟩ = some (.int .u64 (s.v : Int)))
              (first
                | go_keep
                | exact hk5)
              (first
                | (go_at_call 39
                   refine (HSP.out wz.drew (Below.refl _ wz).drew).mono ?_
                   rintro e w5 ⟨rfl, hb5⟩
                   rw [HD.out]
                   have hd5 : Below wz.heap.size wz w5 := (Below.refl _ wz).drew.trans hb5
                   have hk5 := And.intro ((hd5.cell (p := ⟨b1, o1 + j * 2, none⟩) hb1).trans x0) (And.intro ((hd5.cell (p := ⟨b1, o1 + j * 2 + 1, none⟩) hb1).trans x1) (And.intro ((hd5.cell (p := ⟨b2, o2 + j * 2, none⟩) hb2).trans y0) ((hd5.cell (p := ⟨b2, o2 + j * 2 + 1, none⟩) hb2).trans y1)))))
            go_wp2
            go_ret
            exact ⟨by rw [HE.out]; rfl, below_then HBL.out hd5⟩
        · have e2 : ((r.v : Int) != (s.v : Int)) = true := by simp; omega
          have HE := hide (ents_ne HR.out HS.out (fun he => hv (congrArg Prod.snd he)))
          clear hv
          go_wp2_with fail
          go_quiet (fail)
          go_wp2
          go_ret
          exact ⟨by rw [HE.out]; rfl, below_drewN HBL.out _⟩
      · have e9 : decide ((j : Int) < (n : Int)) = false := by simp; omega
        have HE : Hid (decide (ents ra = ents rb) = true) := hide (by
          have h1 := HLA.out
          have h2 := HLB.out
          have h3 := HT.out
          rw [List.take_of_length_le (by omega), List.take_of_length_le (by omega)] at h3
          simpa using h3)
        go_wp2
        go_ret
        exact ⟨by rw [HE.out]; rfl, HBL.out⟩
end Go.Proofs.Ytfkpanpageeklaa
