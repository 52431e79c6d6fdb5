/- pantileref28: the area, by definition. -/
import Derived.Test.YtlgdllohmmmegaaPyP
import Derived.Deep.RegionHeld3
set_option linter.unusedSimpArgs false
set_option linter.unusedVariables false
namespace Go.Proofs.Ytlgdllohmmmegaa
open Go.RowKit
/-- From each one to the next one, the first one's behind the last one. -/
def nextI (n i : Nat) : Nat := if i + 1 < n then i + 1 else 0
def areaTo (ps : List (List Nat)) (j : Nat) : Int := ((List.range j).map fun i => crs (ptI (ps.getD i [])) (ptI (ps.getD (nextI ps.length i) []))).sum
theorem areaTo_succ (ps : List (List Nat)) (j : Nat) : areaTo ps (j + 1) = areaTo ps j + crs (ptI (ps.getD j [])) (ptI (ps.getD (nextI ps.length j) [])) := by
  unfold areaTo
  rw [List.range_succ, List.map_append, List.sum_append]
  simp
theorem areaTo_small (ps : List (List Nat)) (h : ∀ p ∈ ps, small p = true) : ∀ j, j ≤ ps.length → (areaTo ps j).natAbs ≤ j * 2199023255552
  | 0, _ => by simp [areaTo]
  | j + 1, hj => by
    have h1 := areaTo_small ps h j (by omega)
    have g : ∀ i, i < ps.length → small (ps.getD i []) = true := fun i hi => by
      rw [List.getD_eq_getElem?_getD, List.getElem?_eq_getElem hi]
      exact h _ (List.getElem_mem hi)
    have h2 := g j (by omega)
    have h3 := g (nextI ps.length j) (by unfold nextI; split <;> omega)
    have h4 := crs_small (ptI_small h2).1 (ptI_small h2).2 (ptI_small h3).1 (ptI_small h3).2
    rw [areaTo_succ]
    omega
theorem links_range {α : Type} (d : α) : ∀ (z : α) (zs : List α), links (z :: zs) = (List.range zs.length).map fun i => ((z :: zs).getD i d, (z :: zs).getD (i + 1) d)
  | z, [] => rfl
  | z, y :: ys => by
    have h := links_range d y ys
    show (z, y) :: links (y :: ys) = _
    rw [h, List.length_cons, List.range_succ_eq_map, List.map_cons, List.map_map]
    rfl
theorem area_same (ps : List (List Nat)) (h : 1 ≤ ps.length) : areaTo ps ps.length = areaL ps := by
  cases ps with
  | nil => simp at h
  | cons z zs =>
    have h1 : areaL (z :: zs) = crs (ptI (lastP (z :: zs))) (ptI z) + ((links (z :: zs)).map fun x => crs (ptI x.1) (ptI x.2)).sum := by
      unfold areaL sumC
      show (((lastP (z :: zs), z) :: links (z :: zs)).map _).sum = _
      rw [List.map_cons, List.sum_cons]
    rw [h1, links_range [] z zs, List.length_cons, areaTo_succ, List.map_map]
    have h2 : areaTo (z :: zs) zs.length = ((List.range zs.length).map ((fun x : List Nat × List Nat => crs (ptI x.1) (ptI x.2)) ∘ fun i => ((z :: zs).getD i [], (z :: zs).getD (i + 1) []))).sum := by
      unfold areaTo
      congr 1
      refine List.map_congr_left fun i hi => ?_
      rw [List.mem_range] at hi
      simp only [Function.comp, nextI, List.length_cons]
      rw [if_pos (by omega)]
    rw [h2]
    have h3 : nextI (z :: zs).length zs.length = 0 := by
      unfold nextI
      rw [if_neg (by simp)]
    have h4 : (z :: zs).getD zs.length [] = lastP (z :: zs) := by
      have := last_at (ps := z :: zs) (by simp)
      rw [List.getD_eq_getElem?_getD]
      simp only [List.length_cons, Nat.add_sub_cancel] at this
      rw [this]
      rfl
    rw [h3, h4]
    show _ + crs _ (ptI z) = _
    omega
set_option maxHeartbeats 8000000 in
set_option maxRecDepth 100000 in
theorem ref28_area {w : World} {A : Option Addr} {n c : Nat} {rows : List LP} (h : LpsAt w A n rows) (hn : n ≤ 1000) (h1 : 1 ≤ n) (hs : ∀ p ∈ rows.map LP.p, small p = true) :
    Calls Try.prog 14 #[.slice A n c] w fun e w' => e = .returned (.int .i64 (areaL (rows.map LP.p))) ∧ Below w.heap.size w w' := by
  have HA := hide h
  have HLN := hide (show (rows.map LP.p).length = n by rw [List.length_map, h.len])
  have HSA := hide (area_same (rows.map LP.p) (by rw [HLN.out]; exact h1))
  rw [HLN.out] at HSA
  rw [← HSA.out]
  have HAS := hide (fun j (hj : j ≤ n) => areaTo_small (rows.map LP.p) hs j (by rw [HLN.out]; exact hj))
  have HS := hide hs
  have hnz : ((n : Int) == 0) = false := by simp; omega
  clear h hs HSA
  go_enter Try.func14, Try.ntmps14
  go_wp2
  go_loopw [3, 4] (fun x3 x4 wr => ∃ j : Nat, x3 = .int .i64 (areaTo (rows.map LP.p) j) ∧ x4 = .int .i64 (j : Int) ∧ j ≤ n ∧ Below w.heap.size w wr) (fun _ x _ => n - (intOf x).toNat)
  case atStart => exact ⟨0, rfl, rfl, Nat.zero_le _, Below.refl _ _⟩
  case round =>
    obtain ⟨j, rfl, rfl, hj, hb⟩ := hrel
    rename World => wz
    have HB := hide hb
    by_cases hjn : j < n
    · have hkn : nextI n j < n := by unfold nextI; split <;> omega
      obtain ⟨b, o, r, rfl, hbl, hr, hro, x0⟩ := (HA.out.below hb).at_ hjn
      obtain ⟨b', o', q, he, _, hq, hqo, x1⟩ := (HA.out.below hb).at_ hkn
      injection he with he
      injection he with he1 he2
      subst he1 he2
      have hsr := HS.out r.p (List.mem_map.2 ⟨r, List.mem_of_getElem? hr, rfl⟩)
      have hsq := HS.out q.p (List.mem_map.2 ⟨q, List.mem_of_getElem? hq, rfl⟩)
      obtain ⟨rx, ry, hrp, hrx, hry⟩ := small_iff hsr
      obtain ⟨qx, qy, hqp, hqx, hqy⟩ := small_iff hsq
      have hr2 : r.n = 2 := by rw [← hro.1.len, hrp]; rfl
      have hq2 : q.n = 2 := by rw [← hqo.1.len, hqp]; rfl
      have hrpt := hro.1
      have hqpt := hqo.1
      rw [hrp] at hrpt
      rw [hqp] at hqpt
      obtain ⟨rb, ro, rx', ry', hrA, hrb, hre, y0, y1⟩ := pt_two hrpt hr2
      obtain ⟨qb, qo, qx', qy', hqA, hqb, hqe, z0, z1⟩ := pt_two hqpt hq2
      injection hre with e1 e2
      injection e2 with e2 _
      subst e1 e2
      injection hqe with e1 e2
      injection e2 with e2 _
      subst e1 e2
      rw [hr2, hrA] at x0
      rw [hq2, hqA] at x1
      have HSU := hide (show areaTo (rows.map LP.p) (j + 1) = areaTo (rows.map LP.p) j + (rx : Int) * (qy : Int) - (ry : Int) * (qx : Int) by
        rw [areaTo_succ, HLN.out]
        have g1 : (rows.map LP.p).getD j [] = [rx, ry] := by rw [List.getD_eq_getElem?_getD, List.getElem?_map, hr, ← hrp]; rfl
        have g2 : (rows.map LP.p).getD (nextI n j) [] = [qx, qy] := by rw [List.getD_eq_getElem?_getD, List.getElem?_map, hq, ← hqp]; rfl
        rw [g1, g2]
        show _ + ((rx : Int) * (qy : Int) - (ry : Int) * (qx : Int)) = _
        omega)
      have hb1 := HAS.out j hj
      have hb2 : (areaTo (rows.map LP.p) j).natAbs ≤ 1000 * 2199023255552 := Nat.le_trans hb1 (Nat.mul_le_mul_right _ (by omega))
      generalize areaTo (rows.map LP.p) j = S at *
      have m1 := mul_small (a := (rx : Int)) (b := (qy : Int)) (by omega) (by omega)
      have m2 := mul_small (a := (ry : Int)) (b := (qx : Int)) (by omega) (by omega)
      clear hb hbl hr hq hro hqo hsr hsq hrp hqp hr2 hq2 hrpt hqpt hrA hqA hrb hqb hb1
      have hmd : ((j : Int) + 1).tmod (n : Int) = (nextI n j : Int) := by
        rw [Int.tmod_eq_emod_of_nonneg (by omega)]
        unfold nextI
        split
        · exact Int.emod_eq_of_lt (by omega) (by omega)
        · rw [show ((j : Int) + 1) = (n : Int) by omega, Int.emod_self]
          rfl
      have hmd2 : ((j : Int) + 1) % (n : Int) = (nextI n j : Int) := by
        rw [← Int.tmod_eq_emod_of_nonneg (by omega)]
        exact hmd
      generalize nextI n j = k at *
      go_wp2_with fail
      have hn0 : ¬ n = 0 := by omega
      have hn1 : ¬ (n : Int) = 0 := by omega
      have hmd : ((j : Int) + 1).tmod (n : Int) = (k : Int) := by rw [Int.tmod_eq_emod_of_nonneg (by omega)]; exact hmd2
      have hkI : (k : Int) < (n : Int) := by omega
      have hwj : IntKind.i64.wrap ((j : Int) + 1) = (j : Int) + 1 := Go.IntWalk.i64_in _ (by omega)
      have hk0 : (0 : Int) ≤ (k : Int) := by omega
      have hwk : IntKind.i64.wrap (k : Int) = (k : Int) := Go.IntWalk.i64_in _ (by omega)
      go_region_held3 (fun w' => w'.cell? ⟨b, o + j, none⟩ = some (.slice (some ⟨rb, ro, none⟩) 2 r.c) ∧ w'.cell? ⟨b, o + k, none⟩ = some (.slice (some ⟨qb, qo, none⟩) 2 q.c))
        (first
          | go_keep)
        (fail)
      go_wp2_with fail
      have y0' := y0
      go_region_held3 (fun w' => w'.cell? ⟨rb, ro, none⟩ = some (.int .u64 (rx : Int)) ∧ w'.cell? ⟨rb, ro + 1, none⟩ = some (.int .u64 (ry : Int)) ∧ w'.cell? ⟨qb, qo, none⟩ = some (.int .u64 (qx : Int)) ∧ w'.cell? ⟨qb, qo + 1, none⟩ = some (.int .u64 (qy : Int)))
        (first
          | go_keep)
        (fail)
      have hwr : IntKind.i64.wrap (IntKind.i64.wrap (S + IntKind.i64.wrap (IntKind.i64.wrap (rx : Int) * IntKind.i64.wrap (qy : Int))) - IntKind.i64.wrap (IntKind.i64.wrap (ry : Int) * IntKind.i64.wrap (qx : Int))) = areaTo (rows.map LP.p) (j + 1) := by
        rw [Go.IntWalk.i64_in rx (by omega), Go.IntWalk.i64_in ry (by omega), Go.IntWalk.i64_in qx (by omega), Go.IntWalk.i64_in qy (by omega), Go.IntWalk.i64_in ((rx : Int) * qy) (by omega), Go.IntWalk.i64_in ((ry : Int) * qx) (by omega), Go.IntWalk.i64_in (S + (rx : Int) * qy) (by omega), Go.IntWalk.i64_in _ (by omega)]
        exact HSU.out.symm
      rw [hwr]
      clear hwr
      go_wp2
      exact ⟨⟨j + 1, rfl, by go_num, by omega, HB.out.drew.drew⟩, by simp only [intOf]; omega⟩
    · obtain rfl : j = n := by omega
      clear hb
      go_wp2
      go_ret
      exact ⟨rfl, HB.out⟩
end Go.Proofs.Ytlgdllohmmmegaa
