/- pantileref28: in, On. -/
import Derived.Test.YtlgdllohmmmegaaPyX
set_option linter.unusedSimpArgs false
set_option linter.unusedVariables false
namespace Go.Proofs.Ytlgdllohmmmegaa
open Go.RowKit
/-- The sides, by their indices. -/
def cycR (ps : List (List Nat)) : List (List Nat × List Nat) := (List.range ps.length).map fun i => (ps.getD i [], ps.getD (nextI ps.length i) [])
theorem cyc_range (ps : List (List Nat)) : (cycR ps).Perm (sidesL (lastP ps) ps) := by
  cases ps with
  | nil => exact List.Perm.refl _
  | cons z zs =>
    have h1 : sidesL (lastP (z :: zs)) (z :: zs) = (lastP (z :: zs), z) :: links (z :: zs) := rfl
    rw [h1, links_range [] z zs]
    unfold cycR
    rw [List.length_cons, List.range_succ, List.map_append]
    have h3 : nextI (zs.length + 1) zs.length = 0 := by
      unfold nextI
      rw [if_neg (by omega)]
    have h4 : (z :: zs).getD zs.length [] = lastP (z :: zs) := by
      have := last_at (ps := z :: zs) (by simp)
      rw [List.getD_eq_getElem?_getD]
      simp only [List.length_cons, Nat.add_sub_cancel] at this
      rw [this]
      rfl
    have h5 : (List.range zs.length).map (fun i => ((z :: zs).getD i [], (z :: zs).getD (nextI (zs.length + 1) i) [])) = (List.range zs.length).map fun i => ((z :: zs).getD i [], (z :: zs).getD (i + 1) []) := by
      refine List.map_congr_left fun i hi => ?_
      rw [List.mem_range] at hi
      unfold nextI
      rw [if_pos (by omega)]
    rw [h5, List.map_cons, List.map_nil, h3, h4]
    exact List.perm_append_comm (l₂ := [_])
def onTo (ps : List (List Nat)) (p : List Nat) (j : Nat) : Bool := ((cycR ps).take j).any (onX p)
def wndTo (ps : List (List Nat)) (p : List Nat) (j : Nat) : Int := wndS p ((cycR ps).take j)
theorem cycR_len (ps : List (List Nat)) : (cycR ps).length = ps.length := by simp [cycR]
theorem on_same (ps : List (List Nat)) (p : List Nat) : onTo ps p ps.length = onL ps p := by
  unfold onTo onL
  rw [← cycR_len, List.take_length]
  exact any_perm (cyc_range ps)
theorem wnd_same (ps : List (List Nat)) (p : List Nat) : wndTo ps p ps.length = wndL ps p := by
  unfold wndTo wndL wndS
  rw [← cycR_len, List.take_length]
  exact sum_perm ((cyc_range ps).map _)
theorem cycR_at {ps : List (List Nat)} {j : Nat} (h : j < ps.length) : (cycR ps)[j]? = some (ps.getD j [], ps.getD (nextI ps.length j) []) := by
  unfold cycR
  rw [List.getElem?_map, List.getElem?_range h]
  rfl
theorem cycR_take {ps : List (List Nat)} {j : Nat} (h : j < ps.length) : (cycR ps).take (j + 1) = (cycR ps).take j ++ [(ps.getD j [], ps.getD (nextI ps.length j) [])] := by
  rw [List.take_add_one, cycR_at h]
  rfl
theorem onTo_succ {ps : List (List Nat)} {p : List Nat} {j : Nat} (h : j < ps.length) : onTo ps p (j + 1) = (onTo ps p j || onB (ptI (ps.getD j [])) (ptI (ps.getD (nextI ps.length j) [])) (ptI p)) := by
  unfold onTo
  rw [cycR_take h, List.any_append, List.any_cons, List.any_nil, Bool.or_false]
  rfl
theorem onTo_full {ps : List (List Nat)} {p : List Nat} {j : Nat} (hj : j < ps.length) (h : onB (ptI (ps.getD j [])) (ptI (ps.getD (nextI ps.length j) [])) (ptI p) = true) : onL ps p = true := by
  rw [← on_same]
  unfold onTo
  rw [List.any_eq_true]
  rw [← cycR_len, List.take_length]
  exact ⟨_, List.mem_of_getElem? (cycR_at hj), h⟩
theorem wndTo_succ {ps : List (List Nat)} {p : List Nat} {j : Nat} (h : j < ps.length) : wndTo ps p (j + 1) = wndTo ps p j + wndB (ptI (ps.getD j [])) (ptI (ps.getD (nextI ps.length j) [])) (ptI p) := by
  unfold wndTo
  rw [cycR_take h, wndS_snoc]
theorem tri_area (a b p : List Nat) : areaL [a, b, p] = lef (ptI a) (ptI b) (ptI p) := by
  show crs (ptI p) (ptI a) + (crs (ptI a) (ptI b) + (crs (ptI b) (ptI p) + 0)) = _
  generalize ptI a = a
  generalize ptI b = b
  generalize ptI p = p
  unfold lef crs
  simp only [Int.sub_mul, Int.mul_sub]
  rw [Int.mul_comm b.2 p.1, Int.mul_comm a.2 p.1, Int.mul_comm b.2 a.1, Int.mul_comm p.2 a.1, Int.mul_comm a.2 b.1, Int.mul_comm a.2 a.1]
  omega
theorem trip {W : World} {r q s : LP} (h1 : r.ok W) (h2 : q.ok W) (h3 : s.ok W) : LpsAt (W.alloc (.cells #[.slice r.A r.n r.c, .slice q.A q.n q.c, .slice s.A s.n s.c] 23)) (some ⟨W.heap.size, 0, none⟩) 3 [r, q, s] := by
  have hb : Below W.heap.size W (W.alloc (.cells #[.slice r.A r.n r.c, .slice q.A q.n q.c, .slice s.A s.n s.c] 23)) := (Below.refl _ _).alloc (Nat.le_refl _) _
  refine ⟨Rw.of_blk (Blk.new W _ _) rfl (fun j u hu => by rw [Nat.zero_add]; simpa [lpv] using hu), fun t ht => ?_⟩
  simp only [List.mem_cons, List.not_mem_nil, or_false] at ht
  rcases ht with rfl | rfl | rfl
  · exact h1.below hb
  · exact h2.below hb
  · exact h3.below hb
def inB (a b x : Nat) : Bool := decide (min (a : Int) (b : Int) ≤ (x : Int) ∧ (x : Int) ≤ max (a : Int) (b : Int))
set_option maxRecDepth 100000 in
set_option maxHeartbeats 4000000 in
theorem ref28_in (a b x : Nat) (w : World) : Calls Try.prog 23 #[.int .u64 (a : Int), .int .u64 (b : Int), .int .u64 (x : Int)] w fun e w' => e = .returned (.bool (inB a b x)) ∧ w = w' := by
  by_cases h1 : (a : Int) ≤ (x : Int)
  · by_cases h2 : (x : Int) ≤ (b : Int)
    · rw [show inB a b x = true by unfold inB; rw [decide_eq_true_eq]; omega]
      go_enter Try.func23, Try.ntmps23
      go_wp2
      go_ret
      exact ⟨rfl, rfl⟩
    · by_cases h3 : (b : Int) ≤ (x : Int)
      · by_cases h4 : (x : Int) ≤ (a : Int)
        · rw [show inB a b x = true by unfold inB; rw [decide_eq_true_eq]; omega]
          go_enter Try.func23, Try.ntmps23
          go_wp2
          go_ret
          exact ⟨rfl, rfl⟩
        · rw [show inB a b x = false by unfold inB; rw [decide_eq_false_iff_not]; omega]
          go_enter Try.func23, Try.ntmps23
          go_wp2
          go_ret
          exact ⟨rfl, rfl⟩
      · omega
  · by_cases h3 : (b : Int) ≤ (x : Int)
    · by_cases h4 : (x : Int) ≤ (a : Int)
      · rw [show inB a b x = true by unfold inB; rw [decide_eq_true_eq]; omega]
        go_enter Try.func23, Try.ntmps23
        go_wp2
        go_ret
        exact ⟨rfl, rfl⟩
      · omega
    · rw [show inB a b x = false by unfold inB; rw [decide_eq_false_iff_not]; omega]
      go_enter Try.func23, Try.ntmps23
      go_wp2
      go_ret
      exact ⟨rfl, rfl⟩
theorem onB_in {a0 a1 b0 b1 p0 p1 : Nat} : onB (ptI [a0, a1]) (ptI [b0, b1]) (ptI [p0, p1]) = (decide (areaL [[a0, a1], [b0, b1], [p0, p1]] = 0) && (inB a0 b0 p0 && inB a1 b1 p1)) := by
  rw [tri_area]
  rfl
end Go.Proofs.Ytlgdllohmmmegaa
