/- poly: the sides of an outline, one by one. -/
import Derived.Test.YtlgdllohmmmegaaPyC
import Derived.Test.YtlgdllohmmmegaaPyR
import Derived.RangeFuncNested
import Derived.RangeFuncBound
import Derived.RangeFuncCalls
import Derived.RangeFuncLeaves
import Derived.Shelf.Abstract
import Derived.Shelf.RegionOpen
import Derived.WalkKit
import Derived.OwnWalkIn
import Derived.TacticsInMore
import Derived.LoopNIn
import Derived.LoopIn
set_option linter.unusedSimpArgs false
set_option linter.unusedVariables false
namespace Go.Proofs.Ytlgdllohmmmegaa
open Go.RowKit Go.Shelf
attribute [local go_sem] Oper.semAt_some
/-- From each point to the next one, the last one's first. -/
def sidesL {α : Type} (last : α) : List α → List (α × α)
  | [] => []
  | z :: zs => (last, z) :: sidesL z zs
def prevL {α : Type} (last : α) (l : List α) (j : Nat) : α := if j = 0 then last else l.getD (j - 1) last
theorem sides_len {α : Type} : ∀ (l : List α) (last : α), (sidesL last l).length = l.length
  | [], _ => rfl
  | z :: zs, _ => by simp only [sidesL, List.length_cons, sides_len zs z]
theorem sides_at {α : Type} : ∀ (l : List α) (last : α) (j : Nat) (z : α), l[j]? = some z → (sidesL last l)[j]? = some (prevL last l j, z)
  | [], _, _, _, h => by simp at h
  | y :: ys, last, 0, z, h => by
    simp at h
    subst h
    rfl
  | y :: ys, last, j + 1, z, h => by
    simp only [List.getElem?_cons_succ] at h
    have h1 := sides_at ys y j z h
    simp only [sidesL, List.getElem?_cons_succ]
    rw [h1]
    congr 2
    unfold prevL
    cases j with
    | zero => rfl
    | succ j =>
      have hj : j < ys.length := by
        have := (List.getElem?_eq_some_iff.1 h).1
        omega
      simp [hj]
theorem sides_take {α : Type} {l : List α} {last : α} {j : Nat} {z : α} (h : l[j]? = some z) : (sidesL last l).take (j + 1) = (sidesL last l).take j ++ [(prevL last l j, z)] := by
  rw [List.take_add_one, sides_at l last j z h]
  rfl
theorem prev_next {α : Type} {l : List α} {last : α} {j : Nat} {z : α} (h : l[j]? = some z) : prevL last l (j + 1) = z := by
  unfold prevL
  rw [if_neg (by omega), Nat.add_sub_cancel, List.getD_eq_getElem?_getD, h]
  rfl
def encS (x : List Nat × List Nat) : Array Value := #[cz x.1, cz x.2]
set_option maxRecDepth 100000 in
set_option maxHeartbeats 2000000 in
theorem sides_gives (m : Nat) {w0 : World} {A : Option Addr} {n c : Nat} {ps : List (List Nat)} {last : List Nat} (hR : Rw w0 1 A n (ps.map cz)) (hn : 1 ≤ n) (hn4 : n ≤ 400) (hl : ps[n - 1]? = some last) :
    Gives Fence.wide (m + 2) Try.prog 18 #[.slice A n c] encS (sidesL last ps) w0.heap.size w0 := by
  intro l J Jx W hJb hY h0
  have hps : ps.length = n := by have := hR.1; rw [List.length_map] at this; omega
  obtain ⟨b, o, rfl, hbl, hc⟩ := hR.at_ (by omega)
  have HJB := hide hJb
  have HY := hide hY
  have HPS := hide hps
  have HCC := hide (fun (W' : World) (hW : Below w0.heap.size w0 W') (j : Nat) (p : List Nat) (hp : ps[j]? = some p) => (hW.cell (p := ⟨b, o + j, none⟩) hbl).trans (hc j (cz p) (by rw [List.getElem?_map, hp]; rfl)))
  have x0 : W.cell? ⟨b, o + (n - 1), none⟩ = some (cz last) := HCC.out W (hJb [] W h0) (n - 1) last hl
  have e2 : wrap64 ((n : Int) - 1) = ((n - 1 : Nat) : Int) := by unfold wrap64; omega
  have hi : ((n - 1 : Nat) : Int) < (n : Int) := by omega
  have hi2 : n - 1 < n := by omega
  have H0 := hide h0
  clear hJb hY hR hc hps h0 hl
  refine callsIn_of_wp Try.func18 rfl trivial ?_ rfl
  simp only [Try.ntmps18, List.size_toArray, List.length_cons, List.length_nil, Nat.reduceAdd, Nat.reduceSub, Array.replicate_succ, Array.replicate_zero, List.push_toArray, List.append_toArray, List.nil_append, List.cons_append]
  gi_wp2
  gi_loopw [4, 15] (fun x4 x15 wr => ∃ (j : Nat), x4 = cz (prevL last ps j) ∧ x15 = .int .i64 (j : Int) ∧ j ≤ n ∧ J ((sidesL last ps).take j) wr) (fun _ x15 _ => n - (intOf x15).toNat)
  case atStart => exact ⟨0, rfl, rfl, Nat.zero_le _, H0.out⟩
  case round =>
    obtain ⟨j, rfl, rfl, hj, hJ⟩ := hrel
    rename World => wz
    have HJ := hide hJ
    by_cases hjn : j < n
    · obtain ⟨q, hq⟩ : ∃ q, ps[j]? = some q := ⟨ps[j]'(by rw [HPS.out]; exact hjn), List.getElem?_eq_getElem _⟩
      have HQ := hide hq
      have x1 := HCC.out wz (HJB.out _ _ hJ) j q hq
      obtain ⟨fn, tmps, assign, body, hy, hR⟩ := HY.out ((sidesL last ps).take j) (prevL last ps j, q) wz (by rw [← sides_take hq]; exact List.take_prefix _ _) hJ
      have HR := hide hR
      dsimp only [encS] at hy
      have HZ := hide (show cz (prevL last ps (j + 1)) = cz q by rw [prev_next hq])
      clear hR hq hJ x0
      generalize cz q = zq at *
      generalize cz (prevL last ps j) = zp at *
      gi_wp2
      refine HR.out.mono ?_
      rintro e W3 (⟨rfl, hJ3⟩ | ⟨rfl, hJx3⟩)
      · have HJ3 := hide hJ3
        clear hJ3
        gi_wp2
        go_roundw
        case rel => exact ⟨j + 1, HZ.out.symm, by go_num, by omega, by rw [sides_take HQ.out]; exact HJ3.out⟩
        case measure => simp [intOf]; omega
      · have HJ3 := hide hJx3
        clear hJx3
        gi_wp2
        refine bodyPost_ret (results_none rfl _ _ _) rfl ?_
        exact ⟨⟨_, rfl⟩, .inr ⟨_, by rw [← sides_take HQ.out]; exact List.take_prefix _ _, HJ3.out⟩⟩
    · obtain rfl : j = n := by omega
      have HF := hide (show J (sidesL last ps) wz from by
        have hl : (sidesL last ps).take j = sidesL last ps := List.take_of_length_le (by rw [sides_len, HPS.out]; exact Nat.le_refl _)
        rw [hl] at hJ
        exact hJ)
      clear hJ x0
      gi_wp2
      go_end0
      exact ⟨⟨_, rfl⟩, .inl HF.out⟩
end Go.Proofs.Ytlgdllohmmmegaa
