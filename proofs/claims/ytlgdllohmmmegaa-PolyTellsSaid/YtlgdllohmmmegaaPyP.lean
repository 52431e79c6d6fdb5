/- poly: outlines the other way round, and begun elsewhere: plain laws. -/
import Derived.Test.YtlgdllohmmmegaaPyW
set_option linter.unusedSimpArgs false
set_option linter.unusedVariables false
namespace Go.Proofs.Ytlgdllohmmmegaa
open Go.RowKit
section
variable {α : Type}
theorem sides_append (z : α) : ∀ (a b : List α), sidesL z (a ++ b) = sidesL z a ++ sidesL (a.getLastD z) b
  | [], b => rfl
  | x :: a, b => by
    have h := sides_append x a b
    simp only [List.cons_append, sidesL, h]
    congr 2
    cases a <;> rfl
/-- The pairs of neighbours. -/
def links : List α → List (α × α)
  | [] => []
  | z :: zs => sidesL z zs
theorem links_snoc (z y : α) (l : List α) : links ((z :: l) ++ [y]) = links (z :: l) ++ [(l.getLastD z, y)] := by
  show sidesL z (l ++ [y]) = _
  rw [sides_append]
  rfl
theorem links_rev : ∀ (l : List α), (links l.reverse).Perm ((links l).map fun x => (x.2, x.1))
  | [] => List.Perm.refl _
  | [z] => List.Perm.refl _
  | z :: y :: l => by
    have h := links_rev (y :: l)
    have hr : ∃ a t, (y :: l).reverse = a :: t := by
      cases hh : (y :: l).reverse with
      | nil => simp at hh
      | cons a t => exact ⟨a, t, rfl⟩
    obtain ⟨a, t, ha⟩ := hr
    have hl : t.getLastD a = y := by
      have : (a :: t).getLast? = some y := by rw [← ha, List.getLast?_reverse]; rfl
      rw [List.getLast?_cons] at this
      simpa [List.getLastD_eq_getLast?] using this
    rw [List.reverse_cons, ha, links_snoc, hl]
    rw [ha] at h
    show (links (a :: t) ++ [(y, z)]).Perm ((y, z) :: (links (y :: l)).map fun x => (x.2, x.1))
    exact (List.perm_append_singleton _ _).trans (h.cons _)
/-- The other way round: the same sides, turned. -/
theorem cyc_rev (d : α) (l : List α) : (sidesL (l.reverse.getLastD d) l.reverse).Perm ((sidesL (l.getLastD d) l).map fun x => (x.2, x.1)) := by
  cases l with
  | nil => exact List.Perm.refl _
  | cons z l =>
    have hr : ∃ a t, (z :: l).reverse = a :: t := by
      cases hh : (z :: l).reverse with
      | nil => simp at hh
      | cons a t => exact ⟨a, t, rfl⟩
    obtain ⟨a, t, ha⟩ := hr
    have h := links_rev (z :: l)
    have h1 : (z :: l).reverse.getLastD d = z := by
      rw [List.getLastD_eq_getLast?, List.getLast?_reverse]
      rfl
    have h2 : (z :: l).getLastD d = a := by
      rw [List.getLastD_eq_getLast?, ← List.head?_reverse, ha]
      rfl
    rw [h1, h2]
    rw [ha] at h ⊢
    show ((z, a) :: links (a :: t)).Perm ((z, a) :: (links (z :: l)).map fun x => (x.2, x.1))
    exact h.cons _
/-- Begun elsewhere: the same sides. -/
theorem cyc_move (d : α) (a b : List α) : (sidesL ((b ++ a).getLastD d) (b ++ a)).Perm (sidesL ((a ++ b).getLastD d) (a ++ b)) := by
  cases a with
  | nil => rw [List.append_nil, List.nil_append]
  | cons x a =>
    cases b with
    | nil => rw [List.append_nil, List.nil_append]
    | cons y b =>
      have h1 : ((y :: b) ++ (x :: a)).getLastD d = (x :: a).getLastD d := by rw [List.getLastD_eq_getLast?, List.getLast?_append, List.getLastD_eq_getLast?, List.getLast?_cons]; rfl
      have h2 : ((x :: a) ++ (y :: b)).getLastD d = (y :: b).getLastD d := by rw [List.getLastD_eq_getLast?, List.getLast?_append, List.getLastD_eq_getLast?, List.getLast?_cons]; rfl
      have e1 : (x :: a).getLastD ((y :: b).getLastD d) = (x :: a).getLastD d := by cases a <;> rfl
      have e2 : (y :: b).getLastD ((x :: a).getLastD d) = (y :: b).getLastD d := by cases b <;> rfl
      rw [h1, h2, sides_append, sides_append, e1, e2]
      exact List.perm_append_comm
end
theorem crs_swap (a b : Int × Int) : crs b a = -crs a b := by
  unfold crs
  rw [Int.mul_comm b.1, Int.mul_comm b.2]
  omega
theorem lef_swap (a b p : Int × Int) : lef b a p = -lef a b p := by
  unfold lef crs
  simp only [Int.sub_mul, Int.mul_sub]
  rw [Int.mul_comm b.2 b.1, Int.mul_comm a.2 a.1, Int.mul_comm a.2 b.1, Int.mul_comm b.2 a.1]
  omega
theorem onB_swap (a b p : Int × Int) : onB b a p = onB a b p := by
  have h1 : decide (crs (a.1 - b.1, a.2 - b.2) (p.1 - b.1, p.2 - b.2) = 0) = decide (crs (b.1 - a.1, b.2 - a.2) (p.1 - a.1, p.2 - a.2) = 0) := by
    have h := lef_swap a b p
    unfold lef at h
    rw [h]
    congr 1
    simp
  unfold onB
  rw [h1, Int.min_comm b.1, Int.min_comm b.2, Int.max_comm b.1, Int.max_comm b.2]
theorem wndB_swap (a b p : Int × Int) : wndB b a p = -wndB a b p := by
  unfold wndB
  rw [lef_swap]
  split <;> split <;> (try split) <;> (try split) <;> omega
theorem sum_perm {l m : List Int} (h : l.Perm m) : l.sum = m.sum := by
  induction h with
  | nil => rfl
  | cons x _ ih => simp [ih]
  | swap x y l => simp; omega
  | trans _ _ h1 h2 => exact h1.trans h2
theorem any_perm {α : Type} {f : α → Bool} {l m : List α} (h : l.Perm m) : l.any f = m.any f := by
  rw [Bool.eq_iff_iff, List.any_eq_true, List.any_eq_true]
  exact ⟨fun ⟨x, hx, hf⟩ => ⟨x, h.mem_iff.1 hx, hf⟩, fun ⟨x, hx, hf⟩ => ⟨x, h.mem_iff.2 hx, hf⟩⟩
theorem sum_neg (l : List Int) : (l.map fun x => -x).sum = -l.sum := by
  induction l with
  | nil => rfl
  | cons x l ih => simp [ih]; omega
section
variable (ps : List (List Nat)) (p : List Nat)
theorem area_rev : areaL ps.reverse = -areaL ps := by
  unfold areaL lastP sumC
  rw [sum_perm ((cyc_rev [] ps).map _), List.map_map, ← sum_neg, List.map_map]
  congr 1
  refine List.map_congr_left fun x _ => ?_
  exact crs_swap _ _
theorem area_move (a b : List (List Nat)) : areaL (b ++ a) = areaL (a ++ b) := by
  unfold areaL lastP sumC
  exact sum_perm ((cyc_move [] a b).map _)
theorem wnd_rev : wndL ps.reverse p = -wndL ps p := by
  unfold wndL lastP wndS
  rw [sum_perm ((cyc_rev [] ps).map _), List.map_map, ← sum_neg, List.map_map]
  congr 1
  refine List.map_congr_left fun x _ => ?_
  exact wndB_swap _ _ _
theorem wnd_move (a b : List (List Nat)) : wndL (b ++ a) p = wndL (a ++ b) p := by
  unfold wndL lastP wndS
  exact sum_perm ((cyc_move [] a b).map _)
theorem on_rev : onL ps.reverse p = onL ps p := by
  unfold onL lastP
  rw [any_perm (cyc_rev [] ps), List.any_map]
  congr 1
  funext x
  exact onB_swap _ _ _
theorem on_move (a b : List (List Nat)) : onL (b ++ a) p = onL (a ++ b) p := by
  unfold onL lastP
  exact any_perm (cyc_move [] a b)
theorem right_rev : rightL ps.reverse = rightL ps := by
  unfold rightL
  rw [List.length_reverse, List.all_reverse]
theorem right_move (a b : List (List Nat)) : rightL (b ++ a) = rightL (a ++ b) := by
  unfold rightL
  rw [List.length_append, List.length_append, List.all_append, List.all_append, Nat.add_comm, Bool.and_comm (b.all small)]
/-- How often, or 0 on it. -/
def windsL : Int := if onL ps p then 0 else wndL ps p
theorem winds_rev : windsL ps.reverse p = -windsL ps p := by
  unfold windsL
  rw [on_rev, wnd_rev]
  split <;> omega
theorem winds_move (a b : List (List Nat)) : windsL (b ++ a) p = windsL (a ++ b) p := by
  unfold windsL
  rw [on_move, wnd_move]
end
end Go.Proofs.Ytlgdllohmmmegaa
