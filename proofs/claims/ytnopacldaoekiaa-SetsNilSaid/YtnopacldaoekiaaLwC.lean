/- pantilelaw08: what a tree tells of its entries; the places that the reference tells. -/
import Derived.Test.YtnopacldaoekiaaLwB
import Derived.Test.YtnopacldaoekiaaWkD
import Derived.Test.YtnopacldaoekiaaWkE
set_option linter.unusedSimpArgs false
set_option linter.unusedVariables false
namespace Go.Proofs.Ytnopacldaoekiaa
open Go.RowKit
section
variable {w : World} {k t : Nat} {top : Option (Nat × NT)}
theorem tr_root_top (h : TreeBlk w t k (top.map fun y => ⟨y.1, 0, none⟩)) : Calls Try.prog 31 #[.pointer (some ⟨t, 0, none⟩)] w fun e w' => e = .returned (ptrOf top) ∧ w = w' := tr_root h
theorem walk_all_top (h : TopOk w k top) (hk : k ≤ 16) (hl : (esOf top).length ≤ 65536) : Calls Try.prog 27 #[ptrOf top] w (AllOut w k (esOf top)) := by
  cases top with
  | none => exact walk_all_nil w k
  | some x => exact walk_all (h x rfl) hk hl
theorem walk_from_top (h : TopOk w k top) (hk1 : 1 ≤ k) (hk : k ≤ 16) {PA : Option Addr} {pc : Nat} {p : List Nat} (hp : Pt w PA k p) : Calls Try.prog 23 #[ptrOf top, .slice PA k pc] w (FromOut w k p (esOf top)) := by
  cases top with
  | none => exact (walk_from_nil PA k pc w k).mono fun _ _ h => ⟨[], [], ⟨rfl, fun e h => (by cases h), fun e h => (by cases h)⟩, h⟩
  | some x => exact walk_from (h x rfl) hk1 hk hp
theorem walk_upto_top (h : TopOk w k top) (hk1 : 1 ≤ k) (hk : k ≤ 16) {PA : Option Addr} {pc : Nat} {p : List Nat} (hp : Pt w PA k p) : Calls Try.prog 24 #[ptrOf top, .slice PA k pc] w (UpOut w k p (esOf top)) := by
  cases top with
  | none => exact (walk_upto_nil PA k pc w k).mono fun _ _ h => ⟨[], [], ⟨rfl, fun e h => (by cases h), fun e h => (by cases h)⟩, h⟩
  | some x => exact walk_upto (h x rfl) hk1 hk hp
theorem walk_from_top_dim (h : TopOk w k top) (A : Option Addr) (n c : Nat) (hn : n ≠ k) : Calls Try.prog 23 #[ptrOf top, .slice A n c] w (EntOut w k none) := by
  cases top with
  | none => exact walk_from_nil A n c w k
  | some x => exact walk_from_dim (h x rfl) A n c hn
theorem walk_upto_top_dim (h : TopOk w k top) (A : Option Addr) (n c : Nat) (hn : n ≠ k) : Calls Try.prog 24 #[ptrOf top, .slice A n c] w (EntOut w k none) := by
  cases top with
  | none => exact walk_upto_nil A n c w k
  | some x => exact walk_upto_dim (h x rfl) A n c hn
end
theorem head_at {es A B : List Ent} (h : es = A ++ B) : B.head? = if ((A.length : Nat) : Int) < 0 then none else es[((A.length : Nat) : Int).toNat]? := by
  rw [if_neg (by omega), Int.toNat_natCast, h, List.getElem?_append_right (Nat.le_refl _), Nat.sub_self, List.head?_eq_getElem?]
theorem last_at {es A B : List Ent} (h : es = A ++ B) : A.getLast? = if ((A.length : Nat) : Int) - 1 < 0 then none else es[(((A.length : Nat) : Int) - 1).toNat]? := by
  by_cases h0 : A.length = 0
  · rw [if_pos (by omega), List.length_eq_zero_iff.1 h0]
    rfl
  · rw [if_neg (by omega), show (((A.length : Nat) : Int) - 1).toNat = A.length - 1 by omega, h, List.getElem?_append_left (by omega), List.getLast?_eq_getElem?]
theorem ref_from_cut {w : World} {A B : Option Addr} {n c d k : Nat} {rows : List ER} {p : List Nat} {L R : List Ent} (hE : EntsAt w A n rows) (hkk : ∀ r ∈ rows, r.n = k) (hp : Pt w B k p) (hk : k ≤ 40) (hn : n ≤ 65536) (hS : SortR k rows) (hc : Cut2 p (ents rows) L R) :
    Calls Try.prog 33 #[.slice A n c, .slice B k d] w fun e w' => e = .returned (.int .i64 ((L.length : Nat) : Int)) ∧ w = w' := by
  have h := ref_from8 (c := c) (d := d) hE hkk hp hk hn
  rw [(hc.place (k := k) (fun e he => by unfold ents at he; obtain ⟨r, hr, rfl⟩ := List.mem_map.1 he; exact hS.1 r hr) hp.zp).1] at h
  exact h
theorem ref_upto_cut {w : World} {A B : Option Addr} {n c d k : Nat} {rows : List ER} {p : List Nat} {L R : List Ent} (hE : EntsAt w A n rows) (hkk : ∀ r ∈ rows, r.n = k) (hp : Pt w B k p) (hk : k ≤ 40) (hn : n ≤ 65536) (hS : SortR k rows) (hc : Cut3 p (ents rows) L R) :
    Calls Try.prog 34 #[.slice A n c, .slice B k d] w fun e w' => e = .returned (.int .i64 ((L.length : Nat) - 1 : Int)) ∧ w = w' := by
  refine (ref_upto8 (c := c) (d := d) hE hkk hp hk hn).mono ?_
  rintro e w' ⟨⟨j, rfl, hj⟩, rfl⟩
  rw [(hj.cut hc hS.1 hp.zp).1]
  exact ⟨rfl, rfl⟩
end Go.Proofs.Ytnopacldaoekiaa
