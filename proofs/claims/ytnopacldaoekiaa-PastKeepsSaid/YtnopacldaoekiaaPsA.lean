/- past: trees in a row, and what stays when a past is changed. -/
import Derived.Test.YtnopacldaoekiaaEx
import Derived.Test.YtnopacldaoekiaaTrD
set_option linter.unusedSimpArgs false
set_option linter.unusedVariables false
namespace Go.Proofs.Ytnopacldaoekiaa
open Go.RowKit
theorem Rw.ex {w w' : World} {p n sz : Nat} {A : Option Addr} {vs : List Value} (h : Rw w sz A n vs) (hx : Ex p w w') (hne : 0 < n → ∀ o, (∀ (j : Nat) u, vs[j]? = some u → w.cell? ⟨p, o + j, none⟩ = some u) → False) : Rw w' sz A n vs := by
  refine ⟨h.1, fun hn => ?_⟩
  obtain ⟨b, o, h1, hl, hc⟩ := h.2 hn
  have hb : b ≠ p := by
    rintro rfl
    exact hne hn o hc
  refine ⟨b, o, h1, Nat.lt_of_lt_of_le hl hx.size, fun j u hu => ?_⟩
  rw [World.cell?_of_block (w := w) (a := ⟨b, o + j, none⟩) (hx.block b hl hb)]
  exact hc j u hu
/-- A past's own block. -/
def PastBlk (w : World) (p : Nat) : Prop := ∃ A n c a, Blk w p 152 #[.slice A n c, .int .i64 a]
section
variable {w w' : World} {p k : Nat}
theorem Pt.ex {A : Option Addr} {z : List Nat} (h : Pt w A k z) (hP : PastBlk w p) (hx : Ex p w w') : Pt w' A k z := by
  obtain ⟨tA, tn, tc, a, hB⟩ := hP
  refine ⟨h.1, h.2.1.ex hx fun hn o hc => ?_, h.2.2⟩
  have h1 := h.1
  cases z with
  | nil => simp at h1; omega
  | cons y ys =>
    have h2 := hc 0 (.int .u64 (y : Int)) (by simp [u64s])
    rw [hB.cell] at h2
    rcases o with _ | _ | o <;> simp at h2
theorem SlotsAt_n.ex {g : Nat} {L : Th} (h : SlotsAt_n w g k L) (hP : PastBlk w p) (hx : Ex p w w') : SlotsAt_n w' g k L := by
  obtain ⟨tA, tn, tc, a, hB⟩ := hP
  obtain ⟨h1, h2, h3, h4, A, m, c, h5, h6, h7⟩ := h
  refine ⟨h1, h2, h3, h4, A, m, c, hx.blk h5 (h5.ne_ hB (by decide)), h6.ex hx fun hn o hc => ?_, h7⟩
  have hl := h6.1
  have hg : (clv (cellsOf (.pointer none) k L))[2]? = some (clv (cellsOf (.pointer none) k L))[2] := List.getElem?_eq_getElem (by omega)
  have h8 := hc 2 _ hg
  rw [hB.cell] at h8
  simp at h8
theorem NodeOf.ex {g : Nat} {lv : Int} {pre : List Nat} {es : List Ent} (h : NodeOf w k g lv pre es) (hP : PastBlk w p) (hx : Ex p w w') : NodeOf w' k g lv pre es := by
  induction h with
  | leaf hv hp hc hB =>
    obtain ⟨tA, tn, tc, a, hB'⟩ := id hP
    exact .leaf hv (hp.ex hP hx) hc (hx.blk hB (hB.ne_ hB' (by decide)))
  | fork ks hlv hp hc hz hk hl ha hs h2 hS hB ih =>
    obtain ⟨tA, tn, tc, a, hB'⟩ := id hP
    exact .fork ks hlv (hp.ex hP hx) hc hz ih hl ha hs h2 (hS.ex hP hx) (hx.blk hB (hB.ne_ hB' (by decide)))
theorem TreeOf.ex {t : Nat} {es : List Ent} (h : TreeOf w k t es) (hP : PastBlk w p) (hx : Ex p w w') : TreeOf w' k t es := by
  obtain ⟨h1, h2, h3⟩ := h
  obtain ⟨tA, tn, tc, a, hB'⟩ := id hP
  refine ⟨h1, h2, ?_⟩
  rcases h3 with ⟨h3, h4⟩ | ⟨g, lv, pre, h3, h4⟩
  · exact .inl ⟨hx.blk h3 (Blk.ne_ h3 hB' (by decide)), h4⟩
  · exact .inr ⟨g, lv, pre, hx.blk h3 (Blk.ne_ h3 hB' (by decide)), h4.ex hP hx⟩
end
/-- A past's trees, and where it stands. -/
def PastAt (w : World) (p : Nat) (ts : List Nat) (a : Nat) : Prop :=
  a < ts.length ∧ ts.length ≤ 51 ∧ ∃ A c, Blk w p 152 #[.slice A ts.length c, .int .i64 (a : Int)] ∧ ts.length ≤ c ∧ c ≤ maxLen ∧ TyRow w 40 A ts.length ∧ Rw w 1 A ts.length (ptrs ts)
section
variable {w w' : World} {p k a : Nat} {ts : List Nat}
theorem PastAt.blk (h : PastAt w p ts a) : PastBlk w p := by
  obtain ⟨h1, h2, A, c, h3, -⟩ := h
  exact ⟨A, _, c, _, h3⟩
theorem PastAt.below (h : PastAt w p ts a) (hb : Below w.heap.size w w') : PastAt w' p ts a := by
  obtain ⟨h1, h2, A, c, h3, h4, h5, h6, h7⟩ := h
  exact ⟨h1, h2, A, c, h3.below hb, h4, h5, h6.below hb, h7.below hb⟩
end
end Go.Proofs.Ytnopacldaoekiaa
