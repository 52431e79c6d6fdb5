/- poly: is a point on an outline? -/
import Derived.Test.YtlgdllohmmmegaaPyE
set_option linter.unusedSimpArgs false
set_option linter.unusedVariables false
namespace Go.Proofs.Ytlgdllohmmmegaa
open Go.RowKit Go.Shelf
attribute [local go_sem] Oper.semAt_some
def onX (p : List Nat) (x : List Nat × List Nat) : Bool := onB (ptI x.1) (ptI x.2) (ptI p)
def onL (ps : List (List Nat)) (p : List Nat) : Bool := (sidesL (lastP ps) ps).any (onX p)
theorem boxed_keep {W W' : World} {B B0 : Nat} {t : TypeId} {v : Value} {row : Option Nat} (h : Boxed W B t v) (hg : W.grownBy W' row) (hrow : ∀ r, row = some r → B0 ≤ r ∧ ∃ o : Obj, W.heap[r]? = some o ∧ o.isCells = false) : Boxed W' B t v :=
  h.kept hg (fun e => by
    obtain ⟨_, o, ho, hc⟩ := hrow _ e.symm
    have h1 : W.heap[B]? = _ := h
    rw [h1] at ho
    injection ho with ho
    subst ho
    cases hc)
theorem boxed_alloc {W : World} {B : Nat} {t : TypeId} {v : Value} (h : Boxed W B t v) (o : Obj) : Boxed (W.alloc o) B t v := h.alloc o
theorem boxed_other {W : World} {B B' i : Nat} {t : TypeId} {v : Value} (u : Value) (h : Boxed W B t v) (hne : B ≠ B') : Boxed (W.setCell ⟨B', i, none⟩ u) B t v := (Below.heap_setCell W ⟨B', i, none⟩ u B hne).trans h
set_option maxRecDepth 100000 in
set_option maxHeartbeats 4000000 in
theorem py_ring_on_in {w : World} {A : Option Addr} {c : Nat} {ps : List (List Nat)} {p : List Nat} (hRw : Rw w 1 A ps.length (ps.map cz)) (hr : rightL ps = true) (hp : small p = true) :
    CallsIn Fence.wide 5 Try.prog 22 #[.slice A ps.length c, cz p] w fun e w' => e = .returned (.bool (onL ps p)) ∧ Below w.heap.size w w' := by
  obtain ⟨h3, h4, hsm⟩ := right_iff hr
  have HG := hide (sides_gives 2 (c := c) hRw (by omega) (by omega) (last_at (by omega)))
  have HSS := hide (fun x (hx : x ∈ sidesL (lastP ps) ps) => sides_small hr hx)
  have HPS := hide hp
  have b1 := Boxed.new w 52 (cz p)
  have hbo : Boxed ((w.alloc (.cells #[cz p] 52)).alloc (.cells #[.bool false] 4)) w.heap.size 52 (cz p) := b1.alloc _
  have hbr := Boxed.new (w.alloc (.cells #[cz p] 52)) 4 (.bool false)
  rw [World.size_alloc] at hbr
  have HBO := hide hbo
  have HBR := hide hbr
  have HB1 := hide (((Below.refl w.heap.size w).alloc (Nat.le_refl _) (.cells #[cz p] 52)).alloc (by simp) (.cells #[.bool false] 4))
  obtain ⟨xp, yp, ep⟩ : ∃ a b, cz p = .complex .f64 a b := ⟨_, _, rfl⟩
  have HEP := hide ep
  obtain ⟨rb, hrb⟩ : ∃ t, t = onL ps p := ⟨_, rfl⟩
  have HRB := hide hrb
  rw [← hrb]
  clear hRw hr hp b1 hbo hbr hsm hrb
  have hsc := st_complex
  rw [ep] at HBO HB1 ⊢
  clear ep
  refine callsIn_of_wp_marks Try.func22 rfl trivial ?_ rfl
  simp only [Try.ntmps22, List.size_toArray, List.length_cons, List.length_nil, Nat.reduceAdd, Nat.reduceSub, Array.replicate_succ, Array.replicate_zero, List.push_toArray, List.append_toArray, List.nil_append, List.cons_append]
  gi_wp2
  rw [HEP.out] at HBR
  refine range_bound (encs := encS) (n := 5) (ps := #[9, 10]) rfl (by decide) (gf := 18) (fi := #[.slice A ps.length c]) rfl trivial (enters_of Try.func18 (by kernel_rfl) rfl) (fun _ => rfl) HG.out
    (fun pre W => Boxed W w.heap.size 52 (.complex .f64 xp yp) ∧ Boxed W (w.heap.size + 1) 4 (.bool false) ∧ pre.any (onX p) = false ∧ Below w.heap.size w W)
    (fun c pre W => c = .ret ∧ Boxed W (w.heap.size + 1) 4 (.bool true) ∧ pre.any (onX p) = true ∧ Below w.heap.size w W)
    (fun pre W W' row ⟨h1, h2, h3, h4⟩ hg hrow => ⟨boxed_keep h1 hg hrow, boxed_keep h2 hg hrow, h3, h4.grown hg h4.size (fun k e => by have := (hrow k e).1; simp at this; omega)⟩)
    (fun c pre W W' row ⟨h1, h2, h3, h4⟩ hg hrow => ⟨h1, boxed_keep h2 hg hrow, h3, h4.grown hg h4.size (fun k e => by have := (hrow k e).1; simp at this; omega)⟩)
    (fun pre W h => h.2.2.2) ⟨HBO.out, HBR.out, rfl, HB1.out⟩ ?round ?done ?stop
  case round =>
    rintro l pre x W - hx
    have hmem : x ∈ sidesL (lastP ps) ps := hx.subset (by simp)
    obtain ⟨hs1, hs2⟩ := HSS.out x hmem
    have hon := fun W => py_on (cz_ok hs1) (cz_ok hs2) (cz_ok HPS.out) W
    rw [HEP.out] at hon
    have HSN := hide (show ∀ t, onB (ptI x.1) (ptI x.2) (ptI p) = t → (pre ++ [x]).any (onX p) = (pre.any (onX p) || t) from fun t ht => by rw [List.any_append]; simp [onX, ht])
    obtain ⟨xa, ya, ea, -⟩ := cz_ok hs1
    obtain ⟨xb, yb, eb, -⟩ := cz_ok hs2
    rw [ea, eb] at hon
    have hen : encS x = #[.complex .f64 xa ya, .complex .f64 xb yb] := by unfold encS; rw [ea, eb]
    rw [hen]
    have HON := hide hon
    clear hen ea eb hs1 hs2 hmem hon
    gi_wp2
    refine ⟨by first | rfl | trivial, ?_⟩
    rintro W2 ⟨hbz, hbr, hany, hbl⟩
    have y0 := hbz.cell
    have y1 := hbr.cell
    have z1 := hbr.frozen
    have HBZ2 := hide hbz
    have HBR2 := hide hbr
    have HAN := hide hany
    have HBL2 := hide hbl
    have hmx : Try.prog.follows .mixedOrders = true := by kernel_rfl
    clear hbz hbr hany hbl
    cases ht : onB (ptI x.1) (ptI x.2) (ptI p) with
    | false =>
      have HS2 := hide (HSN.out _ ht)
      rw [ht] at HON
      clear ht
      gi_wp2_with (refine ⟨trivial, ?_⟩; gi_at_call 25; refine (CallsIn.inRound l (callsIn_wide.2 (HON.out _))).mono ?_; rintro e w' ⟨rfl, rfl⟩)
      exact ⟨KeepsOthers.refl _, trivial, HBZ2.out, HBR2.out, by rw [HS2.out, HAN.out]; rfl, HBL2.out⟩
    | true =>
      have HS2 := hide (HSN.out _ ht)
      rw [ht] at HON
      clear ht
      gi_wp2_with (refine ⟨trivial, ?_⟩; gi_at_call 25; refine (CallsIn.inRound l (callsIn_wide.2 (HON.out _))).mono ?_; rintro e w' ⟨rfl, rfl⟩)
      exact ⟨KeepsOthers.setCell _ _ _, rfl, HBR2.out.set _, by rw [HS2.out, HAN.out]; rfl, HBL2.out.setCell (p := ⟨w.heap.size + 1, 0, none⟩) (Nat.le_succ _) _⟩
  case done =>
    rintro D W hD ⟨hbz, hbr, hany, hbl⟩ hK
    have y1 := hbr.cell
    have z1 := hbr.frozen
    have HBR2 := hide hbr
    have HBL2 := hide hbl
    have HF := hide (show rb = false from HRB.out.trans hany)
    have hK2 : (W.setCell ⟨w.heap.size + 1, 0, none⟩ (.bool false)).heap[D]? = some (.deferred (some [])) := (KeepsOthers.setCell W ⟨w.heap.size + 1, 0, none⟩ (.bool false)).same D _ hK rfl
    have HR2 := hide (cell_kept (hbr.set (.bool false)).cell (grownBy_putObj' _ D (.deferred none)) (fun r e => by cases e; exact ⟨_, hK2, rfl⟩))
    have HD := hide hD
    clear hbz hbr hany hbl hD
    gi_wp2
    refine ⟨by simp, .inl ⟨_, _, rfl, run_takeDeferred hK2, ?_⟩⟩
    refine ⟨.bool false, ?_, ?_, ?_⟩
    · have hr := HR2.out
      simp [results, Try.results22, go_sem, hr]
    · rw [HF.out]
    · exact (HBL2.out.setCell (p := ⟨w.heap.size + 1, 0, none⟩) (Nat.le_succ _) _).trans (belowK_b (w := w) (Nat.le_refl _) _ D _ _ (by have := HD.out; simp at this; omega) hK2 rfl rfl)
  case stop =>
    rintro D c' pre W hD hpre ⟨rfl, hbr, hany, hbl⟩ hK
    have HF := hide (show rb = true from HRB.out.trans (by
      obtain ⟨rest, hrest⟩ := hpre
      unfold onL
      rw [← hrest, List.any_append, hany, Bool.true_or]))
    have HBL2 := hide hbl
    have HR2 := hide (cell_kept hbr.cell (grownBy_putObj' _ D (.deferred none)) (fun r e => by cases e; exact ⟨_, hK, rfl⟩))
    have HD := hide hD
    clear hbr hany hbl hD
    gi_wp2
    refine ⟨by simp, .inl ⟨_, _, rfl, run_takeDeferred hK, ?_⟩⟩
    refine ⟨.bool true, ?_, ?_, ?_⟩
    · have hr := HR2.out
      simp [results, Try.results22, go_sem, hr]
    · rw [HF.out]
    · exact HBL2.out.trans (belowK_b (w := w) (Nat.le_refl _) _ D _ _ (by have := HD.out; simp at this; omega) hK rfl rfl)
theorem py_ring_on {w : World} {A : Option Addr} {c : Nat} {ps : List (List Nat)} {p : List Nat} (hRw : Rw w 1 A ps.length (ps.map cz)) (hr : rightL ps = true) (hp : small p = true) :
    Calls Try.prog 22 #[.slice A ps.length c, cz p] w fun e w' => e = .returned (.bool (onL ps p)) ∧ Below w.heap.size w w' := callsIn_wide.1 (py_ring_on_in hRw hr hp)
end Go.Proofs.Ytlgdllohmmmegaa
