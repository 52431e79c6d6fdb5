/- poly.Area. -/
import Derived.Test.YtlgdllohmmmegaaPyS
set_option linter.unusedSimpArgs false
set_option linter.unusedVariables false
namespace Go.Proofs.Ytlgdllohmmmegaa
open Go.RowKit Go.Shelf
attribute [local go_sem] Oper.semAt_some
def sumC (xs : List (List Nat × List Nat)) : Int := (xs.map fun x => crs (ptI x.1) (ptI x.2)).sum
theorem sumC_snoc (xs : List (List Nat × List Nat)) (x : List Nat × List Nat) : sumC (xs ++ [x]) = sumC xs + crs (ptI x.1) (ptI x.2) := by
  unfold sumC
  rw [List.map_append, List.sum_append]
  simp
def lastP (ps : List (List Nat)) : List Nat := ps.getLastD []
def areaL (ps : List (List Nat)) : Int := sumC (sidesL (lastP ps) ps)
theorem right_iff {ps : List (List Nat)} (h : rightL ps = true) : 3 ≤ ps.length ∧ ps.length ≤ 400 ∧ ∀ p ∈ ps, small p = true := by
  unfold rightL at h
  rw [Bool.and_eq_true, decide_eq_true_eq, List.all_eq_true] at h
  exact ⟨h.1.1, h.1.2, h.2⟩
theorem last_at {ps : List (List Nat)} (h : 1 ≤ ps.length) : ps[ps.length - 1]? = some (lastP ps) := by
  unfold lastP
  rw [List.getLastD_eq_getLast?, List.getLast?_eq_getElem?]
  rw [List.getElem?_eq_getElem (by omega)]
  rfl
theorem sides_mem {α : Type} {l : List α} : ∀ {last : α} {x : α × α}, x ∈ sidesL last l → (x.1 = last ∨ x.1 ∈ l) ∧ x.2 ∈ l := by
  induction l with
  | nil => intro last x h; cases h
  | cons z zs ih =>
    intro last x h
    rcases List.mem_cons.1 h with rfl | h
    · exact ⟨.inl rfl, List.mem_cons_self⟩
    · obtain ⟨h1, h2⟩ := ih h
      exact ⟨.inr (by rcases h1 with h1 | h1; rw [h1]; exact List.mem_cons_self; exact List.mem_cons_of_mem _ h1), List.mem_cons_of_mem _ h2⟩
theorem sides_small {ps : List (List Nat)} (h : rightL ps = true) {x : List Nat × List Nat} (hx : x ∈ sidesL (lastP ps) ps) : small x.1 = true ∧ small x.2 = true := by
  obtain ⟨h1, _, h2⟩ := right_iff h
  obtain ⟨g1, g2⟩ := sides_mem hx
  refine ⟨?_, h2 _ g2⟩
  rcases g1 with g1 | g1
  · rw [g1]
    exact h2 _ (List.mem_of_getElem? (last_at (by omega)))
  · exact h2 _ g1
theorem ptI_small {p : List Nat} (h : small p = true) : (ptI p).1.natAbs ≤ 1048576 ∧ (ptI p).2.natAbs ≤ 1048576 := by
  obtain ⟨x, y, rfl, hx, hy⟩ := small_iff h
  exact ⟨by show ((x : Nat) : Int).natAbs ≤ _; omega, by show ((y : Nat) : Int).natAbs ≤ _; omega⟩
theorem sumC_small : ∀ (xs : List (List Nat × List Nat)), (∀ x ∈ xs, small x.1 = true ∧ small x.2 = true) → (sumC xs).natAbs ≤ xs.length * 2199023255552
  | [], _ => by simp [sumC]
  | x :: xs, h => by
    have h1 := sumC_small xs fun y hy => h y (List.mem_cons_of_mem _ hy)
    obtain ⟨h2, h3⟩ := h x List.mem_cons_self
    have h4 := crs_small (ptI_small h2).1 (ptI_small h2).2 (ptI_small h3).1 (ptI_small h3).2
    have e : sumC (x :: xs) = crs (ptI x.1) (ptI x.2) + sumC xs := by simp [sumC]
    rw [e, List.length_cons]
    omega
theorem conv_fi (src dst : TypeId) (b : Nat) (n : Int) (hs : (Try.prog.underlying src).isSome = true) (hd : Try.prog.underlying dst = some (.int .i64)) (h : FI b n) (hn : n.natAbs < 9007199254740992) (W : World) : (convert src dst (.float .f64 b)).run Try.prog W = .ok (.int .i64 n) W :=
  run_convert_float_int (w := W) src dst .f64 .i64 b n hs hd (fi_toInt h hn)
set_option maxRecDepth 100000 in
set_option maxHeartbeats 4000000 in
theorem py_area_in {w : World} {A : Option Addr} {n c : Nat} {rows : List LP} (h : LpsAt w A n rows) (hn : n ≤ 1000000) (hr : rightL (rows.map LP.p) = true) :
    CallsIn Fence.wide 5 Try.prog 10 #[.slice A n c] w fun e w' => e = .returned (.tuple #[.int .i64 (areaL (rows.map LP.p)), .int .i64 0]) ∧ Below w.heap.size w w' := by
  have HO := hide (py_open (c := c) h hn)
  have HR := hide hr
  clear h
  generalize rows.map LP.p = ps at *
  clear hr
  refine callsIn_of_wp_marks Try.func10 rfl trivial ?_ rfl
  simp only [Try.ntmps10, List.size_toArray, List.length_cons, List.length_nil, Nat.reduceAdd, Nat.reduceSub, Array.replicate_succ, Array.replicate_zero, List.push_toArray, List.append_toArray, List.nil_append, List.cons_append]
  gi_wp2_with (refine ⟨trivial, ?_⟩; gi_at_call 17; refine (callsIn_wide.2 HO.out).mono ?_)
  rintro e w1 ⟨⟨hf, _⟩ | ⟨_, A1, rfl, hRw⟩, hb⟩
  · rw [HR.out] at hf
    cases hf
  obtain ⟨h3, h4, hsm⟩ := right_iff HR.out
  have HB := hide hb
  have HG := hide (sides_gives 2 (c := ps.length) hRw (by omega) (by omega) (last_at (by omega)))
  have HBX := hide (Boxed.new w1 50 (.float .f64 0))
  have HB1 := hide ((Below.refl w1.heap.size w1).alloc (Nat.le_refl _) (.cells #[.float .f64 0] 50))
  have HSS := hide (fun x (hx : x ∈ sidesL (lastP ps) ps) => sides_small HR.out hx)
  have HLS := hide (sumC_small (sidesL (lastP ps) ps) (fun x hx => sides_small HR.out hx))
  have hsl : (sidesL (lastP ps) ps).length ≤ 400 := by rw [sides_len]; exact h4
  have hst := st_float
  clear hRw hb HO hsm
  gi_wp2
  refine range_bound (encs := encS) (n := 5) (ps := #[19, 20]) rfl (by decide) (gf := 18) (fi := #[.slice A1 ps.length ps.length]) rfl trivial (enters_of Try.func18 (by kernel_rfl) rfl) (fun _ => rfl) HG.out
    (fun pre W => (∃ r, Boxed W w1.heap.size 50 (.float .f64 r) ∧ FI r (sumC pre)) ∧ Below w1.heap.size w1 W)
    (fun _ _ _ => False) ?own (fun _ _ _ _ _ h _ _ => h.elim) (fun pre W h => h.2) ⟨⟨0, HBX.out, fi_zero⟩, HB1.out⟩ ?round ?done ?stop
  case own =>
    rintro pre W W' row ⟨⟨r, hbx, hf⟩, hbl⟩ hg hrow
    exact ⟨⟨r, hbx.kept hg (fun e => by
      obtain ⟨_, o, ho, hc⟩ := hrow _ e.symm
      have h1 : W.heap[w1.heap.size]? = _ := hbx
      rw [h1] at ho
      injection ho with ho
      subst ho
      cases hc), hf⟩, hbl.grown hg hbl.size (fun k e => by have := (hrow k e).1; simp at this; omega)⟩
  case round =>
    rintro l pre x W - hx
    have hmem : x ∈ sidesL (lastP ps) ps := hx.subset (by simp)
    obtain ⟨hs1, hs2⟩ := HSS.out x hmem
    have hpre : (sumC pre).natAbs ≤ 400 * 2199023255552 := by
      have h1 := sumC_small pre fun y hy => HSS.out y (hx.subset (List.mem_append_left _ hy))
      have h2 := hx.length_le
      rw [List.length_append] at h2
      exact Nat.le_trans h1 (Nat.mul_le_mul_right _ (by omega))
    obtain ⟨xa, ya, ea, fa1, fa2, la1, la2, la3, la4⟩ := cz_ok hs1
    obtain ⟨xb, yb, eb, fb1, fb2, lb1, lb2, lb3, lb4⟩ := cz_ok hs2
    obtain ⟨rc, fc, hcr⟩ := py_cross fa1 fa2 fb1 fb2 (by omega) (by omega) (by omega) (by omega)
    have hcs := crs_small (a := ptI x.1) (b := ptI x.2) (by omega) (by omega) (by omega) (by omega)
    have HCR := hide hcr
    have HSN := hide (sumC_snoc pre x)
    have hen : encS x = #[.complex .f64 xa ya, .complex .f64 xb yb] := by unfold encS; rw [ea, eb]
    rw [hen]
    have HFC := hide fc
    have HBD := hide (show (sumC pre + crs (ptI x.1) (ptI x.2)).natAbs < 9007199254740992 by omega)
    clear hen hcr fc hcs fa1 fa2 fb1 fb2 la1 la2 la3 la4 lb1 lb2 lb3 lb4 hs1 hs2 hpre hmem ea eb
    gi_wp2
    refine ⟨by first | rfl | trivial, ?_⟩
    rintro W2 ⟨⟨r, hbx, hf⟩, hbl⟩
    obtain ⟨rs, gs, fs⟩ := fi_add hf HFC.out HBD.out
    rw [← HSN.out] at fs
    have r1 := fun W => run_float_arith (w := W) (P := Try.prog) .add 50 .f64 r rc rs gs
    have y0 := hbx.cell
    have z0 := hbx.frozen
    have HFS := hide fs
    have HBX2 := hide hbx
    have HBL2 := hide hbl
    have hmx : Try.prog.follows .mixedOrders = true := by kernel_rfl
    clear hf fs gs hbx hbl
    gi_wp2
    gi_region_with_o (refine ⟨trivial, ?_⟩; gi_at_call 19; refine (CallsIn.inRound l (callsIn_wide.2 (HCR.out _))).mono ?_; rintro e w' ⟨rfl, rfl⟩)
    all_goals gi_wp2
    all_goals (try go_bits)
    all_goals exact ⟨(KeepsOthers.setCell _ _ _).trans (KeepsOthers.drew _), trivial, ⟨rs, HBX2.out.set _, HFS.out⟩, (HBL2.out.setCell (p := ⟨w1.heap.size, 0, none⟩) (Nat.le_refl _) _).drew⟩
  case done =>
    rintro D W hD ⟨⟨r, hbx, hf⟩, hbl⟩ hK
    have hbd : (sumC (sidesL (lastP ps) ps)).natAbs < 9007199254740992 := by
      have h1 := HLS.out
      have h2 : (sidesL (lastP ps) ps).length * 2199023255552 ≤ 400 * 2199023255552 := Nat.mul_le_mul_right _ hsl
      exact Nat.lt_of_le_of_lt (Nat.le_trans h1 h2) (by decide)
    obtain ⟨tot, htot⟩ : ∃ t, t = areaL ps := ⟨_, rfl⟩
    have hT : sumC (sidesL (lastP ps) ps) = tot := htot.symm
    rw [hT] at hf hbd
    have HT := hide htot
    have hcv := fun W => conv_fi 50 2 r tot (by kernel_rfl) Try.underlying2 hf hbd W
    clear htot hT
    have y0 := hbx.cell
    have HBL := hide hbl
    have HD := hide hD
    have HK := hide hK
    clear hbd hbl hf hbx HLS hsl hD
    gi_wp2
    refine ⟨by simp, .inl ⟨_, _, rfl, run_takeDeferred hK, ?_⟩⟩
    refine ⟨_, ?_, rfl, ?_⟩
    · rw [← HT.out]
      simp [results, Try.results10, go_sem]
    · exact below_then HB.out (HBL.out.trans (belowK_b (w := w1) (Nat.le_refl _) W D _ _ (by have := HD.out; simp at this; omega) hK rfl rfl))
  case stop =>
    rintro D c pre W _ _ h _
    exact h.elim
theorem py_area {w : World} {A : Option Addr} {n c : Nat} {rows : List LP} (h : LpsAt w A n rows) (hn : n ≤ 1000000) (hr : rightL (rows.map LP.p) = true) :
    Calls Try.prog 10 #[.slice A n c] w fun e w' => e = .returned (.tuple #[.int .i64 (areaL (rows.map LP.p)), .int .i64 0]) ∧ Below w.heap.size w w' := callsIn_wide.1 (py_area_in h hn hr)
set_option maxRecDepth 100000 in
set_option maxHeartbeats 4000000 in
theorem py_area_form {w : World} {A : Option Addr} {n c : Nat} {rows : List LP} (h : LpsAt w A n rows) (hn : n ≤ 1000000) (hr : rightL (rows.map LP.p) = false) :
    Calls Try.prog 10 #[.slice A n c] w fun e w' => e = .returned (.tuple #[.int .i64 0, .int .i64 9]) ∧ Below w.heap.size w w' := by
  have HO := hide (py_open (c := c) h hn)
  have HR := hide hr
  clear h hr
  go_enter Try.func10, Try.ntmps10
  go_wp2_with fail
  refine HO.out.mono ?_
  rintro e w1 ⟨⟨_, rfl⟩ | ⟨hf, _⟩, hb⟩
  · have HB := hide hb
    clear hb
    go_wp2
    go_ret2
    exact ⟨rfl, HB.out⟩
  · rw [HR.out] at hf
    cases hf
end Go.Proofs.Ytlgdllohmmmegaa
