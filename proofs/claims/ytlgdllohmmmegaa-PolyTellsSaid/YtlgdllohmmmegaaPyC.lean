/- poly.open: an outline as complex numbers. -/
import Derived.Test.YtlgdllohmmmegaaPyB
set_option linter.unusedSimpArgs false
set_option linter.unusedVariables false
namespace Go.Proofs.Ytlgdllohmmmegaa
open Go.RowKit
theorem info_z : (Try.prog.info? 52).map (fun i => (i.zero, i.size, i.bytes)) = some (some (.complex .f64 0 0), 1, 16) := by kernel_rfl
/-- A row of numbers that is filled from the front. -/
def FilZ (cs : Array Value) (N : Nat) (zs : List Value) : Prop := cs.size = N ∧ ∀ (i : Nat) u, zs[i]? = some u → cs[i]? = some u
theorem FilZ.step {cs : Array Value} {N : Nat} {zs : List Value} (h : FilZ cs N zs) (hN : zs.length < N) (z : Value) : FilZ (cs.setIfInBounds zs.length z) N (zs ++ [z]) := by
  obtain ⟨h1, h2⟩ := h
  refine ⟨by simp [h1], fun i u hu => ?_⟩
  rcases Nat.lt_or_ge i zs.length with hi | hi
  · rw [List.getElem?_append_left hi] at hu
    rw [Array.getElem?_setIfInBounds_ne (by omega)]
    exact h2 i u hu
  · rw [List.getElem?_append_right hi] at hu
    rcases hd : i - zs.length with _ | d
    · rw [hd] at hu
      obtain rfl : i = zs.length := by omega
      rw [Array.getElem?_setIfInBounds_self_of_lt (by omega)]
      simpa using hu
    · rw [hd] at hu
      simp at hu
theorem blk_set1 {w : World} {g i : Nat} {t : TypeId} {cs : Array Value} (h : Blk w g t cs) (hi : i < cs.size) (u : Value) : Blk (w.setCell ⟨g, i, none⟩ u) g t (cs.setIfInBounds i u) := by
  unfold Blk at *
  simp only [World.setCell, Array.getElem?_modify, h]
  simp
theorem st_complex (a : Addr) (k : FloatKind) (x y : Nat) (W : World) : (store a (.complex k x y)).run Try.prog W = stored Try.prog W a (.complex k x y) .plain := run_store Try.prog W a _ _ rfl
theorem st_float (a : Addr) (k : FloatKind) (x : Nat) (W : World) : (store a (.float k x)).run Try.prog W = stored Try.prog W a (.float k x) .plain := run_store Try.prog W a _ _ rfl
/-- What open gives. -/
def OpOut (w : World) (ps : List (List Nat)) (e : Ending) (w' : World) : Prop :=
  ((rightL ps = false ∧ e = .returned (.tuple #[.slice none 0 0, .int .i64 9])) ∨ (rightL ps = true ∧ ∃ A : Option Addr, e = .returned (.tuple #[.slice A ps.length ps.length, .int .i64 0]) ∧ Rw w' 1 A ps.length (ps.map cz))) ∧ Below w.heap.size w w'
set_option maxHeartbeats 8000000 in
set_option maxRecDepth 100000 in
theorem py_open {w : World} {A : Option Addr} {n c : Nat} {rows : List LP} (h : LpsAt w A n rows) (hn : n ≤ 1000000) : Calls Try.prog 17 #[.slice A n c] w (OpOut w (rows.map LP.p)) := by
  have HA := hide h
  have HLN := hide (show (rows.map LP.p).length = n by rw [List.length_map, h.len])
  have hb0 := Below.refl w.heap.size w
  have HB0 := hide hb0
  clear h hb0
  by_cases c1 : n < 3
  · have e1 : decide ((n : Int) < 3) = true := by simp; omega
    have e2 : decide (n < 3) = true := by simp; omega
    have HF := hide (show rightL (rows.map LP.p) = false by unfold rightL; rw [HLN.out, decide_eq_false (by omega), Bool.false_and])
    go_enter Try.func17, Try.ntmps17
    go_wp2
    go_ret2
    exact ⟨.inl ⟨HF.out, rfl⟩, HB0.out⟩
  · have e1 : decide ((n : Int) < 3) = false := by simp; omega
    have e2 : decide (n < 3) = false := by simp; omega
    by_cases c2 : n ≤ 400
    · have e3 : decide ((400 : Int) < (n : Int)) = false := by simp; omega
      have e4 : decide (400 < n) = false := by simp; omega
      have HN := hide (show 3 ≤ n ∧ n ≤ 400 from ⟨by omega, c2⟩)
      have hn4 : n ≤ 400 := c2
      have hmk := run_make_info (P := Try.prog) 47 52 (.complex .f64 0 0) 1 16 Try.underlying47 info_z n (by omega) (by omega)
      rw [Nat.mul_one] at hmk
      have HG := hide (Blk.new w 52 (madeCells #[.complex .f64 0 0] n))
      have HAL := hide ((Below.refl w.heap.size w).alloc (Nat.le_refl _) (.cells (madeCells #[.complex .f64 0 0] n) 52))
      have hmk' : ∀ W, (Instr.makeSlice 47 (.int .i64 (n : Int)) (.int .i64 (n : Int))).run Try.prog W = .ok (.slice (some ⟨W.heap.size, 0, none⟩) n n) (W.alloc (.cells (madeCells #[.complex .f64 0 0] n) 52)) := hmk
      clear c1 c2 hmk
      go_enter Try.func17, Try.ntmps17
      go_wp2
      go_loopw [22] (fun x wr => ∃ (j : Nat) (cs : Array Value), x = .int .i64 (j : Int) ∧ j ≤ n ∧ ((rows.take j).map LP.p).all small = true ∧ FilZ cs n (((rows.take j).map LP.p).map cz) ∧ Blk wr w.heap.size 52 cs ∧ Below w.heap.size w wr) (fun x _ => n - (intOf x).toNat)
      case atStart => exact ⟨0, _, rfl, Nat.zero_le _, rfl, ⟨by simp [size_madeCells], fun i u hu => by simp at hu⟩, HG.out, HAL.out⟩
      case round =>
        obtain ⟨j, cs, rfl, hj, hr, hf, hbk, hb⟩ := hrel
        rename World => wz
        have HR := hide hr
        have HFI := hide hf
        have HBK := hide hbk
        have HB := hide hb
        by_cases hjn : j < n
        · obtain ⟨b, o, r, rfl, hbl, hq, hok, x0⟩ := (HA.out.below hb).at_ hjn
          have HQ := hide hq
          have HS := hide (py_number (c := r.c) hok.1)
          clear hr hf hbk hb hbl hq hok
          cases hs : small r.p with
          | true =>
            have HV := hide (show numVal r.p = cz r.p ∧ numCode r.p = 0 from ⟨by unfold numVal; rw [hs]; rfl, by
              obtain ⟨x, y, hp, _⟩ := small_iff hs
              unfold numCode
              rw [hs, hp]
              rfl⟩)
            rw [HV.out.1, HV.out.2] at HS
            have HSN := hide (right_snoc HQ.out)
            rw [HR.out, hs] at HSN
            clear hs
            go_wp2_with fail
            refine HS.out.mono ?_
            rintro e w2 ⟨rfl, hb2⟩
            have hB2 := HBK.out.below hb2
            have hsz := HFI.out.1
            have hjl : (((rows.take j).map LP.p).map cz).length = j := by rw [List.length_map, List.length_map, List.length_take, HA.out.len]; omega
            have y0 := hB2.cell j
            rw [Array.getElem?_eq_getElem (by omega)] at y0
            have z0 := hB2.frozen j
            have HB3 := hide (blk_set1 hB2 (i := j) (by omega) (cz r.p))
            have HF3 := hide (show FilZ (cs.setIfInBounds j (cz r.p)) n (((rows.take (j + 1)).map LP.p).map cz) from by
              have h := HFI.out.step (by omega) (cz r.p)
              rw [hjl] at h
              rw [List.take_add_one, HQ.out, List.map_append, List.map_append]
              exact h)
            have HW3 := hide ((below_then HB.out hb2).setCell (p := ⟨w.heap.size, j, none⟩) (Nat.le_refl _) (cz r.p))
            obtain ⟨za, zb, hab⟩ : ∃ a b, cz r.p = .complex .f64 a b := ⟨_, _, rfl⟩
            rw [hab] at HB3 HF3 HW3 ⊢
            clear hab HV
            have hsc := st_complex
            clear hB2 hb2 HS
            go_wp2
            go_roundw
            case rel => exact ⟨j + 1, _, by go_num, by omega, HSN.out, HF3.out, HB3.out, HW3.out⟩
            case measure => simp [intOf]; omega
          | false =>
            have HST := hide (right_stop HQ.out hs)
            have hne : (numCode r.p != 0) = true := by
              unfold numCode
              rw [hs]
              split <;> rfl
            have HNE := hide hne
            have hc : numCode r.p = 2 ∨ numCode r.p = 3 := by
              unfold numCode
              rw [hs]
              split
              · exact .inl rfl
              · exact .inr rfl
            generalize numVal r.p = nv at *
            generalize numCode r.p = nc at *
            clear hs hne
            rcases hc with rfl | rfl
            all_goals
              go_wp2_with fail
              refine HS.out.mono ?_
              rintro e w2 ⟨rfl, hb2⟩
              have HB2 := hide (below_then HB.out hb2)
              clear hb2
              go_wp2
              go_ret2
              exact ⟨.inl ⟨by unfold rightL; rw [HST.out, Bool.and_false], rfl⟩, HB2.out⟩
        · obtain rfl : j = n := by omega
          have HF := hide (show OpOut w (rows.map LP.p) (.returned (.tuple #[.slice (some ⟨w.heap.size, 0, none⟩) j j, .int .i64 0])) wz from by
            have hl : rows.take j = rows := List.take_of_length_le (by rw [HA.out.len]; omega)
            rw [hl] at hr hf
            refine ⟨.inr ⟨by unfold rightL; rw [hr, HLN.out]; simp [HN.out], some ⟨w.heap.size, 0, none⟩, by rw [HLN.out], ?_⟩, hb⟩
            rw [HLN.out]
            exact Rw.of_blk hbk (by rw [List.length_map, HLN.out, Nat.mul_one]) (fun i u hu => by rw [Nat.zero_add]; exact hf.2 i u hu))
          clear hr hf hbk hb
          go_wp2
          go_ret2
          exact HF.out
    · have e3 : decide ((400 : Int) < (n : Int)) = true := by simp; omega
      have e4 : decide (400 < n) = true := by simp; omega
      have HF := hide (show rightL (rows.map LP.p) = false by unfold rightL; rw [HLN.out, decide_eq_false (by omega), Bool.false_and])
      go_enter Try.func17, Try.ntmps17
      go_wp2
      go_ret2
      exact ⟨.inl ⟨HF.out, rfl⟩, HB0.out⟩
end Go.Proofs.Ytlgdllohmmmegaa
