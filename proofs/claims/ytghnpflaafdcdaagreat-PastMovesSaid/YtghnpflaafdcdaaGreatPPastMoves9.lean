/- PastMoves: contracts and plain laws that the statement leans on (LwPm). No condition. -/
import Derived.Test.YtghnpflaafdcdaaGreatPPastMoves8
import Derived.Deep.CutBlock
set_option linter.unusedSimpArgs false
set_option linter.unusedVariables false
namespace Go.Proofs.YtghnpflaafdcdaaGreat
open Go.RowKit
section
open Go.ChangeShapes Go.WideShapes Go.Deep
theorem wf_u8' {z : Int} (h : (Lit.int .u8 z).wf = true) : 0 ≤ z ∧ z < 256 := by
  simp [Lit.wf] at h
  have h1 : IntKind.u8.min = 0 := by decide
  have h2 : IntKind.u8.max = 255 := by decide
  rw [h1, h2] at h
  omega
set_option maxRecDepth 100000 in
theorem open_moves22 {H : Type} {enc : TypeId × Value → H} {w : World} {A : Option Addr} {len cap : Nat} {d : DataW H} {ps : List MemPlace}
    (h : DataW.Trod enc Tryz.prog w 0 (fun _ => true) true 22 (.slice A len cap) d ps) :
    ∃ rows : List PM, PMsAt w A len rows ∧ len ≤ cap ∧ cap ≤ maxLen := by
  obtain ⟨fuel, h⟩ := h
  obtain ⟨rows, -, hok, h1, h2, h3⟩ := open_elems (sz := 5) pmv (fun r => PM.ok w r) pmv_len (by omega) Tryz.underlying22 (by kernel_rfl) (fun n cs d hd => by
    obtain ⟨yk, ya, yx, n', -, hl, gk, ga, gx⟩ := Go.Deep.trod_struct3 Tryz.underlying40 hd
    have hl2 : cs.length = 5 := hl
    match cs, hl2 with
    | [uk, ub, u0, u1, ux], _ =>
      obtain ⟨zk, ek, -, hwk⟩ := DataW.trod_int Tryz.underlying5 gk
      have ek' : uk = .int .u8 zk := by
        rw [show Tryz.prog.cellsOf 5 = 1 by kernel_rfl] at ek
        simpa using ek
      have hzk := wf_u8' hwk
      have hk1 : uk = .int .u8 ((zk.toNat : Nat) : Int) := by rw [ek', Int.toNat_of_nonneg hzk.1]
      obtain ⟨zx, ex, -, hwx⟩ := DataW.trod_int Tryz.underlying3 gx
      have ex' : ux = .int .i64 zx := by
        rw [show Tryz.prog.cellsOf 3 = 1 by kernel_rfl] at ex
        simpa using ex
      have ga' : DataW.trod enc Tryz.prog w 0 (fun _ => true) true n' 38 [ub, u0, u1] = some ya := by
        rw [show Tryz.prog.cellsOf 38 = 3 by kernel_rfl] at ga
        simpa using ga
      obtain ⟨yb, y0, y1, n'', -, -, gb, g0, g1⟩ := Go.Deep.trod_struct3 Tryz.underlying38 ga'
      obtain ⟨b, eb, -⟩ := DataW.trod_bool Tryz.underlying4 gb
      have eb' : ub = .bool b := by
        rw [show Tryz.prog.cellsOf 4 = 1 by kernel_rfl] at eb
        simpa using eb
      have g0' : DataW.trod enc Tryz.prog w 0 (fun _ => true) true n'' 35 [u0] = some y0 := by
        rw [show Tryz.prog.cellsOf 35 = 1 by kernel_rfl] at g0
        simpa using g0
      obtain ⟨z, e1, -, hw⟩ := DataW.trod_int Tryz.underlying36 g1
      have e1' : u1 = .int .u64 z := by
        rw [show Tryz.prog.cellsOf 36 = 1 by kernel_rfl] at e1
        simpa using e1
      have hz := wf_u64 hw
      have hz1 : u1 = .int .u64 ((z.toNat : Nat) : Int) := by rw [e1', Int.toNat_of_nonneg hz.1]
      rcases Go.Deep.open_slice Tryz.underlying35 g0' with ⟨h0, _⟩ | ⟨a, l, c, _, _, _, _, h0, _⟩
      · have h0' : u0 = .slice none 0 0 := by simpa using h0
        exact ⟨⟨zk.toNat, ⟨b, none, 0, 0, [], z.toNat⟩, zx⟩, by rw [h0', hz1, eb', hk1, ex']; rfl, ⟨pt_nil w, Nat.le_refl _, Nat.zero_le _, by show z.toNat < 18446744073709551616; omega⟩, by show zk.toNat < 256; omega, hwx⟩
      · have h0' : u0 = .slice (some a) l c := by simpa using h0
        rw [h0'] at g0'
        obtain ⟨p, q1, q2, q3⟩ := open_point' g0'
        exact ⟨⟨zk.toNat, ⟨b, some a, l, c, p, z.toNat⟩, zx⟩, by rw [h0', hz1, eb', hk1, ex']; rfl, ⟨q1, q2, q3, by show z.toNat < 18446744073709551616; omega⟩, by show zk.toNat < 256; omega, hwx⟩) h
  exact ⟨rows, ⟨h1, hok⟩, h2, h3⟩
end
theorem now_len {w : World} {k t n c : Nat} {A : Option Addr} (h : Now w k t A n c) (hn : n ≤ 1000) : Calls Tryz.prog 22 #[.pointer (some ⟨t, 0, none⟩)] w fun e w' => e = .returned (.int .i64 (n : Int)) ∧ Below w.heap.size w w' := by
  obtain ⟨rows, es, hT, hE, -, -, -, hes⟩ := h
  have hl : es.length = n := by rw [← hes]; unfold ents; rw [List.length_map]; exact hE.len
  have := tr_len hT (by omega)
  rw [hl] at this
  exact this
theorem jno {l a : Nat} {n : Int} (h : ¬ (-(a : Int) ≤ n ∧ n ≤ (l : Int) - 1 - (a : Int))) : n < -(a : Int) ∨ (l : Int) - 1 - (a : Int) < n := by omega
theorem ref12_same22 {w : World} {A B : Option Addr} {n c d : Nat} {ra rb : List CR} (hA : ChgsAt w A ra.length ra) (hB : ChgsAt w B rb.length rb) (hn : ra.length = n) (hm : rb.length = n) (he : ces ra = ces rb) (hb : n ≤ 200000) (hna : ∀ r ∈ ra, r.n ≤ 65536) (hnb : ∀ r ∈ rb, r.n ≤ 65536) :
    Calls Tryz.prog 19 #[.slice A n c, .slice B n d] w fun e w' => e = .returned (.bool true) ∧ Below w.heap.size w w' := by
  rw [hn] at hA
  rw [hm] at hB
  exact ref12_same hA hB he hb hna hnb
theorem rc22 {w w' : World} {k : Nat} {ea eb : List Ent} {e : Ending} (h : RcOut w k ea eb e w') : ∃ (A : Option Addr) (c n : Nat) (rows : List CR), e = .returned (.slice A n c) ∧ rows.length = n ∧ Chgs ea eb (ces rows) ∧ ChgsAt w' A rows.length rows ∧ (∀ r ∈ rows, r.n = k) ∧ Below w.heap.size w w' := by
  obtain ⟨A, c, rows, h1, h2, h3, -, h4, h5⟩ := h
  exact ⟨A, c, _, rows, h1, rfl, h2, h3, h4, h5⟩
theorem now_is {w : World} {k t n c : Nat} {A : Option Addr} (h : Now w k t A n c) (hn : n ≤ 1000) : Calls Tryz.prog 23 #[.pointer (some ⟨t, 0, none⟩), .int .i64 (k : Int), .slice A n c] w fun e w' => e = .returned (.bool true) ∧ Below w.heap.size w w' := by
  obtain ⟨rows, es, hT, hE, hc, hS, hk, hes⟩ := h
  exact is_tree hT hE hc (by omega) hk hes
set_option maxHeartbeats 16000000 in
set_option maxRecDepth 100000 in
theorem past_moves (w : World) (k0 : Int) (_ : (Lit.int .i64 k0).wf = true) (AM : Option Addr) (nm cm : Nat) (mv : List PM) (hmv : PMsAt w AM nm mv ∧ nm ≤ cm ∧ cm ≤ maxLen) :
    Calls Tryz.prog 3 #[.int .i64 k0, .slice AM nm cm] w fun e w' => e = .returned (.bool true) ∧ Below w.heap.size w w' := by
  have HMV := hide hmv.1
  clear hmv
  go_enter Tryz.func3, Tryz.ntmps3
  go_wp2_with fail
  refine (awake22 w).mono ?_
  rintro e w1 ⟨rfl, hb1⟩
  have HB1 := hide hb1
  clear hb1
  by_cases h1 : k0 < 1
  · have e1 : decide (k0 < 1) = true := by simpa using h1
    clear h1
    go_wp2
    go_ret
    exact ⟨rfl, HB1.out⟩
  have e1 : decide (k0 < 1) = false := by simpa using h1
  by_cases h2 : 16 < k0
  · have e2 : decide ((16 : Int) < k0) = true := by simpa using h2
    clear h1 h2
    go_wp2
    go_ret
    exact ⟨rfl, HB1.out⟩
  have e2 : decide ((16 : Int) < k0) = false := by simpa using h2
  by_cases h3 : 120 < nm
  · have e3 : decide ((120 : Int) < (nm : Int)) = true := by simp; omega
    clear h1 h2 h3
    go_wp2
    go_ret
    exact ⟨rfl, HB1.out⟩
  have e3 : decide ((120 : Int) < (nm : Int)) = false := by simp; omega
  have hnm : nm ≤ 120 := by omega
  obtain ⟨k, rfl⟩ : ∃ k : Nat, k0 = (k : Int) := ⟨k0.toNat, by omega⟩
  have hk1 : 1 ≤ k := by omega
  have hk16 : k ≤ 16 := by omega
  have HN := hide (tr_new k w1 hk1 hk16)
  clear h1 h2 h3
  go_wp2_with fail
  refine HN.out.mono ?_
  rintro e w2 ⟨rfl, hT2, hb2⟩
  have HB2 := hide (below_then HB1.out hb2)
  have HNOW := hide (now_new (A := none) (c := 0) hk1 hk16 hT2)
  have HP := hide (ps_new w2 w1.heap.size)
  clear hT2 hb2 HN
  go_wp2_with fail
  refine HP.out.mono ?_
  rintro e w3 ⟨⟨p, rfl, hpl, hp⟩, hb3⟩
  have hb3t := below_then HB2.out hb3
  have HB3 := hide hb3t
  have hq := (Below.refl w3.heap.size w3).alloc (Nat.le_refl _) (.cells #[.slice none 0 0, .slice none 0 0, .slice none 0 0] 34)
  have HS0 := hide (show R22S k w.heap.size w (w3.alloc (.cells #[.slice none 0 0, .slice none 0 0, .slice none 0 0] 34)) p w3.heap.size 0 [(w1.heap.size, ⟨none, 0, 0⟩)] 0 none 0 0 ⟨none, 0, 0⟩ none 0 0 from
    ⟨(hp.below hq).lower HB2.out.size, fun x hx => by
      rw [List.mem_singleton] at hx
      subst hx
      exact ⟨(HNOW.out.stay hb3).stay hq, Nat.le_refl _⟩, ⟨rfl, RowL.nil _, RowL.nil _, Nat.le_refl _, Nat.le_refl _⟩, Blk.new _ _ _, below_then hb3t hq, Nat.le_trans HB2.out.size hpl, hb3t.size, Nat.le_refl _⟩)
  clear hpl hp hb3 hb3t hq HP HNOW
  go_wp2
  go_loopw [10] (fun x10 wr => ∃ (i : Nat) (Z : List (Nat × LV)) (a : Nat) (AB : Option Addr) (nB cB : Nat) (z : LV) (AA : Option Addr) (nA cA : Nat), x10 = .int .i64 (i : Int) ∧ i ≤ nm ∧ R22S k w.heap.size w wr p w3.heap.size i Z a AB nB cB z AA nA cA) (fun x _ => nm - (intOf x).toNat)
  case atStart => exact ⟨0, _, 0, _, _, _, _, _, _, _, rfl, Nat.zero_le _, HS0.out⟩
  case round =>
    obtain ⟨i, Z, a, AB, nB, cB, ⟨zA, zn, zc⟩, AA, nA, cA, rfl, hi, hS⟩ := hrel
    rename World => wz
    have HS := hide hS
    clear HS0
    obtain ⟨t, htZ⟩ := hS.cur
    have HTZ := hide htZ
    have hnb : nB = a := hS.mp.nb
    subst hnb
    have hna := hS.mp.na
    rw [List.length_map] at hna
    have HNA := hide hna
    have hlen := hS.len
    have HLEN := hide hlen
    have hzn := (hS.now _ (List.mem_of_getElem? htZ)).2
    simp only at hzn
    have HZN := hide hzn
    have hb50 : (nB : Int) ≤ 50 := by omega
    have ha50 : (nA : Int) ≤ 50 := by omega
    have hi120 : (i : Int) ≤ 120 := by omega
    clear htZ hna hlen hzn
    clear hS
    by_cases hin : i < nm
    case neg =>
      have e9 : decide ((i : Int) < (nm : Int)) = false := by simp; omega
      obtain rfl : i = nm := by omega
      clear hin
      have y0 := HS.out.blk.cell 0
      have y1 := HS.out.blk.cell 1
      simp [LV.val] at y0 y1
      have hd := (Below.refl wz.heap.size wz).drew
      have hmlt := HS.out.blk.lt
      have HK9 := hide (fun W (hW : Below wz.heap.size wz W) => (hW.cell (p := ⟨w3.heap.size, 1, none⟩) hmlt).trans y1)
      have HNW := hide (ps_now (HS.out.past.below hd) (R22S.ts HTZ.out))
      have HTL := hide (fun W (hW : Below wz.heap.size wz W) => now_is ((HS.out.now _ (List.mem_of_getElem? HTZ.out)).1.stay hW) (by have := HZN.out; simp only at *; omega))
      simp only at HTL
      have HD := hide hd
      clear hd hmlt
      go_wp2_with fail
      go_region_held3 (fun w' => w'.cell? ⟨w3.heap.size, 1, none⟩ = some (.slice zA zn zc))
        (first | go_keep | exact hK22 | exact hK23)
        (first
          | (with_reducible refine HNW.out.mono ?_
             rintro e w22 ⟨rfl, hb22⟩
             have hbx22 := below_then HD.out hb22
             have hK22 := HK9.out _ hbx22)
          | (with_reducible refine (HTL.out _ hbx22).mono ?_
             rintro e w23 ⟨rfl, hb23⟩
             have hbx23 := below_then hbx22 hb23
             have hK23 := HK9.out _ hbx23))
      have HF := hide ((HS.out.stay hbx23).below)
      clear hbx22 hb22 hb23 hbx23 hK22 hK23
      go_wp2
      go_ret
      exact ⟨rfl, HF.out⟩
    have e9 : decide ((i : Int) < (nm : Int)) = true := by simp; omega
    obtain ⟨b, o, r, rfl, hbl, hr, hok, x0, x1, x2, x3, x4⟩ := (HMV.out.below HS.out.below).at_ hin
    have hii : (i : Int) < (nm : Int) := by omega
    have HOK := hide hok
    have HIN := hide hin
    clear hr hok hin
    by_cases h40 : 40 < r.q.n
    · have e10 : decide ((40 : Int) < (r.q.n : Int)) = true := by simp; omega
      clear h40
      go_wp2
      go_roundw
      case rel => exact ⟨i + 1, Z, nB, _, _, _, _, _, _, _, by go_num, HIN.out, HS.out.more (Nat.le_succ _)⟩
      case measure =>
        have := HIN.out
        simp [intOf]
        omega
    have e10 : decide ((40 : Int) < (r.q.n : Int)) = false := by simp; omega
    have hr40 : r.q.n ≤ 40 := by omega
    clear h40
    go_upto_block 2 with fail
    go_cut [] from 52 to 256 (fun W => ∃ (Z9 : List (Nat × LV)) (a9 : Nat) (AB9 : Option Addr) (nB9 cB9 : Nat) (z9 : LV) (AA9 : Option Addr) (nA9 cA9 : Nat), R22S k w.heap.size w W p w3.heap.size (i + 1) Z9 a9 AB9 nB9 cB9 z9 AA9 nA9 cA9)
    case first =>
      obtain ⟨isA, hA⟩ : ∃ isA : Bool, isA = decide (r.kd = 0 ∨ r.kd = 1 ∨ r.kd = 6) := ⟨_, rfl⟩
      have HA := hide hA
      clear hA
      go_upto_if 71 with fail
      go_cut [71] from 72 to 74 (fun s71 W => s71 = .bool isA ∧ W = wz)
      case first =>
        by_cases hk0 : r.kd = 0
        · have e1 : (((r.kd : Nat) : Int) == 0) = true := by simp [hk0]
          have e2 : (r.kd == 0) = true := by simp [hk0]
          obtain rfl : isA = true := by rw [HA.out]; simp [hk0]
          clear hk0
          go_wp2_with fail
          go_meet
          exact ⟨by first | rfl | rw [e1] | rw [e3] | rw [e5], rfl⟩
        have e1 : (((r.kd : Nat) : Int) == 0) = false := by simp; omega
        have e2 : (r.kd == 0) = false := by simp; omega
        by_cases hk1 : r.kd = 1
        · have e3 : (((r.kd : Nat) : Int) == 1) = true := by simp [hk1]
          have e4 : (r.kd == 1) = true := by simp [hk1]
          obtain rfl : isA = true := by rw [HA.out]; simp [hk1]
          clear hk0 hk1
          go_wp2_with fail
          go_meet
          exact ⟨by first | rfl | rw [e1] | rw [e3] | rw [e5], rfl⟩
        have e3 : (((r.kd : Nat) : Int) == 1) = false := by simp; omega
        have e4 : (r.kd == 1) = false := by simp; omega
        by_cases hk6 : r.kd = 6
        · have e5 : (((r.kd : Nat) : Int) == 6) = true := by simp [hk6]
          have e6 : (r.kd == 6) = true := by simp [hk6]
          obtain rfl : isA = true := by rw [HA.out]; simp [hk6]
          clear hk0 hk1 hk6
          go_wp2_with fail
          go_meet
          exact ⟨by first | rfl | rw [e1] | rw [e3] | rw [e5], rfl⟩
        · have e5 : (((r.kd : Nat) : Int) == 6) = false := by simp; omega
          have e6 : (r.kd == 6) = false := by simp; omega
          obtain rfl : isA = false := by rw [HA.out]; simp; omega
          clear hk0 hk1 hk6
          go_wp2_with fail
          go_meet
          exact ⟨by first | rfl | rw [e1] | rw [e3] | rw [e5], rfl⟩
      case rest =>
        obtain ⟨rfl, rfl⟩ := hcut
        rename World => wz
        by_cases hk0 : r.kd = 0 ∨ r.kd = 1
        · as_aux_lemma =>
            obtain rfl : isA = true := by rw [HA.out]; simp; omega
            have ek6 : (((r.kd : Nat) : Int) == 6) = false := by simp; omega
            have fk6 : (r.kd == 6) = false := by simp; omega
            clear hk0
            have hNZ := (HS.out.now _ (List.mem_of_getElem? HTZ.out))
            have y1 := HS.out.blk.cell 1
            simp [LV.val] at y1
            have hmlt := HS.out.blk.lt
            have HKZ := hide (fun W (hW : Below wz.heap.size wz W) => (⟨(hW.cell (p := ⟨w3.heap.size, 1, none⟩) hmlt).trans y1, (hW.cell (p := ⟨b, o + i * 5 + 1, none⟩) hbl).trans x1, (hW.cell (p := ⟨b, o + i * 5 + 2, none⟩) hbl).trans x2, (hW.cell (p := ⟨b, o + i * 5 + 3, none⟩) hbl).trans x3⟩ : W.cell? ⟨w3.heap.size, 1, none⟩ = some (.slice zA zn zc) ∧ W.cell? ⟨b, o + i * 5 + 1, none⟩ = some (.bool r.q.d) ∧ W.cell? ⟨b, o + i * 5 + 2, none⟩ = some (.slice r.q.A r.q.n r.q.c) ∧ W.cell? ⟨b, o + i * 5 + 3, none⟩ = some (.int .u64 (r.q.v : Int))))
            have hd := (Below.refl wz.heap.size wz).drew
            have HNW0 := hide (ps_now (HS.out.past.below hd) (R22S.ts HTZ.out))
            have HDN := hide (fun W (hW : Below wz.heap.size wz W) => done7 (hNZ.1.stay hW) (by have := HZN.out; simp only at *; omega) (HOK.out.1.below hW))
            simp only at HDN
            have HD := hide hd
            have HX0 := hide (fun W (hW : Below wz.heap.size wz W) => (hW.cell (p := ⟨b, o + i * 5, none⟩) hbl).trans x0)
            clear hNZ hmlt hd
            go_wp2_with fail
            go_region_held3 (fun w' => w'.cell? ⟨w3.heap.size, 1, none⟩ = some (.slice zA zn zc) ∧ w'.cell? ⟨b, o + i * 5 + 1, none⟩ = some (.bool r.q.d) ∧ w'.cell? ⟨b, o + i * 5 + 2, none⟩ = some (.slice r.q.A r.q.n r.q.c) ∧ w'.cell? ⟨b, o + i * 5 + 3, none⟩ = some (.int .u64 (r.q.v : Int)))
              (first | go_keep | exact hK5 | exact hK6)
              (first
                | (with_reducible refine HNW0.out.mono ?_
                   rintro e w5 ⟨rfl, hb5⟩
                   have hbx5 := below_then HD.out hb5
                   have hK5 := HKZ.out _ hbx5)
                | (with_reducible refine (HDN.out _ hbx5).mono ?_
                   rintro e w6 ⟨t', A6, n6, c6, rfl, hN6, hn6, hb6⟩
                   have hbx6 := below_then hbx5 hb6
                   have hK6 := HKZ.out _ hbx6))
            have HS6 := hide (HS.out.stay hbx6)
            have HB6 := hide hbx6
            have HN6 := hide hN6
            have hn6' : n6 ≤ i + 1 := by have := HZN.out; omega
            have HN6' := hide hn6'
            have HNW6 := hide (ps_now HS6.out.past (R22S.ts HTZ.out))
            clear hbx5 hK5 hbx6 hK6 hN6 hb6 hb5 HNW0 HDN HKZ hn6 hn6'
            go_wp2_with fail
            refine HNW6.out.mono ?_
            rintro e w7 ⟨rfl, hb7⟩
            have x0' := HX0.out _ (below_then HB6.out hb7)
            have HS7 := hide (HS6.out.stay hb7)
            have HN7 := hide (HN6.out.stay hb7)
            obtain ⟨rt, hrt⟩ : ∃ rt, TreeBlk w7 t' k rt := by
              obtain ⟨rows, es, q1, -⟩ := HN7.out
              exact q1.blk
            obtain ⟨r0, hr0⟩ : ∃ r0, TreeBlk w7 t k r0 := by
              obtain ⟨rows, es, q1, -⟩ := (HS7.out.now _ (List.mem_of_getElem? HTZ.out)).1
              exact q1.blk
            have HRT := hide hrt
            have HR0 := hide hr0
            have ept := ptr_eq_t t' t w7 hrt hr0
            clear hb7 hrt hr0 HNW6 x0
            by_cases htt : t' = t
            · rw [decide_eq_true htt] at ept
              have hds := ps_do_same HS7.out.past (R22S.ts HTZ.out) HR0.out (by omega)
              subst htt
              have HDS := hide hds
              clear hds
              go_wp2_with fail
              refine HDS.out.mono ?_
              rintro e w8 ⟨rfl, hb8⟩
              have HS8 := hide ((HS7.out.stay hb8).more (Nat.le_succ i))
              clear hb8 x0' ept HDS
              go_wp2_with fail
              go_meet
              exact ⟨_, _, _, _, _, _, _, _, _, HS8.out⟩
            · rw [decide_eq_false htt] at ept
              have HDS := hide (ps_do HS7.out.past (R22S.ts HTZ.out) HRT.out HR0.out (by omega) htt HS7.out.hB')
              go_wp2_with fail
              refine HDS.out.mono ?_
              rintro e w8 ⟨rfl, hp8, hx8⟩
              have hs8 := HS7.out.blk_ex hx8
              have y0 := hs8.1.cell 0
              have y1 := hs8.1.cell 1
              have y2 := hs8.1.cell 2
              simp [LV.val] at y0 y1 y2
              have hdo := hs8.2.do_ (by rw [List.length_map]; exact HLEN.out.1) ⟨A6, n6, c6⟩
              unfold mval LV.val at hdo
              have HDO := hide hdo
              have HP8 := hide (And.intro hp8 (And.intro hx8 hs8.1))
              clear hdo hp8 hx8 hs8 HDS x0' ept
              go_wp2_with fail
              refine HDO.out.mono ?_
              rintro e w9 ⟨A9, n9, c9, rfl, hM9, hb9⟩
              have hB9 := HP8.out.2.2.below hb9
              have HF := hide (HS7.out.done_ (x := ⟨A6, n6, c6⟩) (Below.refl _ _) HN7.out HN6'.out HP8.out.1 HP8.out.2.1 hb9 hM9)
              have y0 := hB9.cell 0
              have y1 := hB9.cell 1
              have y2 := hB9.cell 2
              have z0 := hB9.frozen 0
              have z1 := hB9.frozen 1
              have z2 := hB9.frozen 2
              have hl9 := hB9.lt
              simp [LV.val] at y0 y1 y2
              clear hB9 hM9 hb9 HDO
              go_wp2_with fail
              go_meet
              exact ⟨_, _, _, _, _, _, _, _, _, HF.out⟩
        by_cases hk6 : r.kd = 6
        · as_aux_lemma =>
            obtain rfl : isA = true := by rw [HA.out]; simp; omega
            have ek6 : (((r.kd : Nat) : Int) == 6) = true := by simp [hk6]
            have fk6 : (r.kd == 6) = true := by simp [hk6]
            clear hk6
            have hNZ := (HS.out.now _ (List.mem_of_getElem? HTZ.out))
            have y1 := HS.out.blk.cell 1
            simp [LV.val] at y1
            have hmlt := HS.out.blk.lt
            have HKZ := hide (fun W (hW : Below wz.heap.size wz W) => (⟨(hW.cell (p := ⟨w3.heap.size, 1, none⟩) hmlt).trans y1, (hW.cell (p := ⟨b, o + i * 5 + 1, none⟩) hbl).trans x1, (hW.cell (p := ⟨b, o + i * 5 + 2, none⟩) hbl).trans x2, (hW.cell (p := ⟨b, o + i * 5 + 3, none⟩) hbl).trans x3⟩ : W.cell? ⟨w3.heap.size, 1, none⟩ = some (.slice zA zn zc) ∧ W.cell? ⟨b, o + i * 5 + 1, none⟩ = some (.bool r.q.d) ∧ W.cell? ⟨b, o + i * 5 + 2, none⟩ = some (.slice r.q.A r.q.n r.q.c) ∧ W.cell? ⟨b, o + i * 5 + 3, none⟩ = some (.int .u64 (r.q.v : Int))))
            have hd := (Below.refl wz.heap.size wz).drew
            have HNW0 := hide (ps_now (HS.out.past.below hd) (R22S.ts HTZ.out))
            have HDN := hide (fun W (hW : Below wz.heap.size wz W) => done7 (hNZ.1.stay hW) (by have := HZN.out; simp only at *; omega) (HOK.out.1.below hW))
            simp only at HDN
            have HD := hide hd
            have HX0 := hide (fun W (hW : Below wz.heap.size wz W) => (hW.cell (p := ⟨b, o + i * 5, none⟩) hbl).trans x0)
            clear hNZ hmlt hd
            go_wp2_with fail
            go_region_held3 (fun w' => w'.cell? ⟨w3.heap.size, 1, none⟩ = some (.slice zA zn zc) ∧ w'.cell? ⟨b, o + i * 5 + 1, none⟩ = some (.bool r.q.d) ∧ w'.cell? ⟨b, o + i * 5 + 2, none⟩ = some (.slice r.q.A r.q.n r.q.c) ∧ w'.cell? ⟨b, o + i * 5 + 3, none⟩ = some (.int .u64 (r.q.v : Int)))
              (first | go_keep | exact hK5 | exact hK6)
              (first
                | (with_reducible refine HNW0.out.mono ?_
                   rintro e w5 ⟨rfl, hb5⟩
                   have hbx5 := below_then HD.out hb5
                   have hK5 := HKZ.out _ hbx5)
                | (with_reducible refine (HDN.out _ hbx5).mono ?_
                   rintro e w6 ⟨t', A6, n6, c6, rfl, hN6, hn6, hb6⟩
                   have hbx6 := below_then hbx5 hb6
                   have hK6 := HKZ.out _ hbx6))
            have HS6 := hide (HS.out.stay hbx6)
            have HB6 := hide hbx6
            have HN6 := hide hN6
            have hn6' : n6 ≤ i + 1 := by have := HZN.out; omega
            have HN6' := hide hn6'
            have HNW6 := hide (ps_now HS6.out.past (R22S.ts HTZ.out))
            clear hbx5 hK5 hbx6 hK6 hN6 hb6 hb5 HNW0 HDN HKZ hn6 hn6'
            go_wp2_with fail
            refine HNW6.out.mono ?_
            rintro e w7 ⟨rfl, hb7⟩
            have x0' := HX0.out _ (below_then HB6.out hb7)
            have HS7 := hide (HS6.out.stay hb7)
            have HN7 := hide (HN6.out.stay hb7)
            obtain ⟨rt, hrt⟩ : ∃ rt, TreeBlk w7 t' k rt := by
              obtain ⟨rows, es, q1, -⟩ := HN7.out
              exact q1.blk
            obtain ⟨r0, hr0⟩ : ∃ r0, TreeBlk w7 t k r0 := by
              obtain ⟨rows, es, q1, -⟩ := (HS7.out.now _ (List.mem_of_getElem? HTZ.out)).1
              exact q1.blk
            have HRT := hide hrt
            have HR0 := hide hr0
            have ept := ptr_eq_t t' t w7 hrt hr0
            clear hb7 hrt hr0 HNW6 x0
            have HAM := hide (ps_amend HS7.out.past (R22S.ts HTZ.out) HRT.out HR0.out (by omega))
            go_wp2_with fail
            refine HAM.out.mono ?_
            rintro e w8 ⟨rfl, hp8, hA8⟩
            have hBm := HS7.out.blk_set1 HTZ.out hA8
            have HF := hide (HS7.out.amended (x := ⟨A6, n6, c6⟩) HTZ.out (Below.refl _ _) HN7.out HN6'.out hp8 hA8)
            have y0 := hBm.cell 1
            have z0 := hBm.frozen 1
            have hl8 := hBm.lt
            simp [LV.val] at y0
            clear hp8 hA8 hBm HAM x0' ept
            go_wp2_with fail
            go_meet
            exact ⟨_, _, _, _, _, _, _, _, _, HF.out⟩
        by_cases hk2 : r.kd = 2
        · as_aux_lemma =>
            obtain rfl : isA = false := by rw [HA.out]; have := hk2; simp; omega
            have ek2 : (((r.kd : Nat) : Int) == 2) = true := by simp [hk2]
            have fk2 : (r.kd == 2) = true := by simp [hk2]
            have ek3 : (((r.kd : Nat) : Int) == 3) = false := by have := hk2; simp; omega
            have fk3 : (r.kd == 3) = false := by have := hk2; simp; omega
            have ek4 : (((r.kd : Nat) : Int) == 4) = false := by have := hk2; simp; omega
            have fk4 : (r.kd == 4) = false := by have := hk2; simp; omega
            have ek5 : (((r.kd : Nat) : Int) == 5) = false := by have := hk2; simp; omega
            have fk5 : (r.kd == 5) = false := by have := hk2; simp; omega
            clear hk2
            have y0 := HS.out.blk.cell 0
            have y1 := HS.out.blk.cell 1
            have y2 := HS.out.blk.cell 2
            simp [LV.val] at y0 y1 y2
            have HL := hide (show (Z.map (·.2)).length ≤ 51 by rw [List.length_map]; exact HLEN.out.1)
            by_cases hend : 0 < nB
            · have hu := HS.out.mp.undo hend HL.out
              unfold mval LV.val at hu
              have HU := hide hu
              have HEND := hide hend
              clear hu hend
              go_wp2_with fail
              refine HU.out.mono ?_
              rintro e w5 ⟨A5, n5, c5, B5, m5, d5, ⟨zA5, zn5, zc5⟩, rfl, hM5, hb5⟩
              have hq := (Below.refl w5.heap.size w5).alloc (Nat.le_refl _) (.cells #[.slice A5 n5 c5, .slice zA5 zn5 zc5, .slice B5 m5 d5] 34)
              have hbq := below_then hb5 hq
              have hB5 := Blk.new w5 34 #[.slice A5 n5 c5, .slice zA5 zn5 zc5, .slice B5 m5 d5]
              have hpu := ps_undo (HS.out.past.below hbq) HEND.out
              have HPU := hide hpu
              have HM5 := hide (hM5.below hq)
              have HB5 := hide hB5
              have HBQ := hide hbq
              clear hq hbq hB5 hpu hM5 hb5 HU
              go_wp2_with fail
              refine HPU.out.mono ?_
              rintro e w7 ⟨rfl, hp7, hx7⟩
              have hpb := (HS.out.past.below HBQ.out).blk
              obtain ⟨pA, pn, pc, pa, hPB⟩ := hpb
              have h5 := hx7.blk HB5.out (HB5.out.ne_ hPB (by decide))
              have hm := HS.out.stay HBQ.out
              have h6 := hx7.blk hm.blk (hm.blk.ne_ hPB (by decide))
              have HF := hide (HS.out.undone HBQ.out HM5.out hp7 hx7)
              have k0 := h5.cell 0
              have k1 := h5.cell 1
              have k2 := h5.cell 2
              have y0 := h6.cell 0
              have y1 := h6.cell 1
              have y2 := h6.cell 2
              have z0 := h6.frozen 0
              have z1 := h6.frozen 1
              have z2 := h6.frozen 2
              have hl6 := h6.lt
              simp [LV.val] at k0 k1 k2 y0 y1 y2
              clear hPB h5 h6 hm hp7 hx7 HPU
              go_wp2_with fail
              go_meet
              exact ⟨_, _, _, _, _, _, _, _, _, HF.out.more (Nat.le_succ _)⟩
            · have hu := HS.out.mp.undo_no (by omega)
              unfold mval LV.val at hu
              have HU := hide hu
              have HEND := hide hend
              clear hu hend
              go_wp2_with fail
              refine HU.out.mono ?_
              rintro e w5 ⟨rfl, hb5⟩
              have hq := (Below.refl w5.heap.size w5).alloc (Nat.le_refl _) (.cells #[.slice AB nB cB, .slice zA zn zc, .slice AA nA cA] 34)
              have hbq := below_then hb5 hq
              have hB5 := Blk.new w5 34 #[.slice AB nB cB, .slice zA zn zc, .slice AA nA cA]
              have hpu := ps_undo_no (HS.out.past.below hbq) (by have := HEND.out; omega)
              have HPU := hide hpu
              have HB5 := hide hB5
              have HBQ := hide hbq
              clear hq hbq hB5 hpu hb5 HU
              go_wp2_with fail
              refine HPU.out.mono ?_
              rintro e w7 ⟨rfl, hb7⟩
              have h5 := HB5.out.below hb7
              have hm := HS.out.stay (below_then HBQ.out hb7)
              have h6 := hm.blk
              have HF := hide (HS.out.undone_no (W := w7) (below_then HBQ.out hb7))
              have k0 := h5.cell 0
              have k1 := h5.cell 1
              have k2 := h5.cell 2
              have y0 := h6.cell 0
              have y1 := h6.cell 1
              have y2 := h6.cell 2
              have z0 := h6.frozen 0
              have z1 := h6.frozen 1
              have z2 := h6.frozen 2
              have hl6 := h6.lt
              simp [LV.val] at k0 k1 k2 y0 y1 y2
              clear h5 h6 hm hb7 HPU
              go_wp2_with fail
              go_meet
              exact ⟨_, _, _, _, _, _, _, _, _, HF.out.more (Nat.le_succ _)⟩
        by_cases hk3 : r.kd = 3
        · as_aux_lemma =>
            obtain rfl : isA = false := by rw [HA.out]; have := hk3; simp; omega
            have ek2 : (((r.kd : Nat) : Int) == 2) = false := by have := hk3; simp; omega
            have fk2 : (r.kd == 2) = false := by have := hk3; simp; omega
            have ek3 : (((r.kd : Nat) : Int) == 3) = true := by simp [hk3]
            have fk3 : (r.kd == 3) = true := by simp [hk3]
            have ek4 : (((r.kd : Nat) : Int) == 4) = false := by have := hk3; simp; omega
            have fk4 : (r.kd == 4) = false := by have := hk3; simp; omega
            have ek5 : (((r.kd : Nat) : Int) == 5) = false := by have := hk3; simp; omega
            have fk5 : (r.kd == 5) = false := by have := hk3; simp; omega
            clear hk3
            have y0 := HS.out.blk.cell 0
            have y1 := HS.out.blk.cell 1
            have y2 := HS.out.blk.cell 2
            simp [LV.val] at y0 y1 y2
            have HL := hide (show (Z.map (·.2)).length ≤ 51 by rw [List.length_map]; exact HLEN.out.1)
            by_cases hend : nB + 1 < Z.length
            · have hu := HS.out.mp.redo (by rw [List.length_map]; exact hend) HL.out
              unfold mval LV.val at hu
              have HU := hide hu
              have HEND := hide hend
              clear hu hend
              go_wp2_with fail
              refine HU.out.mono ?_
              rintro e w5 ⟨A5, n5, c5, B5, m5, d5, ⟨zA5, zn5, zc5⟩, rfl, hM5, hb5⟩
              have hq := (Below.refl w5.heap.size w5).alloc (Nat.le_refl _) (.cells #[.slice A5 n5 c5, .slice zA5 zn5 zc5, .slice B5 m5 d5] 34)
              have hbq := below_then hb5 hq
              have hB5 := Blk.new w5 34 #[.slice A5 n5 c5, .slice zA5 zn5 zc5, .slice B5 m5 d5]
              have hpu := ps_redo (HS.out.past.below hbq) (by rw [List.length_map]; exact HEND.out)
              have HPU := hide hpu
              have HM5 := hide (hM5.below hq)
              have HB5 := hide hB5
              have HBQ := hide hbq
              clear hq hbq hB5 hpu hM5 hb5 HU
              go_wp2_with fail
              refine HPU.out.mono ?_
              rintro e w7 ⟨rfl, hp7, hx7⟩
              have hpb := (HS.out.past.below HBQ.out).blk
              obtain ⟨pA, pn, pc, pa, hPB⟩ := hpb
              have h5 := hx7.blk HB5.out (HB5.out.ne_ hPB (by decide))
              have hm := HS.out.stay HBQ.out
              have h6 := hx7.blk hm.blk (hm.blk.ne_ hPB (by decide))
              have HF := hide (HS.out.undone HBQ.out HM5.out hp7 hx7)
              have k0 := h5.cell 0
              have k1 := h5.cell 1
              have k2 := h5.cell 2
              have y0 := h6.cell 0
              have y1 := h6.cell 1
              have y2 := h6.cell 2
              have z0 := h6.frozen 0
              have z1 := h6.frozen 1
              have z2 := h6.frozen 2
              have hl6 := h6.lt
              simp [LV.val] at k0 k1 k2 y0 y1 y2
              clear hPB h5 h6 hm hp7 hx7 HPU
              go_wp2_with fail
              go_meet
              exact ⟨_, _, _, _, _, _, _, _, _, HF.out.more (Nat.le_succ _)⟩
            · have hu := HS.out.mp.redo_no (by rw [List.length_map]; omega)
              unfold mval LV.val at hu
              have HU := hide hu
              have HEND := hide hend
              clear hu hend
              go_wp2_with fail
              refine HU.out.mono ?_
              rintro e w5 ⟨rfl, hb5⟩
              have hq := (Below.refl w5.heap.size w5).alloc (Nat.le_refl _) (.cells #[.slice AB nB cB, .slice zA zn zc, .slice AA nA cA] 34)
              have hbq := below_then hb5 hq
              have hB5 := Blk.new w5 34 #[.slice AB nB cB, .slice zA zn zc, .slice AA nA cA]
              have hpu := ps_redo_no (HS.out.past.below hbq) (by rw [List.length_map]; have := HEND.out; omega)
              have HPU := hide hpu
              have HB5 := hide hB5
              have HBQ := hide hbq
              clear hq hbq hB5 hpu hb5 HU
              go_wp2_with fail
              refine HPU.out.mono ?_
              rintro e w7 ⟨rfl, hb7⟩
              have h5 := HB5.out.below hb7
              have hm := HS.out.stay (below_then HBQ.out hb7)
              have h6 := hm.blk
              have HF := hide (HS.out.undone_no (W := w7) (below_then HBQ.out hb7))
              have k0 := h5.cell 0
              have k1 := h5.cell 1
              have k2 := h5.cell 2
              have y0 := h6.cell 0
              have y1 := h6.cell 1
              have y2 := h6.cell 2
              have z0 := h6.frozen 0
              have z1 := h6.frozen 1
              have z2 := h6.frozen 2
              have hl6 := h6.lt
              simp [LV.val] at k0 k1 k2 y0 y1 y2
              clear h5 h6 hm hb7 HPU
              go_wp2_with fail
              go_meet
              exact ⟨_, _, _, _, _, _, _, _, _, HF.out.more (Nat.le_succ _)⟩
        by_cases hk4 : r.kd = 4
        · as_aux_lemma =>
            obtain rfl : isA = false := by rw [HA.out]; have := hk4; simp; omega
            have ek2 : (((r.kd : Nat) : Int) == 2) = false := by have := hk4; simp; omega
            have fk2 : (r.kd == 2) = false := by have := hk4; simp; omega
            have ek3 : (((r.kd : Nat) : Int) == 3) = false := by have := hk4; simp; omega
            have fk3 : (r.kd == 3) = false := by have := hk4; simp; omega
            have ek4 : (((r.kd : Nat) : Int) == 4) = true := by simp [hk4]
            have fk4 : (r.kd == 4) = true := by simp [hk4]
            have ek5 : (((r.kd : Nat) : Int) == 5) = false := by have := hk4; simp; omega
            have fk5 : (r.kd == 5) = false := by have := hk4; simp; omega
            clear hk4
            have y0 := HS.out.blk.cell 0
            have y1 := HS.out.blk.cell 1
            have y2 := HS.out.blk.cell 2
            simp [LV.val] at y0 y1 y2
            have hmlt := HS.out.blk.lt
            have HL := hide (show (Z.map (·.2)).length ≤ 51 by rw [List.length_map]; exact HLEN.out.1)
            have HKZ := hide (fun W (hW : Below wz.heap.size wz W) => (⟨(hW.cell (p := ⟨w3.heap.size, 0, none⟩) hmlt).trans y0, (hW.cell (p := ⟨w3.heap.size, 1, none⟩) hmlt).trans y1, (hW.cell (p := ⟨w3.heap.size, 2, none⟩) hmlt).trans y2, (hW.cell (p := ⟨b, o + i * 5 + 4, none⟩) hbl).trans x4⟩ : W.cell? ⟨w3.heap.size, 0, none⟩ = some (.slice AB nB cB) ∧ W.cell? ⟨w3.heap.size, 1, none⟩ = some (.slice zA zn zc) ∧ W.cell? ⟨w3.heap.size, 2, none⟩ = some (.slice AA nA cA) ∧ W.cell? ⟨b, o + i * 5 + 4, none⟩ = some (.int .i64 r.x)))
            have hd := (Below.refl wz.heap.size wz).drew
            have HD := hide hd
            have hj := fun W (hW : Below wz.heap.size wz W) => jump22 (HS.out.mp.below hW) HL.out r.x
            unfold mval LV.val at hj
            have HJ := hide hj
            clear hj hd hmlt
            have HNZ := hide (fun W (hW : Below (wz.alloc (.cells #[.slice none 0 0, .slice none 0 0, .slice none 0 0] 34)).drew.heap.size (wz.alloc (.cells #[.slice none 0 0, .slice none 0 0, .slice none 0 0] 34)).drew W) => (Blk.new wz 34 #[.slice none 0 0, .slice none 0 0, .slice none 0 0]).below ((Below.refl _ _).drew.trans hW))
            have hne1 : w3.heap.size ≠ wz.heap.size := Nat.ne_of_lt HS.out.blk.lt
            have hne2 : b ≠ wz.heap.size := Nat.ne_of_lt hbl
            have HXX := hide (fun W (hW : Below wz.heap.size wz W) => (hW.cell (p := ⟨b, o + i * 5 + 4, none⟩) hbl).trans x4)
            by_cases hok : JOk (Z.map (·.2)) nB r.x
            · as_aux_lemma =>
                have hj := fun W (hW : Below wz.heap.size wz W) => (HJ.out W hW).mono (fun e w' (h : (_ ∨ _) ∧ _) => (⟨h.1.resolve_left (fun h0 => h0.1 hok), h.2⟩ : _ ∧ _))
                have HJ2 := hide hj
                have HOKJ := hide hok
                clear hj HJ hok
                go_upto_region 41 with fail
                go_cut [19, 20] from 52 to 256 (fun s19 s20 W => ∃ (g : Nat) (A5 : Option Addr) (n5 c5 : Nat) (z5 : LV) (B5 : Option Addr) (m5 d5 : Nat), s19 = .pointer (some ⟨g, 0, none⟩) ∧ s20 = .bool true ∧ Blk W g 34 #[.slice A5 n5 c5, z5.val, .slice B5 m5 d5] ∧ MP W (Z.map (·.2)) ((nB : Int) + r.x).toNat A5 n5 c5 z5 B5 m5 d5 ∧ Below wz.heap.size wz W)
                case first =>
                  go_region_held3 (fun w' => w'.cell? ⟨w3.heap.size, 0, none⟩ = some (.slice AB nB cB) ∧ w'.cell? ⟨w3.heap.size, 1, none⟩ = some (.slice zA zn zc) ∧ w'.cell? ⟨w3.heap.size, 2, none⟩ = some (.slice AA nA cA) ∧ w'.cell? ⟨b, o + i * 5 + 4, none⟩ = some (.int .i64 r.x))
                    (first | go_keep | exact hK5 | exact hK6 _ _ _)
                    (first
                      | (with_reducible refine (HJ2.out _ (by repeat (first | exact Below.refl _ _ | refine Below.drew ?_ | refine Below.alloc ?_ (by first | (simp; done) | (simp; omega)) _))).mono ?_
                         rintro e w5 ⟨⟨A5, n5, c5, B5, m5, d5, ⟨zA5, zn5, zc5⟩, -, rfl, hM5⟩, hb5⟩
                         have hbx5 : Below wz.heap.size wz w5 := below_then (by repeat (first | exact Below.refl _ _ | refine Below.drew ?_ | refine Below.alloc ?_ (by first | (simp; done) | (simp; omega)) _)) hb5
                         have hK5 := HKZ.out _ hbx5
                         first
                           | (have hA5 := HNZ.out _ hb5
                              have q0 := hA5.cell 0
                              have q1 := hA5.cell 1
                              have q2 := hA5.cell 2
                              have r0 := hA5.frozen 0
                              have r1 := hA5.frozen 1
                              have r2 := hA5.frozen 2
                              have hlA := hA5.lt
                              simp at q0 q1 q2
                              have hK6 := fun (x y v : Value) => (⟨(far_set3 x y v hne1).trans hK5.1, (far_set3 x y v hne1).trans hK5.2.1, (far_set3 x y v hne1).trans hK5.2.2.1, (far_set3 x y v hne2).trans hK5.2.2.2⟩ : _ ∧ _ ∧ _ ∧ _)
                              have HA5 := hide hA5
                              clear hA5)
                           | skip))
                  all_goals
                    go_wp2_with fail
                    go_meet
                  all_goals
                    first
                      | exact ⟨_, A5, n5, c5, ⟨zA5, zn5, zc5⟩, B5, m5, d5, rfl, rfl, Blk.new _ _ _, hM5.below ((Below.refl _ _).alloc (Nat.le_refl _) _), below_then hbx5 ((Below.refl _ _).alloc (Nat.le_refl _) _)⟩
                      | exact ⟨_, A5, n5, c5, ⟨zA5, zn5, zc5⟩, B5, m5, d5, rfl, rfl, HA5.out.set3, hM5.keep (keep_set3 HA5.out (by decide) _ _ _), below_s3 hbx5 (Nat.le_refl _) _ _ _⟩
                case rest =>
                  obtain ⟨g, A5, n5, c5, ⟨zA5, zn5, zc5⟩, B5, m5, d5, rfl, rfl, hB5, hM5, hbc⟩ := hcut
                  rename World => wc
                  have x4' := HXX.out _ hbc
                  have hpj := ps_jump (n := r.x) (HS.out.past.below hbc) HOKJ.out.1 (by have := HOKJ.out.2; rw [List.length_map] at this ⊢; exact this)
                  have HPJ := hide hpj
                  have HB5 := hide (show Blk wc g 34 #[.slice A5 n5 c5, .slice zA5 zn5 zc5, .slice B5 m5 d5] from hB5)
                  have HM5 := hide hM5
                  have HBC := hide hbc
                  clear hpj hB5 hM5 hbc x4 hne1 hne2
                  go_wp2_with fail
                  refine HPJ.out.mono ?_
                  rintro e w7 ⟨rfl, hp7, hx7⟩
                  have hpb := (HS.out.past.below HBC.out).blk
                  obtain ⟨pA, pn, pc, pa, hPB⟩ := hpb
                  have h5 := hx7.blk HB5.out (HB5.out.ne_ hPB (by decide))
                  have hm := HS.out.stay HBC.out
                  have h6 := hx7.blk hm.blk (hm.blk.ne_ hPB (by decide))
                  have HF := hide (HS.out.undone HBC.out HM5.out hp7 hx7)
                  have k0 := h5.cell 0
                  have k1 := h5.cell 1
                  have k2 := h5.cell 2
                  have y0 := h6.cell 0
                  have y1 := h6.cell 1
                  have y2 := h6.cell 2
                  have z0 := h6.frozen 0
                  have z1 := h6.frozen 1
                  have z2 := h6.frozen 2
                  have hl6 := h6.lt
                  simp [LV.val] at k0 k1 k2 y0 y1 y2
                  clear hPB h5 h6 hm hp7 hx7 HPJ
                  go_wp2_with fail
                  go_meet
                  exact ⟨_, _, _, _, _, _, _, _, _, HF.out.more (Nat.le_succ _)⟩
            · as_aux_lemma =>
                have hj := fun W (hW : Below wz.heap.size wz W) => (HJ.out W hW).mono (fun e w' (h : (_ ∨ _) ∧ _) => (⟨h.1.resolve_right (fun ⟨_, _, _, _, _, _, _, h0, _⟩ => hok h0), h.2⟩ : _ ∧ _))
                have HJ2 := hide hj
                have HOKJ := hide hok
                clear hj HJ hok
                go_upto_region 41 with fail
                go_cut [19, 20] from 52 to 256 (fun s19 s20 W => ∃ (g : Nat), s19 = .pointer (some ⟨g, 0, none⟩) ∧ s20 = .bool false ∧ Blk W g 34 #[.slice AB nB cB, .slice zA zn zc, .slice AA nA cA] ∧ Below wz.heap.size wz W)
                case first =>
                  go_region_held3 (fun w' => w'.cell? ⟨w3.heap.size, 0, none⟩ = some (.slice AB nB cB) ∧ w'.cell? ⟨w3.heap.size, 1, none⟩ = some (.slice zA zn zc) ∧ w'.cell? ⟨w3.heap.size, 2, none⟩ = some (.slice AA nA cA) ∧ w'.cell? ⟨b, o + i * 5 + 4, none⟩ = some (.int .i64 r.x))
                    (first | go_keep | exact hK5 | exact hK6 _ _ _)
                    (first
                      | (with_reducible refine (HJ2.out _ (by repeat (first | exact Below.refl _ _ | refine Below.drew ?_ | refine Below.alloc ?_ (by first | (simp; done) | (simp; omega)) _))).mono ?_
                         rintro e w5 ⟨⟨-, rfl⟩, hb5⟩
                         have hbx5 : Below wz.heap.size wz w5 := below_then (by repeat (first | exact Below.refl _ _ | refine Below.drew ?_ | refine Below.alloc ?_ (by first | (simp; done) | (simp; omega)) _)) hb5
                         have hK5 := HKZ.out _ hbx5
                         first
                           | (have hA5 := HNZ.out _ hb5
                              have q0 := hA5.cell 0
                              have q1 := hA5.cell 1
                              have q2 := hA5.cell 2
                              have r0 := hA5.frozen 0
                              have r1 := hA5.frozen 1
                              have r2 := hA5.frozen 2
                              have hlA := hA5.lt
                              simp at q0 q1 q2
                              have hK6 := fun (x y v : Value) => (⟨(far_set3 x y v hne1).trans hK5.1, (far_set3 x y v hne1).trans hK5.2.1, (far_set3 x y v hne1).trans hK5.2.2.1, (far_set3 x y v hne2).trans hK5.2.2.2⟩ : _ ∧ _ ∧ _ ∧ _)
                              have HA5 := hide hA5
                              clear hA5)
                           | skip))
                  all_goals
                    go_wp2_with fail
                    go_meet
                  all_goals
                    first
                      | exact ⟨_, rfl, rfl, Blk.new _ _ _, below_then hbx5 ((Below.refl _ _).alloc (Nat.le_refl _) _)⟩
                      | exact ⟨_, rfl, rfl, HA5.out.set3, below_s3 hbx5 (Nat.le_refl _) _ _ _⟩
                case rest =>
                  obtain ⟨g, rfl, rfl, hB5, hbc⟩ := hcut
                  rename World => wc
                  have x4' := HXX.out _ hbc
                  have hpj := ps_jump_arg (n := r.x) (HS.out.past.below hbc) (by have := HOKJ.out; unfold JOk at this; rw [List.length_map] at this ⊢; exact jno this)
                  have HPJ := hide hpj
                  have HB5 := hide hB5
                  have HBC := hide hbc
                  clear hpj hB5 hbc x4 hne1 hne2
                  go_wp2_with fail
                  refine HPJ.out.mono ?_
                  rintro e w7 ⟨rfl, hb7⟩
                  have h5 := HB5.out.below hb7
                  have hm := HS.out.stay (below_then HBC.out hb7)
                  have h6 := hm.blk
                  have HF := hide (HS.out.undone_no (W := w7) (below_then HBC.out hb7))
                  have k0 := h5.cell 0
                  have k1 := h5.cell 1
                  have k2 := h5.cell 2
                  have y0 := h6.cell 0
                  have y1 := h6.cell 1
                  have y2 := h6.cell 2
                  have z0 := h6.frozen 0
                  have z1 := h6.frozen 1
                  have z2 := h6.frozen 2
                  have hl6 := h6.lt
                  simp [LV.val] at k0 k1 k2 y0 y1 y2
                  clear h5 h6 hm hb7 HPJ
                  go_wp2_with fail
                  go_meet
                  exact ⟨_, _, _, _, _, _, _, _, _, HF.out.more (Nat.le_succ _)⟩
        by_cases hk5 : r.kd = 5
        · as_aux_lemma =>
            obtain rfl : isA = false := by rw [HA.out]; have := hk5; simp; omega
            have ek2 : (((r.kd : Nat) : Int) == 2) = false := by have := hk5; simp; omega
            have fk2 : (r.kd == 2) = false := by have := hk5; simp; omega
            have ek3 : (((r.kd : Nat) : Int) == 3) = false := by have := hk5; simp; omega
            have fk3 : (r.kd == 3) = false := by have := hk5; simp; omega
            have ek4 : (((r.kd : Nat) : Int) == 4) = false := by have := hk5; simp; omega
            have fk4 : (r.kd == 4) = false := by have := hk5; simp; omega
            have ek5 : (((r.kd : Nat) : Int) == 5) = true := by simp [hk5]
            have fk5 : (r.kd == 5) = true := by simp [hk5]
            clear hk5
            have y0 := HS.out.blk.cell 0
            have y1 := HS.out.blk.cell 1
            have y2 := HS.out.blk.cell 2
            simp [LV.val] at y0 y1 y2
            by_cases hbad : r.x < 1 ∨ (nB : Int) < r.x
            · as_aux_lemma =>
                have HPS := hide (ps_since_arg HS.out.past hbad)
                have HX4 := hide (fun W (hW : Below wz.heap.size wz W) => (hW.cell (p := ⟨b, o + i * 5 + 4, none⟩) hbl).trans x4)
                go_wp2_with fail
                refine HPS.out.mono ?_
                rintro e w5 ⟨rfl, hb5⟩
                have HS5 := hide (HS.out.stay hb5)
                have x4' := HX4.out _ hb5
                have y0 := HS5.out.blk.cell 0
                simp at y0
                rcases hlt : decide (r.x < 1) with _ | _
                · have e20 : decide ((nB : Int) < r.x) = true := by
                    have := of_decide_eq_false hlt
                    have := hbad.resolve_left this
                    exact decide_eq_true this
                  clear hbad x4 hb5 HPS
                  go_wp2_with fail
                  go_quiet (fail)
                  rename Nat => nq
                  have HF := hide ((HS5.out.stay (below_drewN (Below.refl _ _) nq)).more (Nat.le_succ i))
                  go_wp2_with fail
                  go_meet
                  exact ⟨_, _, _, _, _, _, _, _, _, HF.out⟩
                · clear hbad x4 hb5 HPS
                  go_wp2_with fail
                  go_quiet (fail)
                  rename Nat => nq
                  have HF := hide ((HS5.out.stay (below_drewN (Below.refl _ _) nq)).more (Nat.le_succ i))
                  go_wp2_with fail
                  go_meet
                  exact ⟨_, _, _, _, _, _, _, _, _, HF.out⟩
            · as_aux_lemma =>
                obtain ⟨m, hm⟩ : ∃ m : Nat, r.x = (m : Int) := ⟨r.x.toNat, by omega⟩
                rw [hm] at x4 hbad
                have hm1 : 1 ≤ m := by omega
                have hmn : m ≤ nB := by omega
                have hlt1 := HLEN.out.2
                obtain ⟨t1, z1, ht1⟩ : ∃ (t1 : Nat) (z1 : LV), Z[nB - m]? = some (t1, z1) := ⟨Z[nB - m].1, Z[nB - m].2, List.getElem?_eq_getElem (by omega)⟩
                have hN0 := HS.out.now _ (List.mem_of_getElem? HTZ.out)
                have hN1 := HS.out.now _ (List.mem_of_getElem? ht1)
                obtain ⟨⟨ra, ea, hTa, hEa, hca, hSa, hka, hea⟩, hna⟩ := hN1
                obtain ⟨⟨rb, eb, hTb, hEb, hcb, hSb, hkb, heb⟩, hnb⟩ := hN0
                simp only at hTa hEa hca hna hTb hEb hcb hnb
                have hlea : ea.length = z1.n := by rw [← hea]; unfold ents; rw [List.length_map]; exact hEa.len
                have hleb : eb.length = zn := by rw [← heb]; unfold ents; rw [List.length_map]; exact hEb.len
                have HPS := hide (ps_since HS.out.past (R22S.ts HTZ.out) hm1 hmn (show (Z.map (·.1))[nB - m]? = some t1 by rw [List.getElem?_map, ht1]; rfl) hTa hTb (by omega) (by omega))
                obtain ⟨bb, ob, zz, rfl, hbbl, hzz, hcell⟩ := HS.out.mp.behind.at_ (i := nB - m) (by omega)
                obtain rfl : zz = z1 := by
                  rw [List.getElem?_take_of_lt (by omega), List.getElem?_map, ht1] at hzz
                  simpa using hzz.symm
                obtain ⟨z1A, z1n, z1c⟩ := zz
                simp only [LV.val] at hcell
                simp only at hEa hca hlea hna
                obtain ⟨d, hd⟩ : ∃ d, d = nB - m := ⟨_, rfl⟩
                rw [← hd] at hcell
                have i1 : IntKind.i64.wrap ((nB : Int) - (m : Int)) = (d : Int) := by rw [IntKind.wrap_i64]; omega
                have i2 : (0 : Int) ≤ (d : Int) := by omega
                have i3 : (d : Int) < (nB : Int) := by omega
                have e20 : decide ((m : Int) < 1) = false := by simp; omega
                have e21 : decide ((nB : Int) < (m : Int)) = false := by simp; omega
                have e22 : decide (nB < m) = false := by simp; omega
                have e23 : (m == 0) = false := by simp; omega
                have e24 : decide (m < 1) = false := by simp; omega
                have e25 : ¬ m = 0 := by omega
                have hmlt := HS.out.blk.lt
                have HKZ := hide (fun W (hW : Below wz.heap.size wz W) => (⟨(hW.cell (p := ⟨w3.heap.size, 0, none⟩) hmlt).trans y0, (hW.cell (p := ⟨w3.heap.size, 1, none⟩) hmlt).trans y1, (hW.cell (p := ⟨b, o + i * 5 + 4, none⟩) hbl).trans x4, (hW.cell (p := ⟨bb, ob + d, none⟩) hbbl).trans hcell⟩ : W.cell? ⟨w3.heap.size, 0, none⟩ = some (.slice (some ⟨bb, ob, none⟩) nB cB) ∧ W.cell? ⟨w3.heap.size, 1, none⟩ = some (.slice zA zn zc) ∧ W.cell? ⟨b, o + i * 5 + 4, none⟩ = some (.int .i64 (m : Int)) ∧ W.cell? ⟨bb, ob + d, none⟩ = some (.slice z1A z1n z1c)))
                have HRC := hide (fun W (hW : Below wz.heap.size wz W) => ref_changes (c := z1c) (d := zc) (hEa.below hW) hca hSa hka (hEb.below hW) hSb hkb (by omega) (by omega) (by omega))
                have HEQ := hide (And.intro hea (And.intro heb (And.intro hlea (And.intro hleb (And.intro hna hnb)))))
                clear hTa hEa hca hSa hka hea hTb hEb hcb hSb hkb heb hna hnb hlea hleb ht1 hbad hm hzz hd hmn hlt1 hm1 hbbl hcell
                go_wp2_with fail
                refine HPS.out.mono ?_
                rintro e w5 ⟨A5, c5, X, rfl, hch5, hat5, hk5, hb5⟩
                have hk := HKZ.out _ hb5
                obtain ⟨y0', y1', x4', hcell'⟩ := hk
                have hlX : X.length ≤ 2000 := by
                  have h1 := hch5.len_le
                  rw [ces_len] at h1
                  have h2 := HEQ.out.2.2.1
                  have h3 := HEQ.out.2.2.2.1
                  have h4 := HEQ.out.2.2.2.2.1
                  have h5 := HEQ.out.2.2.2.2.2
                  omega
                have HX := hide (And.intro hch5 (And.intro hat5 (And.intro hk5 hlX)))
                have HB5 := hide hb5
                obtain ⟨nx, hnx⟩ : ∃ nx, X.length = nx := ⟨_, rfl⟩
                rw [hnx] at hlX ⊢
                have HNX := hide hnx
                clear hch5 hat5 hk5 hb5 hnx HPS x4 y0 y1 y2
                go_wp2_with fail
                go_quiet (fail)
                rename Nat => nq
                have hbq := below_drewN (Below.refl w5.heap.size w5) nq
                have hd0 : Below w5.heap.size w5 (w5.drewN nq).drew := hbq.drew
                have HD := hide (below_then HB5.out hd0)
                have HD5 := hide hd0
                have HK51 := hide (HKZ.out _ HD.out)
                have hkk := HKZ.out _ (below_then HB5.out hbq)
                obtain ⟨y0, y1, x4, hcell⟩ := hkk
                clear y0' y1' x4' hcell' hbq hd0
                go_wp2_with fail
                go_region_held3 (fun w' => w'.cell? ⟨w3.heap.size, 0, none⟩ = some (.slice (some ⟨bb, ob, none⟩) nB cB) ∧ w'.cell? ⟨w3.heap.size, 1, none⟩ = some (.slice zA zn zc) ∧ w'.cell? ⟨b, o + i * 5 + 4, none⟩ = some (.int .i64 (m : Int)) ∧ w'.cell? ⟨bb, ob + d, none⟩ = some (.slice z1A z1n z1c))
                  (first | exact HK51.out | go_keep | exact hK6 | exact hK7)
                  (first
                    | (go_at_call 20
                       refine (HRC.out _ HD.out).mono ?_
                       intro e w6 hrc6
                       obtain ⟨A6, c6, n6, Y, rfl, hnY, hch6, hat6, hk6, hb6⟩ := rc22 hrc6
                       have hbx6 := below_then HD.out hb6
                       have hK6 := HKZ.out _ hbx6
                       have hcc : ces X = ces Y := by
                         rw [HEQ.out.1, HEQ.out.2.1] at hch6
                         exact HX.out.1.uniq hch6
                       obtain rfl : n6 = nx := by rw [← hnY, ← ces_len, ← hcc, ces_len, HNX.out]
                       have HSM := hide (ref12_same22 (c := c5) (d := c6) (HX.out.2.1.below (below_then HD5.out hb6)) hat6 HNX.out hnY hcc (by omega) (fun r hr => by rw [HX.out.2.2.1 r hr]; omega) (fun r hr => by rw [hk6 r hr]; omega))
                       clear hch6 hat6 hk6 hcc hnY)
                    | (go_at_call 19
                       refine HSM.out.mono ?_
                       rintro e w7 ⟨rfl, hb7⟩
                       have hbx7 := below_then hbx6 hb7
                       have hK7 := HKZ.out _ hbx7))
                have HF := hide ((HS.out.stay hbx7).more (Nat.le_succ i))
                clear hbx6 hb6 hb7 hbx7 hK6 hK7
                go_wp2_with fail
                go_meet
                exact ⟨_, _, _, _, _, _, _, _, _, HF.out⟩
        have hkn := And.intro hk0 (And.intro hk2 (And.intro hk3 (And.intro hk4 (And.intro hk5 hk6))))
        clear hk0 hk2 hk3 hk4 hk5 hk6
        obtain rfl : isA = false := by rw [HA.out]; have := hkn; simp; omega
        have ek2 : (((r.kd : Nat) : Int) == 2) = false := by have := hkn; simp; omega
        have fk2 : (r.kd == 2) = false := by have := hkn; simp; omega
        have ek3 : (((r.kd : Nat) : Int) == 3) = false := by have := hkn; simp; omega
        have fk3 : (r.kd == 3) = false := by have := hkn; simp; omega
        have ek4 : (((r.kd : Nat) : Int) == 4) = false := by have := hkn; simp; omega
        have fk4 : (r.kd == 4) = false := by have := hkn; simp; omega
        have ek5 : (((r.kd : Nat) : Int) == 5) = false := by have := hkn; simp; omega
        have fk5 : (r.kd == 5) = false := by have := hkn; simp; omega
        clear hkn
        have HF := hide (HS.out.more (Nat.le_succ i))
        go_wp2_with fail
        go_meet
        exact ⟨_, _, _, _, _, _, _, _, _, HF.out⟩
    case rest =>
      obtain ⟨Z9, a9, AB9, nB9, cB9, ⟨zA9, zn9, zc9⟩, AA9, nA9, cA9, hS9⟩  := hcut
      rename World => wc
      have hnb9 : nB9 = a9 := hS9.mp.nb
      subst hnb9
      have hna9 := hS9.mp.na
      rw [List.length_map] at hna9
      obtain ⟨hl9, hl9'⟩ := hS9.len
      obtain ⟨t9, ht9⟩ := hS9.cur
      have hzn9 := (hS9.now _ (List.mem_of_getElem? ht9))
      have hln := ps_len hS9.past
      rw [List.length_map] at hln
      have HLN := hide hln
      have HS9 := hide hS9
      have HT9 := hide ht9
      have HZ9 := hide hzn9.2
      have e21 : (((Z9.length : Int) - 1 - (nB9 : Int)) != (nA9 : Int)) = false := by simp; omega
      clear hS9 hna9 hl9 hl9' ht9 hzn9 hln
      go_wp2_with fail
      refine HLN.out.mono ?_
      rintro e w21 ⟨rfl, hb21⟩
      have HS21 := hide (HS9.out.stay hb21)
      have y0 := HS21.out.blk.cell 0
      have y1 := HS21.out.blk.cell 1
      have y2 := HS21.out.blk.cell 2
      simp [LV.val] at y0 y1 y2
      have hmlt := HS21.out.blk.lt
      have HK9 := hide (fun W (hW : Below w21.heap.size w21 W) => (⟨(hW.cell (p := ⟨w3.heap.size, 0, none⟩) hmlt).trans y0, (hW.cell (p := ⟨w3.heap.size, 1, none⟩) hmlt).trans y1, (hW.cell (p := ⟨w3.heap.size, 2, none⟩) hmlt).trans y2⟩ : W.cell? ⟨w3.heap.size, 0, none⟩ = some (.slice AB9 nB9 cB9) ∧ W.cell? ⟨w3.heap.size, 1, none⟩ = some (.slice zA9 zn9 zc9) ∧ W.cell? ⟨w3.heap.size, 2, none⟩ = some (.slice AA9 nA9 cA9)))
      have hd21 := (Below.refl w21.heap.size w21).drew
      have HNW := hide (ps_now (HS21.out.past.below hd21) (R22S.ts HT9.out))
      have HTL := hide (fun W (hW : Below w21.heap.size w21 W) => now_len ((HS21.out.now _ (List.mem_of_getElem? HT9.out)).1.stay hW) (by have := HZ9.out; have := HIN.out; simp only at *; omega))
      simp only at HTL
      have HD21 := hide hd21
      clear hb21 hmlt hd21 HLN HS9
      go_wp2_with fail
      go_region_held3 (fun w' => w'.cell? ⟨w3.heap.size, 0, none⟩ = some (.slice AB9 nB9 cB9) ∧ w'.cell? ⟨w3.heap.size, 1, none⟩ = some (.slice zA9 zn9 zc9) ∧ w'.cell? ⟨w3.heap.size, 2, none⟩ = some (.slice AA9 nA9 cA9))
        (first | go_keep | exact hK22 | exact hK23)
        (first
          | (with_reducible refine HNW.out.mono ?_
             rintro e w22 ⟨rfl, hb22⟩
             have hbx22 := below_then HD21.out hb22
             have hK22 := HK9.out _ hbx22)
          | (with_reducible refine (HTL.out _ hbx22).mono ?_
             rintro e w23 ⟨rfl, hb23⟩
             have hbx23 := below_then hbx22 hb23
             have hK23 := HK9.out _ hbx23))
      go_wp2
      go_roundw
      case rel => exact ⟨i + 1, Z9, nB9, _, _, _, _, _, _, _, by go_num, HIN.out, HS21.out.stay hbx23⟩
      case measure =>
        have := HIN.out
        simp [intOf]
        omega
end Go.Proofs.YtghnpflaafdcdaaGreat
