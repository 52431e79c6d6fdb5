/- The reference Path. -/
import Derived.Test.YtkknfnjojamgjaaTrD
set_option linter.unusedSimpArgs false
set_option linter.unusedVariables false
namespace Go.Proofs.Ytkknfnjojamgjaa
section
open Go.RowKit
/-- A slice of entries. -/
structure EV where
  A : Option Addr
  n : Nat
  c : Nat
def EV.val (s : EV) : Value := .slice s.A s.n s.c
def EV.ok (w : World) (k : Nat) (s : EV) (es : List Ent) : Prop := ∃ rows, EntsAt w s.A s.n rows ∧ s.n ≤ s.c ∧ s.n ≤ 30000 ∧ (∀ r ∈ rows, r.n = k) ∧ ents rows = es
theorem EV.ok.below {w w' : World} {k : Nat} {s : EV} {es : List Ent} (h : s.ok w k es) (hb : Below w.heap.size w w') : s.ok w' k es := by
  obtain ⟨rows, h1, h2, h3, h4, h5⟩ := h
  exact ⟨rows, h1.below hb, h2, h3, h4, h5⟩
def tailEs (p : List Nat) : Option (Nat × NT) → List (List Ent)
  | none => []
  | some x => if part x.2.pre p ≤ x.2.lv then [x.2.es] else []
def pathEs (p : List Nat) (fs : List PF) (bot : Option (Nat × NT)) : List (List Ent) := fs.map (fun f => kidEs f.ks) ++ tailEs p bot
theorem kidAt_mem {ks : List Kid} {q : Kid} {a : Nat} (hs : ks.Pairwise fun q r => q.at_ < r.at_) (hq : q ∈ ks) (ha : q.at_ = a) : esOf (kidAt ks a) = q.es := by
  cases hk : kidAt ks a with
  | none => exact absurd ha (kidAt_none hk q hq)
  | some x =>
    obtain ⟨r, hr, hra, rfl⟩ := kidAt_some hk
    have : r = q := by
      obtain ⟨i, hi, rfl⟩ := List.getElem_of_mem hr
      obtain ⟨j, hj, rfl⟩ := List.getElem_of_mem hq
      rw [List.pairwise_iff_getElem] at hs
      rcases Nat.lt_trichotomy i j with hij | hij | hij
      · have := hs i j hi hj hij
        omega
      · simp [hij]
      · have := hs j i hj hi hij
        omega
    rw [this]
    rfl
theorem sameB_cast (a b : List Nat) : sameB (a.map fun (x : Nat) => (x : Int)) (b.map fun (x : Nat) => (x : Int)) = decide (a = b) := by
  unfold sameB
  apply boolI
  rw [decide_eq_true_eq, decide_eq_true_eq]
  constructor
  · intro h
    apply List.ext_getElem (by have := congrArg List.length h; simpa using this)
    intro i h1 h2
    have := congrArg (fun l => l[i]?) h
    simp [h1, h2] at this
    omega
  · intro h; rw [h]
theorem covers_cut7 {k m : Nat} {pre q : List Nat} (hp : Zp k pre) (hq : Zp k q) (hz : ∀ b, b ≤ m → addrOf pre b = 0) : part pre q ≤ (m : Int) ↔ cut (m + 1) q = pre := by
  obtain ⟨g1, g2, g3, g4⟩ := part_spec pre q (by rw [hp.1, hq.1]) hp.2 hq.2
  constructor
  · intro h
    refine eq_of_addr (zp_cut hq) hp fun b => ?_
    rcases Nat.lt_or_ge m b with hb | hb
    · rw [addr_cut_hi _ (by omega)]; exact (g3 b (by omega)).symm
    · rw [addr_cut_lo _ (by omega)]; exact (hz b hb).symm
  · intro h
    rcases Int.lt_or_le (m : Int) (part pre q) with h1 | h1
    · exfalso
      refine g4 (by omega) ?_
      have := addr_cut_hi (m := m + 1) (b := (part pre q).toNat) q (by omega)
      rw [h] at this
      exact this
    · exact h1
theorem cut_zero (p : List Nat) : cut 0 p = p := by
  unfold cut cutc
  simp
theorem Way.drop_ {p : List Nat} {fs : List PF} {i : Nat} {cur bot : Option (Nat × NT)} {f : PF} (h : Way p (fs.drop i) cur bot) (hf : fs[i]? = some f) : cur = some (f.g, f.nt) ∧ part f.pre p ≤ (f.lv : Int) ∧ Way p (fs.drop (i + 1)) (kidAt f.ks (addrOf p f.lv)) bot := by
  have hl := (List.getElem?_eq_some_iff.1 hf).1
  have hv := (List.getElem?_eq_some_iff.1 hf).2
  rw [List.drop_eq_getElem_cons hl, hv] at h
  exact h
/-- What the document's Path answers. -/
def RefPathOut (w0 : World) (k : Nat) (pes : List (List Ent)) (W : World) (e : Ending) (w' : World) : Prop :=
  ∃ (B : Option Addr) (d : Nat) (sls : List EV), e = .returned (.slice B sls.length d) ∧ w'.ownsRow W.heap.size 49 1 (.slice B sls.length d) sls.length (sls.map EV.val) ∧ sls.length = pes.length ∧ (∀ (j : Nat) (s : EV) (es : List Ent), sls[j]? = some s → pes[j]? = some es → s.ok w0 k es) ∧ Below W.heap.size W w'
set_option maxHeartbeats 8000000 in
set_option maxRecDepth 100000 in
theorem ref_path {w w0 W : World} {k : Nat} {p : List Nat} {fs : List PF} {top bot below : Option (Nat × NT)} {gs : List Nat} (hk1 : 1 ≤ k) (hk : k ≤ 16) (hW : Way p fs top bot) (hF : ∀ f ∈ fs, Fork w k f.g f.lv f.pre f.ks) (hl : fs.length ≤ 64) (hend : PathEnd w k p fs bot gs below)
    (hb0 : Below w0.heap.size w0 W) {s0 : EV} (hs0 : s0.ok w0 k (esOf top)) {RA : Option Addr} {rc : Nat} (hp : Pt w0 RA k p) :
    Calls Try.prog 76 #[.slice s0.A s0.n s0.c, .slice RA k rc] W (RefPathOut w0 k (pathEs p fs bot) W) := by
  have HW := hide hW
  have HF := hide hF
  have HEND := hide hend
  have HB0 := hide hb0
  have HS0 := hide hs0
  have HP := hide hp
  have HZ := hide hp.zp
  clear hW hF hend hb0 hs0 hp
  have hal := (Below.refl W.heap.size W).alloc (Nat.le_refl _) (.cells #[] 49)
  have HAL := hide hal
  clear hal
  go_enter Try.func76, Try.ntmps76
  go_wp2
  go_loopw [0, 5] (fun x0 x5 wr => ∃ (i : Nat) (cur : Option (Nat × NT)) (sA : Option Addr) (sn sc : Nat) (A5 : Option Addr) (d5 : Nat) (sls : List EV), x0 = .slice sA sn sc ∧ x5 = .slice A5 i d5 ∧ sls.length = i ∧ i ≤ fs.length ∧ Way p (fs.drop i) cur bot ∧ EV.ok w0 k ⟨sA, sn, sc⟩ (esOf cur) ∧
    wr.ownsRow W.heap.size 49 1 (.slice A5 i d5) i (sls.map EV.val) ∧ (∀ (j : Nat) (s : EV) (f : PF), sls[j]? = some s → fs[j]? = some f → s.ok w0 k (kidEs f.ks)) ∧ Below W.heap.size W wr) (fun _ x _ => fs.length + 1 - sliceLen x)
  case atStart =>
    refine ⟨0, top, s0.A, s0.n, s0.c, some ⟨W.heap.size, 0, none⟩, 0, [], rfl, rfl, rfl, Nat.zero_le _, HW.out, HS0.out, own_empty W 49 1, fun j s f h => by simp at h, HAL.out⟩
  case round =>
    obtain ⟨i, cur, sA, sn, sc, A5, d5, sls, rfl, rfl, hsl, hi, hWay, hok, hO, hsok, hb⟩ := hrel
    have HSL := hide hsl
    have HO3' := hide hO
    have HSOK := hide hsok
    have HBr := hide hb
    have HOK := hide hok
    rename World => wr
    have HP3' := hide (HP.out.below (below_then HB0.out hb))
    have hi64 : i ≤ 64 := by omega
    rcases Nat.lt_or_ge i fs.length with hif | hif
    · obtain ⟨f, hf⟩ : ∃ f, fs[i]? = some f := ⟨fs[i], List.getElem?_eq_getElem hif⟩
      obtain ⟨hcur, hcov, hWn⟩ := hWay.drop_ hf
      subst hcur
      have hFk := HF.out f (List.mem_of_getElem? hf)
      obtain ⟨rows, hE, hnc, hn3, hkk, hes⟩ := hok
      obtain ⟨G, rfl, hG⟩ := forkG hFk hes
      obtain ⟨r0, s1, hr0, hs1, hpart, hcut, hn2⟩ := hG.part_ hFk hE hkk
      simp only at hE hnc hn3 hn2 hs1
      have hlv : f.lv < 64 := hFk.fk.lv
      have hEW := hE.below HB0.out
      have hLv : ∀ X, Below W.heap.size W X → Calls Try.prog 136 #[.slice sA sn sc] X fun e w' => e = .returned (.int .i64 (f.lv : Nat)) ∧ Below X.heap.size X w' := fun X hX => by
        have := ref_level sA sn sc k G.flatten r0 s1 X (hEW.below hX) hr0 hs1 (hkk r0 (List.mem_of_getElem? hr0)) (hkk s1 (List.mem_of_getElem? hs1)) (by omega) (by omega) (by omega)
        rwa [hpart] at this
      have hGl : G.length ≤ 65536 := by
        obtain ⟨A, c, gs', hp', hS', hB'⟩ := hFk.head
        have h1 := len_le_of_ok hS'.ok
        have h2 := pow16 hS'.2.1
        rw [hG.len]
        simp [kidTh] at h1
        omega
      have HRS := hide (ref_shape_t sA sn sc k f.lv G r0 wr (hEW.below hb) hnc hkk hk1 hk (by omega) hn2 hlv hG.parts hr0 (fun X hX => hLv X (below_then hb hX)))
      have HKI := hide (fun (X : World) (hX : Below W.heap.size W X) => ref_kids sA sn sc k f.lv G X (hEW.below hX) hnc hkk (by omega) (by omega) (by omega) hlv hG.parts (fun Y hY => hLv Y (below_then hX hY)))
      have HSB : Hid (sameB ((cut (f.lv + 1) p).map fun (x : Nat) => (x : Int)) (f.pre.map fun (x : Nat) => (x : Int)) = true) := by
        have hz : ∀ b, b ≤ f.lv → addrOf f.pre b = 0 := by obtain ⟨_, _, _, _, _, _, h4, _⟩ := hFk; exact h4
        refine hide ?_
        rw [sameB_cast]
        simpa using (covers_cut7 hFk.fk.pre HZ.out hz).1 hcov
      have HE := hide hE
      have HFK := hide hFk
      have HG := hide hG
      have HKK := hide hkk
      have HNC := hide hnc
      have HWN := hide hWn
      have HFI := hide hf
      have HCUT := hide hcut
      have en0 : decide ((0 : Int) < (sn : Int)) = true := by simp; omega
      have en0' : (0 : Int) < (sn : Int) := by omega
      have en00 : 0 < sn := by omega
      have en1 : ((sn : Int) == 1) = false := by simp; omega
      obtain ⟨gl, hgl⟩ : ∃ gl, gl = G.length := ⟨_, rfl⟩
      rw [← hgl] at HRS HKI hGl
      have HGL := hide hgl
      clear hsl hO hsok hb hWay hcov hWn hFk hE hes hG hr0 hs1 hpart hcut hEW hLv hf hgl hkk hnc
      go_wp2_with fail
      refine HRS.out.mono ?_
      rintro e w2 ⟨A1, d1, C1, f1, rfl, hRA, -, hb2, -, -⟩
      have hN3 := Blk.new w2 83 #[.int .i64 (f.lv : Int), .slice A1 k d1, .slice C1 gl f1, .bool (denseB k gl), .int .u64 0]
      have hal2 := below_alloc hb2 (Nat.le_refl _) (.cells #[.int .i64 (f.lv : Int), .slice A1 k d1, .slice C1 gl f1, .bool (denseB k gl), .int .u64 0] 83)
      have haw := (Below.refl w2.heap.size w2).alloc (Nat.le_refl _) (.cells #[.int .i64 (f.lv : Int), .slice A1 k d1, .slice C1 gl f1, .bool (denseB k gl), .int .u64 0] 83)
      rw [HCUT.out, u64s_int] at hRA
      have HRA := hide (hRA.below haw)
      clear hRA hb2 haw HRS
      go_upto_region 4 with fail
      generalize w2.alloc (.cells #[.int .i64 (f.lv : Int), .slice A1 k d1, .slice C1 gl f1, .bool (denseB k gl), .int .u64 0] 83) = w3 at *
      generalize w2.heap.size = q6 at *
      have hq6 := hN3.lt
      have HN3 := hide hN3
      have y0 := hN3.cell 0
      have y1 := hN3.cell 1
      simp at y0 y1
      have HP3 := hide (HP3'.out.below hal2)
      have HO3 := hide (own_below HO3'.out hal2)
      have HB3 := hide (below_then HBr.out hal2)
      have HX3 := hide hal2
      clear hN3 hal2
      go_wp2_with fail
      go_region_held3 (fun w' => w'.cell? ⟨q6, 0, none⟩ = some (.int .i64 (f.lv : Int)) ∧ w'.cell? ⟨q6, 1, none⟩ = some (.slice A1 k d1))
        (first
          | go_keep
          | exact hk5
          | exact hk6)
        (first
          | (go_at_call 41
             have CC := ref_cut RA k rc (f.lv + 1) p w3.drew (HP3.out.below (Below.refl _ w3).drew) (by omega) (by omega)
             rw [show ((f.lv + 1 : Nat) : Int) - 1 = (f.lv : Int) by omega] at CC
             refine CC.mono ?_
             rintro e w5 ⟨v5, rfl, ho5, hb5⟩
             obtain ⟨A4, d4, rfl, -, hR5⟩ := Rw.of_own ho5
             have hd5 : Below w3.heap.size w3 w5 := (Below.refl _ w3).drew.trans hb5
             have hk5 := And.intro ((hd5.cell (p := ⟨q6, 0, none⟩) hq6).trans y0) ((hd5.cell (p := ⟨q6, 1, none⟩) hq6).trans y1)
             rw [u64s_int] at hR5
             have HR5 := hide hR5
             clear ho5 hb5 hR5)
          | (go_at_call 37
             have CS := same_u64 A4 A1 k d4 k d1 _ _ w5 HR5.out (HRA.out.below hd5) (by omega) (by omega)
             rw [HSB.out] at CS
             refine CS.mono ?_
             rintro e w6 ⟨rfl, hb6⟩
             have hd6 := below_then hd5 hb6
             have hk6 := And.intro ((hd6.cell (p := ⟨q6, 0, none⟩) hq6).trans y0) ((hd6.cell (p := ⟨q6, 1, none⟩) hq6).trans y1)
             have HD6 := hide hd6
             clear hb6 CS))
      have HO6 := hide (own_below HO3.out HD6.out)
      have hbW6 := below_then HB3.out HD6.out
      have hal7 := (Below.refl w6.heap.size w6).alloc (Nat.le_refl _) (.cells #[.slice sA sn sc] 49)
      have hb7 := below_alloc hbW6 (Nat.le_refl _) (.cells #[.slice sA sn sc] 49)
      go_wp2_with (first
        | (at_builtin
           refine app_b _ rfl (.tmp 24) (.tmp 26) _ rfl W.heap.size 49 _ 1 24 Try.underlying112 info_es rfl (by omega) _ i _ rfl (own_below HO6.out hal7) (some ⟨w6.heap.size, 0, none⟩) 1 1 [.slice sA sn sc] rfl W hb7 (Nat.le_refl _) (Rw.new1 w6 49 #[.slice sA sn sc] rfl) ?h2 (by unfold maxLen; omega) (by omega) ?_
           case h2 =>
             intro u hu
             rw [List.mem_singleton] at hu
             rw [hu]
             rfl
           intro v8 w8 ho8 hb8 hg8
           obtain ⟨A8, d8, rfl, -, -⟩ := Rw.of_own ho8
           have HO8 := hide ho8
           have HN8 := hide (((HN3.out.below HD6.out).below hal7).grown (own_below HO6.out hal7) (by decide) hg8)
           have HB8 := hide hb8
           clear ho8 hb8 hg8)
        | fail)
      have HKI8 := hide (HKI.out w8 HB8.out)
      clear y0 y1 hd5 hd6 hk5 hk6 hal7 hb7 hbW6
      go_wp2_with fail
      refine HKI8.out.mono ?_
      rintro e w9 ⟨C, f9, rfl, hoC, hb9⟩
      have hal9 := (Below.refl w9.heap.size w9).alloc (Nat.le_refl _) (.cells #[] 59)
      have HO9 := hide (own_below (own_below HO8.out hb9) hal9)
      have HC9 := hide (own_below hoC hal9)
      have HN9 := hide ((HN8.out.below hb9).below hal9)
      have HB9 := hide (below_then (below_then HB8.out hb9) hal9)
      obtain ⟨cb, hcb⟩ : ∃ cb, cb = w8.heap.size := ⟨_, rfl⟩
      rw [← hcb] at HC9
      have HEMP : Hid (EV.ok w0 k ⟨some ⟨w9.heap.size, 0, none⟩, 0, 0⟩ []) := hide ⟨[], ⟨Rw.nil _ _ _, fun r hr => (by cases hr)⟩, Nat.le_refl _, by show 0 ≤ _; omega, fun r hr => (by cases hr), rfl⟩
      clear hoC hb9 hal9 HKI8 HKI hcb
      go_wp2
      go_loopw [0, 8] (fun x0 x8 wq => ∃ (j : Nat) (zA : Option Addr) (zn zc : Nat), x8 = .int .i64 (j : Int) ∧ j ≤ gl ∧ x0 = .slice zA zn zc ∧ ((EV.ok w0 k ⟨zA, zn, zc⟩ [] ∧ ∀ (m : Nat) (q : Kid), m < j → f.ks[m]? = some q → q.at_ ≠ addrOf p f.lv) ∨ ∃ q ∈ f.ks, q.at_ = addrOf p f.lv ∧ EV.ok w0 k ⟨zA, zn, zc⟩ q.es) ∧
        wq.ownsRow W.heap.size 49 1 (.slice A8 (i + 1) d8) (i + 1) (sls.map EV.val ++ [.slice sA sn sc]) ∧ wq.ownsRow cb 49 1 (.slice C gl f9) gl (segvs sA sc G gl) ∧ Blk wq q6 83 #[.int .i64 (f.lv : Int), .slice A1 k d1, .slice C1 gl f1, .bool (denseB k gl), .int .u64 0] ∧ Below W.heap.size W wq) (fun _ x _ => gl - (intOf x).toNat)
      case atStart => exact ⟨0, _, 0, 0, rfl, Nat.zero_le _, rfl, .inl ⟨HEMP.out, fun m q hm => absurd hm (by omega)⟩, HO9.out, HC9.out, HN9.out, HB9.out⟩
      case round =>
        obtain ⟨j, zA, zn, zc, rfl, hj, rfl, halt, hOq, hCq, hNq, hbq⟩ := hrel
        have HALT := hide halt
        have HOQ := hide hOq
        have HCQ := hide hCq
        have HNQ := hide hNq
        have HBQ := hide hbq
        rename World => wq
        by_cases hjn : j < gl
        · obtain ⟨gg, hg⟩ : ∃ gg, G[j]? = some gg := ⟨G[j]'(by have := HGL.out; omega), List.getElem?_eq_getElem _⟩
          obtain ⟨q, hq⟩ : ∃ q, f.ks[j]? = some q := ⟨f.ks[j]'(by have := HGL.out; have := HG.out.len; omega), List.getElem?_eq_getElem _⟩
          obtain ⟨s1', s2, s3⟩ := HE.out.seg HNC.out hg
          have hg0 : 0 < gg.length := List.length_pos_iff.2 (HG.out.parts.ne gg (List.mem_of_getElem? hg))
          have hw0q := below_then HB0.out hbq
          obtain ⟨b2, o2, r1, hA2, hbl2, hr1, hok1, k2, -⟩ := (s2.below hw0q).at_ (i := 0) hg0
          have hr1m : r1 ∈ G.flatten := List.mem_flatten.2 ⟨gg, List.mem_of_getElem? hg, List.mem_of_getElem? hr1⟩
          have hr1n := HKK.out r1 hr1m
          rw [hr1n] at k2
          have hp1 := hok1.1
          rw [hr1n] at hp1
          simp only [Nat.zero_mul, Nat.add_zero] at k2
          have hgge := HG.out.es j gg q hg hq
          have hsok2 : EV.ok w0 k ⟨cutA sA sc 2 (fl G j), gg.length, sc - fl G j⟩ q.es := by
            refine ⟨gg, s2, s3, ?_, fun r hr => HKK.out r (List.mem_flatten.2 ⟨gg, List.mem_of_getElem? hg, hr⟩), hgge⟩
            have := fl_le hg
            have := HE.out.len
            show gg.length ≤ _
            omega
          rw [hA2] at s1' hsok2
          obtain ⟨b5, o5, rfl, hbl5, u, hu, k5⟩ := (own_rw hCq).2.one hjn
          have hu2 : u = .slice (some ⟨b2, o2, none⟩) gg.length (sc - fl G j) := by
            unfold segvs at hu
            rw [List.getElem?_map, List.getElem?_range hjn] at hu
            simp at hu
            rw [← hu, s1']
          rw [hu2] at k5
          have hat := HG.out.at_ j gg q r1 hg hq (List.mem_of_getElem? hr1)
          have z0 := hNq.cell 0
          simp at z0
          have HP1 := hide hp1
          have HAT := hide hat
          have HSOK2 := hide hsok2
          have HQ := hide hq
          have HPQ := hide (HP.out.below hw0q)
          have hgg0' : (0 : Int) < (gg.length : Int) := by omega
          generalize sc - fl G j = cg at *
          generalize gg.length = gn at *
          clear halt hOq hCq hNq hbq hg hq s1' s2 s3 hw0q hA2 hr1 hok1 hr1m hr1n hp1 hgge hsok2 hu hu2 hat
          by_cases hqa : q.at_ = addrOf p f.lv
          · have eqa : ((q.at_ : Int) == (addrOf p f.lv : Int)) = true := by simp; omega
            have HQA := hide hqa
            clear hqa
            go_wp2_with fail
            go_quiet ((first
              | (go_at_call 45
                 have CC := fun N => ref_addr r1.A k r1.c f.lv r1.p (wq.drewN N) (HP1.out.below (below_drewN (Below.refl _ wq) N)) (by omega) hlv
                 rw [HAT.out] at CC
                 refine Calls.quiet_of_same (still_of (calls_args (CC _) ?_)); rfl)
              | (go_at_call 45
                 have CC := fun N => ref_addr RA k rc f.lv p (wq.drewN N) (HPQ.out.below (below_drewN (Below.refl _ wq) N)) (by omega) hlv
                 refine Calls.quiet_of_same (still_of (calls_args (CC _) ?_)); rfl)))
            go_wp2
            go_roundw
            case rel =>
              have hd := below_drewN (Below.refl wq.heap.size wq) nq
              exact ⟨j + 1, _, gn, cg, by go_num, by omega, rfl, .inr ⟨q, List.mem_of_getElem? HQ.out, HQA.out, HSOK2.out⟩, own_below HOQ.out hd, own_below HCQ.out hd, HNQ.out.below hd, below_then HBQ.out hd⟩
            case measure => simp [intOf]; omega
          · have eqa : ((q.at_ : Int) == (addrOf p f.lv : Int)) = false := by simp; omega
            have HQA := hide hqa
            clear hqa
            go_wp2_with fail
            go_quiet ((first
              | (go_at_call 45
                 have CC := fun N => ref_addr r1.A k r1.c f.lv r1.p (wq.drewN N) (HP1.out.below (below_drewN (Below.refl _ wq) N)) (by omega) hlv
                 rw [HAT.out] at CC
                 refine Calls.quiet_of_same (still_of (calls_args (CC _) ?_)); rfl)
              | (go_at_call 45
                 have CC := fun N => ref_addr RA k rc f.lv p (wq.drewN N) (HPQ.out.below (below_drewN (Below.refl _ wq) N)) (by omega) hlv
                 refine Calls.quiet_of_same (still_of (calls_args (CC _) ?_)); rfl)))
            go_wp2
            go_roundw
            case rel =>
              have hd := below_drewN (Below.refl wq.heap.size wq) nq
              refine ⟨j + 1, zA, zn, zc, by go_num, by omega, rfl, ?_, own_below HOQ.out hd, own_below HCQ.out hd, HNQ.out.below hd, below_then HBQ.out hd⟩
              rcases HALT.out with ⟨h1, h2⟩ | h1
              · refine .inl ⟨h1, fun m q' hm hq' => ?_⟩
                rcases Nat.eq_or_lt_of_le (show m ≤ j by omega) with rfl | hm2
                · rw [HQ.out] at hq'
                  injection hq' with hq'
                  rw [← hq']
                  exact HQA.out
                · exact h2 m q' hm2 hq'
              · exact .inr h1
            case measure => simp [intOf]; omega
        · have e9 : decide ((j : Int) < (gl : Int)) = false := by simp; omega
          have hje : j = gl := by omega
          have HJE := hide hje
          clear halt hOq hCq hNq hbq hje
          go_wp2
          go_roundw
          case rel =>
            refine ⟨i + 1, kidAt f.ks (addrOf p f.lv), zA, zn, zc, A8, d8, sls ++ [⟨sA, sn, sc⟩], rfl, rfl, by rw [List.length_append, HSL.out]; rfl, by omega, HWN.out, ?_, ?_, ?_, HBQ.out⟩
            · rcases HALT.out with ⟨h1, h2⟩ | ⟨q, hq, hqa, h1⟩
              · have : kidAt f.ks (addrOf p f.lv) = none := by
                  cases hk' : kidAt f.ks (addrOf p f.lv) with
                  | none => rfl
                  | some x =>
                    obtain ⟨q, hq, hqa, -⟩ := kidAt_some hk'
                    obtain ⟨m, hm⟩ := List.getElem?_of_mem hq
                    have hml := (List.getElem?_eq_some_iff.1 hm).1
                    exact absurd hqa (h2 m q (by have := HGL.out; have := HG.out.len; have := HJE.out; omega) hm)
                rw [this]
                exact h1
              · rw [kidAt_mem HFK.out.fk.sort hq hqa]
                exact h1
            · rw [List.map_append]; exact HOQ.out
            · intro j' s' f' hs' hf'
              rcases Nat.lt_or_ge j' sls.length with hjl | hjl
              · rw [List.getElem?_append_left hjl] at hs'
                exact HSOK.out j' s' f' hs' hf'
              · rw [List.getElem?_append_right hjl] at hs'
                have hj0 : j' - sls.length = 0 := by
                  have := (List.getElem?_eq_some_iff.1 hs').1
                  simp at this
                  omega
                rw [hj0] at hs'
                simp at hs'
                have hji : j' = i := by have := HSL.out; omega
                rw [hji, HFI.out] at hf'
                injection hf' with hf'
                rw [← hs', ← hf']
                exact HOK.out
          case measure => simp [sliceLen]; omega
    · have hie : i = fs.length := by omega
      have hcb : cur = bot := by rw [List.drop_of_length_le hif] at hWay; exact hWay
      subst hcb
      have hend := HEND.out
      clear hWay HEND HW
      cases hend with
      | none =>
        obtain ⟨rows, hE, -, -, -, hes⟩ := hok
        obtain rfl : rows = [] := by unfold ents esOf at hes; simpa using hes
        obtain hsn : sn = 0 := by have := hE.len; simpa using this.symm
        subst hsn
        have HTAIL : Hid (tailEs p none = []) := hide rfl
        have HIE := hide hie
        clear hsl hO hsok hb hE hes hie
        go_wp2
        go_ret
        refine ⟨A5, d5, sls, by rw [HSL.out]; rfl, by rw [HSL.out]; exact HO3'.out, ?_, fun j s es hs he => ?_, HBr.out⟩
        · unfold pathEs; rw [HTAIL.out]; have := HSL.out; have := HIE.out; simp; omega
        · unfold pathEs at he; rw [HTAIL.out, List.append_nil, List.getElem?_map] at he
          obtain ⟨f, hf, rfl⟩ := Option.map_eq_some_iff.1 he
          exact HSOK.out j s f hs hf
      | leaf g v hn =>
        have HIE := hide hie
        clear hie
        have HSB : Hid (sameB ((cut 0 p).map fun (x : Nat) => (x : Int)) (p.map fun (x : Nat) => (x : Int)) = true) := hide (by rw [cut_zero, sameB_cast]; simp)
        have HTAIL : Hid (tailEs p (some (g, ⟨-1, p, [(p, v)]⟩)) = [[(p, v)]]) := hide (if_pos (by rw [part_self HZ.out]; exact Int.le_refl _))
        have HES0 : Hid (esOf (some (g, (⟨-1, p, [(p, v)]⟩ : NT))) = [(p, v)]) := hide rfl
        obtain ⟨rows, hE, hnc, hn3, hkk, hes⟩ := hok
        skip
        obtain ⟨r, rfl⟩ : ∃ r, rows = [r] := by
          have : rows.length = 1 := by
            have := congrArg List.length hes
            simpa [ents, esOf] using this
          match rows, this with
          | [r], _ => exact ⟨r, rfl⟩
        obtain hsn : sn = 1 := by have := hE.len; simpa using this.symm
        subst hsn
        have hok1 := hE.2 r List.mem_cons_self
        have hrk := hkk r List.mem_cons_self
        have hpp1 : r.p = p := by
          unfold ents ER.e at hes
          simp [esOf] at hes
          exact hes.1
        obtain ⟨rA, rn, rcc, rp, rv⟩ := r
        simp only at hrk hpp1 hok1
        have hrk' : k = rn := hrk.symm
        have HS1 := hide (ref_shape1 sA sc ⟨rA, rn, rcc, rp, rv⟩ wr (hE.below (below_then HB0.out hb)))
        have hRW := hok1.1.2.1
        simp only at HS1 hRW
        rw [hrk] at HS1 hRW
        have HRW0 := hide (hRW.below (below_then HB0.out hb))
        have hRp : p = rp := hpp1.symm
        subst hRp
        clear hsl hO hsok hb hok1 hE hes hkk hnc hRW hrk hrk'
        go_wp2_with fail
        refine HS1.out.mono ?_
        rintro e w2 ⟨rfl, hb2⟩
        have hN3 := Blk.new w2 83 #[.int .i64 (-1), .slice rA k rcc, .slice none 0 0, .bool false, .int .u64 (rv : Int)]
        have hal2 := below_alloc hb2 (Nat.le_refl _) (.cells #[.int .i64 (-1), .slice rA k rcc, .slice none 0 0, .bool false, .int .u64 (rv : Int)] 83)
        have hRA := HRW0.out.below hal2
        rw [u64s_int] at hRA
        have HRA := hide hRA
        clear hb2 HS1 hRA
        go_upto_region 4 with fail
        generalize w2.alloc (.cells #[.int .i64 (-1), .slice rA k rcc, .slice none 0 0, .bool false, .int .u64 (rv : Int)] 83) = w3 at *
        generalize w2.heap.size = q6 at *
        have hq6 := hN3.lt
        have HN3 := hide hN3
        have y0 := hN3.cell 0
        have y1 := hN3.cell 1
        simp at y0 y1
        have HP3 := hide (HP3'.out.below hal2)
        have HO3 := hide (own_below HO3'.out hal2)
        have HB3 := hide (below_then HBr.out hal2)
        clear hN3 hal2
        go_wp2_with fail
        go_region_held3 (fun w' => w'.cell? ⟨q6, 0, none⟩ = some (.int .i64 (-1)) ∧ w'.cell? ⟨q6, 1, none⟩ = some (.slice rA k rcc))
          (first
            | go_keep
            | exact hk5
            | exact hk6)
          (first
            | (go_at_call 41
               have CC := ref_cut RA k rc 0 p w3.drew (HP3.out.below (Below.refl _ w3).drew) (by omega) (by omega)
               rw [show ((0 : Nat) : Int) - 1 = -1 by omega] at CC
               refine CC.mono ?_
               rintro e w5 ⟨v5, rfl, ho5, hb5⟩
               obtain ⟨A4, d4, rfl, -, hR5⟩ := Rw.of_own ho5
               have hd5 : Below w3.heap.size w3 w5 := (Below.refl _ w3).drew.trans hb5
               have hk5 := And.intro ((hd5.cell (p := ⟨q6, 0, none⟩) hq6).trans y0) ((hd5.cell (p := ⟨q6, 1, none⟩) hq6).trans y1)
               rw [u64s_int] at hR5
               have HR5 := hide hR5
               clear ho5 hb5 hR5)
            | (go_at_call 37
               have CS := same_u64 A4 rA k d4 k rcc _ _ w5 HR5.out (HRA.out.below hd5) (by omega) (by omega)
               rw [HSB.out] at CS
               refine CS.mono ?_
               rintro e w6 ⟨rfl, hb6⟩
               have hd6 := below_then hd5 hb6
               have hk6 := And.intro ((hd6.cell (p := ⟨q6, 0, none⟩) hq6).trans y0) ((hd6.cell (p := ⟨q6, 1, none⟩) hq6).trans y1)
               have HD6 := hide hd6
               clear hb6 CS))
        have HO6 := hide (own_below HO3.out HD6.out)
        have hbW6 := below_then HB3.out HD6.out
        have hal7 := (Below.refl w6.heap.size w6).alloc (Nat.le_refl _) (.cells #[.slice sA 1 sc] 49)
        have hb7 := below_alloc hbW6 (Nat.le_refl _) (.cells #[.slice sA 1 sc] 49)
        go_wp2_with (first
          | (at_builtin
             refine app_b _ rfl (.tmp 24) (.tmp 26) _ rfl W.heap.size 49 _ 1 24 Try.underlying112 info_es rfl (by omega) _ i _ rfl (own_below HO6.out hal7) (some ⟨w6.heap.size, 0, none⟩) 1 1 [.slice sA 1 sc] rfl W hb7 (Nat.le_refl _) (Rw.new1 w6 49 #[.slice sA 1 sc] rfl) ?h2 (by unfold maxLen; omega) (by omega) ?_
             case h2 =>
               intro u hu
               rw [List.mem_singleton] at hu
               rw [hu]
               rfl
             intro v8 w8 ho8 hb8 _
             obtain ⟨A8, d8, rfl, -, -⟩ := Rw.of_own ho8
             have HO8 := hide ho8
             have HB8 := hide hb8
             clear ho8 hb8)
          | fail)
        go_wp2
        go_ret
        refine ⟨A8, d8, sls ++ [⟨sA, 1, sc⟩], by rw [List.length_append, HSL.out]; rfl, by rw [List.length_append, HSL.out, List.map_append]; exact HO8.out, ?_, fun j s es hs he => ?_, HB8.out⟩
        · unfold pathEs; rw [HTAIL.out]; have := HSL.out; have := HIE.out; simp; omega
        · unfold pathEs at he; rw [HTAIL.out] at he
          have hsl := HSL.out
          have hie := HIE.out
          rcases Nat.lt_or_ge j sls.length with hjl | hjl
          · rw [List.getElem?_append_left hjl] at hs
            rw [List.getElem?_append_left (by simp; omega), List.getElem?_map] at he
            obtain ⟨f, hf, rfl⟩ := Option.map_eq_some_iff.1 he
            exact HSOK.out j s f hs hf
          · rw [List.getElem?_append_right hjl] at hs
            have hj0 : j = i := by
              have := (List.getElem?_eq_some_iff.1 hs).1
              simp at this
              omega
            rw [List.getElem?_append_right (by simp; omega)] at he
            rw [show j - sls.length = 0 by omega] at hs
            rw [show j - (fs.map fun f => kidEs f.ks).length = 0 by simp; omega] at he
            simp at hs he
            rw [← hs, ← he]
            exact HOK.out
      | miss x hn hm =>
        have HIE := hide hie
        have HTAIL : Hid (tailEs p (some x) = []) := hide (if_neg (by omega))
        clear hie
        rcases hn.cases' with ⟨A', c', v, hlv, hxes, hv, hP', hc', hB'⟩ | ⟨m, ks, hlv, hxes, hFk⟩
        · have HXE := hide hxes
          have HSB : Hid (sameB ((cut 0 p).map fun (y : Nat) => (y : Int)) (x.2.pre.map fun (y : Nat) => (y : Int)) = false) := hide (by
            rw [cut_zero, sameB_cast]
            simp only [decide_eq_false_iff_not]
            intro h
            rw [← h, part_self HZ.out] at hm
            omega)
          clear hn hm hlv hxes hv hP' hc' hB'
          obtain ⟨rows, hE, hnc, hn3, hkk, hes⟩ := hok
          rw [show esOf (some x) = [(x.2.pre, v)] from HXE.out] at hes
          obtain ⟨r, rfl⟩ : ∃ r, rows = [r] := by
            have : rows.length = 1 := by
              have := congrArg List.length hes
              simpa [ents, esOf] using this
            match rows, this with
            | [r], _ => exact ⟨r, rfl⟩
          obtain hsn : sn = 1 := by have := hE.len; simpa using this.symm
          subst hsn
          have hok1 := hE.2 r List.mem_cons_self
          have hrk := hkk r List.mem_cons_self
          have hpp1 : r.p = x.2.pre := by
            unfold ents ER.e at hes
            simp [esOf] at hes
            exact hes.1
          obtain ⟨rA, rn, rcc, rp, rv⟩ := r
          simp only at hrk hpp1 hok1
          have hrk' : k = rn := hrk.symm
          have HS1 := hide (ref_shape1 sA sc ⟨rA, rn, rcc, rp, rv⟩ wr (hE.below (below_then HB0.out hb)))
          have hRW := hok1.1.2.1
          simp only at HS1 hRW
          rw [hrk] at HS1 hRW
          rw [hpp1] at hRW
          have HRW0 := hide (hRW.below (below_then HB0.out hb))
          clear hsl hO hsok hb hok1 hE hes hkk hnc hRW hrk hrk'
          go_wp2_with fail
          refine HS1.out.mono ?_
          rintro e w2 ⟨rfl, hb2⟩
          have hN3 := Blk.new w2 83 #[.int .i64 (-1), .slice rA k rcc, .slice none 0 0, .bool false, .int .u64 (rv : Int)]
          have hal2 := below_alloc hb2 (Nat.le_refl _) (.cells #[.int .i64 (-1), .slice rA k rcc, .slice none 0 0, .bool false, .int .u64 (rv : Int)] 83)
          have hRA := HRW0.out.below hal2
          rw [u64s_int] at hRA
          have HRA := hide hRA
          clear hb2 HS1 hRA
          go_upto_region 4 with fail
          generalize w2.alloc (.cells #[.int .i64 (-1), .slice rA k rcc, .slice none 0 0, .bool false, .int .u64 (rv : Int)] 83) = w3 at *
          generalize w2.heap.size = q6 at *
          have hq6 := hN3.lt
          have HN3 := hide hN3
          have y0 := hN3.cell 0
          have y1 := hN3.cell 1
          simp at y0 y1
          have HP3 := hide (HP3'.out.below hal2)
          have HO3 := hide (own_below HO3'.out hal2)
          have HB3 := hide (below_then HBr.out hal2)
          clear hN3 hal2
          go_wp2_with fail
          go_region_held3 (fun w' => w'.cell? ⟨q6, 0, none⟩ = some (.int .i64 (-1)) ∧ w'.cell? ⟨q6, 1, none⟩ = some (.slice rA k rcc))
            (first
              | go_keep
              | exact hk5
              | exact hk6)
            (first
              | (go_at_call 41
                 have CC := ref_cut RA k rc 0 p w3.drew (HP3.out.below (Below.refl _ w3).drew) (by omega) (by omega)
                 rw [show ((0 : Nat) : Int) - 1 = -1 by omega] at CC
                 refine CC.mono ?_
                 rintro e w5 ⟨v5, rfl, ho5, hb5⟩
                 obtain ⟨A4, d4, rfl, -, hR5⟩ := Rw.of_own ho5
                 have hd5 : Below w3.heap.size w3 w5 := (Below.refl _ w3).drew.trans hb5
                 have hk5 := And.intro ((hd5.cell (p := ⟨q6, 0, none⟩) hq6).trans y0) ((hd5.cell (p := ⟨q6, 1, none⟩) hq6).trans y1)
                 rw [u64s_int] at hR5
                 have HR5 := hide hR5
                 clear ho5 hb5 hR5)
              | (go_at_call 37
                 have CS := same_u64 A4 rA k d4 k rcc _ _ w5 HR5.out (HRA.out.below hd5) (by omega) (by omega)
                 rw [HSB.out] at CS
                 refine CS.mono ?_
                 rintro e w6 ⟨rfl, hb6⟩
                 have hd6 := below_then hd5 hb6
                 have hk6 := And.intro ((hd6.cell (p := ⟨q6, 0, none⟩) hq6).trans y0) ((hd6.cell (p := ⟨q6, 1, none⟩) hq6).trans y1)
                 have HD6 := hide hd6
                 clear hb6 CS))
          go_wp2
          go_ret
          refine ⟨A5, d5, sls, by rw [HSL.out]; rfl, by rw [HSL.out]; exact own_below HO3.out HD6.out, ?_, fun j s es hs he => ?_, below_then HB3.out HD6.out⟩
          · unfold pathEs; rw [HTAIL.out]; have := HSL.out; simp; omega
          · unfold pathEs at he; rw [HTAIL.out, List.append_nil, List.getElem?_map] at he
            obtain ⟨f, hf, rfl⟩ := Option.map_eq_some_iff.1 he
            exact HSOK.out j s f hs hf
        · have hlv64 : m < 64 := by obtain ⟨_, _, _, h1, _⟩ := hFk; exact h1
          obtain ⟨rows, hE, hnc, hn3, hkk, hes⟩ := hok
          rw [show esOf (some x) = kidEs ks from hxes] at hes
          obtain ⟨G, rfl, hG⟩ := forkG hFk hes
          obtain ⟨r0, s1, hr0, hs1, hpart, hcut, hn2⟩ := hG.part_ hFk hE hkk
          simp only at hE hnc hn3 hn2 hs1
          have hEW := hE.below HB0.out
          have hLv : ∀ X, Below W.heap.size W X → Calls Try.prog 136 #[.slice sA sn sc] X fun e w' => e = .returned (.int .i64 (m : Nat)) ∧ Below X.heap.size X w' := fun X hX => by
            have := ref_level sA sn sc k G.flatten r0 s1 X (hEW.below hX) hr0 hs1 (hkk r0 (List.mem_of_getElem? hr0)) (hkk s1 (List.mem_of_getElem? hs1)) (by omega) (by omega) (by omega)
            rwa [hpart] at this
          have HRS := hide (ref_shape_t sA sn sc k m G r0 wr (hEW.below hb) hnc hkk hk1 hk (by omega) hn2 hlv64 hG.parts hr0 (fun X hX => hLv X (below_then hb hX)))
          have HSB : Hid (sameB ((cut (m + 1) p).map fun (y : Nat) => (y : Int)) (x.2.pre.map fun (y : Nat) => (y : Int)) = false) := by
            have hz : ∀ b, b ≤ m → addrOf x.2.pre b = 0 := by obtain ⟨_, _, _, _, _, _, h4, _⟩ := hFk; exact h4
            refine hide ?_
            rw [sameB_cast]
            simp only [decide_eq_false_iff_not]
            intro h
            have := (covers_cut7 hn.info.1 HZ.out hz).2 h
            omega
          have HCUT := hide hcut
          have en0 : decide ((0 : Int) < (sn : Int)) = true := by simp; omega
          have en0' : (0 : Int) < (sn : Int) := by omega
          have en00 : 0 < sn := by omega
          obtain ⟨gl, hgl⟩ : ∃ gl, gl = G.length := ⟨_, rfl⟩
          rw [← hgl] at HRS
          clear hsl hO hsok hb hn hm hlv hxes hFk hE hes hG hr0 hs1 hpart hcut hEW hLv hgl hkk hnc
          go_wp2_with fail
          refine HRS.out.mono ?_
          rintro e w2 ⟨A1, d1, C1, f1, rfl, hRA, -, hb2, -, -⟩
          have hN3 := Blk.new w2 83 #[.int .i64 (m : Int), .slice A1 k d1, .slice C1 gl f1, .bool (denseB k gl), .int .u64 0]
          have hal2 := below_alloc hb2 (Nat.le_refl _) (.cells #[.int .i64 (m : Int), .slice A1 k d1, .slice C1 gl f1, .bool (denseB k gl), .int .u64 0] 83)
          have haw := (Below.refl w2.heap.size w2).alloc (Nat.le_refl _) (.cells #[.int .i64 (m : Int), .slice A1 k d1, .slice C1 gl f1, .bool (denseB k gl), .int .u64 0] 83)
          rw [HCUT.out, u64s_int] at hRA
          have HRA := hide (hRA.below haw)
          clear hRA hb2 haw HRS
          go_upto_region 4 with fail
          generalize w2.alloc (.cells #[.int .i64 (m : Int), .slice A1 k d1, .slice C1 gl f1, .bool (denseB k gl), .int .u64 0] 83) = w3 at *
          generalize w2.heap.size = q6 at *
          have hq6 := hN3.lt
          have y0 := hN3.cell 0
          have y1 := hN3.cell 1
          simp at y0 y1
          have HP3 := hide (HP3'.out.below hal2)
          have HO3 := hide (own_below HO3'.out hal2)
          have HB3 := hide (below_then HBr.out hal2)
          clear hN3 hal2
          go_wp2_with fail
          go_region_held3 (fun w' => w'.cell? ⟨q6, 0, none⟩ = some (.int .i64 (m : Int)) ∧ w'.cell? ⟨q6, 1, none⟩ = some (.slice A1 k d1))
            (first
              | go_keep
              | exact hk5
              | exact hk6)
            (first
              | (go_at_call 41
                 have CC := ref_cut RA k rc (m + 1) p w3.drew (HP3.out.below (Below.refl _ w3).drew) (by omega) (by omega)
                 rw [show ((m + 1 : Nat) : Int) - 1 = (m : Int) by omega] at CC
                 refine CC.mono ?_
                 rintro e w5 ⟨v5, rfl, ho5, hb5⟩
                 obtain ⟨A4, d4, rfl, -, hR5⟩ := Rw.of_own ho5
                 have hd5 : Below w3.heap.size w3 w5 := (Below.refl _ w3).drew.trans hb5
                 have hk5 := And.intro ((hd5.cell (p := ⟨q6, 0, none⟩) hq6).trans y0) ((hd5.cell (p := ⟨q6, 1, none⟩) hq6).trans y1)
                 rw [u64s_int] at hR5
                 have HR5 := hide hR5
                 clear ho5 hb5 hR5)
              | (go_at_call 37
                 have CS := same_u64 A4 A1 k d4 k d1 _ _ w5 HR5.out (HRA.out.below hd5) (by omega) (by omega)
                 rw [HSB.out] at CS
                 refine CS.mono ?_
                 rintro e w6 ⟨rfl, hb6⟩
                 have hd6 := below_then hd5 hb6
                 have hk6 := And.intro ((hd6.cell (p := ⟨q6, 0, none⟩) hq6).trans y0) ((hd6.cell (p := ⟨q6, 1, none⟩) hq6).trans y1)
                 have HD6 := hide hd6
                 clear hb6 CS))
          go_wp2
          go_ret
          refine ⟨A5, d5, sls, by rw [HSL.out]; rfl, by rw [HSL.out]; exact own_below HO3.out HD6.out, ?_, fun j s es hs he => ?_, below_then HB3.out HD6.out⟩
          · unfold pathEs; rw [HTAIL.out]; have := HSL.out; simp; omega
          · unfold pathEs at he; rw [HTAIL.out, List.append_nil, List.getElem?_map] at he
            obtain ⟨f, hf, rfl⟩ := Option.map_eq_some_iff.1 he
            exact HSOK.out j s f hs hf
end
section
open Go.RowKit
section
variable {w : World} {k : Nat} {p : List Nat} {fs : List PF} {top bot below : Option (Nat × NT)} {gs : List Nat}
theorem PathEnd.len (h : PathEnd w k p fs bot gs below) (hp : Zp k p) : gs.length = (pathEs p fs bot).length ∧ fs.length ≤ gs.length ∧ gs.length ≤ fs.length + 1 := by
  unfold pathEs
  cases h with
  | none => simp [tailEs]
  | leaf g v hn => simp [tailEs, part_self hp]
  | miss x hn hm => simp [tailEs, show ¬ part x.2.pre p ≤ x.2.lv by omega]
theorem PathEnd.node (h : PathEnd w k p fs bot gs below) (hF : ∀ f ∈ fs, Fork w k f.g f.lv f.pre f.ks) (hp : Zp k p) {i g : Nat} {es : List Ent} (hg : gs[i]? = some g) (he : (pathEs p fs bot)[i]? = some es) : ∃ lv pre, NodeOf w k g lv pre es := by
  have key : ∀ (i g : Nat) (es : List Ent), (fs.map (·.g))[i]? = some g → (fs.map fun f => kidEs f.ks)[i]? = some es → ∃ lv pre, NodeOf w k g lv pre es := by
    intro i g es h1 h2
    rw [List.getElem?_map] at h1 h2
    obtain ⟨f, hf, rfl⟩ := Option.map_eq_some_iff.1 h1
    rw [hf] at h2
    injection h2 with h2
    rw [← h2]
    exact ⟨_, _, (hF f (List.mem_of_getElem? hf)).node⟩
  unfold pathEs at he
  cases h with
  | none =>
    rw [show tailEs p Option.none = [] from rfl, List.append_nil] at he
    exact key i g es hg he
  | leaf g' v hn =>
    rw [show tailEs p (some (g', ⟨-1, p, [(p, v)]⟩)) = [[(p, v)]] from if_pos (by rw [part_self hp]; exact Int.le_refl _)] at he
    rcases Nat.lt_or_ge i fs.length with hi | hi
    · rw [List.getElem?_append_left (by simpa using hi)] at hg he
      exact key i g es hg he
    · rw [List.getElem?_append_right (by simpa using hi)] at hg he
      have h1 := (List.getElem?_eq_some_iff.1 hg).1
      simp at h1
      rw [show i - (fs.map (·.g)).length = 0 by simp; omega] at hg
      rw [show i - (fs.map fun f => kidEs f.ks).length = 0 by simp; omega] at he
      simp at hg he
      rw [← hg, ← he]
      exact ⟨_, _, hn⟩
  | miss x hn hm =>
    rw [show tailEs p (some x) = [] from if_neg (by omega), List.append_nil] at he
    exact key i g es hg he
/-- The first one is the root. -/
theorem PathEnd.first (h : PathEnd w k p fs bot gs below) (hW : Way p fs top bot) {g : Nat} (hg : gs[0]? = some g) : ∃ nt, top = some (g, nt) := by
  cases fs with
  | nil =>
    have hb : top = bot := hW
    subst hb
    cases h with
    | none => simp at hg
    | leaf g' v hn => simp at hg; subst hg; exact ⟨_, rfl⟩
    | miss x hn hm => simp at hg
  | cons f fs =>
    have ht := hW.1
    have : g = f.g := by
      cases h with
      | none => simp at hg; exact hg.symm
      | leaf g' v hn => simp at hg; exact hg.symm
      | miss x hn hm => simp at hg; exact hg.symm
    rw [this]
    exact ⟨_, ht⟩
theorem Way.at_drop : ∀ {fs : List PF} {top : Option (Nat × NT)} (i : Nat), Way p fs top bot → i < fs.length → ∃ cur, Way p (fs.drop i) cur bot
  | fs, top, 0, h, _ => ⟨top, by simpa using h⟩
  | [], top, i + 1, h, hi => by simp at hi
  | f :: fs, top, i + 1, h, hi => by
    obtain ⟨cur, hc⟩ := Way.at_drop i h.2.2 (by
      rcases Nat.lt_or_ge i fs.length with h1 | h1
      · exact h1
      · simp at hi; omega)
    exact ⟨cur, by simpa using hc⟩
/-- Each later one is the kid of the one ahead of it. -/
theorem PathEnd.kid (h : PathEnd w k p fs bot gs below) (hW : Way p fs top bot) {i g : Nat} (hg : gs[i + 1]? = some g) : ∃ f, fs[i]? = some f ∧ gs[i]? = some f.g ∧ ∃ nt, kidAt f.ks (addrOf p f.lv) = some (g, nt) := by
  have hlen : gs.length ≤ fs.length + 1 := by cases h <;> simp
  have hgl := (List.getElem?_eq_some_iff.1 hg).1
  have hif : i < fs.length := by omega
  obtain ⟨f, hf⟩ : ∃ f, fs[i]? = some f := ⟨fs[i], List.getElem?_eq_getElem hif⟩
  obtain ⟨cur, hc⟩ := hW.at_drop i hif
  obtain ⟨-, -, hn⟩ := hc.drop_ hf
  refine ⟨f, hf, ?_, ?_⟩
  · cases h with
    | none => rw [List.getElem?_map, hf]; rfl
    | leaf g' v hn => rw [List.getElem?_append_left (by simpa using hif), List.getElem?_map, hf]; rfl
    | miss x hn hm => rw [List.getElem?_map, hf]; rfl
  · rcases Nat.lt_or_ge (i + 1) fs.length with hi1 | hi1
    · obtain ⟨f', hf'⟩ : ∃ f', fs[i + 1]? = some f' := ⟨fs[i + 1], List.getElem?_eq_getElem hi1⟩
      obtain ⟨h1, -, -⟩ := hn.drop_ hf'
      have : g = f'.g := by
        cases h with
        | none => rw [List.getElem?_map, hf'] at hg; injection hg with hg; exact hg.symm
        | leaf g' v hn => rw [List.getElem?_append_left (by simpa using hi1), List.getElem?_map, hf'] at hg; injection hg with hg; exact hg.symm
        | miss x hn hm => rw [List.getElem?_map, hf'] at hg; injection hg with hg; exact hg.symm
      rw [this]
      exact ⟨_, h1⟩
    · rw [List.drop_of_length_le hi1] at hn
      have hn' : kidAt f.ks (addrOf p f.lv) = bot := hn
      rw [hn']
      cases h with
      | none => rw [List.getElem?_eq_none (by simpa using hi1)] at hg; cases hg
      | leaf g' v hn =>
        rw [List.getElem?_append_right (by simpa using hi1)] at hg
        rw [show i + 1 - (fs.map (·.g)).length = 0 by simp; omega] at hg
        simp at hg
        rw [← hg]
        exact ⟨_, rfl⟩
      | miss x hn hm => rw [List.getElem?_eq_none (by simpa using hi1)] at hg; cases hg
end
end
end Go.Proofs.Ytkknfnjojamgjaa
