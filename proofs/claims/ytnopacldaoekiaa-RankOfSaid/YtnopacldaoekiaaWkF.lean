/- walk: a cursor that is set; the first entry behind a point. -/
import Derived.Test.YtnopacldaoekiaaWkS
import Derived.Test.YtnopacldaoekiaaRkA
import Derived.Test.YtnopacldaoekiaaEx
set_option linter.unusedSimpArgs false
set_option linter.unusedVariables false
namespace Go.Proofs.Ytnopacldaoekiaa
open Go.RowKit
set_option maxHeartbeats 1000000 in
set_option maxRecDepth 100000 in
theorem cur_stand {w : World} {c hn hc : Nat} {tv : Value} {hA : Option Addr} {bv : Bool} (r : ER) (ok : Bool) (hB : Blk w c 104 #[tv, .slice hA hn hc, .bool bv]) :
    Calls Try.prog 75 #[.pointer (some ⟨c, 0, none⟩), .agg #[.slice r.A r.n r.c, .int .u64 (r.v : Int)], .bool ok] w fun e w' => e = .returned (.tuple #[]) ∧ Blk w' c 104 #[tv, .slice r.A r.n r.c, .bool (!ok)] ∧ Ex c w w' := by
  have y1 := hB.cell 1
  have y2 := hB.cell 2
  have z1 := hB.frozen 1
  have z2 := hB.frozen 2
  simp at y1 y2
  have e1 := ((hB.set1 (i := 1) (.slice r.A r.n r.c)).set1 (i := 2) (.bool (!ok))).alloc (.cells #[.slice r.A r.n r.c, .int .u64 (r.v : Int)] 27)
  have hx := (((Ex.refl c w).set 1 (.slice r.A r.n r.c)).set 2 (.bool (!ok))).alloc (.cells #[.slice r.A r.n r.c, .int .u64 (r.v : Int)] 27)
  have HE := hide e1
  have HX := hide hx
  have hcl := hB.lt
  clear hB e1 hx
  go_enter Try.func75, Try.ntmps75
  go_wp2
  go_end0
  exact ⟨rfl, by simpa using HE.out, HX.out⟩
theorem filter_gt {ks : List Kid} {a j : Nat} {q : Kid} (hq : ks[j]? = some q) (hqa : q.at_ = a) (hlo : ∀ r ∈ ks.take j, r.at_ < a) (hhi : ∀ r ∈ ks.drop (j + 1), a < r.at_) : ks.filter (fun r => decide (a < r.at_)) = ks.drop (j + 1) := by
  conv => lhs; rw [th_split hq]
  rw [List.filter_append, List.filter_cons_of_neg (by simp; omega), List.filter_eq_nil_iff.2 (fun r hr => by have := hlo r hr; simp; omega), List.nil_append, List.filter_eq_self.2 (fun r hr => by simpa using hhi r hr)]
theorem filter_gt' {ks : List Kid} {a j : Nat} (hlo : ∀ r ∈ ks.take j, r.at_ < a) (hhi : ∀ r ∈ ks.drop j, a < r.at_) : ks.filter (fun r => decide (a < r.at_)) = ks.drop j := by
  conv => lhs; rw [← List.take_append_drop j ks]
  rw [List.filter_append, List.filter_eq_nil_iff.2 (fun r hr => by have := hlo r hr; simp; omega), List.nil_append, List.filter_eq_self.2 (fun r hr => by simpa using hhi r hr)]
/-- What stands below a fork behind a point's kid. -/
def restK (p : List Nat) (f : PF) : List Ent := kidEs (f.ks.filter fun q => decide (addrOf p f.lv < q.at_))
def restB (p : List Nat) : List PF → List Ent
  | [] => []
  | f :: fs => restB p fs ++ restK p f
theorem restB_app (p : List Nat) : ∀ (xs bs : List PF), restB p (xs ++ bs) = restB p bs ++ restB p xs
  | [], bs => by simp [restB]
  | a :: xs, bs => by
    show restB p (xs ++ bs) ++ restK p a = restB p bs ++ (restB p xs ++ restK p a)
    rw [restB_app p xs bs, List.append_assoc]
theorem restB_snoc (p : List Nat) (fs : List PF) (f : PF) : restB p (fs ++ [f]) = restK p f ++ restB p fs := by
  rw [restB_app]
  rfl
theorem restB_nil (p : List Nat) : ∀ (fs : List PF), (∀ f ∈ fs, restK p f = []) → restB p fs = []
  | [], _ => rfl
  | f :: fs, h => by
    show restB p fs ++ restK p f = []
    rw [restB_nil p fs fun g hg => h g (List.mem_cons_of_mem _ hg), h f List.mem_cons_self]
    rfl
theorem restB_at (p : List Nat) {fs : List PF} {j : Nat} {f : PF} (hf : fs[j]? = some f) (hd : ∀ g ∈ fs.drop (j + 1), restK p g = []) : restB p fs = restK p f ++ restB p (fs.take j) := by
  conv => lhs; rw [th_split hf]
  rw [restB_app]
  show (restB p (fs.drop (j + 1)) ++ restK p f) ++ restB p (fs.take j) = _
  rw [restB_nil p _ hd, List.nil_append]
def stepv (p : List Nat) (f : PF) : List Value := [.pointer (some ⟨f.g, 0, none⟩), .int .i64 ((addrOf p f.lv : Nat) : Int)]
theorem stepv_len (p : List Nat) (f : PF) : (stepv p f).length = 2 := rfl
theorem info_step : (Try.prog.info? 167).map (fun i => (i.zero, i.size, i.bytes)) = some (some (.agg #[.pointer none, .int .i64 0]), 2, 16) := by kernel_rfl
/-- The kid of a fork behind a point's own. -/
theorem from_rest {w : World} {k : Nat} {f : PF} (h : Fork w k f.g f.lv f.pre f.ks) (p : List Nat) : ∃ jj, restK p f = kidEs (f.ks.drop jj) ∧ ∀ W, Below w.heap.size w W →
    Calls Try.prog 79 #[.pointer (some ⟨f.g, 0, none⟩), .int .i64 (((addrOf p f.lv : Nat) : Int) + 1)] W fun e w' => e = .returned (.tuple #[.int .i64 ((kAt f.ks jj : Nat) : Int), kPt f.ks jj]) ∧ Below W.heap.size W w' := by
  rcases kid_split h.sorted (addrOf p f.lv) with ⟨j, q, hq, hqa, hka, hlo, hhi⟩ | ⟨j, hj, hka, hlo, hhi⟩
  · refine ⟨j + 1, by unfold restK; rw [filter_gt hq hqa hlo hhi], fun W hW => ?_⟩
    refine nd_from_j (h.stay hW) (j + 1) _ (fun i r hr hi => ?_) (fun r hr => ?_)
    · rcases Nat.eq_or_lt_of_le (Nat.le_of_lt_succ hi) with h1 | h1
      · subst h1
        rw [hq] at hr
        injection hr with hr
        subst hr
        omega
      · have := hlo r (mem_take_of hr h1)
        omega
    · have := hhi r (mem_drop_of hr (Nat.le_refl _))
      omega
  · refine ⟨j, by unfold restK; rw [filter_gt' hlo hhi], fun W hW => ?_⟩
    refine nd_from_j (h.stay hW) j _ (fun i r hr hi => ?_) (fun r hr => ?_)
    · have := hlo r (mem_take_of hr hi)
      omega
    · have := hhi r (mem_drop_of hr (Nat.le_refl _))
      omega
/-- A point that is there stands in the middle. -/
theorem Mid.has {k : Nat} {p : List Nat} {es A es' B : List Ent} {v : Nat} (h : Mid p es A es' B) (hv : (p, v) ∈ es) : (p, v) ∈ es' := by
  rw [h.eq] at hv
  rcases List.mem_append.1 hv with h1 | h1
  · exact absurd (h.lo _ h1) (zlt_irrefl _)
  · rcases List.mem_append.1 h1 with h1 | h1
    · exact h1
    · exact absurd (h.hi _ h1) (zlt_irrefl _)
def BehindOut (w : World) (k : Nat) (p : List Nat) (v : Nat) (es : List Ent) (e : Ending) (w' : World) : Prop := ∃ (A B : List Ent), Mid p es A [(p, v)] B ∧ EntOut w k B.head? e w'
set_option maxHeartbeats 8000000 in
set_option maxRecDepth 100000 in
theorem walk_behind {w : World} {k g : Nat} {lv : Int} {pre : List Nat} {es : List Ent} (h : NodeOf w k g lv pre es) (hk1 : 1 ≤ k) (hk : k ≤ 16) {PA : Option Addr} {pc v0 : Nat} {p : List Nat} (hp : Pt w PA k p) (hv : (p, v0) ∈ es) : Calls Try.prog 76 #[.pointer (some ⟨g, 0, none⟩), .slice PA k pc] w (BehindOut w k p v0 es) := by
  have b1 := (Below.refl w.heap.size w).alloc (Nat.le_refl _) (.cells #[.slice none 0 0, .int .u64 0] 27)
  have hN := Blk.new w 27 #[.slice none 0 0, .int .u64 0]
  have HB0 := hide b1
  have HN0 := hide hN
  have H := hide h
  have HP := hide hp
  have HZ := hide hp.zp
  have HV0 := hide hv
  have hlv := h.info.2.2.2.1
  clear b1 hN h hp hv
  go_enter Try.func76, Try.ntmps76
  go_wp2
  refine wp_scope_goto 0 (fun a' wr => ∃ (g' : Nat) (lv' : Int) (pre' : List Nat) (es' A : List Ent) (fs : List PF) (WA : Option Addr) (wc : Nat) (u2 u3 u7 u8 u9 u10 u11 u12 u13 u14 u15 u16 u17 u18 u19 u20 u21 u22 u23 u24 u25 u26 u27 u28 u29 u30 u31 u32 u33 u34 u35 u36 u37 u38 u39 u40 u41 u42 u43 u44 u45 u46 u47 u48 u49 u50 u51 u52 u53 u54 u55 u56 u57 u58 u59 u60 u61 u62 u63 u64 u65 : Value), a' = { tmps := #[.pointer (some ⟨g', 0, none⟩), .slice PA k pc, u2, u3, .pointer (some ⟨w.heap.size, 0, none⟩), .bool false, .slice WA fs.length wc, u7, u8, u9, u10, u11, u12, u13, u14, u15, u16, u17, u18, u19, u20, u21, u22, u23, u24, u25, u26, u27, u28, u29, u30, u31, u32, u33, u34, u35, u36, u37, u38, u39, u40, u41, u42, u43, u44, u45, u46, u47, u48, u49, u50, u51, u52, u53, u54, u55, u56, u57, u58, u59, u60, u61, u62, u63, u64, u65], defers := [] } ∧ NodeOf w k g' lv' pre' es' ∧ Mid p es A es' (restB p fs) ∧ (∀ f ∈ fs, Fork w k f.g f.lv f.pre f.ks) ∧ (fs.length : Int) + lv' ≤ 63 ∧ wr.ownsRow w.heap.size 167 2 (.slice WA fs.length wc) fs.length (fs.flatMap (stepv p)) ∧ Blk wr w.heap.size 27 #[.slice none 0 0, .int .u64 0] ∧ Below w.heap.size w wr) (fun a' _ => nlv w (a'.tmps.getD 0 undef)) (by rfl) (by rfl) ?_ ?_
  · go_wp2
    exact ⟨g, lv, pre, es, [], [], none, 0, _, _, _, _, _, _, _, _, _, _, _, _, _, _, _, _, _, _, _, _, _, _, _, _, _, _, _, _, _, _, _, _, _, _, _, _, _, _, _, _, _, _, _, _, _, _, _, _, _, _, _, _, _, _, _, _, _, _, _, _, _, rfl, H.out, Mid.start p es, fun f hf => (by cases hf), by simp; omega, World.ownsRow_nil _ _ _ _, HN0.out, HB0.out⟩
  · rintro a' wr ⟨g', lv', pre', es', A, fs, WA, wc, u2, u3, u7, u8, u9, u10, u11, u12, u13, u14, u15, u16, u17, u18, u19, u20, u21, u22, u23, u24, u25, u26, u27, u28, u29, u30, u31, u32, u33, u34, u35, u36, u37, u38, u39, u40, u41, u42, u43, u44, u45, u46, u47, u48, u49, u50, u51, u52, u53, u54, u55, u56, u57, u58, u59, u60, u61, u62, u63, u64, u65, rfl, hn, hm, hF, hl, hO, hN, hb⟩
    have hvv := Mid.has (k := k) hm HV0.out
    have HMID := hide hm
    have HFS := hide hF
    have HO := hide hO
    have HN := hide hN
    have HB := hide hb
    have HLV := hide (nlv_node hn)
    have HND := hide hn
    have hi := hn.info
    rcases hn.cases' with ⟨A', c', v, hlv', hes', hvl, hP', hc', hB'⟩ | ⟨m, ks, hlv', hes', hFk⟩
    · subst hlv' hes'
      obtain ⟨rfl, rfl⟩ : p = pre' ∧ v0 = v := by
        rw [List.mem_singleton] at hvv
        injection hvv with h1 h2
        exact ⟨h1, h2⟩
      have HE := hide (nd_entry_leaf (hB'.below hb) (hP'.below hb) hk)
      have hl64 : fs.length ≤ 64 := by omega
      clear hn hm hF hl hO hN hb hvv hi hvl hP' hc' hB'
      go_wp2_with fail
      refine HE.out.mono ?_
      rintro e w1 ⟨BB, d, rfl, ho, hb1⟩
      have hal := (Below.refl w1.heap.size w1).alloc (Nat.le_refl _) (.cells #[.slice BB k d, .int .u64 (v0 : Int)] 27)
      have hb2 := below_then hb1 hal
      replace HN := hide (HN.out.below hb2)
      replace HO := hide (own_below HO.out hb2)
      replace HB := hide (below_then HB.out hb2)
      have hfl : (fs.length : Int) ≤ 64 := by omega
      clear ho hb1 hal hb2 HE
      go_upto_region 3 with fail
      generalize w1.alloc (.cells #[.slice BB k d, .int .u64 (v0 : Int)] 27) = wq at *
      go_wp2
      go_loopw [11] (fun x11 wr => ∃ (j : Nat), x11 = .int .i64 ((j : Int) - 1) ∧ j ≤ fs.length ∧ (∀ f ∈ fs.drop j, restK p f = []) ∧ Below wq.heap.size wq wr) (fun x _ => (intOf x + 1).toNat)
      case atStart => exact ⟨fs.length, rfl, Nat.le_refl _, fun f hf => (by rw [List.drop_eq_nil_of_le (Nat.le_refl _)] at hf; cases hf), Below.refl _ _⟩
      case round =>
        obtain ⟨j, rfl, hj, hdr, hbr⟩ := hrel
        have HDR := hide hdr
        have HBR := hide hbr
        rename World => wz
        cases j with
        | zero =>
          have hN9 := HN.out.below hbr
          have z0 := hN9.frozen 0
          have z1 := hN9.frozen 1
          have y0 := hN9.cell 0
          have y1 := hN9.cell 1
          simp at y0 y1
          have e4 := hN9.set1 (i := 0) (.slice none 0 0)
          have e3 := e4.set1 (i := 1) (.int .u64 0)
          have b3 := (((below_then HB.out hbr).setCell (p := ⟨w.heap.size, 0, none⟩) (Nat.le_refl _) (.slice none 0 0)).setCell (p := ⟨w.heap.size, 1, none⟩) (Nat.le_refl _) (.int .u64 0))
          have g0 := e3.cell 0
          have g1 := e3.cell 1
          simp at g0 g1
          have HB3 := hide b3
          have HR0 := hide (restB_nil p fs (by simpa using hdr))
          clear hdr hbr hN9 e4 e3 b3
          go_wp2
          simp only [Exit.jump]
          refine bodyPost_ret (v := .tuple #[.agg #[.slice none 0 0, .int .u64 0], .bool false]) (by simp [results, Try.results76, go_sem, g0, g1]) rfl ⟨_, _, HMID.out, ⟨none, 0, 0, [], 0⟩, false, rfl, ⟨ER.okT.nil _, .inr ⟨rfl, rfl, by rw [HR0.out]; rfl⟩⟩, HB3.out⟩
        | succ j =>
          obtain ⟨f, hf⟩ : ∃ f, fs[j]? = some f := ⟨fs[j]'(by omega), List.getElem?_eq_getElem _⟩
          obtain ⟨b, o, f', hWA, hbl, hf', hc⟩ := ((own_rw HO.out).2.below hbr).elem (stepv_len p) (i := j) (by omega) (by omega)
          rw [hf] at hf'
          injection hf' with hf'
          subst hf'
          have x0 : wz.cell? ⟨b, o + j * 2, none⟩ = some (.pointer (some ⟨f.g, 0, none⟩)) := hc 0 _ rfl
          have x1 : wz.cell? ⟨b, o + j * 2 + 1, none⟩ = some (.int .i64 ((addrOf p f.lv : Nat) : Int)) := by rw [Nat.add_assoc]; exact hc 1 _ rfl
          have hFf := HFS.out f (List.mem_of_getElem? hf)
          obtain ⟨jj, hrk, hfr⟩ := from_rest hFf p
          have hbw := below_then HB.out hbr
          have HFR := hide (fun (W : World) (hW : Below wz.heap.size wz W) => hfr W (below_then hbw hW))
          have HRK := hide hrk
          have HFF := hide hFf
          have HAT := hide (restB_at p hf hdr)
          have ej : ((j + 1 : Nat) : Int) - 1 = (j : Int) := by omega
          rw [ej]
          have e0 : decide ((0 : Int) ≤ (j : Int)) = true := by simp
          have hjn : j < fs.length := by omega
          have hjn' : (j : Int) < (fs.length : Int) := by omega
          have hj0 : (0 : Int) ≤ (j : Int) := by omega
          have ha16 : ((addrOf p f.lv : Nat) : Int) ≤ 65535 := by
            have := pow_le_16 (addr_lt_pow HZ.out f.lv) hk
            omega
          have ha0 : (0 : Int) ≤ ((addrOf p f.lv : Nat) : Int) := by omega
          have hw1 : IntKind.i64.wrap (((addrOf p f.lv : Nat) : Int) + 1) = ((addrOf p f.lv : Nat) : Int) + 1 := by rw [IntKind.wrap_i64]; omega
          have hw2 : wrap64 (((addrOf p f.lv : Nat) : Int) + 1) = ((addrOf p f.lv : Nat) : Int) + 1 := by unfold wrap64; omega
          have hFJ := hide hf
          first
            | subst hWA
            | (injection hWA with hWA
               injection hWA with hq1 hq2
               subst hq1 hq2)
          clear hf hc hdr hbr hFf hrk hfr hbw ej
          go_wp2_with fail
          go_region_held3 (fun w' => w'.cell? ⟨b, o + j * 2, none⟩ = some (.pointer (some ⟨f.g, 0, none⟩)) ∧ w'.cell? ⟨b, o + j * 2 + 1, none⟩ = some (.int .i64 ((addrOf p f.lv : Nat) : Int)))
            (first
              | go_keep
              | exact hk5)
            (first
              | (go_at_call 79
                 refine (HFR.out wz.drew (Below.refl _ wz).drew).mono ?_
                 rintro e w5 ⟨rfl, hb5⟩
                 have hd5 : Below wz.heap.size wz w5 := (Below.refl _ wz).drew.trans hb5
                 have hk5 := And.intro ((hd5.cell (p := ⟨b, o + j * 2, none⟩) hbl).trans x0) ((hd5.cell (p := ⟨b, o + j * 2 + 1, none⟩) hbl).trans x1)))
          rcases kPt_cases f.ks jj with ⟨r, hr⟩ | hr
          · rw [kPt_some hr]
            have HRN := hide (HFF.out.kid r (List.mem_of_getElem? hr)).1
            have HHD := hide (show (restB p fs).head? = r.es.head? by rw [HAT.out, HRK.out]; exact head_drop_some (fun q hq => (HFF.out.kid q hq).1.info.2.1) hr)
            have hb9 := below_then HB.out (below_then HBR.out hd5)
            have HFN := hide (walk_first (HRN.out.stay hb9) hk)
            replace HN := hide (HN.out.below (below_then HBR.out hd5))
            replace HB := hide hb9
            clear hr hb9 x0 x1 hk5 hd5 hb5
            go_wp2_with fail
            refine HFN.out.mono ?_
            rintro e w9 ⟨r9, ok, rfl, hi9, hb9⟩
            have hN9 := HN.out.below hb9
            have z0 := hN9.frozen 0
            have z1 := hN9.frozen 1
            have y0 := hN9.cell 0
            have y1 := hN9.cell 1
            simp at y0 y1
            have e4 := hN9.set1 (i := 0) (.slice r9.A r9.n r9.c)
            have e3 := e4.set1 (i := 1) (.int .u64 (r9.v : Int))
            have hi3 := (hi9.keep (Keep.set hN9 (i := 0) (by decide) (.slice r9.A r9.n r9.c))).keep (Keep.set e4 (i := 1) (by decide) (.int .u64 (r9.v : Int)))
            have b3 := (((below_then HB.out hb9).setCell (p := ⟨w.heap.size, 0, none⟩) (Nat.le_refl _) (.slice r9.A r9.n r9.c)).setCell (p := ⟨w.heap.size, 1, none⟩) (Nat.le_refl _) (.int .u64 (r9.v : Int)))
            have g0 := e3.cell 0
            have g1 := e3.cell 1
            simp at g0 g1
            have HB3 := hide b3
            have HI := hide hi3
            clear hi9 hb9 hN9 e4 e3 b3 hi3
            go_wp2
            simp only [Exit.jump]
            refine bodyPost_ret (v := .tuple #[.agg #[.slice r9.A r9.n r9.c, .int .u64 (r9.v : Int)], .bool ok]) (by simp [results, Try.results76, go_sem, g0, g1]) rfl ⟨_, _, HMID.out, r9, ok, rfl, ?_, HB3.out⟩
            rw [HHD.out]
            exact HI.out
          · rw [kPt_none hr]
            have HR0 := hide (show restK p f = [] by rw [HRK.out, List.drop_eq_nil_of_le hr]; rfl)
            clear hr x0 x1
            go_wp2
            go_roundw
            case rel =>
              refine ⟨j, rfl, by omega, fun f2 hf2 => ?_, below_then HBR.out hd5⟩
              obtain ⟨h3, h4⟩ := List.getElem?_eq_some_iff.1 hFJ.out
              rw [List.drop_eq_getElem_cons h3, h4] at hf2
              rcases List.mem_cons.1 hf2 with rfl | hf2
              · exact HR0.out
              · exact HDR.out f2 hf2
            case measure => simp [intOf]
    · subst hlv' hes'
      have hfk : FK k ⟨g', m, pre', ks⟩ := Fork.fk (f := ⟨g', m, pre', ks⟩) hFk
      obtain ⟨q0, hq0, hvq⟩ := mem_kidEs.1 hvv
      have hkq := hfk.es q0 hq0 _ hvq
      have hcv : part pre' p ≤ (m : Int) := (part_le_iff hi.1 HZ.out m (by omega)).2 fun b hb => (hkq.2.2 b (show m < b by omega)).symm
      have hqa0 : q0.at_ = addrOf p m := hkq.2.1.symm
      obtain ⟨j, q, hq, hqa, hka, hlo, hhi⟩ : ∃ (j : Nat) (q : Kid), ks[j]? = some q ∧ q.at_ = addrOf p m ∧ kidAt ks (addrOf p m) = some (q.blk, ⟨q.lv, q.pre, q.es⟩) ∧ (∀ r ∈ ks.take j, r.at_ < addrOf p m) ∧ (∀ r ∈ ks.drop (j + 1), addrOf p m < r.at_) := by
        rcases kid_split hFk.sorted (addrOf p m) with h | ⟨j, hj, hka, hlo, hhi⟩
        · exact h
        · exact absurd hqa0 (kidAt_none hka q0 hq0)
      obtain ⟨A', c', gs, hp', hS, hBk⟩ := (hFk.stay hb).head
      have HE := hide (nd_entry_fork hBk)
      have hm64 := hFk.lv
      have HMK := hide (HMID.out.kid hfk HZ.out hcv rfl hq hlo hhi)
      have HKQ := hide (hFk.kid q (List.mem_of_getElem? hq))
      have HRS := hide (show restK p ⟨g', m, pre', ks⟩ = kidEs (ks.drop (j + 1)) by unfold restK; simp only; rw [filter_gt hq hqa hlo hhi])
      have HF := hide hFk
      have HKA := hide hka
      have hl64 : (fs.length : Int) ≤ 63 := by omega
      have hl64' : fs.length ≤ 63 := by omega
      have HL := hide hl
      clear hn hm hF hl hO hN hb hvv hi hfk hq0 hvq hkq hcv hqa0 hq hqa hka hlo hhi hp' hS hBk hFk
      go_wp2_with fail
      refine HE.out.mono ?_
      rintro e w1 ⟨rfl, hb1⟩
      have hal := (Below.refl w1.heap.size w1).alloc (Nat.le_refl _) (.cells #[.slice none 0 0, .int .u64 0] 27)
      have hb2 := below_then hb1 hal
      replace HN := hide (HN.out.below hb2)
      replace HO := hide (own_below HO.out hb2)
      replace HB := hide (below_then HB.out hb2)
      have HLE := hide (nd_level ((HF.out.stay HB.out).node))
      have HAD := hide (zb_addr PA k p pc m (w1.alloc (.cells #[.slice none 0 0, .int .u64 0] 27)) (HP.out.below HB.out) hk1 hk hm64)
      clear hb1 hal hb2 HE
      go_upto_region 3 with fail
      generalize w1.alloc (.cells #[.slice none 0 0, .int .u64 0] 27) = wq at *
      go_wp2_with fail
      refine HLE.out.mono ?_
      rintro e w2 ⟨rfl, rfl⟩
      go_wp2_with fail
      refine HAD.out.mono ?_
      rintro e w2 ⟨rfl, rfl⟩
      have hba := (Below.refl wq.heap.size wq).alloc (Nat.le_refl _) (.cells #[.pointer (some ⟨g', 0, none⟩), .int .i64 ((addrOf p m : Nat) : Int)] 167)
      have HBA := hide (below_then HB.out hba)
      have HNA := hide (HN.out.below hba)
      clear hba
      go_wp2_with (first
        | (at_builtin
           refine app_b _ rfl (.tmp 28) (.tmp 32) _ rfl w.heap.size 167 _ 2 16 Try.underlying165 info_step rfl (by omega) _ fs.length _ rfl (HO.out.alloc _) (some ⟨wq.heap.size, 0, none⟩) 1 1 [.pointer (some ⟨g', 0, none⟩), .int .i64 ((addrOf p m : Nat) : Int)] rfl w HBA.out (Nat.le_refl _) (Rw.new1 wq 167 #[.pointer (some ⟨g', 0, none⟩), .int .i64 ((addrOf p m : Nat) : Int)] (sz := 2) rfl) ?h2 (by unfold maxLen; omega) (by omega) ?_
           case h2 =>
             intro u hu
             rcases List.mem_cons.1 hu with rfl | hu
             · rfl
             · rw [List.mem_singleton] at hu
               rw [hu]
               rfl
           intro v5 w5 ho5 hb5 hg5
           have HN5 := hide (HNA.out.keep (Keep.grown (HO.out.alloc _) (by decide) hg5))
           have HO5 := hide ho5
           have HB5 := hide hb5
           obtain ⟨B5, d5, rfl, -, hR5⟩ := Rw.of_own ho5
           clear ho5 hb5 hR5 hg5)
        | fail)
      have hkd := nd_kid_at (HF.out.stay HB5.out) (addrOf p m)
      rw [HKA.out] at hkd
      have HKD := hide hkd
      clear hkd
      go_wp2_with fail
      refine HKD.out.mono ?_
      rintro e w6 ⟨rfl, hb6⟩
      replace HN5 := hide (HN5.out.below hb6)
      replace HO5 := hide (own_below HO5.out hb6)
      replace HB5 := hide (below_then HB5.out hb6)
      unfold ptrOf
      simp only [Option.map_some]
      clear hb6 HKD
      go_wp2
      go_step3
      have hrs : restB p (fs ++ [⟨g', m, pre', ks⟩]) = kidEs (ks.drop (j + 1)) ++ restB p fs := by rw [restB_snoc, HRS.out]
      refine ⟨rfl, ⟨q.blk, q.lv, q.pre, q.es, _, fs ++ [⟨g', m, pre', ks⟩], B5, d5, _, _, _, _, _, _, _, _, _, _, _, _, _, _, _, _, _, _, _, _, _, _, _, _, _, _, _, _, _, _, _, _, _, _, _, _, _, _, _, _, _, _, _, _, _, _, _, _, _, _, _, _, _, _, _, _, _, _, _, _, _, by rw [List.length_append]; rfl, HKQ.out.1, by rw [hrs]; exact HMK.out, ?_, ?_, ?_, HN5.out, HB5.out⟩, ?_⟩
      · intro f hf
        rcases List.mem_append.1 hf with hf | hf
        · exact HFS.out f hf
        · rw [List.mem_singleton] at hf
          subst hf
          exact HF.out
      · have h1 := HKQ.out.2.1
        have h2 := HL.out
        rw [List.length_append, List.length_singleton]
        omega
      · have := HO5.out
        rw [List.flatMap_append, List.length_append, List.length_singleton]
        exact this
      · show nlv w (.pointer (some ⟨q.blk, 0, none⟩)) < nlv w (.pointer (some ⟨g', 0, none⟩))
        rw [nlv_node HKQ.out.1, HLV.out]
        have h1 := HKQ.out.2.1
        have h2 := HKQ.out.1.info.2.2.1
        omega
end Go.Proofs.Ytnopacldaoekiaa
