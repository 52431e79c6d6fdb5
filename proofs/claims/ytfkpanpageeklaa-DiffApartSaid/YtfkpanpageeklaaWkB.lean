/- walk: each, All. -/
import Derived.Test.YtfkpanpageeklaaPlW
import Derived.Test.YtfkpanpageeklaaKe
set_option linter.unusedSimpArgs false
set_option linter.unusedVariables false
namespace Go.Proofs.Ytfkpanpageeklaa
open Go.RowKit
def ColE (B : Nat) (w : World) (bo : Nat) (rows : List ER) : Prop := Col 26 63 2 entv B w bo rows
def yieldV (bo : Nat) : Value := .func (.func 54) #[] #[.pointer (some ⟨bo, 0, none⟩)]
def YieldOut (w0 w : World) (bo : Nat) (rows : List ER) (r : ER) (e : Ending) (w' : World) : Prop :=
  e = .returned (.bool true) ∧ ColE w0.heap.size w' bo (rows ++ [r]) ∧ Keep 50 w w' ∧ Below w0.heap.size w0 w'
set_option maxHeartbeats 2000000 in
set_option maxRecDepth 100000 in
theorem all_yield {w0 w : World} {bo : Nat} {rows : List ER} (r : ER) (hC : ColE w0.heap.size w bo rows) (hb : Below w0.heap.size w0 w) (hl : rows.length ≤ 100000) :
    Calls Try.prog 54 #[.agg #[.slice r.A r.n r.c, .int .u64 (r.v : Int)], .pointer (some ⟨bo, 0, none⟩)] w (YieldOut w0 w bo rows r) := by
  have hbo := hC.1
  have hal1 := (Below.refl w.heap.size w).alloc (Nat.le_refl _) (.cells #[.slice r.A r.n r.c, .int .u64 (r.v : Int)] 63)
  have hal2 := below_alloc hal1 (Nat.le_refl _) (.cells #[.slice r.A r.n r.c, .int .u64 (r.v : Int)] 63)
  have hC1 := Col.below hC hal1
  have hC2 := Col.below hC hal2
  obtain ⟨A, c, q1, q2, q3, q4, q5⟩ := hC1.cell
  obtain ⟨A', c', q1', q2', q3', q4', q5'⟩ := hC2.cell
  have hq : A' = A ∧ c' = c := by
    have h1 := (q4.alloc (.cells #[.slice r.A r.n r.c, .int .u64 (r.v : Int)] 63)).eq_ q4'
    have := congrArg (fun a => a[0]?) h1.2
    simp at this
    exact ⟨this.1.symm, this.2.symm⟩
  obtain ⟨rfl, rfl⟩ := hq
  have HC := hide hC2
  have HQ4 := hide q4'
  have HQ5 := hide q5'
  have hbb := hb.trans (hal2.mono hb.size)
  have HB := hide hbb
  have HK2 := hide (Keep.below (t := 50) hal2)
  have hsz := hb.size
  clear hC hb hal1 hal2 hC1 hC2 q4 q5 q1' q2' q3' q4' q5' hbb q3 q2
  go_enter Try.func54, Try.ntmps54
  go_wp2_with (first
    | (at_builtin
       refine app_b _ rfl (.tmp 4) (.tmp 6) _ rfl w0.heap.size 63 _ 2 32 Try.underlying26 info_e rfl (by omega) _ rows.length _ rfl HQ5.out (some ⟨w.heap.size + 1, 0, none⟩) 1 1 (entv r) rfl w0 HB.out (Nat.le_refl _) ?h1 ?h2 (by unfold maxLen; omega) (by omega) ?_
       case h1 =>
         have := Rw.new1 (w.alloc (.cells #[.slice r.A r.n r.c, .int .u64 (r.v : Int)] 63)) 63 #[.slice r.A r.n r.c, .int .u64 (r.v : Int)] (sz := 2) rfl
         simp at this
         exact this
       case h2 =>
         intro u hu
         rcases List.mem_cons.1 hu with rfl | hu
         · rfl
         · rw [List.mem_singleton] at hu
           rw [hu]
           rfl
       intro v5 w5 ho5 hb5 hg5
       obtain ⟨A5, c5, rfl, -, -⟩ := Rw.of_own ho5
       obtain ⟨s1, s2, s3⟩ := Col.step HC.out.1 HQ4.out HQ5.out (by decide) hg5 ho5
       have HS2 := hide s2
       have HS3 := hide (HK2.out.trans (s3 50 (by decide) (by decide)))
       have HB5 := hide (hb5.setCell (p := ⟨bo, 0, none⟩) hbo (.slice A5 (rows.length + 1) c5))
       have z0 := s1.cell 0
       have z1 := s1.frozen 0
       simp at z0
       clear ho5 hb5 hg5 s1 s2 s3)
    | fail)
  go_wp2
  go_ret
  exact ⟨rfl, HS2.out, HS3.out, HB5.out⟩
/-- What each does below a node, for the call that All makes. -/
def EachOut (w0 w : World) (k bo : Nat) (rows : List ER) (es : List Ent) (e : Ending) (w' : World) : Prop :=
  ∃ rows' : List ER, e = .returned (.bool true) ∧ ents rows' = es ∧ ColE w0.heap.size w' bo (rows ++ rows') ∧ (∀ r ∈ rows', r.okT w' ∧ r.n = k) ∧ Keep 50 w w' ∧ Below w0.heap.size w0 w'
def EachOk (w0 : World) (k g : Nat) (es : List Ent) : Prop := ∀ (w : World) (bo : Nat) (rows : List ER), ColE w0.heap.size w bo rows → Below w0.heap.size w0 w → rows.length + es.length ≤ 100000 →
  Calls Try.prog 53 #[.pointer (some ⟨g, 0, none⟩), yieldV bo] w (EachOut w0 w k bo rows es)
set_option maxHeartbeats 2000000 in
set_option maxRecDepth 100000 in
theorem each_nil (w : World) (f : Value) :
    Calls Try.prog 53 #[.pointer none, f] w fun e w' => e = .returned (.bool true) ∧ w = w' := by
  go_enter Try.func53, Try.ntmps53
  go_wp2
  go_ret
  exact ⟨rfl, rfl⟩
set_option maxHeartbeats 2000000 in
set_option maxRecDepth 100000 in
theorem each_leaf {w0 : World} {k g v c : Nat} {A : Option Addr} {p : List Nat} (hk : k ≤ 16) (hv : v < 2 ^ 64) (hp : Pt w0 A k p) (hB : Blk w0 g 120 (nodeCells (-1) A k c v none ⟨1, v, v, v⟩)) : EachOk w0 k g [(p, v)] := by
  intro w bo rows hC hb hl
  have hE := nd_entry_leaf (hB.below hb) (hp.below hb) hk
  have HE := hide hE
  have HC := hide hC
  have HB := hide hb
  have HZ := hide hp.zp
  have HV := hide hv
  simp only [List.length_cons, List.length_nil] at hl
  unfold yieldV
  clear hE hC hb hp hB hv
  go_enter Try.func53, Try.ntmps53
  go_wp2_with fail
  refine HE.out.mono ?_
  rintro e w1 ⟨B, d, rfl, ho, hb1⟩
  have hal := (Below.refl w1.heap.size w1).alloc (Nat.le_refl _) (.cells #[.slice B k d, .int .u64 (v : Int)] 63)
  have hb2 := below_then hb1 hal
  have hok : ER.okT (w1.alloc (.cells #[.slice B k d, .int .u64 (v : Int)] 63)) ⟨B, k, d, p, v⟩ := (ER.okT.of_own ho HZ.out HV.out).below hal
  have HOK := hide hok
  have HK2 := hide (Keep.below (t := 50) hb2)
  have HY := hide (all_yield ⟨B, k, d, p, v⟩ (Col.below HC.out hb2) (below_then HB.out hb2) (by omega))
  clear ho hb1 hal hb2 hok HE
  go_wp2_with fail
  refine HY.out.mono ?_
  rintro e w3 ⟨rfl, hC3, hK3, hb3⟩
  have HF := hide (show EachOut w0 w k bo rows [(p, v)] (.returned (.bool true)) w3 from ⟨[⟨B, k, d, p, v⟩], rfl, rfl, hC3, (by intro r hr; rw [List.mem_singleton] at hr; subst hr; exact ⟨HOK.out.keep hK3, rfl⟩), HK2.out.trans hK3, hb3⟩)
  clear hC3 hK3 hb3
  go_wp2
  go_ret
  exact HF.out
def fromM : Value → Value → Nat
  | _, .pointer none => 0
  | .int _ x, _ => 70001 - x.toNat
  | _, _ => 0
theorem fromM_lt {ks : List Kid} (hs : ks.Pairwise fun q r => q.at_ < r.at_) (hb : ∀ q ∈ ks, q.at_ < 65536) {j : Nat} {q : Kid} (hq : ks[j]? = some q) :
    fromM (.int .i64 ((kAt ks (j + 1) : Nat) : Int)) (kPt ks (j + 1)) < fromM (.int .i64 ((q.at_ : Nat) : Int)) (.pointer (some ⟨q.blk, 0, none⟩)) := by
  have h1 := hb q (List.mem_of_getElem? hq)
  cases hr : ks[j + 1]? with
  | none =>
    rw [kPt_none (by simpa using hr)]
    simp only [fromM]
    omega
  | some r =>
    rw [kAt_some hr, kPt_some hr]
    have h2 := hb r (List.mem_of_getElem? hr)
    have h3 := kids_lt hs hq hr (by omega)
    simp only [fromM]
    omega
set_option maxHeartbeats 4000000 in
set_option maxRecDepth 100000 in
theorem each_fork {w0 : World} {k g m : Nat} {pre : List Nat} {ks : List Kid} (hF : Fork w0 k g m pre ks) (hk : k ≤ 16) (ih : ∀ q ∈ ks, EachOk w0 k q.blk q.es) : EachOk w0 k g (kidEs ks) := by
  intro w bo rows hC hb hl
  have hFw := hF.stay hb
  obtain ⟨A, c, gs, hp, hS, hB⟩ := hFw.head
  have hE := nd_entry_fork hB
  have HE := hide hE
  have HF := hide hF
  have HC := hide hC
  have HB := hide hb
  have HIH := hide ih
  have HSO := hide hF.sorted
  have HAT := hide (fun q (hq : q ∈ ks) => pow_le_16 (hF.kid q hq).2.2.2.2 hk)
  clear hE hC hb hp hB hS hFw hF ih
  go_enter Try.func53, Try.ntmps53
  go_wp2_with fail
  refine HE.out.mono ?_
  rintro e w1 ⟨rfl, hb1⟩
  have hal := (Below.refl w1.heap.size w1).alloc (Nat.le_refl _) (.cells #[.slice none 0 0, .int .u64 0] 63)
  have hb2 := below_then hb1 hal
  have H0 := hide (nd_from_0 ((HF.out.stay HB.out).stay hb2))
  have HB2 := hide hb2
  clear hb1 hal hb2 HE
  go_wp2_with fail
  refine H0.out.mono ?_
  rintro e w3 ⟨rfl, hb3⟩
  have hc3 := below_then HB2.out hb3
  have HS3 := hide (show ColE w0.heap.size w3 bo (rows ++ []) by rw [List.append_nil]; exact Col.below HC.out hc3)
  have HK3 := hide (Keep.below (t := 50) hc3)
  have HB3 := hide (below_then HB.out hc3)
  clear hb3 hc3 H0 HB2
  go_wp2
  go_loopw [7, 8] (fun x7 x8 wr => ∃ (j : Nat) (rows' : List ER), x7 = .int .i64 ((kAt ks j : Nat) : Int) ∧ x8 = kPt ks j ∧ j ≤ ks.length ∧ ents rows' = kidEs (ks.take j) ∧ ColE w0.heap.size wr bo (rows ++ rows') ∧ (∀ r ∈ rows', r.okT wr ∧ r.n = k) ∧ Keep 50 w wr ∧ Below w0.heap.size w0 wr) (fun x7 x8 _ => fromM x7 x8)
  case atStart => exact ⟨0, [], rfl, rfl, Nat.zero_le _, rfl, HS3.out, fun r hr => (by cases hr), HK3.out, HB3.out⟩
  case round =>
    obtain ⟨j, rows', rfl, rfl, hj, hes, hC, hok, hK, hb⟩ := hrel
    have HES := hide hes
    have HCr := hide hC
    have HOKr := hide hok
    have HKr := hide hK
    have HBr := hide hb
    rename World => wz
    clear hes hC hok hK hb
    by_cases hjn : j < ks.length
    · obtain ⟨q, hq⟩ : ∃ q, ks[j]? = some q := ⟨ks[j], List.getElem?_eq_getElem hjn⟩
      rw [kAt_some hq, kPt_some hq]
      have hqm := List.mem_of_getElem? hq
      have hqa := HAT.out q hqm
      have hqa1 : ((q.at_ : Nat) : Int) ≤ 65535 := by omega
      have hlen : (rows ++ rows').length + q.es.length ≤ 100000 := by
        have h1 := congrArg List.length HES.out
        have h2 := congrArg List.length (kidEs_at hq)
        unfold ents at h1
        simp only [List.length_append, List.length_map] at h1 h2 ⊢
        omega
      have HI := hide (HIH.out q hqm wz bo (rows ++ rows') HCr.out HBr.out hlen)
      unfold yieldV at HI ⊢
      have HQ := hide hq
      clear hq hqm hqa hlen
      go_wp2_with fail
      refine HI.out.mono ?_
      rintro e w5 ⟨rows2, rfl, hes5, hC5, hok5, hK5, hb5⟩
      have HN := hide (nd_from_next ((HF.out.stay hb5)) HQ.out)
      have H5 := hide (And.intro hes5 (And.intro hC5 (And.intro hok5 (And.intro hK5 hb5))))
      clear hes5 hC5 hok5 hK5 hb5 HI
      go_wp2_with fail
      refine HN.out.mono ?_
      rintro e w6 ⟨rfl, hb6⟩
      have HB6 := hide hb6
      clear hb6 HN
      go_wp2
      go_roundw
      case rel =>
        obtain ⟨hes5, hC5, hok5, hK5, hb5⟩ := H5.out
        refine ⟨j + 1, rows' ++ rows2, rfl, rfl, by omega, ?_, ?_, ?_, (HKr.out.trans hK5).trans (Keep.below HB6.out), below_then hb5 HB6.out⟩
        · rw [kidEs_take HQ.out, ← HES.out, ← hes5]
          unfold ents
          rw [List.map_append]
        · rw [← List.append_assoc]
          exact Col.below hC5 HB6.out
        · intro r hr
          rcases List.mem_append.1 hr with hr | hr
          · exact ⟨((HOKr.out r hr).1.keep hK5).below HB6.out, (HOKr.out r hr).2⟩
          · exact ⟨(hok5 r hr).1.below HB6.out, (hok5 r hr).2⟩
      case measure => exact fromM_lt HSO.out HAT.out HQ.out
    · rw [kPt_none (show ks.length ≤ j by omega)]
      have HFI := hide (show EachOut w0 w k bo rows (kidEs ks) (.returned (.bool true)) wz from ⟨rows', rfl, by rw [HES.out, List.take_of_length_le (by omega)], HCr.out, HOKr.out, HKr.out, HBr.out⟩)
      go_wp2
      go_ret
      exact HFI.out
theorem each_ok {w0 : World} {k : Nat} (hk : k ≤ 16) : ∀ (n g : Nat) (lv : Int) (pre : List Nat) (es : List Ent), lv + 1 < n → NodeOf w0 k g lv pre es → EachOk w0 k g es
  | 0, g, lv, pre, es, hn, h => by have := h.info.2.2.1; omega
  | n + 1, g, lv, pre, es, hn, h => by
    rcases h.cases' with ⟨A, c, v, rfl, rfl, hv, hP, hc, hB⟩ | ⟨m, ks, rfl, rfl, hF⟩
    · exact each_leaf hk hv hP hB
    · refine each_fork hF hk fun q hq => ?_
      obtain ⟨h1, h2, -⟩ := hF.kid q hq
      exact each_ok hk n q.blk q.lv q.pre q.es (by omega) h1
/-- What All gives. -/
def AllOut (w : World) (k : Nat) (es : List Ent) (e : Ending) (w' : World) : Prop :=
  ∃ (A : Option Addr) (c : Nat) (rows : List ER), e = .returned (.slice A rows.length c) ∧ ents rows = es ∧ w'.ownsRow w.heap.size 63 2 (.slice A rows.length c) rows.length (rows.flatMap entv) ∧ (∀ r ∈ rows, r.okT w' ∧ r.n = k) ∧ Below w.heap.size w w'
theorem AllOut.at_ {w w' : World} {k : Nat} {es : List Ent} {e : Ending} (h : AllOut w k es e w') : ∃ (A : Option Addr) (c : Nat) (rows : List ER), e = .returned (.slice A rows.length c) ∧ ents rows = es ∧ EntsAt w' A rows.length rows ∧ rows.length ≤ c ∧ (∀ r ∈ rows, r.n = k) ∧ Below w.heap.size w w' := by
  obtain ⟨A, c, rows, h1, h2, h3, h4, h5⟩ := h
  obtain ⟨h6, h7⟩ := own_rw h3
  exact ⟨A, c, rows, h1, h2, ⟨h7, fun r hr => (h4 r hr).1.1⟩, h6, fun r hr => (h4 r hr).2, h5⟩
set_option maxHeartbeats 2000000 in
set_option maxRecDepth 100000 in
theorem walk_all_nil (w : World) (k : Nat) : Calls Try.prog 29 #[.pointer none] w (AllOut w k []) := by
  have hal := (Below.refl w.heap.size w).alloc (Nat.le_refl _) (.cells #[.slice none 0 0] 26)
  have z0 := (Blk.new w 26 #[.slice none 0 0]).cell 0
  simp at z0
  have HE := hide (each_nil (w.alloc (.cells #[.slice none 0 0] 26)) (yieldV w.heap.size))
  have HAL := hide hal
  have hmf : ∀ (fn : Fn) (first cap : Array Value) (w : World), (Instr.makeFunc fn first cap).run Try.prog w = .ok (.func fn first cap) w := fun _ _ _ _ => rfl
  unfold yieldV at HE
  clear hal
  go_enter Try.func29, Try.ntmps29
  go_wp2_with fail
  refine HE.out.mono ?_
  rintro e w1 ⟨rfl, rfl⟩
  have HF := hide (show AllOut w k [] (.returned (.slice none 0 0)) (w.alloc (.cells #[.slice none 0 0] 26)) from ⟨none, 0, [], rfl, rfl, World.ownsRow_nil _ _ _ _, fun r hr => (by cases hr), HAL.out⟩)
  go_wp2
  go_ret
  exact HF.out
set_option maxHeartbeats 2000000 in
set_option maxRecDepth 100000 in
theorem walk_all {w : World} {k g : Nat} {lv : Int} {pre : List Nat} {es : List Ent} (h : NodeOf w k g lv pre es) (hk : k ≤ 16) (hl : es.length ≤ 65536) : Calls Try.prog 29 #[.pointer (some ⟨g, 0, none⟩)] w (AllOut w k es) := by
  have hal := (Below.refl w.heap.size w).alloc (Nat.le_refl _) (.cells #[.slice none 0 0] 26)
  have HE := hide (each_ok hk ((lv + 2).toNat) g lv pre es (by have := h.info.2.2.1; omega) h _ w.heap.size [] (Col.start _ _ _ _ w) hal (by simp; omega))
  have hmf : ∀ (fn : Fn) (first cap : Array Value) (w : World), (Instr.makeFunc fn first cap).run Try.prog w = .ok (.func fn first cap) w := fun _ _ _ _ => rfl
  unfold yieldV at HE
  clear hal h
  go_enter Try.func29, Try.ntmps29
  go_wp2_with fail
  refine HE.out.mono ?_
  rintro e w1 ⟨rows, rfl, hes, hC, hok, hK, hb⟩
  rw [List.nil_append] at hC
  obtain ⟨A, c, z0, z1, z2, hB, ho⟩ := hC.cell
  have HF := hide (show AllOut w k es (.returned (.slice A rows.length c)) w1 from ⟨A, c, rows, rfl, hes, ho, hok, hb⟩)
  clear hes hC hok hK hb hB ho z1 z2
  go_wp2
  go_ret
  exact HF.out
end Go.Proofs.Ytfkpanpageeklaa
