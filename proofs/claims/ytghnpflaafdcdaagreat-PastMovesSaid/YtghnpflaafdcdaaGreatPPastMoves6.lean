/- PastMoves: contracts and plain laws that the statement leans on (WkB PlD DfP DfA WkA WkC WkS LwA RkU Uq DfB DfC DfD StA StJ StK DfE DfEb). No condition. -/
import Derived.Test.YtghnpflaafdcdaaGreatPPastMoves5
set_option linter.unusedSimpArgs false
set_option linter.unusedVariables false
namespace Go.Proofs.YtghnpflaafdcdaaGreat
open Go.RowKit
def ColE (B : Nat) (w : World) (bo : Nat) (rows : List ER) : Prop := Col 32 79 2 entv B w bo rows
def yieldV (bo : Nat) : Value := .func (.func 118) #[] #[.pointer (some ⟨bo, 0, none⟩)]
def YieldOut (w0 w : World) (bo : Nat) (rows : List ER) (r : ER) (e : Ending) (w' : World) : Prop :=
  e = .returned (.bool true) ∧ ColE w0.heap.size w' bo (rows ++ [r]) ∧ Keep 36 w w' ∧ Below w0.heap.size w0 w'
set_option maxHeartbeats 2000000 in
set_option maxRecDepth 100000 in
theorem all_yield {w0 w : World} {bo : Nat} {rows : List ER} (r : ER) (hC : ColE w0.heap.size w bo rows) (hb : Below w0.heap.size w0 w) (hl : rows.length ≤ 100000) :
    Calls Tryz.prog 118 #[.agg #[.slice r.A r.n r.c, .int .u64 (r.v : Int)], .pointer (some ⟨bo, 0, none⟩)] w (YieldOut w0 w bo rows r) := by
  have hbo := hC.1
  have hal1 := (Below.refl w.heap.size w).alloc (Nat.le_refl _) (.cells #[.slice r.A r.n r.c, .int .u64 (r.v : Int)] 79)
  have hal2 := below_alloc hal1 (Nat.le_refl _) (.cells #[.slice r.A r.n r.c, .int .u64 (r.v : Int)] 79)
  have hC1 := Col.below hC hal1
  have hC2 := Col.below hC hal2
  obtain ⟨A, c, q1, q2, q3, q4, q5⟩ := hC1.cell
  obtain ⟨A', c', q1', q2', q3', q4', q5'⟩ := hC2.cell
  have hq : A' = A ∧ c' = c := by
    have h1 := (q4.alloc (.cells #[.slice r.A r.n r.c, .int .u64 (r.v : Int)] 79)).eq_ q4'
    have := congrArg (fun a => a[0]?) h1.2
    simp at this
    exact ⟨this.1.symm, this.2.symm⟩
  obtain ⟨rfl, rfl⟩ := hq
  have HC := hide hC2
  have HQ4 := hide q4'
  have HQ5 := hide q5'
  have hbb := hb.trans (hal2.mono hb.size)
  have HB := hide hbb
  have HK2 := hide (Keep.below (t := 36) hal2)
  have hsz := hb.size
  clear hC hb hal1 hal2 hC1 hC2 q4 q5 q1' q2' q3' q4' q5' hbb q3 q2
  go_enter Tryz.func118, Tryz.ntmps118
  go_wp2_with (first
    | (at_builtin
       refine app_b _ rfl (.tmp 4) (.tmp 6) _ rfl w0.heap.size 79 _ 2 32 Tryz.underlying32 info_e rfl (by omega) _ rows.length _ rfl HQ5.out (some ⟨w.heap.size + 1, 0, none⟩) 1 1 (entv r) rfl w0 HB.out (Nat.le_refl _) ?h1 ?h2 (by unfold maxLen; omega) (by omega) ?_
       case h1 =>
         have := Rw.new1 (w.alloc (.cells #[.slice r.A r.n r.c, .int .u64 (r.v : Int)] 79)) 79 #[.slice r.A r.n r.c, .int .u64 (r.v : Int)] (sz := 2) rfl
         simp at this
         exact this
       case h2 =>
         intro u hu
         rcases List.mem_cons.1 hu with rfl | hu
         · rfl
         · rw [List.mem_singleton] at hu
           rw [hu]
           rfl
       intro v5 w5 ho5 hb5 hg5
       obtain ⟨A5, c5, rfl, -, -⟩ := Rw.of_own ho5
       obtain ⟨s1, s2, s3⟩ := Col.step HC.out.1 HQ4.out HQ5.out (by decide) hg5 ho5
       have HS2 := hide s2
       have HS3 := hide (HK2.out.trans (s3 36 (by decide) (by decide)))
       have HB5 := hide (hb5.setCell (p := ⟨bo, 0, none⟩) hbo (.slice A5 (rows.length + 1) c5))
       have z0 := s1.cell 0
       have z1 := s1.frozen 0
       simp at z0
       clear ho5 hb5 hg5 s1 s2 s3)
    | fail)
  go_wp2
  go_ret
  exact ⟨rfl, HS2.out, HS3.out, HB5.out⟩
/-- What each does below a node, for the call that All makes. -/
def EachOut (w0 w : World) (k bo : Nat) (rows : List ER) (es : List Ent) (e : Ending) (w' : World) : Prop :=
  ∃ rows' : List ER, e = .returned (.bool true) ∧ ents rows' = es ∧ ColE w0.heap.size w' bo (rows ++ rows') ∧ (∀ r ∈ rows', r.okT w' ∧ r.n = k) ∧ Keep 36 w w' ∧ Below w0.heap.size w0 w'
def EachOk (w0 : World) (k g : Nat) (es : List Ent) : Prop := ∀ (w : World) (bo : Nat) (rows : List ER), ColE w0.heap.size w bo rows → Below w0.heap.size w0 w → rows.length + es.length ≤ 100000 →
  Calls Tryz.prog 117 #[.pointer (some ⟨g, 0, none⟩), yieldV bo] w (EachOut w0 w k bo rows es)
set_option maxHeartbeats 2000000 in
set_option maxRecDepth 100000 in
theorem each_leaf {w0 : World} {k g v c : Nat} {A : Option Addr} {p : List Nat} (hk : k ≤ 16) (hv : v < 2 ^ 64) (hp : Pt w0 A k p) (hB : Blk w0 g 114 (nodeCells (-1) A k c v none ⟨1, v, v, v⟩)) : EachOk w0 k g [(p, v)] := by
  intro w bo rows hC hb hl
  have hE := nd_entry_leaf (hB.below hb) (hp.below hb) hk
  have HE := hide hE
  have HC := hide hC
  have HB := hide hb
  have HZ := hide hp.zp
  have HV := hide hv
  simp only [List.length_cons, List.length_nil] at hl
  unfold yieldV
  clear hE hC hb hp hB hv
  go_enter Tryz.func117, Tryz.ntmps117
  go_wp2_with fail
  refine HE.out.mono ?_
  rintro e w1 ⟨B, d, rfl, ho, hb1⟩
  have hal := (Below.refl w1.heap.size w1).alloc (Nat.le_refl _) (.cells #[.slice B k d, .int .u64 (v : Int)] 79)
  have hb2 := below_then hb1 hal
  have hok : ER.okT (w1.alloc (.cells #[.slice B k d, .int .u64 (v : Int)] 79)) ⟨B, k, d, p, v⟩ := (ER.okT.of_own ho HZ.out HV.out).below hal
  have HOK := hide hok
  have HK2 := hide (Keep.below (t := 36) hb2)
  have HY := hide (all_yield ⟨B, k, d, p, v⟩ (Col.below HC.out hb2) (below_then HB.out hb2) (by omega))
  clear ho hb1 hal hb2 hok HE
  go_wp2_with fail
  refine HY.out.mono ?_
  rintro e w3 ⟨rfl, hC3, hK3, hb3⟩
  have HF := hide (show EachOut w0 w k bo rows [(p, v)] (.returned (.bool true)) w3 from ⟨[⟨B, k, d, p, v⟩], rfl, rfl, hC3, (by intro r hr; rw [List.mem_singleton] at hr; subst hr; exact ⟨HOK.out.keep hK3, rfl⟩), HK2.out.trans hK3, hb3⟩)
  clear hC3 hK3 hb3
  go_wp2
  go_ret
  exact HF.out
def fromM : Value → Value → Nat
  | _, .pointer none => 0
  | .int _ x, _ => 70001 - x.toNat
  | _, _ => 0
theorem fromM_lt {ks : List Kid} (hs : ks.Pairwise fun q r => q.at_ < r.at_) (hb : ∀ q ∈ ks, q.at_ < 65536) {j : Nat} {q : Kid} (hq : ks[j]? = some q) :
    fromM (.int .i64 ((kAt ks (j + 1) : Nat) : Int)) (kPt ks (j + 1)) < fromM (.int .i64 ((q.at_ : Nat) : Int)) (.pointer (some ⟨q.blk, 0, none⟩)) := by
  have h1 := hb q (List.mem_of_getElem? hq)
  cases hr : ks[j + 1]? with
  | none =>
    rw [kPt_none (by simpa using hr)]
    simp only [fromM]
    omega
  | some r =>
    rw [kAt_some hr, kPt_some hr]
    have h2 := hb r (List.mem_of_getElem? hr)
    have h3 := kids_lt hs hq hr (by omega)
    simp only [fromM]
    omega
set_option maxHeartbeats 4000000 in
set_option maxRecDepth 100000 in
theorem each_fork {w0 : World} {k g m : Nat} {pre : List Nat} {ks : List Kid} (hF : Fork w0 k g m pre ks) (hk : k ≤ 16) (ih : ∀ q ∈ ks, EachOk w0 k q.blk q.es) : EachOk w0 k g (kidEs ks) := by
  intro w bo rows hC hb hl
  have hFw := hF.stay hb
  obtain ⟨A, c, gs, hp, hS, hB⟩ := hFw.head
  have hE := nd_entry_fork hB
  have HE := hide hE
  have HF := hide hF
  have HC := hide hC
  have HB := hide hb
  have HIH := hide ih
  have HSO := hide hF.sorted
  have HAT := hide (fun q (hq : q ∈ ks) => pow_le_16 (hF.kid q hq).2.2.2.2 hk)
  clear hE hC hb hp hB hS hFw hF ih
  go_enter Tryz.func117, Tryz.ntmps117
  go_wp2_with fail
  refine HE.out.mono ?_
  rintro e w1 ⟨rfl, hb1⟩
  have hal := (Below.refl w1.heap.size w1).alloc (Nat.le_refl _) (.cells #[.slice none 0 0, .int .u64 0] 79)
  have hb2 := below_then hb1 hal
  have H0 := hide (nd_from_0 ((HF.out.stay HB.out).stay hb2))
  have HB2 := hide hb2
  clear hb1 hal hb2 HE
  go_wp2_with fail
  refine H0.out.mono ?_
  rintro e w3 ⟨rfl, hb3⟩
  have hc3 := below_then HB2.out hb3
  have HS3 := hide (show ColE w0.heap.size w3 bo (rows ++ []) by rw [List.append_nil]; exact Col.below HC.out hc3)
  have HK3 := hide (Keep.below (t := 36) hc3)
  have HB3 := hide (below_then HB.out hc3)
  clear hb3 hc3 H0 HB2
  go_wp2
  go_loopw [7, 8] (fun x7 x8 wr => ∃ (j : Nat) (rows' : List ER), x7 = .int .i64 ((kAt ks j : Nat) : Int) ∧ x8 = kPt ks j ∧ j ≤ ks.length ∧ ents rows' = kidEs (ks.take j) ∧ ColE w0.heap.size wr bo (rows ++ rows') ∧ (∀ r ∈ rows', r.okT wr ∧ r.n = k) ∧ Keep 36 w wr ∧ Below w0.heap.size w0 wr) (fun x7 x8 _ => fromM x7 x8)
  case atStart => exact ⟨0, [], rfl, rfl, Nat.zero_le _, rfl, HS3.out, fun r hr => (by cases hr), HK3.out, HB3.out⟩
  case round =>
    obtain ⟨j, rows', rfl, rfl, hj, hes, hC, hok, hK, hb⟩ := hrel
    have HES := hide hes
    have HCr := hide hC
    have HOKr := hide hok
    have HKr := hide hK
    have HBr := hide hb
    rename World => wz
    clear hes hC hok hK hb
    by_cases hjn : j < ks.length
    · obtain ⟨q, hq⟩ : ∃ q, ks[j]? = some q := ⟨ks[j], List.getElem?_eq_getElem hjn⟩
      rw [kAt_some hq, kPt_some hq]
      have hqm := List.mem_of_getElem? hq
      have hqa := HAT.out q hqm
      have hqa1 : ((q.at_ : Nat) : Int) ≤ 65535 := by omega
      have hlen : (rows ++ rows').length + q.es.length ≤ 100000 := by
        have h1 := congrArg List.length HES.out
        have h2 := congrArg List.length (kidEs_at hq)
        unfold ents at h1
        simp only [List.length_append, List.length_map] at h1 h2 ⊢
        omega
      have HI := hide (HIH.out q hqm wz bo (rows ++ rows') HCr.out HBr.out hlen)
      unfold yieldV at HI ⊢
      have HQ := hide hq
      clear hq hqm hqa hlen
      go_wp2_with fail
      refine HI.out.mono ?_
      rintro e w5 ⟨rows2, rfl, hes5, hC5, hok5, hK5, hb5⟩
      have HN := hide (nd_from_next ((HF.out.stay hb5)) HQ.out)
      have H5 := hide (And.intro hes5 (And.intro hC5 (And.intro hok5 (And.intro hK5 hb5))))
      clear hes5 hC5 hok5 hK5 hb5 HI
      go_wp2_with fail
      refine HN.out.mono ?_
      rintro e w6 ⟨rfl, hb6⟩
      have HB6 := hide hb6
      clear hb6 HN
      go_wp2
      go_roundw
      case rel =>
        obtain ⟨hes5, hC5, hok5, hK5, hb5⟩ := H5.out
        refine ⟨j + 1, rows' ++ rows2, rfl, rfl, by omega, ?_, ?_, ?_, (HKr.out.trans hK5).trans (Keep.below HB6.out), below_then hb5 HB6.out⟩
        · rw [kidEs_take HQ.out, ← HES.out, ← hes5]
          unfold ents
          rw [List.map_append]
        · rw [← List.append_assoc]
          exact Col.below hC5 HB6.out
        · intro r hr
          rcases List.mem_append.1 hr with hr | hr
          · exact ⟨((HOKr.out r hr).1.keep hK5).below HB6.out, (HOKr.out r hr).2⟩
          · exact ⟨(hok5 r hr).1.below HB6.out, (hok5 r hr).2⟩
      case measure => exact fromM_lt HSO.out HAT.out HQ.out
    · rw [kPt_none (show ks.length ≤ j by omega)]
      have HFI := hide (show EachOut w0 w k bo rows (kidEs ks) (.returned (.bool true)) wz from ⟨rows', rfl, by rw [HES.out, List.take_of_length_le (by omega)], HCr.out, HOKr.out, HKr.out, HBr.out⟩)
      go_wp2
      go_ret
      exact HFI.out
theorem each_ok {w0 : World} {k : Nat} (hk : k ≤ 16) : ∀ (n g : Nat) (lv : Int) (pre : List Nat) (es : List Ent), lv + 1 < n → NodeOf w0 k g lv pre es → EachOk w0 k g es
  | 0, g, lv, pre, es, hn, h => by have := h.info.2.2.1; omega
  | n + 1, g, lv, pre, es, hn, h => by
    rcases h.cases' with ⟨A, c, v, rfl, rfl, hv, hP, hc, hB⟩ | ⟨m, ks, rfl, rfl, hF⟩
    · exact each_leaf hk hv hP hB
    · refine each_fork hF hk fun q hq => ?_
      obtain ⟨h1, h2, -⟩ := hF.kid q hq
      exact each_ok hk n q.blk q.lv q.pre q.es (by omega) h1
/-- What All gives. -/
def AllOut (w : World) (k : Nat) (es : List Ent) (e : Ending) (w' : World) : Prop :=
  ∃ (A : Option Addr) (c : Nat) (rows : List ER), e = .returned (.slice A rows.length c) ∧ ents rows = es ∧ w'.ownsRow w.heap.size 79 2 (.slice A rows.length c) rows.length (rows.flatMap entv) ∧ (∀ r ∈ rows, r.okT w' ∧ r.n = k) ∧ Below w.heap.size w w'
theorem AllOut.at_ {w w' : World} {k : Nat} {es : List Ent} {e : Ending} (h : AllOut w k es e w') : ∃ (A : Option Addr) (c : Nat) (rows : List ER), e = .returned (.slice A rows.length c) ∧ ents rows = es ∧ EntsAt w' A rows.length rows ∧ rows.length ≤ c ∧ (∀ r ∈ rows, r.n = k) ∧ Below w.heap.size w w' := by
  obtain ⟨A, c, rows, h1, h2, h3, h4, h5⟩ := h
  obtain ⟨h6, h7⟩ := own_rw h3
  exact ⟨A, c, rows, h1, h2, ⟨h7, fun r hr => (h4 r hr).1.1⟩, h6, fun r hr => (h4 r hr).2, h5⟩
set_option maxHeartbeats 2000000 in
set_option maxRecDepth 100000 in
theorem walk_all {w : World} {k g : Nat} {lv : Int} {pre : List Nat} {es : List Ent} (h : NodeOf w k g lv pre es) (hk : k ≤ 16) (hl : es.length ≤ 65536) : Calls Tryz.prog 109 #[.pointer (some ⟨g, 0, none⟩)] w (AllOut w k es) := by
  have hal := (Below.refl w.heap.size w).alloc (Nat.le_refl _) (.cells #[.slice none 0 0] 32)
  have HE := hide (each_ok hk ((lv + 2).toNat) g lv pre es (by have := h.info.2.2.1; omega) h _ w.heap.size [] (Col.start _ _ _ _ w) hal (by simp; omega))
  have hmf : ∀ (fn : Fn) (first cap : Array Value) (w : World), (Instr.makeFunc fn first cap).run Tryz.prog w = .ok (.func fn first cap) w := fun _ _ _ _ => rfl
  unfold yieldV at HE
  clear hal h
  go_enter Tryz.func109, Tryz.ntmps109
  go_wp2_with fail
  refine HE.out.mono ?_
  rintro e w1 ⟨rows, rfl, hes, hC, hok, hK, hb⟩
  rw [List.nil_append] at hC
  obtain ⟨A, c, z0, z1, z2, hB, ho⟩ := hC.cell
  have HF := hide (show AllOut w k es (.returned (.slice A rows.length c)) w1 from ⟨A, c, rows, rfl, hes, ho, hok, hb⟩)
  clear hes hC hok hK hb hB ho z1 z2
  go_wp2
  go_ret
  exact HF.out
end Go.Proofs.YtghnpflaafdcdaaGreat
set_option linter.unusedSimpArgs false
set_option linter.unusedVariables false
namespace Go.Proofs.YtghnpflaafdcdaaGreat
/-- What a list has at a point. -/
def getE (A : List Ent) (p : List Nat) : Option Nat := (A.find? fun e => decide (e.1 = p)).map (·.2)
theorem getE_mem {A : List Ent} {p : List Nat} {v : Nat} (h : getE A p = some v) : (p, v) ∈ A := by
  unfold getE at h
  obtain ⟨e, he, rfl⟩ := Option.map_eq_some_iff.1 h
  have h1 := List.mem_of_find?_eq_some he
  have h2 := List.find?_some he
  simp only [decide_eq_true_eq] at h2
  rw [← h2]
  exact h1
theorem getE_none {A : List Ent} {p : List Nat} : getE A p = none ↔ ∀ v, (p, v) ∉ A := by
  unfold getE
  rw [Option.map_eq_none_iff, List.find?_eq_none]
  constructor
  · intro h v hv
    exact absurd (h (p, v) hv) (by simp)
  · intro h e he
    simp only [decide_eq_true_eq]
    rintro rfl
    exact h e.2 he
theorem getE_of {A : List Ent} (hs : Zsorted A) {p : List Nat} {v : Nat} (h : (p, v) ∈ A) : getE A p = some v := by
  cases hg : getE A p with
  | none => exact absurd h (getE_none.1 hg v)
  | some u => rw [uniq_val hs (getE_mem hg) h]
theorem getE_append (A B : List Ent) (p : List Nat) : getE (A ++ B) p = (getE A p).or (getE B p) := by
  unfold getE
  rw [List.find?_append]
  cases List.find? (fun e => decide (e.1 = p)) A <;> rfl
theorem getE_far {A : List Ent} {p : List Nat} (h : ∀ e ∈ A, e.1 ≠ p) : getE A p = none := getE_none.2 fun v hv => h (p, v) hv rfl
theorem getE_nil (p : List Nat) : getE [] p = none := rfl
/-- What became of a point. -/
structure CE where
  p : List Nat
  had : Bool
  has : Bool
  old : Nat
  new : Nat
def chgAt (A B : List Ent) (p : List Nat) : CE := ⟨p, (getE A p).isSome, (getE B p).isSome, (getE A p).getD 0, (getE B p).getD 0⟩
structure Chgs (A B : List Ent) (L : List CE) : Prop where
  sorted : L.Pairwise fun c d => Zlt c.p d.p
  mem : ∀ c, c ∈ L ↔ getE A c.p ≠ getE B c.p ∧ c = chgAt A B c.p
theorem ce_ext : ∀ {L M : List CE}, (L.Pairwise fun c d => Zlt c.p d.p) → (M.Pairwise fun c d => Zlt c.p d.p) → (∀ c, c ∈ L ↔ c ∈ M) → L = M
  | [], [], _, _, _ => rfl
  | [], d :: M, _, _, h => by have := (h d).2 List.mem_cons_self; cases this
  | c :: L, [], _, _, h => by have := (h c).1 List.mem_cons_self; cases this
  | c :: L, d :: M, h1, h2, h => by
    rw [List.pairwise_cons] at h1 h2
    have hcd : c = d := by
      rcases List.mem_cons.1 ((h c).1 List.mem_cons_self) with e | hc
      · exact e
      · rcases List.mem_cons.1 ((h d).2 List.mem_cons_self) with e | hd
        · exact e.symm
        · exact absurd (h2.1 c hc) fun h3 => zlt_asymm h3 (h1.1 d hd)
    subst hcd
    congr 1
    refine ce_ext h1.2 h2.2 fun x => ?_
    constructor
    · intro hx
      rcases List.mem_cons.1 ((h x).1 (List.mem_cons_of_mem _ hx)) with rfl | h3
      · exact absurd (h1.1 x hx) (zlt_irrefl _)
      · exact h3
    · intro hx
      rcases List.mem_cons.1 ((h x).2 (List.mem_cons_of_mem _ hx)) with rfl | h3
      · exact absurd (h2.1 x hx) (zlt_irrefl _)
      · exact h3
theorem Chgs.uniq {A B : List Ent} {L M : List CE} (h : Chgs A B L) (h' : Chgs A B M) : L = M := ce_ext h.sorted h'.sorted fun c => by rw [h.mem, h'.mem]
theorem Chgs.same (A : List Ent) : Chgs A A [] := ⟨List.Pairwise.nil, fun c => by simp⟩
/-- All of one list is ahead of all of another one. -/
def Ahead (A B : List Ent) : Prop := ∀ e ∈ A, ∀ f ∈ B, Zlt e.1 f.1
theorem Ahead.nil_l (B : List Ent) : Ahead [] B := fun e h => (by cases h)
theorem Ahead.nil_r (A : List Ent) : Ahead A [] := fun e _ f h => (by cases h)
theorem Ahead.none {A B : List Ent} (h : Ahead A B) {p : List Nat} (hp : getE A p ≠ .none) : getE B p = .none := by
  cases ha : getE A p with
  | none => exact absurd ha hp
  | some v =>
    refine getE_far fun e he => ?_
    rintro rfl
    exact zlt_irrefl _ (h (e.1, v) (getE_mem ha) e he)
theorem ne_some {A B : List Ent} {p : List Nat} (h : getE A p ≠ getE B p) : getE A p ≠ .none ∨ getE B p ≠ .none := by
  by_cases h1 : getE A p = .none
  · right
    intro h2
    exact h (h1.trans h2.symm)
  · exact .inl h1
theorem Chgs.append {A1 B1 A2 B2 : List Ent} {L1 L2 : List CE} (h1 : Chgs A1 B1 L1) (h2 : Chgs A2 B2 L2) (haa : Ahead A1 A2) (hab : Ahead A1 B2) (hba : Ahead B1 A2) (hbb : Ahead B1 B2) : Chgs (A1 ++ A2) (B1 ++ B2) (L1 ++ L2) := by
  have key1 : ∀ p, getE A1 p ≠ .none ∨ getE B1 p ≠ .none → getE A2 p = .none ∧ getE B2 p = .none := by
    rintro p (h | h)
    · exact ⟨haa.none h, hab.none h⟩
    · exact ⟨hba.none h, hbb.none h⟩
  have hor : ∀ (x : Option Nat), x.or .none = x := fun x => by cases x <;> rfl
  refine ⟨?_, fun c => ?_⟩
  · rw [List.pairwise_append]
    refine ⟨h1.sorted, h2.sorted, fun c hc d hd => ?_⟩
    have c1 := ((h1.mem c).1 hc).1
    have d1 := ((h2.mem d).1 hd).1
    rcases ne_some c1 with hc' | hc' <;> rcases ne_some d1 with hd' | hd'
    all_goals
      obtain ⟨v, hv⟩ := Option.ne_none_iff_exists'.1 hc'
      obtain ⟨u, hu⟩ := Option.ne_none_iff_exists'.1 hd'
    · exact haa _ (getE_mem hv) _ (getE_mem hu)
    · exact hab _ (getE_mem hv) _ (getE_mem hu)
    · exact hba _ (getE_mem hv) _ (getE_mem hu)
    · exact hbb _ (getE_mem hv) _ (getE_mem hu)
  · rw [List.mem_append, h1.mem, h2.mem]
    unfold chgAt
    rw [getE_append, getE_append]
    by_cases hp : getE A1 c.p ≠ .none ∨ getE B1 c.p ≠ .none
    · obtain ⟨e1, e2⟩ := key1 c.p hp
      rw [e1, e2, hor, hor]
      simp
    · have e1 : getE A1 c.p = .none := Classical.byContradiction fun h => hp (.inl h)
      have e2 : getE B1 c.p = .none := Classical.byContradiction fun h => hp (.inr h)
      rw [e1, e2]
      simp
def goneE (e : Ent) : CE := ⟨e.1, true, false, e.2, 0⟩
def comeE (e : Ent) : CE := ⟨e.1, false, true, 0, e.2⟩
theorem Chgs.gone {A : List Ent} (hs : Zsorted A) : Chgs A [] (A.map goneE) := by
  refine ⟨?_, fun c => ?_⟩
  · rw [List.pairwise_map]
    exact hs
  · rw [List.mem_map, getE_nil]
    constructor
    · rintro ⟨e, he, rfl⟩
      have := getE_of hs (p := e.1) (v := e.2) he
      unfold chgAt goneE
      simp only [this, getE_nil]
      exact ⟨by simp, rfl⟩
    · rintro ⟨h1, h2⟩
      obtain ⟨v, hv⟩ := Option.ne_none_iff_exists'.1 h1
      refine ⟨(c.p, v), getE_mem hv, ?_⟩
      rw [h2]
      unfold chgAt goneE
      simp only [hv, getE_nil]
      rfl
theorem Chgs.come {B : List Ent} (hs : Zsorted B) : Chgs [] B (B.map comeE) := by
  refine ⟨?_, fun c => ?_⟩
  · rw [List.pairwise_map]
    exact hs
  · rw [List.mem_map, getE_nil]
    constructor
    · rintro ⟨e, he, rfl⟩
      have := getE_of hs (p := e.1) (v := e.2) he
      unfold chgAt comeE
      simp only [this, getE_nil]
      exact ⟨by simp, rfl⟩
    · rintro ⟨h1, h2⟩
      obtain ⟨v, hv⟩ := Option.ne_none_iff_exists'.1 h1.symm
      refine ⟨(c.p, v), getE_mem hv, ?_⟩
      rw [h2]
      unfold chgAt comeE
      simp only [hv, getE_nil]
      rfl
theorem Chgs.one {p : List Nat} {v u : Nat} : Chgs [(p, v)] [(p, u)] (if v = u then [] else [⟨p, true, true, v, u⟩]) := by
  have g : ∀ (x : Nat) (q : List Nat), getE [(p, x)] q = if p = q then some x else none := by
    intro x q
    unfold getE
    by_cases h : p = q <;> simp [List.find?, h]
  by_cases h : v = u
  · subst h
    rw [if_pos rfl]
    exact Chgs.same _
  · rw [if_neg h]
    refine ⟨List.pairwise_singleton _ _, fun c => ?_⟩
    rw [List.mem_singleton]
    unfold chgAt
    rw [g, g]
    by_cases hp : p = c.p
    · rw [if_pos hp, if_pos hp, ← hp]
      simp only [ne_eq, Option.some.injEq, h, not_false_eq_true, Option.isSome_some, Option.getD_some, true_and]
    · rw [if_neg hp, if_neg hp]
      simp only [ne_eq, not_true_eq_false, false_and, iff_false]
      rintro rfl
      exact hp rfl
end Go.Proofs.YtghnpflaafdcdaaGreat
set_option linter.unusedSimpArgs false
set_option linter.unusedVariables false
namespace Go.Proofs.YtghnpflaafdcdaaGreat
/-- The changes at a list's points, where these are all at which two lists differ. -/
def chgP (A B : List Ent) (p : List Nat) : Option CE := if getE A p = getE B p then none else some (chgAt A B p)
theorem chgP_some {A B : List Ent} {p : List Nat} {c : CE} (h : chgP A B p = some c) : getE A p ≠ getE B p ∧ c = chgAt A B p := by
  unfold chgP at h
  split at h
  · cases h
  · rename_i h1
    injection h with h
    exact ⟨h1, h.symm⟩
theorem chgs_pts {A B : List Ent} {P : List (List Nat)} (hs : P.Pairwise Zlt) (hm : ∀ p, getE A p ≠ getE B p → p ∈ P) : Chgs A B (P.filterMap (chgP A B)) := by
  refine ⟨?_, fun c => ?_⟩
  · refine List.Pairwise.filterMap _ ?_ hs
    intro p q hpq c hc d hd
    rw [(chgP_some hc).2, (chgP_some hd).2]
    exact hpq
  · rw [List.mem_filterMap]
    constructor
    · rintro ⟨p, hp, hc⟩
      obtain ⟨h1, rfl⟩ := chgP_some hc
      exact ⟨h1, rfl⟩
    · rintro ⟨h1, h2⟩
      refine ⟨c.p, hm _ h1, ?_⟩
      unfold chgP
      rw [if_neg h1, ← h2]
/-- A direction: the changes from one list to another, or back. -/
def ChgD (d : Bool) (A B : List Ent) (L : List CE) : Prop := if d then Chgs A B L else Chgs B A L
theorem ChgD.append {d : Bool} {A1 B1 A2 B2 : List Ent} {L1 L2 : List CE} (h1 : ChgD d A1 B1 L1) (h2 : ChgD d A2 B2 L2) (haa : Ahead A1 A2) (hab : Ahead A1 B2) (hba : Ahead B1 A2) (hbb : Ahead B1 B2) : ChgD d (A1 ++ A2) (B1 ++ B2) (L1 ++ L2) := by
  cases d with
  | true => exact Chgs.append h1 h2 haa hab hba hbb
  | false => exact Chgs.append h1 h2 hbb hba hab haa
theorem ChgD.nil (d : Bool) : ChgD d [] [] [] := by
  cases d <;> exact Chgs.same []
def asE (d : Bool) (e : Ent) : CE := if d then goneE e else comeE e
theorem ChgD.all {d : Bool} {A : List Ent} (hs : Zsorted A) : ChgD d A [] (A.map (asE d)) := by
  cases d with
  | true => exact Chgs.gone hs
  | false => exact Chgs.come hs
theorem len_le_of_sub {α : Type} [DecidableEq α] : ∀ {L M : List α}, L.Nodup → (∀ x ∈ L, x ∈ M) → L.length ≤ M.length
  | [], _, _, _ => Nat.zero_le _
  | x :: L, M, hn, hs => by
    rw [List.nodup_cons] at hn
    have h1 : x ∈ M := hs x List.mem_cons_self
    have h2 := len_le_of_sub (L := L) (M := M.erase x) hn.2 fun y hy => (List.mem_erase_of_ne (by rintro rfl; exact hn.1 hy)).2 (hs y (List.mem_cons_of_mem _ hy))
    rw [List.length_erase_of_mem h1] at h2
    have h3 := List.length_pos_of_mem h1
    simp only [List.length_cons]
    omega
theorem Chgs.nodup {A B : List Ent} {L : List CE} (h : Chgs A B L) : (L.map CE.p).Nodup := by
  unfold List.Nodup
  rw [List.pairwise_map]
  exact h.sorted.imp fun {a b} (hab : Zlt a.p b.p) (e : a.p = b.p) => zlt_irrefl b.p (by rw [e] at hab; exact hab)
theorem Chgs.len_le {A B : List Ent} {L : List CE} (h : Chgs A B L) : L.length ≤ A.length + B.length := by
  have h1 := len_le_of_sub (M := A.map (·.1) ++ B.map (·.1)) h.nodup fun p hp => by
    obtain ⟨c, hc, rfl⟩ := List.mem_map.1 hp
    rw [List.mem_append, List.mem_map, List.mem_map]
    rcases ne_some ((h.mem c).1 hc).1 with h2 | h2
    · obtain ⟨v, hv⟩ := Option.ne_none_iff_exists'.1 h2
      exact .inl ⟨(c.p, v), getE_mem hv, rfl⟩
    · obtain ⟨v, hv⟩ := Option.ne_none_iff_exists'.1 h2
      exact .inr ⟨(c.p, v), getE_mem hv, rfl⟩
  simpa using h1
end Go.Proofs.YtghnpflaafdcdaaGreat
set_option linter.unusedSimpArgs false
set_option linter.unusedVariables false
namespace Go.Proofs.YtghnpflaafdcdaaGreat
open Go.RowKit
/-- A change in memory. -/
structure CR where
  A : Option Addr
  n : Nat
  c : Nat
  p : List Nat
  had : Bool
  has : Bool
  old : Nat
  new : Nat
def chv (r : CR) : List Value := [.slice r.A r.n r.c, .bool r.had, .bool r.has, .int .u64 (r.old : Int), .int .u64 (r.new : Int)]
def CR.ce (r : CR) : CE := ⟨r.p, r.had, r.has, r.old, r.new⟩
theorem chv_len (r : CR) : (chv r).length = 5 := rfl
def CR.ok (w : World) (r : CR) : Prop := Pt w r.A r.n r.p ∧ r.n ≤ r.c ∧ r.c ≤ maxLen ∧ r.old < 2 ^ 64 ∧ r.new < 2 ^ 64
def CR.okT (w : World) (r : CR) : Prop := r.ok w ∧ TyRow w 36 r.A r.n
def ces (rows : List CR) : List CE := rows.map CR.ce
theorem ces_append (a b : List CR) : ces (a ++ b) = ces a ++ ces b := List.map_append
theorem ces_len (a : List CR) : (ces a).length = a.length := List.length_map _
section
variable {w w' : World} {r : CR}
theorem CR.okT.keep (h : r.okT w) (hk : Keep 36 w w') : r.okT w' := ⟨⟨⟨h.1.1.1, h.1.1.2.1.keep h.2 hk, h.1.1.2.2⟩, h.1.2⟩, h.2.keep hk⟩
theorem CR.ok.below (h : r.ok w) (hb : Below w.heap.size w w') : r.ok w' := ⟨h.1.below hb, h.2⟩
end
theorem info_c : (Tryz.prog.info? 73).map (fun i => (i.zero, i.size, i.bytes)) = some (some (.agg #[.slice none 0 0, .bool false, .bool false, .int .u64 0, .int .u64 0]), 5, 48) := by kernel_rfl
def ColC (B : Nat) (w : World) (bo : Nat) (rows : List CR) : Prop := Col 50 73 5 chv B w bo rows
/-- All blocks stay but those of changes. -/
def KeepC (w w' : World) : Prop := ∀ t, t ≠ 50 → t ≠ 73 → Keep t w w'
theorem KeepC.refl (w : World) : KeepC w w := fun t _ _ => Keep.refl t w
theorem KeepC.trans {w w' w'' : World} (h : KeepC w w') (h' : KeepC w' w'') : KeepC w w'' := fun t h1 h2 => (h t h1 h2).trans (h' t h1 h2)
theorem KeepC.below {w w' : World} (hb : Below w.heap.size w w') : KeepC w w' := fun t _ _ => Keep.below hb
theorem KeepC.u64 {w w' : World} (h : KeepC w w') : Keep 36 w w' := h _ (by decide) (by decide)
def tellV (bo : Nat) : Value := .func (.func 55) #[] #[.pointer (some ⟨bo, 0, none⟩)]
def TellOut (w0 w : World) (bo : Nat) (rows : List CR) (r : CR) (e : Ending) (w' : World) : Prop :=
  e = .returned (.tuple #[]) ∧ ColC w0.heap.size w' bo (rows ++ [r]) ∧ KeepC w w' ∧ Below w0.heap.size w0 w'
set_option maxHeartbeats 2000000 in
set_option maxRecDepth 100000 in
theorem df_tell {w0 w : World} {bo : Nat} {rows : List CR} (r : CR) (hC : ColC w0.heap.size w bo rows) (hb : Below w0.heap.size w0 w) (hl : rows.length ≤ 200000) :
    Calls Tryz.prog 55 #[.agg #[.slice r.A r.n r.c, .bool r.had, .bool r.has, .int .u64 (r.old : Int), .int .u64 (r.new : Int)], .pointer (some ⟨bo, 0, none⟩)] w (TellOut w0 w bo rows r) := by
  have hbo := hC.1
  have hal1 := (Below.refl w.heap.size w).alloc (Nat.le_refl _) (.cells #[.slice r.A r.n r.c, .bool r.had, .bool r.has, .int .u64 (r.old : Int), .int .u64 (r.new : Int)] 73)
  have hal2 := below_alloc hal1 (Nat.le_refl _) (.cells #[.slice r.A r.n r.c, .bool r.had, .bool r.has, .int .u64 (r.old : Int), .int .u64 (r.new : Int)] 73)
  have hC1 := Col.below hC hal1
  have hC2 := Col.below hC hal2
  obtain ⟨A, c, q1, q2, q3, q4, q5⟩ := hC1.cell
  obtain ⟨A', c', q1', q2', q3', q4', q5'⟩ := hC2.cell
  have hq : A' = A ∧ c' = c := by
    have h1 := (q4.alloc (.cells #[.slice r.A r.n r.c, .bool r.had, .bool r.has, .int .u64 (r.old : Int), .int .u64 (r.new : Int)] 73)).eq_ q4'
    have := congrArg (fun a => a[0]?) h1.2
    simp at this
    exact ⟨this.1.symm, this.2.symm⟩
  obtain ⟨rfl, rfl⟩ := hq
  have HC := hide hC2
  have HQ4 := hide q4'
  have HQ5 := hide q5'
  have hbb := hb.trans (hal2.mono hb.size)
  have HB := hide hbb
  have HK2 := hide (KeepC.below hal2)
  have hsz := hb.size
  clear hC hb hal1 hal2 hC1 hC2 q4 q5 q1' q2' q3' q4' q5' hbb q3 q2
  go_enter Tryz.func55, Tryz.ntmps55
  go_wp2_with (first
    | (at_builtin
       refine app_b _ rfl (.tmp 3) (.tmp 5) _ rfl w0.heap.size 73 _ 5 48 Tryz.underlying50 info_c rfl (by omega) _ rows.length _ rfl HQ5.out (some ⟨w.heap.size + 1, 0, none⟩) 1 1 (chv r) rfl w0 HB.out (Nat.le_refl _) ?h1 ?h2 (by unfold maxLen; omega) (by omega) ?_
       case h1 =>
         have := Rw.new1 (w.alloc (.cells #[.slice r.A r.n r.c, .bool r.had, .bool r.has, .int .u64 (r.old : Int), .int .u64 (r.new : Int)] 73)) 73 #[.slice r.A r.n r.c, .bool r.had, .bool r.has, .int .u64 (r.old : Int), .int .u64 (r.new : Int)] (sz := 5) rfl
         simp at this
         exact this
       case h2 =>
         intro u hu
         simp only [chv, List.mem_cons, List.not_mem_nil, or_false] at hu
         rcases hu with rfl | rfl | rfl | rfl | rfl <;> rfl
       intro v5 w5 ho5 hb5 hg5
       obtain ⟨A5, c5, rfl, -, -⟩ := Rw.of_own ho5
       obtain ⟨s1, s2, s3⟩ := Col.step HC.out.1 HQ4.out HQ5.out (by decide) hg5 ho5
       have HS2 := hide s2
       have HS3 := hide (HK2.out.trans s3)
       have HB5 := hide (hb5.setCell (p := ⟨bo, 0, none⟩) hbo (.slice A5 (rows.length + 1) c5))
       have z0 := s1.cell 0
       have z1 := s1.frozen 0
       simp at z0
       clear ho5 hb5 hg5 s1 s2 s3)
    | fail)
  go_wp2
  go_end0
  exact ⟨rfl, HS2.out, HS3.out, HB5.out⟩
/-- gone, come. -/
def asV (d : Bool) : Value := .func (.func (if d then 84 else 83)) #[] #[]
def asR (d : Bool) (r : ER) : CR := ⟨r.A, r.n, r.c, r.p, d, !d, if d then r.v else 0, if d then 0 else r.v⟩
theorem asR_ce (d : Bool) (r : ER) : (asR d r).ce = asE d r.e := by cases d <;> rfl
theorem asR_ok {w : World} {r : ER} (d : Bool) (h : r.okT w) : (asR d r).okT w := by
  obtain ⟨⟨h1, h2, h3, h4⟩, h5⟩ := h
  cases d with
  | true => exact ⟨⟨h1, h2, h3, h4, by show 0 < 2 ^ 64; omega⟩, h5⟩
  | false => exact ⟨⟨h1, h2, h3, by show 0 < 2 ^ 64; omega, h4⟩, h5⟩
set_option maxHeartbeats 1000000 in
set_option maxRecDepth 100000 in
theorem df_gone (w : World) (r : ER) : Calls Tryz.prog 84 #[.agg #[.slice r.A r.n r.c, .int .u64 (r.v : Int)]] w fun e w' => e = .returned (.agg #[.slice r.A r.n r.c, .bool true, .bool false, .int .u64 (r.v : Int), .int .u64 0]) ∧ Below w.heap.size w w' := by
  have hb := below_alloc ((Below.refl w.heap.size w).alloc (Nat.le_refl _) (.cells #[.slice r.A r.n r.c, .int .u64 (r.v : Int)] 79)) (Nat.le_refl _) (.cells #[.slice r.A r.n r.c, .bool true, .bool false, .int .u64 (r.v : Int), .int .u64 0] 73)
  have HB := hide hb
  have hN := Blk.new (w.alloc (.cells #[.slice r.A r.n r.c, .int .u64 (r.v : Int)] 79)) 73 #[.slice r.A r.n r.c, .bool true, .bool false, .int .u64 (r.v : Int), .int .u64 0]
  have g0 := hN.cell 0
  have g1 := hN.cell 1
  have g2 := hN.cell 2
  have g3 := hN.cell 3
  have g4 := hN.cell 4
  simp at g0 g1 g2 g3 g4
  clear hb hN
  go_enter Tryz.func84, Tryz.ntmps84
  go_wp2
  (try simp only [Exit.inBlock, Exit.then])
  refine bodyPost_ret (v := .agg #[.slice r.A r.n r.c, .bool true, .bool false, .int .u64 (r.v : Int), .int .u64 0]) (by simp [results, Tryz.results84, go_sem, g0, g1, g2, g3, g4]) rfl ⟨rfl, HB.out⟩
set_option maxHeartbeats 1000000 in
set_option maxRecDepth 100000 in
theorem df_come (w : World) (r : ER) : Calls Tryz.prog 83 #[.agg #[.slice r.A r.n r.c, .int .u64 (r.v : Int)]] w fun e w' => e = .returned (.agg #[.slice r.A r.n r.c, .bool false, .bool true, .int .u64 0, .int .u64 (r.v : Int)]) ∧ Below w.heap.size w w' := by
  have hb := below_alloc ((Below.refl w.heap.size w).alloc (Nat.le_refl _) (.cells #[.slice r.A r.n r.c, .int .u64 (r.v : Int)] 79)) (Nat.le_refl _) (.cells #[.slice r.A r.n r.c, .bool false, .bool true, .int .u64 0, .int .u64 (r.v : Int)] 73)
  have HB := hide hb
  have hN := Blk.new (w.alloc (.cells #[.slice r.A r.n r.c, .int .u64 (r.v : Int)] 79)) 73 #[.slice r.A r.n r.c, .bool false, .bool true, .int .u64 0, .int .u64 (r.v : Int)]
  have g0 := hN.cell 0
  have g1 := hN.cell 1
  have g2 := hN.cell 2
  have g3 := hN.cell 3
  have g4 := hN.cell 4
  simp at g0 g1 g2 g3 g4
  clear hb hN
  go_enter Tryz.func83, Tryz.ntmps83
  go_wp2
  (try simp only [Exit.inBlock, Exit.then])
  refine bodyPost_ret (v := .agg #[.slice r.A r.n r.c, .bool false, .bool true, .int .u64 0, .int .u64 (r.v : Int)]) (by simp [results, Tryz.results83, go_sem, g0, g1, g2, g3, g4]) rfl ⟨rfl, HB.out⟩
end Go.Proofs.YtghnpflaafdcdaaGreat
set_option linter.unusedSimpArgs false
set_option linter.unusedVariables false
namespace Go.Proofs.YtghnpflaafdcdaaGreat
open Go.RowKit
theorem xor_shr (z z' a : Nat) : (z ^^^ z') / 2 ^ a = 0 ↔ z / 2 ^ a = z' / 2 ^ a := by
  rw [← Nat.shiftRight_eq_div_pow, ← Nat.shiftRight_eq_div_pow, ← Nat.shiftRight_eq_div_pow, Nat.shiftRight_xor_distrib]
  generalize z >>> a = x
  generalize z' >>> a = y
  constructor
  · intro h
    refine Nat.eq_of_testBit_eq fun i => ?_
    have h1 := congrArg (fun n => Nat.testBit n i) h
    simp only [Nat.testBit_xor, Nat.zero_testBit] at h1
    revert h1
    cases x.testBit i <;> cases y.testBit i <;> simp
  · rintro rfl
    exact Nat.xor_self x
theorem div_bit (z a : Nat) : z / 2 ^ a = 2 * (z / 2 ^ (a + 1)) + bit z a := by
  unfold bit
  rw [Nat.pow_succ, ← Nat.div_div_eq_div_mul]
  omega
set_option maxHeartbeats 1000000 in
set_option maxRecDepth 100000 in
theorem zb_cmp (A B : Option Addr) (n c d : Nat) (p q : List Nat) (w : World) (hp : Pt w A n p) (hq : Pt w B n q) (h1 : 1 ≤ n) (h2 : n ≤ 16) :
    Calls Tryz.prog 89 #[.slice A n c, .slice B n d] w fun e w' => e = .returned (.tuple #[.int .i64 (cmp p q), .int .i64 0]) ∧ w = w' := by
  have hl : p.length = q.length := hp.len.trans hq.len.symm
  obtain ⟨g1, g2, g3, g4⟩ := part_spec p q hl hp.2.2 hq.2.2
  by_cases hneg : part p q < 0
  · have HP := hide (zb_part A B n c d p q w hp hq h1 h2)
    have HC := hide (show cmp p q = 0 by simp [cmp, hneg])
    have e1 : decide (part p q < 0) = true := by simpa using hneg
    clear g1 g2 g3 g4 hneg
    go_enter Tryz.func89, Tryz.ntmps89
    go_wp2_with fail
    refine HP.out.mono ?_
    rintro e w' ⟨rfl, rfl⟩
    go_wp2
    go_ret2
    exact ⟨by rw [HC.out]; rfl, rfl⟩
  · obtain ⟨a, ha⟩ := Int.eq_ofNat_of_zero_le (show 0 ≤ part p q by omega)
    have ha' : a < 64 := by omega
    have hd : decide ((a : Int) < 0) = false := by simp
    have HK := hide (fun (k z z' : Nat) (hz : p[k]? = some z) (hz' : q[k]? = some z') => cmp_step p q hl a ha k z z' hp.2.2 hq.2.2 hz hz')
    have HG := hide (g4 (by omega))
    rw [ha] at HG
    have hpart := zb_part A B n c d p q w hp hq h1 h2
    rw [ha] at hpart
    have HP := hide hpart
    clear g1 g2 g3 g4 hneg hpart ha
    go_enter Tryz.func89, Tryz.ntmps89
    go_wp2_with fail
    refine HP.out.mono ?_
    rintro e w' ⟨rfl, rfl⟩
    go_wp2
    go_loop [25] (fun i => ∃ (k : Nat), k ≤ n ∧ i = .int .i64 k ∧ addrOf (p.take k) a = addrOf (q.take k) a) (fun i => n - (intOf i).toNat)
    case atStart => exact ⟨0, by omega, rfl, rfl⟩
    case round =>
      obtain ⟨k, hk, rfl, hak⟩ := hrel
      have HA := hide hak
      clear hak
      by_cases hlt : k < n
      · obtain ⟨b, o, z, rfl, hb, hz, hzl, hc⟩ := hp.at_ hlt
        obtain ⟨b', o', z', rfl, hb', hz', hzl', hc'⟩ := hq.at_ hlt
        obtain ⟨s1, s2, s3⟩ := HK.out k z z' hz hz'
        have hx : bits .xor .u64 (z : Int) (z' : Int) = ((z ^^^ z' : Nat) : Int) := u64_xor_nat _ _ hzl hzl'
        have hxl := Nat.xor_lt_two_pow (n := 64) hzl hzl'
        have hsh := shr_nat (z ^^^ z') a
        have d1 := div_bit z a
        have d2 := div_bit z' a
        have S2 := hide (s2 HA.out)
        have S3 := hide (s3 HA.out)
        have hxs := xor_shr z z' a
        by_cases hbit : bit z a = bit z' a
        · have e2 : (((z ^^^ z' : Nat) : Int) / 2 ^ a == 0) = true := by
            rw [hsh, hxs.2 (by rw [d1, d2, s1, hbit])]
            rfl
          have HN := hide (S3.out hbit)
          clear s1 s2 s3 hz hz' hsh hxs d1 d2 hbit
          go_wp2
          go_round
          case rel => exact ⟨k + 1, by omega, by go_num, HN.out⟩
          case measure => simp [intOf]; omega
        · have e2 : (((z ^^^ z' : Nat) : Int) / 2 ^ a == 0) = false := by
            rw [hsh]
            have : (z ^^^ z') / 2 ^ a ≠ 0 := by
              rw [ne_eq, hxs, d1, d2, s1]
              omega
            simp only [beq_eq_false_iff_ne, ne_eq]
            omega
          have HN := hide (S2.out hbit)
          clear s1 s2 s3 hz hz' hsh hxs d1 d2 hbit
          by_cases hzz : z < z'
          · have e3 : decide (z < z') = true := by simpa using hzz
            have HC := hide (show cmp p q = -1 by rw [HN.out, if_pos hzz])
            clear hzz
            go_wp2
            go_ret2
            exact ⟨by rw [HC.out]; rfl, rfl⟩
          · have e3 : decide (z < z') = false := by simpa using hzz
            have HC := hide (show cmp p q = 1 by rw [HN.out, if_neg hzz])
            clear hzz
            go_wp2
            go_ret2
            exact ⟨by rw [HC.out]; rfl, rfl⟩
      · exfalso
        have h5 := HA.out
        rw [List.take_of_length_le (by have := hp.len; omega), List.take_of_length_le (by have := hq.len; omega)] at h5
        exact HG.out (by simpa using h5)
theorem same_pt {w : World} {A B : Option Addr} {n m c d : Nat} {p q : List Nat} (hA : Pt w A n p) (hB : Pt w B m q) (hn : n ≤ 70368744177664) (hm : m ≤ 70368744177664) :
    Calls Tryz.prog 34 #[.slice A n c, .slice B m d] w fun e w' => e = .returned (.bool (decide (p = q))) ∧ Below w.heap.size w w' := by
  have hu : ∀ (p : List Nat), u64s p = (p.map fun (x : Nat) => (x : Int)).map fun z => Value.int .u64 z := fun p => by unfold u64s; rw [List.map_map]; rfl
  have h1 := hA.2.1
  have h2 := hB.2.1
  rw [hu] at h1 h2
  have h := same_u64 A B n c m d _ _ w h1 h2 hn hm
  have hs : sameB (p.map fun (x : Nat) => (x : Int)) (q.map fun (x : Nat) => (x : Int)) = decide (p = q) := by
    unfold sameB
    have : ((p.map fun (x : Nat) => (x : Int)) = (q.map fun (x : Nat) => (x : Int))) ↔ p = q := List.map_inj_right fun x y h => Int.ofNat.inj h
    simp only [this]
  rw [hs] at h
  exact h
end Go.Proofs.YtghnpflaafdcdaaGreat
set_option linter.unusedSimpArgs false
set_option linter.unusedVariables false
namespace Go.Proofs.YtghnpflaafdcdaaGreat
open Go.RowKit
/-- An answer: an entry, or none. -/
def EntIs (w' : World) (k : Nat) (o : Option Ent) (r : ER) (ok : Bool) : Prop := r.okT w' ∧ ((ok = true ∧ r.n = k ∧ o = some r.e) ∨ (ok = false ∧ r = ⟨none, 0, 0, [], 0⟩ ∧ o = none))
theorem EntIs.keep {w w' : World} {k : Nat} {o : Option Ent} {r : ER} {ok : Bool} (h : EntIs w k o r ok) (hk : Keep 36 w w') : EntIs w' k o r ok := ⟨h.1.keep hk, h.2⟩
theorem EntIs.below {w w' : World} {k : Nat} {o : Option Ent} {r : ER} {ok : Bool} (h : EntIs w k o r ok) (hb : Below w.heap.size w w') : EntIs w' k o r ok := h.keep (Keep.below hb)
end Go.Proofs.YtghnpflaafdcdaaGreat
set_option linter.unusedSimpArgs false
set_option linter.unusedVariables false
namespace Go.Proofs.YtghnpflaafdcdaaGreat
open Go.RowKit
theorem nd_kid_at {w : World} {k g m : Nat} {pre : List Nat} {ks : List Kid} (h : Fork w k g m pre ks) (a : Nat) :
    Calls Tryz.prog 59 #[.pointer (some ⟨g, 0, none⟩), .int .i64 (a : Int)] w fun e w' => e = .returned (ptrOf (kidAt ks a)) ∧ Below w.heap.size w w' := by
  obtain ⟨A', c', gs', hp', hS', hB'⟩ := h.head
  have h9 := nd_kid hB' hS' (a : Int)
  rw [kid_ptr h] at h9
  exact h9
end Go.Proofs.YtghnpflaafdcdaaGreat
set_option linter.unusedSimpArgs false
set_option linter.unusedVariables false
namespace Go.Proofs.YtghnpflaafdcdaaGreat
open Go.RowKit
/-- The place of the last one that isn't behind a point, and one more. -/
def UpI (rows : List ER) (p : List Nat) (j : Nat) : Prop := j ≤ rows.length ∧ (∀ r ∈ rows.drop j, 0 < cmp r.p p) ∧ ∀ i r, j = i + 1 → rows[i]? = some r → ¬ 0 < cmp r.p p
theorem UpI.cut {k : Nat} {rows : List ER} {p : List Nat} {j : Nat} {A B : List Ent} (h : UpI rows p j) (hc : Cut3 p (ents rows) A B) (hz : ∀ r ∈ rows, Zp k r.p) (hp : Zp k p) : j = A.length ∧ ((j : Int) - 1 < 0 → A = []) ∧ (∀ i, j = i + 1 → (ents rows)[i]? = A.getLast?) := by
  obtain ⟨h1, h2, h3⟩ := h
  have hlen : rows.length = A.length + B.length := by
    have := congrArg List.length hc.eq
    unfold ents at this
    simpa using this
  have key : ∀ (i : Nat) (r : ER), rows[i]? = some r → (ents rows)[i]? = some r.e := fun i r hr => by unfold ents; rw [List.getElem?_map, hr]; rfl
  have hj : j = A.length := by
    rcases Nat.lt_trichotomy j A.length with h | h | h
    · exfalso
      obtain ⟨r, hr⟩ : ∃ r, rows[j]? = some r := ⟨rows[j]'(by omega), List.getElem?_eq_getElem _⟩
      have hm := h2 r (List.mem_of_getElem? (i := 0) (by rw [List.getElem?_drop]; simpa using hr))
      have hA : r.e ∈ A := by
        have := key j r hr
        rw [hc.eq, List.getElem?_append_left h] at this
        exact List.mem_of_getElem? this
      have hzr := hz r (List.mem_of_getElem? hr)
      rcases cmp_cases r.p p with h4 | h4 | h4
      · omega
      · omega
      · exact hc.lo _ hA ((cmp_gt hzr hp).1 h4)
    · exact h
    · exfalso
      obtain ⟨i, rfl⟩ : ∃ i, j = i + 1 := ⟨j - 1, by omega⟩
      obtain ⟨r, hr⟩ : ∃ r, rows[i]? = some r := ⟨rows[i]'(by omega), List.getElem?_eq_getElem _⟩
      have hB : r.e ∈ B := by
        have := key i r hr
        rw [hc.eq, List.getElem?_append_right (by omega)] at this
        exact List.mem_of_getElem? this
      have hzr := hz r (List.mem_of_getElem? hr)
      exact h3 i r rfl hr (by rw [(cmp_gt hzr hp).2 (hc.hi _ hB)]; decide)
  refine ⟨hj, fun h => ?_, fun i hi => ?_⟩
  · exact List.length_eq_zero_iff.1 (by omega)
  · rw [hc.eq, List.getElem?_append_left (by omega), List.getLast?_eq_getElem?, show A.length - 1 = i by omega]
end Go.Proofs.YtghnpflaafdcdaaGreat
set_option linter.unusedSimpArgs false
set_option linter.unusedVariables false
namespace Go.Proofs.YtghnpflaafdcdaaGreat
open Go.RowKit
theorem Fork.fk' {w : World} {k g m : Nat} {pre : List Nat} {ks : List Kid} (h : Fork w k g m pre ks) : FK k ⟨g, m, pre, ks⟩ := Fork.fk (f := ⟨g, m, pre, ks⟩) h
theorem kid_small {w : World} {k g m : Nat} {pre : List Nat} {ks : List Kid} (h : Fork w k g m pre ks) {q : Kid} (hq : q ∈ ks) : q.es.length < (kidEs ks).length := by
  obtain ⟨j, hj, rfl⟩ := List.mem_iff_getElem.1 hq
  have h1 := congrArg List.length (kidEs_at (List.getElem?_eq_getElem hj))
  simp only [List.length_append] at h1
  have h2 := h.two
  have hne : ∀ r ∈ ks, 0 < r.es.length := fun r hr => List.length_pos_iff.2 (h.kid r hr).1.info.2.1
  rcases Nat.eq_zero_or_pos j with h0 | h0
  · subst h0
    have h3 : ks[1] ∈ ks.drop (0 + 1) := by
      rw [List.mem_iff_getElem]
      exact ⟨0, by rw [List.length_drop]; omega, by rw [List.getElem_drop]⟩
    have h4 : 0 < (kidEs (ks.drop (0 + 1))).length := by
      obtain ⟨x, hx⟩ := List.exists_mem_of_ne_nil _ (h.kid ks[1] (List.getElem_mem _)).1.info.2.1
      exact List.length_pos_of_mem (mem_kidEs.2 ⟨_, h3, hx⟩)
    omega
  · have h3 : ks[0] ∈ ks.take j := by
      rw [List.mem_iff_getElem]
      exact ⟨0, by rw [List.length_take]; omega, by rw [List.getElem_take]⟩
    have h4 : 0 < (kidEs (ks.take j)).length := by
      obtain ⟨x, hx⟩ := List.exists_mem_of_ne_nil _ (h.kid ks[0] (List.getElem_mem _)).1.info.2.1
      exact List.length_pos_of_mem (mem_kidEs.2 ⟨_, h3, hx⟩)
    omega
theorem part_sym {k : Nat} {p q : List Nat} (hp : Zp k p) (hq : Zp k q) : part p q = part q p := by
  have h1 := part_spec p q (hp.1.trans hq.1.symm) hp.2 hq.2
  have h2 := part_spec q p (hq.1.trans hp.1.symm) hq.2 hp.2
  have h3 := (part_le_iff hp hq (part q p) h2.1).2 fun b hb => (h2.2.2.1 b hb).symm
  have h4 := (part_le_iff hq hp (part p q) h1.1).2 fun b hb => (h1.2.2.1 b hb).symm
  omega
end Go.Proofs.YtghnpflaafdcdaaGreat
set_option linter.unusedSimpArgs false
set_option linter.unusedVariables false
namespace Go.Proofs.YtghnpflaafdcdaaGreat
open Go.RowKit
theorem Rw.uniq {w : World} {sz n : Nat} {A : Option Addr} {vs vs' : List Value} (h : Rw w sz A n vs) (h' : Rw w sz A n vs') : vs = vs' := by
  have hl : vs.length = vs'.length := by rw [h.1, h'.1]
  refine List.ext_getElem? fun j => ?_
  rcases Nat.lt_or_ge j vs.length with hj | hj
  · have hn : 0 < n := by
      rcases Nat.eq_zero_or_pos n with h0 | h0
      · rw [h.1, h0, Nat.zero_mul] at hj
        omega
      · exact h0
    obtain ⟨b, o, h1, -, h2⟩ := h.2 hn
    obtain ⟨b', o', h1', -, h2'⟩ := h'.2 hn
    rw [h1] at h1'
    injection h1' with h1'
    injection h1' with e1 e2
    subst e1 e2
    rw [List.getElem?_eq_getElem hj, List.getElem?_eq_getElem (hl ▸ hj), ← h2 j _ (List.getElem?_eq_getElem hj), ← h2' j _ (List.getElem?_eq_getElem (hl ▸ hj))]
  · rw [List.getElem?_eq_none hj, List.getElem?_eq_none (hl ▸ hj)]
theorem u64s_inj {p q : List Nat} (h : u64s p = u64s q) : p = q := by
  unfold u64s at h
  exact (List.map_inj_right (fun a b hab => by injection hab with _ hab; omega)).1 h
theorem Pt.uniq {w : World} {k : Nat} {A : Option Addr} {p q : List Nat} (h : Pt w A k p) (h' : Pt w A k q) : p = q := u64s_inj (h.2.1.uniq h'.2.1)
theorem clv_inj : ∀ {cs ds : List Cl}, clv cs = clv ds → cs = ds
  | [], [], _ => rfl
  | [], d :: ds, h => by simp [clv, Cl.vals] at h
  | c :: cs, [], h => by simp [clv, Cl.vals] at h
  | c :: cs, d :: ds, h => by
    rw [clv_cons, clv_cons] at h
    simp only [Cl.vals, List.cons_append, List.nil_append, List.cons.injEq, Value.int.injEq, Value.bool.injEq, true_and] at h
    obtain ⟨h1, h2, h3, h4⟩ := h
    obtain ⟨a, x, b⟩ := c
    obtain ⟨a', x', b'⟩ := d
    simp only at h1 h2 h3
    obtain rfl : a = a' := by omega
    subst h2 h3
    rw [clv_inj h4]
theorem SlotsAt_n.uniq {w : World} {g k : Nat} {L L' : Th} (h : SlotsAt_n w g k L) (h' : SlotsAt_n w g k L') : L = L' := by
  obtain ⟨A, m, c, h1, h2, -, -, -, h3, -⟩ := h.cells
  obtain ⟨A', m', c', h1', h2', -, -, -, h3', -⟩ := h'.cells
  have he := (Blk.eq_ h1 h1').2
  simp only [Array.mk.injEq, List.cons.injEq, Value.slice.injEq, and_true, true_and] at he
  obtain ⟨-, e1, e2, e3⟩ := he
  subst e1 e2 e3
  have hc := clv_inj (h2.uniq h2')
  have hm : mkC L = mkC L' := by rw [← h3, ← h3', hc]
  unfold mkC at hm
  exact (List.map_inj_right (fun a b hab => by
    obtain ⟨a1, a2⟩ := a
    obtain ⟨b1, b2⟩ := b
    simpa using hab)).1 hm
theorem kids_uniq {w : World} {k : Nat} : ∀ {ks ks' : List Kid}, (∀ q ∈ ks, ∀ {lv : Int} {pre : List Nat} {es : List Ent}, NodeOf w k q.blk lv pre es → q.lv = lv ∧ q.pre = pre ∧ q.es = es) → (∀ q ∈ ks', NodeOf w k q.blk q.lv q.pre q.es) → kidTh ks = kidTh ks' → kidEs ks = kidEs ks'
  | [], [], _, _, _ => rfl
  | [], d :: ds, _, _, h => by simp [kidTh] at h
  | c :: cs, [], _, _, h => by simp [kidTh] at h
  | c :: cs, d :: ds, h1, h2, h => by
    simp only [kidTh, List.map_cons, List.cons.injEq, Prod.mk.injEq, Value.pointer.injEq, Option.some.injEq, Addr.mk.injEq, and_true] at h
    obtain ⟨⟨h3, h4⟩, h5⟩ := h
    have hd := h2 d (List.mem_cons_self ..)
    rw [← h4] at hd
    have := (h1 c (List.mem_cons_self ..) hd).2.2
    have hr := kids_uniq (fun q hq => h1 q (List.mem_cons_of_mem _ hq)) (fun q hq => h2 q (List.mem_cons_of_mem _ hq)) h5
    unfold kidEs at hr ⊢
    rw [List.flatMap_cons, List.flatMap_cons, this, hr]
/-- What a node's block says: one node. -/
theorem NodeOf.uniq {w : World} {k g : Nat} {lv : Int} {pre : List Nat} {es : List Ent} (h : NodeOf w k g lv pre es) : ∀ {lv' : Int} {pre' : List Nat} {es' : List Ent}, NodeOf w k g lv' pre' es' → lv = lv' ∧ pre = pre' ∧ es = es' := by
  induction h with
  | leaf hv hp hc hB =>
    intro lv' pre' es' h'
    cases h' with
    | leaf hv' hp' hc' hB' =>
      have he := (Blk.eq_ hB hB').2
      simp [nodeCells] at he
      obtain ⟨⟨e1, e2⟩, e3, -⟩ := he
      subst e1
      obtain rfl := hp.uniq hp'
      exact ⟨rfl, rfl, rfl⟩
    | fork ks hlv hp' hc' hz hk hl ha hs h2 hS hB' =>
      have he := (Blk.eq_ hB hB').2
      simp [nodeCells] at he
  | fork ks hlv hp hc hz hk hl ha hs h2 hS hB ih =>
    intro lv' pre' es' h'
    cases h' with
    | leaf hv' hp' hc' hB' =>
      have he := (Blk.eq_ hB hB').2
      simp [nodeCells] at he
    | fork ks' hlv' hp' hc' hz' hk' hl' ha' hs' h2' hS' hB' =>
      have he := (Blk.eq_ hB hB').2
      simp [nodeCells] at he
      obtain ⟨e0, ⟨e1, e2⟩, e3, -⟩ := he
      subst e1 e3
      obtain rfl := hp.uniq hp'
      exact ⟨by omega, rfl, kids_uniq ih hk' (hS.uniq hS')⟩
theorem tree_uniq {w : World} {t k : Nat} {es es' : List Ent} (h : TreeOf w k t es) (h' : TreeOf w k t es') : es = es' := by
  obtain ⟨-, -, h1⟩ := h
  obtain ⟨-, -, h2⟩ := h'
  rcases h1 with ⟨h1, rfl⟩ | ⟨g, lv, pre, h1, g1⟩
  · rcases h2 with ⟨h2, rfl⟩ | ⟨g', lv', pre', h2, g2⟩
    · rfl
    · have he := (Blk.eq_ h1 h2).2
      simp at he
  · rcases h2 with ⟨h2, rfl⟩ | ⟨g', lv', pre', h2, g2⟩
    · have he := (Blk.eq_ h1 h2).2
      simp at he
    · have he := (Blk.eq_ h1 h2).2
      simp at he
      subst he
      exact (g1.uniq g2).2.2
end Go.Proofs.YtghnpflaafdcdaaGreat
set_option linter.unusedSimpArgs false
set_option linter.unusedVariables false
namespace Go.Proofs.YtghnpflaafdcdaaGreat
open Go.RowKit
/-- A node has one list of entries. -/
theorem node_uniq {w : World} {k g : Nat} {lv lv' : Int} {pre pre' : List Nat} {es es' : List Ent} (hk1 : 1 ≤ k) (hk : k ≤ 16) (h : NodeOf w k g lv pre es) (h' : NodeOf w k g lv' pre' es') : es = es' := by
  have hb : Below w.heap.size w (w.alloc (.cells #[.int .i64 (k : Int), .pointer (some ⟨g, 0, none⟩)] 101)) := (Below.refl _ _).alloc (Nat.le_refl _) _
  have hT : TreeBlk (w.alloc (.cells #[.int .i64 (k : Int), .pointer (some ⟨g, 0, none⟩)] 101)) w.heap.size k (some ⟨g, 0, none⟩) := Blk.new w _ _
  exact tree_uniq (t := w.heap.size) ⟨hk1, hk, .inr ⟨g, lv, pre, hT, h.stay hb⟩⟩ ⟨hk1, hk, .inr ⟨g, lv', pre', hT, h'.stay hb⟩⟩
/-- Entries that agree with a point above a level, and lie between two addresses at it. -/
def AtK (m : Nat) (z : List Nat) (lo hi : Nat) (X : List Ent) : Prop := ∀ x ∈ X, (∀ b, m < b → addrOf x.1 b = addrOf z b) ∧ lo ≤ addrOf x.1 m ∧ addrOf x.1 m < hi
section
variable {m : Nat} {z : List Nat} {lo hi lo' hi' : Nat} {X Y : List Ent}
theorem AtK.ahead (h : AtK m z lo hi X) (h' : AtK m z lo' hi' Y) (hl : hi ≤ lo') : Ahead X Y := by
  intro x hx y hy
  have h1 := h x hx
  have h2 := h' y hy
  exact ⟨m, fun b hb => (h1.1 b hb).trans (h2.1 b hb).symm, by omega⟩
theorem AtK.nil : AtK m z lo hi [] := fun x hx => (by cases hx)
theorem AtK.mono (h : AtK m z lo hi X) (h1 : lo' ≤ lo) (h2 : hi ≤ hi') : AtK m z lo' hi' X := fun x hx => ⟨(h x hx).1, by have := (h x hx).2; omega, by have := (h x hx).2; omega⟩
theorem AtK.zag (h : AtK m z lo hi X) {z' : List Nat} (hz : ∀ b, m < b → addrOf z' b = addrOf z b) : AtK m z' lo hi X := fun x hx => ⟨fun b hb => ((h x hx).1 b hb).trans (hz b hb).symm, (h x hx).2⟩
theorem AtK.kids {w : World} {k g : Nat} {pre : List Nat} {ks L : List Kid} (h : Fork w k g m pre ks) (hL : ∀ q ∈ L, q ∈ ks ∧ lo ≤ q.at_ ∧ q.at_ < hi) : AtK m pre lo hi (kidEs L) := by
  intro x hx
  obtain ⟨q, hq, hx⟩ := mem_kidEs.1 hx
  have h1 := h.fk'.es q (hL q hq).1 x hx
  have h2 : addrOf x.1 m = q.at_ := h1.2.1
  exact ⟨h1.2.2, by rw [h2]; exact (hL q hq).2.1, by rw [h2]; exact (hL q hq).2.2⟩
theorem AtK.kid {w : World} {k g : Nat} {pre : List Nat} {ks : List Kid} (h : Fork w k g m pre ks) {q : Kid} (hq : q ∈ ks) : AtK m pre q.at_ (q.at_ + 1) q.es := by
  intro x hx
  have h1 := h.fk'.es q hq x hx
  have h2 : addrOf x.1 m = q.at_ := h1.2.1
  exact ⟨h1.2.2, by omega, by omega⟩
theorem AtK.top {w : World} {k g a : Nat} {pre : List Nat} {ks : List Kid} (h : Fork w k g m pre ks) : AtK m pre a (a + 1) (esOf (kidAt ks a)) := by
  cases hk : kidAt ks a with
  | none => exact AtK.nil
  | some y =>
    obtain ⟨q, hq, hqa, rfl⟩ := kidAt_some hk
    have := AtK.kid h hq
    rw [hqa] at this
    exact this
end
/-- What a part of the walk through two nodes has told so far. -/
structure DfSt (d : Bool) (w0 w : World) (k bo : Nat) (rows : List CR) (A B : List Ent) (rows' : List CR) (wr : World) : Prop where
  chg : ChgD d A B (ces rows')
  len : rows'.length ≤ A.length + B.length
  col : ColC w0.heap.size wr bo (rows ++ rows')
  ok : ∀ r ∈ rows', r.okT wr ∧ r.n = k
  keep : KeepC w wr
  below : Below w0.heap.size w0 wr
/-- What a part of the walk through two nodes tells. -/
def DfOut (d : Bool) (w0 w : World) (k bo : Nat) (rows : List CR) (A B : List Ent) (e : Ending) (w' : World) : Prop :=
  ∃ rows' : List CR, e = .returned (.tuple #[]) ∧ DfSt d w0 w k bo rows A B rows' w'
section
variable {d : Bool} {w0 w w1 w2 : World} {k bo : Nat} {rows rows1 : List CR} {A A1 A2 B B1 B2 : List Ent} {e : Ending}
theorem DfSt.start (hC : ColC w0.heap.size w bo rows) (hb : Below w0.heap.size w0 w) : DfSt d w0 w k bo rows [] [] [] w :=
  ⟨ChgD.nil d, Nat.zero_le _, by rw [List.append_nil]; exact hC, fun r hr => (by cases hr), KeepC.refl _, hb⟩
theorem DfSt.stay (h : DfSt d w0 w k bo rows A B rows1 w1) (hb : Below w1.heap.size w1 w2) : DfSt d w0 w k bo rows A B rows1 w2 :=
  ⟨h.chg, h.len, Col.below h.col hb, fun r hr => ⟨(h.ok r hr).1.keep (Keep.below hb), (h.ok r hr).2⟩, h.keep.trans (KeepC.below hb), h.below.trans (hb.mono h.below.size)⟩
theorem DfSt.next (h : DfSt d w0 w k bo rows A1 B1 rows1 w1) (h' : DfOut d w0 w1 k bo (rows ++ rows1) A2 B2 e w2) (haa : Ahead A1 A2) (hab : Ahead A1 B2) (hba : Ahead B1 A2) (hbb : Ahead B1 B2) :
    ∃ rows2, e = .returned (.tuple #[]) ∧ DfSt d w0 w k bo rows (A1 ++ A2) (B1 ++ B2) rows2 w2 := by
  obtain ⟨rows2, he, h2⟩ := h'
  refine ⟨rows1 ++ rows2, he, ⟨?_, ?_, ?_, ?_, h.keep.trans h2.keep, h2.below⟩⟩
  · rw [ces_append]
    exact h.chg.append h2.chg haa hab hba hbb
  · have h3 := h.len
    have h4 := h2.len
    simp only [List.length_append]
    omega
  · rw [← List.append_assoc]
    exact h2.col
  · intro r hr
    rcases List.mem_append.1 hr with hr | hr
    · exact ⟨(h.ok r hr).1.keep h2.keep.u64, (h.ok r hr).2⟩
    · exact h2.ok r hr
theorem DfSt.out (h : DfSt d w0 w k bo rows A B rows1 w1) : DfOut d w0 w k bo rows A B (.returned (.tuple #[])) w1 := ⟨rows1, rfl, h⟩
theorem DfOut.flip (h : DfOut d w0 w k bo rows A B e w1) : DfOut (!d) w0 w k bo rows B A e w1 := by
  obtain ⟨rows', h1, h2⟩ := h
  refine ⟨rows', h1, ⟨?_, by have := h2.len; omega, h2.col, h2.ok, h2.keep, h2.below⟩⟩
  have h3 := h2.chg
  cases d <;> exact h3
/-- The walk began in a world that has been kept. -/
theorem DfOut.from_ (h : DfOut d w0 w1 k bo rows A B e w2) (hk : KeepC w w1) : DfOut d w0 w k bo rows A B e w2 := by
  obtain ⟨rows', h1, h2⟩ := h
  exact ⟨rows', h1, ⟨h2.chg, h2.len, h2.col, h2.ok, hk.trans h2.keep, h2.below⟩⟩
end
end Go.Proofs.YtghnpflaafdcdaaGreat
set_option linter.unusedSimpArgs false
set_option linter.unusedVariables false
namespace Go.Proofs.YtghnpflaafdcdaaGreat
open Go.RowKit
theorem ces_as (d : Bool) (rE : List ER) : ces (rE.map (asR d)) = (ents rE).map (asE d) := by
  unfold ces ents
  rw [List.map_map, List.map_map]
  exact List.map_congr_left fun r _ => asR_ce d r
theorem take_snoc {α : Type} {l : List α} {j : Nat} {r : α} (h : l[j]? = some r) : l.take (j + 1) = l.take j ++ [r] := by
  rw [List.take_add_one, h]
  rfl
set_option maxHeartbeats 8000000 in
set_option maxRecDepth 100000 in
theorem df_all_gone {w0 w : World} {k g bo : Nat} {lv : Int} {pre : List Nat} {es : List Ent} {rows : List CR} (hN : NodeOf w0 k g lv pre es) (hk : k ≤ 16) (hC : ColC w0.heap.size w bo rows) (hb : Below w0.heap.size w0 w) (hl : rows.length + es.length ≤ 200000) (he : es.length ≤ 65536) :
    Calls Tryz.prog 82 #[.agg #[tellV bo], .pointer (some ⟨g, 0, none⟩), .func (.func 84) #[] #[]] w (DfOut true w0 w k bo rows es []) := by
  have hal := (Below.refl w.heap.size w).alloc (Nat.le_refl _) (.cells #[tellV bo] 110)
  have hS := Blk.new w 110 #[tellV bo]
  have HA := hide (walk_all (hN.stay (hb.trans (hal.mono hb.size))) hk he)
  have HC0 := hide (Col.below hC hal)
  have HAL := hide hal
  have HS := hide hS
  have HB := hide hb
  have HLN := hide hl
  have HZS := hide hN.info.2.2.2.2.2.1
  clear hN hC hb hal hS hl he
  unfold tellV at HA ⊢
  go_enter Tryz.func82, Tryz.ntmps82
  go_wp2_with fail
  refine HA.out.mono ?_
  rintro e w2 ⟨A, c, rE, rfl, hes, ho, hok, hb2⟩
  have HC2 := hide (Col.below HC0.out hb2)
  have HO2 := hide ho
  have HS2 := hide (HS.out.below hb2)
  have HB2 := hide (HB.out.trans ((below_then HAL.out hb2).mono HB.out.size))
  have HK2 := hide (KeepC.below (below_then HAL.out hb2))
  have HES := hide hes
  have HOK := hide hok
  have hlen : rE.length = es.length := by
    rw [← hes]
    unfold ents
    rw [List.length_map]
  have hn2 : rE.length ≤ 200000 := by have := HLN.out; omega
  have HLEN := hide hlen
  clear hes ho hok hb2 HA HC0 hlen
  go_wp2
  go_loopw [11] (fun x11 wr => ∃ (j : Nat), x11 = .int .i64 (j : Int) ∧ j ≤ rE.length ∧ ColC w0.heap.size wr bo (rows ++ (rE.take j).map (asR true)) ∧ KeepC w2 wr ∧ Below w0.heap.size w0 wr) (fun x _ => rE.length - (intOf x).toNat)
  case atStart => exact ⟨0, rfl, Nat.zero_le _, by rw [List.take_zero, List.map_nil, List.append_nil]; exact HC2.out, KeepC.refl _, HB2.out⟩
  case round =>
    obtain ⟨j, rfl, hj, hC, hK, hb⟩ := hrel
    rename World => wz
    have HC := hide hC
    have HK := hide hK
    have HBz := hide hb
    clear hC hK hb HC2
    by_cases hjn : j < rE.length
    · have hE : EntsAt wz A rE.length rE := ⟨(own_rw (own_keep HO2.out (HK.out _ (by decide) (by decide)))).2, fun r hr => ((HOK.out r hr).1.keep HK.out.u64).1⟩
      obtain ⟨b, o, r, rfl, hbl, hr, hrok, x0, x1⟩ := hE.at_ hjn
      have HR := hide hr
      have hal4 := (Below.refl wz.heap.size wz).alloc (Nat.le_refl _) (.cells #[.slice r.A r.n r.c, .int .u64 (r.v : Int)] 79)
      have hS4 := ((HS2.out.keep (HK.out _ (by decide) (by decide))).below hal4)
      have hN4 := Blk.new wz 79 #[.slice r.A r.n r.c, .int .u64 (r.v : Int)]
      have HC4 := hide (Col.below HC.out hal4)
      have HB4 := hide (HBz.out.trans (hal4.mono HBz.out.size))
      have HKz := hide (KeepC.below hal4)
      have HCL := hide (fun W (hW : KeepC (wz.alloc (.cells #[.slice r.A r.n r.c, .int .u64 (r.v : Int)] 79)) W) => And.intro ((hS4.keep (hW _ (by decide) (by decide))).cell 0) (And.intro ((hN4.keep (hW _ (by decide) (by decide))).cell 0) ((hN4.keep (hW _ (by decide) (by decide))).cell 1)))
      have HT := hide (fun W (hW : ColC w0.heap.size W bo (rows ++ (rE.take j).map (asR true))) (hB : Below w0.heap.size w0 W) => show Calls Tryz.prog 55 #[.agg #[.slice r.A r.n r.c, .bool true, .bool false, .int .u64 (r.v : Int), .int .u64 0], .pointer (some ⟨bo, 0, none⟩)] W (TellOut w0 W bo (rows ++ (rE.take j).map (asR true)) (asR true r)) from df_tell (asR true r) hW hB (by simp only [List.length_append, List.length_map, List.length_take]; have := HLN.out; have := HLEN.out; omega))
      clear hE hbl hr hrok hal4 hS4 hN4
      go_wp2_with fail
      generalize hw4 : wz.alloc (.cells #[.slice r.A r.n r.c, .int .u64 (r.v : Int)] 79) = w4 at *
      have hkk : KeepC w4 w4.drew := KeepC.below ((Below.refl _ _).drew)
      have hdd : Below w4.heap.size w4 w4.drew := (Below.refl _ _).drew
      clear hw4
      obtain ⟨y0, y1, y2⟩ := HCL.out w4 (KeepC.refl _)
      unfold tellV at y0
      simp at y0 y1 y2
      go_region_held3 (fun w' => w'.cell? ⟨w.heap.size, 0, none⟩ = some (.func (.func 55) #[] #[.pointer (some ⟨bo, 0, none⟩)]) ∧ w'.cell? ⟨wz.heap.size, 0, none⟩ = some (.slice r.A r.n r.c) ∧ w'.cell? ⟨wz.heap.size, 1, none⟩ = some (.int .u64 (r.v : Int)))
        (first
          | go_keep
          | exact HCL.out _ hkk)
        (first
          | (go_at_call 84
             refine (df_gone _ r).mono ?_
             rintro e w5 ⟨rfl, hb5⟩
             replace hkk := hkk.trans (KeepC.below hb5)
             replace hdd := below_then hdd hb5
             clear hb5)
          | (go_at_call 55
             refine (HT.out _ (Col.below HC4.out hdd) (HB4.out.trans (hdd.mono HB4.out.size))).mono ?_
             rintro e w6 ⟨rfl, hC6, hK6, hB6⟩
             have HC6 := hide hC6
             have HB6 := hide hB6
             replace hkk := hkk.trans hK6
             clear hC6 hK6 hB6))
      all_goals
        have HKK := hide (HK.out.trans (HKz.out.trans hkk))
        clear hkk hdd y0 y1 y2 x0 x1
        go_wp2
        go_roundw
        case rel => exact ⟨j + 1, by go_num, by omega, by rw [take_snoc HR.out, List.map_append, ← List.append_assoc]; exact HC6.out, HKK.out, HB6.out⟩
        case measure => simp [intOf]; omega
    · obtain rfl : j = rE.length := by omega
      have HF := hide (show DfOut true w0 w k bo rows es [] (.returned (.tuple #[])) wz from ⟨rE.map (asR true), rfl, by
        rw [ces_as, HES.out]
        exact ChgD.all HZS.out, by have := HLEN.out; simp; omega, by have := HC.out; rw [List.take_of_length_le (Nat.le_refl _)] at this; exact this, fun r hr => by
        obtain ⟨q, hq, rfl⟩ := List.mem_map.1 hr
        exact ⟨asR_ok true ((HOK.out q hq).1.keep HK.out.u64), (HOK.out q hq).2⟩, HK2.out.trans HK.out, HBz.out⟩)
      go_wp2
      go_end0
      exact HF.out
set_option maxHeartbeats 8000000 in
set_option maxRecDepth 100000 in
theorem df_all_come {w0 w : World} {k g bo : Nat} {lv : Int} {pre : List Nat} {es : List Ent} {rows : List CR} (hN : NodeOf w0 k g lv pre es) (hk : k ≤ 16) (hC : ColC w0.heap.size w bo rows) (hb : Below w0.heap.size w0 w) (hl : rows.length + es.length ≤ 200000) (he : es.length ≤ 65536) :
    Calls Tryz.prog 82 #[.agg #[tellV bo], .pointer (some ⟨g, 0, none⟩), .func (.func 83) #[] #[]] w (DfOut false w0 w k bo rows es []) := by
  have hal := (Below.refl w.heap.size w).alloc (Nat.le_refl _) (.cells #[tellV bo] 110)
  have hS := Blk.new w 110 #[tellV bo]
  have HA := hide (walk_all (hN.stay (hb.trans (hal.mono hb.size))) hk he)
  have HC0 := hide (Col.below hC hal)
  have HAL := hide hal
  have HS := hide hS
  have HB := hide hb
  have HLN := hide hl
  have HZS := hide hN.info.2.2.2.2.2.1
  clear hN hC hb hal hS hl he
  unfold tellV at HA ⊢
  go_enter Tryz.func82, Tryz.ntmps82
  go_wp2_with fail
  refine HA.out.mono ?_
  rintro e w2 ⟨A, c, rE, rfl, hes, ho, hok, hb2⟩
  have HC2 := hide (Col.below HC0.out hb2)
  have HO2 := hide ho
  have HS2 := hide (HS.out.below hb2)
  have HB2 := hide (HB.out.trans ((below_then HAL.out hb2).mono HB.out.size))
  have HK2 := hide (KeepC.below (below_then HAL.out hb2))
  have HES := hide hes
  have HOK := hide hok
  have hlen : rE.length = es.length := by
    rw [← hes]
    unfold ents
    rw [List.length_map]
  have hn2 : rE.length ≤ 200000 := by have := HLN.out; omega
  have HLEN := hide hlen
  clear hes ho hok hb2 HA HC0 hlen
  go_wp2
  go_loopw [11] (fun x11 wr => ∃ (j : Nat), x11 = .int .i64 (j : Int) ∧ j ≤ rE.length ∧ ColC w0.heap.size wr bo (rows ++ (rE.take j).map (asR false)) ∧ KeepC w2 wr ∧ Below w0.heap.size w0 wr) (fun x _ => rE.length - (intOf x).toNat)
  case atStart => exact ⟨0, rfl, Nat.zero_le _, by rw [List.take_zero, List.map_nil, List.append_nil]; exact HC2.out, KeepC.refl _, HB2.out⟩
  case round =>
    obtain ⟨j, rfl, hj, hC, hK, hb⟩ := hrel
    rename World => wz
    have HC := hide hC
    have HK := hide hK
    have HBz := hide hb
    clear hC hK hb HC2
    by_cases hjn : j < rE.length
    · have hE : EntsAt wz A rE.length rE := ⟨(own_rw (own_keep HO2.out (HK.out _ (by decide) (by decide)))).2, fun r hr => ((HOK.out r hr).1.keep HK.out.u64).1⟩
      obtain ⟨b, o, r, rfl, hbl, hr, hrok, x0, x1⟩ := hE.at_ hjn
      have HR := hide hr
      have hal4 := (Below.refl wz.heap.size wz).alloc (Nat.le_refl _) (.cells #[.slice r.A r.n r.c, .int .u64 (r.v : Int)] 79)
      have hS4 := ((HS2.out.keep (HK.out _ (by decide) (by decide))).below hal4)
      have hN4 := Blk.new wz 79 #[.slice r.A r.n r.c, .int .u64 (r.v : Int)]
      have HC4 := hide (Col.below HC.out hal4)
      have HB4 := hide (HBz.out.trans (hal4.mono HBz.out.size))
      have HKz := hide (KeepC.below hal4)
      have HCL := hide (fun W (hW : KeepC (wz.alloc (.cells #[.slice r.A r.n r.c, .int .u64 (r.v : Int)] 79)) W) => And.intro ((hS4.keep (hW _ (by decide) (by decide))).cell 0) (And.intro ((hN4.keep (hW _ (by decide) (by decide))).cell 0) ((hN4.keep (hW _ (by decide) (by decide))).cell 1)))
      have HT := hide (fun W (hW : ColC w0.heap.size W bo (rows ++ (rE.take j).map (asR false))) (hB : Below w0.heap.size w0 W) => show Calls Tryz.prog 55 #[.agg #[.slice r.A r.n r.c, .bool false, .bool true, .int .u64 0, .int .u64 (r.v : Int)], .pointer (some ⟨bo, 0, none⟩)] W (TellOut w0 W bo (rows ++ (rE.take j).map (asR false)) (asR false r)) from df_tell (asR false r) hW hB (by simp only [List.length_append, List.length_map, List.length_take]; have := HLN.out; have := HLEN.out; omega))
      clear hE hbl hr hrok hal4 hS4 hN4
      go_wp2_with fail
      generalize hw4 : wz.alloc (.cells #[.slice r.A r.n r.c, .int .u64 (r.v : Int)] 79) = w4 at *
      have hkk : KeepC w4 w4.drew := KeepC.below ((Below.refl _ _).drew)
      have hdd : Below w4.heap.size w4 w4.drew := (Below.refl _ _).drew
      clear hw4
      obtain ⟨y0, y1, y2⟩ := HCL.out w4 (KeepC.refl _)
      unfold tellV at y0
      simp at y0 y1 y2
      go_region_held3 (fun w' => w'.cell? ⟨w.heap.size, 0, none⟩ = some (.func (.func 55) #[] #[.pointer (some ⟨bo, 0, none⟩)]) ∧ w'.cell? ⟨wz.heap.size, 0, none⟩ = some (.slice r.A r.n r.c) ∧ w'.cell? ⟨wz.heap.size, 1, none⟩ = some (.int .u64 (r.v : Int)))
        (first
          | go_keep
          | exact HCL.out _ hkk)
        (first
          | (go_at_call 83
             refine (df_come _ r).mono ?_
             rintro e w5 ⟨rfl, hb5⟩
             replace hkk := hkk.trans (KeepC.below hb5)
             replace hdd := below_then hdd hb5
             clear hb5)
          | (go_at_call 55
             refine (HT.out _ (Col.below HC4.out hdd) (HB4.out.trans (hdd.mono HB4.out.size))).mono ?_
             rintro e w6 ⟨rfl, hC6, hK6, hB6⟩
             have HC6 := hide hC6
             have HB6 := hide hB6
             replace hkk := hkk.trans hK6
             clear hC6 hK6 hB6))
      all_goals
        have HKK := hide (HK.out.trans (HKz.out.trans hkk))
        clear hkk hdd y0 y1 y2 x0 x1
        go_wp2
        go_roundw
        case rel => exact ⟨j + 1, by go_num, by omega, by rw [take_snoc HR.out, List.map_append, ← List.append_assoc]; exact HC6.out, HKK.out, HB6.out⟩
        case measure => simp [intOf]; omega
    · obtain rfl : j = rE.length := by omega
      have HF := hide (show DfOut false w0 w k bo rows es [] (.returned (.tuple #[])) wz from ⟨rE.map (asR false), rfl, by
        rw [ces_as, HES.out]
        exact ChgD.all HZS.out, by have := HLEN.out; simp; omega, by have := HC.out; rw [List.take_of_length_le (Nat.le_refl _)] at this; exact this, fun r hr => by
        obtain ⟨q, hq, rfl⟩ := List.mem_map.1 hr
        exact ⟨asR_ok false ((HOK.out q hq).1.keep HK.out.u64), (HOK.out q hq).2⟩, HK2.out.trans HK.out, HBz.out⟩)
      go_wp2
      go_end0
      exact HF.out
theorem df_all {w0 w : World} {d : Bool} {k g bo : Nat} {lv : Int} {pre : List Nat} {es : List Ent} {rows : List CR} (hN : NodeOf w0 k g lv pre es) (hk : k ≤ 16) (hC : ColC w0.heap.size w bo rows) (hb : Below w0.heap.size w0 w) (hl : rows.length + es.length ≤ 200000) (he : es.length ≤ 65536) :
    Calls Tryz.prog 82 #[.agg #[tellV bo], .pointer (some ⟨g, 0, none⟩), asV d] w (DfOut d w0 w k bo rows es []) := by
  cases d with
  | true => exact df_all_gone hN hk hC hb hl he
  | false => exact df_all_come hN hk hC hb hl he
end Go.Proofs.YtghnpflaafdcdaaGreat
set_option linter.unusedSimpArgs false
set_option linter.unusedVariables false
namespace Go.Proofs.YtghnpflaafdcdaaGreat
open Go.RowKit
theorem kidEs_le {ks : List Kid} {j : Nat} {q : Kid} (h : ks[j]? = some q) : (kidEs (ks.take j)).length + q.es.length ≤ (kidEs ks).length := by
  have := congrArg List.length (kidEs_at h)
  simp only [List.length_append] at this
  omega
set_option maxHeartbeats 8000000 in
set_option maxRecDepth 100000 in
theorem df_beside {d : Bool} {w0 w : World} {k g m a bo : Nat} {f : FuncId} {p1 p2 : Value} {pre : List Nat} {ks : List Kid} {eb : List Ent} {rows : List CR} (hF : Fork w0 k g m pre ks) (hk : k ≤ 16) (ha : a < 65536) (hE : AtK m pre a (a + 1) eb)
    (hC : ColC w0.heap.size w bo rows) (hb : Below w0.heap.size w0 w) (hl : rows.length + (kidEs ks).length + eb.length ≤ 200000) (he : (kidEs ks).length ≤ 65536)
    (hcf : ∀ (args : Array Value) (W : World), (callFunc f args).run Tryz.prog W = .ok (.enter f args) W)
    (H : ∀ (W : World) (rows1 : List CR), ColC w0.heap.size W bo rows1 → Below w0.heap.size w0 W → KeepC w W → rows1.length + (esOf (kidAt ks a)).length + eb.length ≤ 200000 →
      Calls Tryz.prog f #[ptrOf (kidAt ks a), p1, p2] W (DfOut d w0 W k bo rows1 (esOf (kidAt ks a)) eb)) :
    Calls Tryz.prog 86 #[.agg #[tellV bo], .pointer (some ⟨g, 0, none⟩), asV d, .int .i64 (a : Int), .func (.func f) #[] #[p1, p2]] w (DfOut d w0 w k bo rows (kidEs ks) eb) := by
  have hal := (Below.refl w.heap.size w).alloc (Nat.le_refl _) (.cells #[tellV bo] 110)
  have hS := Blk.new w 110 #[tellV bo]
  have HLK := hide hS
  have HAL := hide hal
  have HC0 := hide (Col.below hC hal)
  have HB0 := hide (hb.trans (hal.mono hb.size))
  have HF := hide hF
  have HEB := hide hE
  have HI := hide H
  have HLN := hide hl
  have HLE := hide he
  have HSO := hide hF.sorted
  have HAT := hide (fun q (hq : q ∈ ks) => pow_le_16 (hF.kid q hq).2.2.2.2 hk)
  have H0 := hide (nd_from_0 (hF.stay (hb.trans (hal.mono hb.size))))
  have ha16 : (a : Int) ≤ 65535 := by omega
  have HALL := hide (fun W (rows : List CR) (q : Kid) (h : NodeOf w0 k q.blk q.lv q.pre q.es) hC hb hl he => df_all (w := W) (d := d) (bo := bo) (rows := rows) h hk hC hb hl he)
  generalize asV d = av at *
  clear hF hE hC hb hl he H hal hS ha
  go_enter Tryz.func86, Tryz.ntmps86
  go_wp2_with fail
  refine H0.out.mono ?_
  rintro e w2 ⟨rfl, hb2⟩
  have HST2 := hide (DfSt.start (d := d) (k := k) (Col.below HC0.out hb2) (HB0.out.trans (hb2.mono HB0.out.size)))
  have HLK2 := hide (HLK.out.below hb2)
  have HAL2 := hide (KeepC.below (below_then HAL.out hb2))
  clear hb2 H0 HC0 HB0 HLK HAL
  go_wp2
  go_loopw [10, 11, 12] (fun x10 x11 x12 wr => ∃ (j : Nat) (th : Bool) (rows1 : List CR), x10 = .bool th ∧ x11 = .int .i64 ((kAt ks j : Nat) : Int) ∧ x12 = kPt ks j ∧ j ≤ ks.length ∧ (th = false → ∀ (i : Nat) (q : Kid), ks[i]? = some q → i < j → q.at_ < a) ∧ (th = true → ∀ (i : Nat) (q : Kid), ks[i]? = some q → j ≤ i → a < q.at_) ∧ DfSt d w0 w2 k bo rows (kidEs (ks.take j)) (if th then eb else []) rows1 wr) (fun _ x11 x12 _ => fromM x11 x12)
  case atStart => exact ⟨0, false, [], rfl, rfl, rfl, Nat.zero_le _, fun _ i q _ h => absurd h (Nat.not_lt_zero _), fun h => (by cases h), HST2.out⟩
  case round =>
    obtain ⟨j, th, rows1, rfl, rfl, rfl, hj, hc1, hc2, hst⟩ := hrel
    rename World => wz
    have HLKz := hide (HLK2.out.keep (hst.keep _ (by decide) (by decide)))
    rcases Nat.lt_or_ge j ks.length with hjl | hjl
    · obtain ⟨q, hq⟩ : ∃ q, ks[j]? = some q := ⟨ks[j], List.getElem?_eq_getElem hjl⟩
      rw [kAt_some hq, kPt_some hq]
      have hqm := List.mem_of_getElem? hq
      have HQ := hide hq
      have HKQ := hide (HF.out.kid q hqm).1
      have hqa1 : ((q.at_ : Nat) : Int) ≤ 65535 := by have := HAT.out q hqm; omega
      have HAQ := hide (AtK.kid HF.out hqm)
      have HSP := hide (show ∀ (i : Nat) (r : Kid), ks[i]? = some r → j + 1 ≤ i → q.at_ < r.at_ from fun i r hr hi => kids_lt HF.out.sorted hq hr (by omega))
      clear hqm
      cases th with
      | true =>
        have hqa := hc2 rfl j q hq (Nat.le_refl _)
        have HST := hide hst
        have HC2 := hide (hc2 rfl)
        have HTK := hide (show AtK m pre 0 q.at_ (kidEs (ks.take j)) from AtK.kids HF.out (fun r hr => ⟨List.mem_of_mem_take hr, Nat.zero_le _, by
          obtain ⟨i, hi, hr⟩ := mem_take_idx hr
          exact kids_lt HF.out.sorted hr hq hi⟩))
        have HEQ := hide (show AtK m pre a q.at_ eb from HEB.out.mono (Nat.le_refl _) (by omega))
        have f1 : decide (a ≤ q.at_) = true := by simp; omega
        have f2 : ((q.at_ : Int) != (a : Int)) = true := by simp; omega
        have l0 := HLKz.out.cell 0
        unfold tellV at l0
        simp at l0
        clear hst hc1 hc2 hq hqa
        have HAL := hide (HALL.out _ (rows ++ rows1) q HKQ.out HST.out.col HST.out.below (by have := HST.out.len; have := kidEs_le HQ.out; have := HLN.out; simp only [List.length_append, List.length_nil, Bool.false_eq_true, if_false, if_true, List.append_nil, List.nil_append] at *; omega) (by have := kidEs_le HQ.out; have := HLE.out; omega))
        unfold tellV at HAL
        go_wp2_with fail
        refine HAL.out.mono ?_
        rintro e w20 hd20
        obtain ⟨rows20, rfl, hs20⟩ := HST.out.next hd20 (HTK.out.ahead HAQ.out (Nat.le_refl _)) (Ahead.nil_r _) (HEQ.out.ahead HAQ.out (Nat.le_refl _)) (Ahead.nil_r _)
        have HS20 := hide hs20
        clear hd20 hs20 HAL
        have HNX := hide (nd_from_next (HF.out.stay HS20.out.below) HQ.out)
        go_wp2_with fail
        refine HNX.out.mono ?_
        rintro e w21 ⟨rfl, hb21⟩
        have HS21 := hide (HS20.out.stay hb21)
        clear hb21 HNX
        go_wp2
        go_roundw
        case rel => exact ⟨j + 1, true, rows20, rfl, rfl, rfl, by omega, fun h => (by cases h), fun _ i r hr hi => HC2.out i r hr (by omega), by have := HS21.out; rw [kidEs_take HQ.out]; simpa using this⟩
        case measure => exact fromM_lt HSO.out HAT.out HQ.out
      | false =>
        have HST := hide hst
        have HC1 := hide (hc1 rfl)
        have HTK := hide (show AtK m pre 0 q.at_ (kidEs (ks.take j)) from AtK.kids HF.out (fun r hr => ⟨List.mem_of_mem_take hr, Nat.zero_le _, by
          obtain ⟨i, hi, hr⟩ := mem_take_idx hr
          exact kids_lt HF.out.sorted hr hq hi⟩))
        have HTA := hide (show AtK m pre 0 a (kidEs (ks.take j)) from AtK.kids HF.out (fun r hr => ⟨List.mem_of_mem_take hr, Nat.zero_le _, by
          obtain ⟨i, hi, hr⟩ := mem_take_idx hr
          exact hc1 rfl i r hr hi⟩))
        rcases Nat.lt_trichotomy q.at_ a with hlt | heq | hgt
        · have f1 : decide (a ≤ q.at_) = false := by simp; omega
          have f2 : ((q.at_ : Int) != (a : Int)) = true := by simp; omega
          have HN1 := hide (show ∀ (i : Nat) (r : Kid), ks[i]? = some r → i < j + 1 → r.at_ < a from fun i r hr hi => by
            rcases Nat.lt_or_ge i j with h | h
            · exact hc1 rfl i r hr h
            · obtain rfl : i = j := by omega
              rw [hq] at hr
              injection hr with hr
              subst hr
              exact hlt)
          have l0 := HLKz.out.cell 0
          unfold tellV at l0
          simp at l0
          clear hst hc1 hc2 hq hlt
          have HAL := hide (HALL.out _ (rows ++ rows1) q HKQ.out HST.out.col HST.out.below (by have := HST.out.len; have := kidEs_le HQ.out; have := HLN.out; simp only [List.length_append, List.length_nil, Bool.false_eq_true, if_false, if_true, List.append_nil, List.nil_append] at *; omega) (by have := kidEs_le HQ.out; have := HLE.out; omega))
          unfold tellV at HAL
          go_wp2_with fail
          refine HAL.out.mono ?_
          rintro e w20 hd20
          obtain ⟨rows20, rfl, hs20⟩ := HST.out.next hd20 (HTK.out.ahead HAQ.out (Nat.le_refl _)) (Ahead.nil_r _) (Ahead.nil_l _) (Ahead.nil_l _)
          have HS20 := hide hs20
          clear hd20 hs20 HAL
          have HNX := hide (nd_from_next (HF.out.stay HS20.out.below) HQ.out)
          go_wp2_with fail
          refine HNX.out.mono ?_
          rintro e w21 ⟨rfl, hb21⟩
          have HS21 := hide (HS20.out.stay hb21)
          clear hb21 HNX
          go_wp2
          go_roundw
          case rel => exact ⟨j + 1, false, rows20, rfl, rfl, rfl, by omega, fun _ => HN1.out, fun h => (by cases h), by have := HS21.out; rw [kidEs_take HQ.out]; simpa using this⟩
          case measure => exact fromM_lt HSO.out HAT.out HQ.out
        · have f1 : decide (a ≤ q.at_) = true := by simp; omega
          have f2 : ((q.at_ : Int) != (a : Int)) = false := by simp; omega
          have hka : kidAt ks a = some (q.blk, ⟨q.lv, q.pre, q.es⟩) := by rw [← heq]; exact kidAt_of HF.out.sorted hq
          have HEQ := hide heq
          have HKD := hide (nd_kid_at (HF.out.stay hst.below) a)
          clear hst hc1 hc2 hq heq
          unfold ptrOf at HKD
          rw [hka] at HKD
          simp only [Option.map_some, Option.map_none] at HKD
          go_wp2_with fail
          refine HKD.out.mono ?_
          rintro e w18 ⟨rfl, hb18⟩
          have HS18 := hide (HST.out.stay hb18)
          clear hb18 HKD
          have hin := HI.out w18 (rows ++ rows1) HS18.out.col HS18.out.below (HAL2.out.trans HS18.out.keep) (by have := HS18.out.len; have := HLN.out; have := kidEs_le HQ.out; rw [hka]; simp only [List.length_append, List.length_nil, esOf, Bool.false_eq_true, if_false] at *; omega)
          rw [hka] at hin
          have HIN := hide (show Calls Tryz.prog f #[.pointer (some ⟨q.blk, 0, none⟩), p1, p2] w18 (DfOut d w0 w18 k bo (rows ++ rows1) q.es eb) from hin)
          clear hin hka
          go_wp2_with fail
          refine HIN.out.mono ?_
          rintro e w20 hd20
          obtain ⟨rows20, rfl, hs20⟩ := HS18.out.next hd20 (HTK.out.ahead HAQ.out (Nat.le_refl _)) (HTA.out.ahead HEB.out (Nat.le_refl _)) (Ahead.nil_l _) (Ahead.nil_l _)
          have HS20 := hide hs20
          clear hd20 hs20 HIN
          have HNX := hide (nd_from_next (HF.out.stay HS20.out.below) HQ.out)
          go_wp2_with fail
          refine HNX.out.mono ?_
          rintro e w21 ⟨rfl, hb21⟩
          have HS21 := hide (HS20.out.stay hb21)
          clear hb21 HNX
          go_wp2
          go_roundw
          case rel => exact ⟨j + 1, true, rows20, rfl, rfl, rfl, by omega, fun h => (by cases h), fun _ i r hr hi => by have := HSP.out i r hr hi; have := HEQ.out; omega, by have := HS21.out; rw [kidEs_take HQ.out]; simpa using this⟩
          case measure => exact fromM_lt HSO.out HAT.out HQ.out
        · have f1 : decide (a ≤ q.at_) = true := by simp; omega
          have f2 : ((q.at_ : Int) != (a : Int)) = true := by simp; omega
          have hka : kidAt ks a = none := kidAt_no (fun i r hr hra => by
            rcases Nat.lt_trichotomy i j with h | h | h
            · have := hc1 rfl i r hr h
              omega
            · subst h
              rw [hq] at hr
              injection hr with hr
              subst hr
              omega
            · have := kids_lt HF.out.sorted hq hr h
              omega)
          have HGT := hide hgt
          have HEQ := hide (show AtK m pre a q.at_ eb from HEB.out.mono (Nat.le_refl _) (by omega))
          have HKD := hide (nd_kid_at (HF.out.stay hst.below) a)
          clear hst hc1 hc2 hq hgt
          unfold ptrOf at HKD
          rw [hka] at HKD
          simp only [Option.map_some, Option.map_none] at HKD
          go_wp2_with fail
          refine HKD.out.mono ?_
          rintro e w18 ⟨rfl, hb18⟩
          have HS18 := hide (HST.out.stay hb18)
          clear hb18 HKD
          have hin := HI.out w18 (rows ++ rows1) HS18.out.col HS18.out.below (HAL2.out.trans HS18.out.keep) (by have := HS18.out.len; have := HLN.out; have := kidEs_le HQ.out; rw [hka]; simp only [List.length_append, List.length_nil, esOf, Bool.false_eq_true, if_false] at *; omega)
          rw [hka] at hin
          have HIN := hide (show Calls Tryz.prog f #[.pointer none, p1, p2] w18 (DfOut d w0 w18 k bo (rows ++ rows1) [] eb) from hin)
          clear hin hka
          go_wp2_with fail
          refine HIN.out.mono ?_
          rintro e w20 hd20
          obtain ⟨rows19, rfl, hs19⟩ := HS18.out.next hd20 (Ahead.nil_r _) (HTA.out.ahead HEB.out (Nat.le_refl _)) (Ahead.nil_l _) (Ahead.nil_l _)
          have HS19 := hide hs19
          have hlk := HLKz.out
          have hl20 := (HLK2.out.keep (hs19.keep _ (by decide) (by decide))).cell 0
          unfold tellV at hl20
          simp at hl20
          clear hd20 hs19 HIN hlk
          have HAL := hide (HALL.out _ (rows ++ rows19) q HKQ.out HS19.out.col HS19.out.below (by have := HS19.out.len; have := kidEs_le HQ.out; have := HLN.out; simp only [List.length_append, List.length_nil, Bool.false_eq_true, if_false, if_true, List.append_nil, List.nil_append] at *; omega) (by have := kidEs_le HQ.out; have := HLE.out; omega))
          unfold tellV at HAL
          go_wp2_with fail
          refine HAL.out.mono ?_
          rintro e w20 hd20
          obtain ⟨rows20, rfl, hs20⟩ := HS19.out.next hd20 (by rw [List.append_nil]; exact HTK.out.ahead HAQ.out (Nat.le_refl _)) (Ahead.nil_r _) (by show Ahead ([] ++ eb) q.es; rw [List.nil_append]; exact HEQ.out.ahead HAQ.out (Nat.le_refl _)) (Ahead.nil_r _)
          have HS20 := hide hs20
          clear hd20 hs20 HAL
          have HNX := hide (nd_from_next (HF.out.stay HS20.out.below) HQ.out)
          go_wp2_with fail
          refine HNX.out.mono ?_
          rintro e w21 ⟨rfl, hb21⟩
          have HS21 := hide (HS20.out.stay hb21)
          clear hb21 HNX
          go_wp2
          go_roundw
          case rel => exact ⟨j + 1, true, rows20, rfl, rfl, rfl, by omega, fun h => (by cases h), fun _ i r hr hi => by have := HSP.out i r hr hi; have := HGT.out; omega, by have := HS21.out; rw [kidEs_take HQ.out]; simpa using this⟩
          case measure => exact fromM_lt HSO.out HAT.out HQ.out
    · obtain rfl : j = ks.length := by omega
      rw [kPt_none (Nat.le_refl _)]
      rw [List.take_of_length_le (Nat.le_refl _)] at hst
      cases th with
      | true =>
        have HFI := hide (DfOut.from_ hst.out HAL2.out)
        clear hst hc1 hc2
        go_wp2
        go_end0
        exact HFI.out
      | false =>
        have hka : kidAt ks a = none := kidAt_no (fun i r hr hra => by
          have := hc1 rfl i r hr (List.getElem?_eq_some_iff.1 hr).1
          omega)
        have HTA := hide (show AtK m pre 0 a (kidEs ks) from AtK.kids HF.out (fun r hr => ⟨hr, Nat.zero_le _, by
          obtain ⟨i, hi⟩ := List.getElem?_of_mem hr
          exact hc1 rfl i r hi (List.getElem?_eq_some_iff.1 hi).1⟩))
        have HST := hide hst
        have hin := HI.out wz (rows ++ rows1) hst.col hst.below (HAL2.out.trans hst.keep) (by have := hst.len; have := HLN.out; rw [hka]; simp only [List.length_append, List.length_nil, esOf, Bool.false_eq_true, if_false] at *; omega)
        rw [hka] at hin
        have HIN := hide (show Calls Tryz.prog f #[.pointer none, p1, p2] wz (DfOut d w0 wz k bo (rows ++ rows1) [] eb) from hin)
        clear hst hc1 hc2 hka hin
        go_wp2_with fail
        refine HIN.out.mono ?_
        rintro e w20 hd20
        obtain ⟨rows20, rfl, hs20⟩ := HST.out.next hd20 (Ahead.nil_r _) (HTA.out.ahead HEB.out (Nat.le_refl _)) (Ahead.nil_l _) (Ahead.nil_l _)
        have HFI := hide (show DfOut d w0 w k bo rows (kidEs ks) eb (.returned (.tuple #[])) w20 from DfOut.from_ (by simpa using hs20.out) HAL2.out)
        clear hd20 hs20 HIN
        go_wp2
        go_end0
        exact HFI.out
end Go.Proofs.YtghnpflaafdcdaaGreat
set_option linter.unusedSimpArgs false
set_option linter.unusedVariables false
namespace Go.Proofs.YtghnpflaafdcdaaGreat
open Go.RowKit
/-- Of two values, by a rule. -/
def stval (r a b : Nat) : Nat := if r = 1 then a else if r = 2 then b else if r = 3 then min a b else if r = 4 then max a b else if r = 5 then (a + b) % 2 ^ 64 else max a b - min a b
end Go.Proofs.YtghnpflaafdcdaaGreat
set_option linter.unusedSimpArgs false
set_option linter.unusedVariables false
namespace Go.Proofs.YtghnpflaafdcdaaGreat
open Go.RowKit
/-- An entry of two lists' join: by a rule where both have its point; else as one has it, where that one's stay. -/
def JM (r : Nat) (l rt bo : Bool) (ea eb : List Ent) (x : Ent) : Prop :=
  (bo = true ∧ ∃ va vb, (x.1, va) ∈ ea ∧ (x.1, vb) ∈ eb ∧ x.2 = stval r va vb) ∨ (l = true ∧ x ∈ ea ∧ ∀ v, (x.1, v) ∉ eb) ∨ (rt = true ∧ x ∈ eb ∧ ∀ v, (x.1, v) ∉ ea)
section
variable {r : Nat} {l rt bo : Bool} {ea eb : List Ent} {x : Ent}
theorem JM.nil_l : JM r l rt bo [] eb x ↔ rt = true ∧ x ∈ eb := by simp [JM]
theorem JM.nil_r : JM r l rt bo ea [] x ↔ l = true ∧ x ∈ ea := by simp [JM]
theorem JM.has (h : JM r l rt bo ea eb x) : (∃ v, (x.1, v) ∈ ea) ∨ ∃ v, (x.1, v) ∈ eb := by
  rcases h with ⟨_, va, vb, h1, h2, _⟩ | ⟨_, h, _⟩ | ⟨_, h, _⟩
  · exact .inl ⟨va, h1⟩
  · exact .inl ⟨x.2, h⟩
  · exact .inr ⟨x.2, h⟩
/-- Two lists pairs of which are alike at a point join alike there. -/
theorem JM.congr {ea' eb' : List Ent} (ha : ∀ v, (x.1, v) ∈ ea ↔ (x.1, v) ∈ ea') (hb : ∀ v, (x.1, v) ∈ eb ↔ (x.1, v) ∈ eb') : JM r l rt bo ea eb x ↔ JM r l rt bo ea' eb' x := by
  have hx : x ∈ ea ↔ x ∈ ea' := ha x.2
  have hy : x ∈ eb ↔ x ∈ eb' := hb x.2
  unfold JM
  simp only [ha, hb, hx, hy]
theorem JM.leaf {p : List Nat} {va vb : Nat} : JM r l rt bo [(p, va)] [(p, vb)] x ↔ bo = true ∧ x = (p, stval r va vb) := by
  obtain ⟨q, v⟩ := x
  simp only [JM, List.mem_singleton, Prod.mk.injEq]
  constructor
  · rintro (⟨h1, va', vb', ⟨rfl, rfl⟩, ⟨_, rfl⟩, h2⟩ | ⟨_, ⟨rfl, _⟩, h2⟩ | ⟨_, ⟨rfl, _⟩, h2⟩)
    · exact ⟨h1, rfl, h2⟩
    · exact absurd ⟨rfl, rfl⟩ (h2 vb)
    · exact absurd ⟨rfl, rfl⟩ (h2 va)
  · rintro ⟨h1, rfl, h2⟩
    exact .inl ⟨h1, va, vb, ⟨rfl, rfl⟩, ⟨rfl, rfl⟩, h2⟩
end
/-- Two forks of one level: kid by kid. -/
theorem JM.kids {w w' : World} {k g g' m r : Nat} {l rt bo : Bool} {pre pre' : List Nat} {ks ks' : List Kid} (h : Fork w k g m pre ks) (h' : Fork w' k g' m pre' ks') (x : Ent) :
    JM r l rt bo (kidEs ks) (kidEs ks') x ↔ JM r l rt bo (esOf (kidAt ks (addrOf x.1 m))) (esOf (kidAt ks' (addrOf x.1 m))) x :=
  JM.congr (fun v => h.fk'.mem (e := (x.1, v)) rfl) (fun v => h'.fk'.mem (e := (x.1, v)) rfl)
theorem at_kid {w : World} {k g m a : Nat} {pre : List Nat} {ks : List Kid} (h : Fork w k g m pre ks) {y : Ent} (hy : y ∈ esOf (kidAt ks a)) : addrOf y.1 m = a := by
  cases hk : kidAt ks a with
  | none => rw [hk] at hy; simp [esOf] at hy
  | some z =>
    rw [hk] at hy
    obtain ⟨q, hq, hqa, rfl⟩ := kidAt_some hk
    exact (h.fk'.es q hq y hy).2.1.trans hqa
theorem JM.at_ {w w' : World} {k g g' m a r : Nat} {l rt bo : Bool} {pre pre' : List Nat} {ks ks' : List Kid} (h : Fork w k g m pre ks) (h' : Fork w' k g' m pre' ks') {x : Ent} (hx : JM r l rt bo (esOf (kidAt ks a)) (esOf (kidAt ks' a)) x) : addrOf x.1 m = a := by
  rcases hx.has with ⟨v, hv⟩ | ⟨v, hv⟩
  · exact at_kid (y := (x.1, v)) h hv
  · exact at_kid (y := (x.1, v)) h' hv
/-- One address more of two forks' join. -/
theorem JM.next {w w' : World} {k g g' m a s r : Nat} {l rt bo : Bool} {pre pre' : List Nat} {ks ks' : List Kid} (h : Fork w k g m pre ks) (h' : Fork w' k g' m pre' ks') (hs : s ≤ a) (hg : ∀ q ∈ ks, s ≤ q.at_ → a ≤ q.at_) (hg' : ∀ q ∈ ks', s ≤ q.at_ → a ≤ q.at_) (x : Ent) :
    (JM r l rt bo (kidEs ks) (kidEs ks') x ∧ addrOf x.1 m < a + 1) ↔ (JM r l rt bo (kidEs ks) (kidEs ks') x ∧ addrOf x.1 m < s) ∨ JM r l rt bo (esOf (kidAt ks a)) (esOf (kidAt ks' a)) x := by
  constructor
  · rintro ⟨h1, h2⟩
    by_cases h3 : addrOf x.1 m < s
    · exact .inl ⟨h1, h3⟩
    · right
      have h4 : a ≤ addrOf x.1 m := by
        rcases h1.has with ⟨v, hv⟩ | ⟨v, hv⟩
        · obtain ⟨q, hq, hv⟩ := mem_kidEs.1 hv
          have h5 : addrOf x.1 m = q.at_ := (h.fk'.es q hq (x.1, v) hv).2.1
          rw [h5]
          exact hg q hq (by omega)
        · obtain ⟨q, hq, hv⟩ := mem_kidEs.1 hv
          have h5 : addrOf x.1 m = q.at_ := (h'.fk'.es q hq (x.1, v) hv).2.1
          rw [h5]
          exact hg' q hq (by omega)
      have h6 : addrOf x.1 m = a := by omega
      have h7 := (JM.kids h h' x).1 h1
      rw [h6] at h7
      exact h7
  · rintro (⟨h1, h2⟩ | h1)
    · exact ⟨h1, by omega⟩
    · have h2 := JM.at_ h h' h1
      refine ⟨(JM.kids h h' x).2 ?_, by omega⟩
      rw [h2]
      exact h1
/-- No kid is left: all has been joined. -/
theorem JM.all {w w' : World} {k g g' m s r : Nat} {l rt bo : Bool} {pre pre' : List Nat} {ks ks' : List Kid} (h : Fork w k g m pre ks) (h' : Fork w' k g' m pre' ks') (hg : ∀ q ∈ ks, q.at_ < s) (hg' : ∀ q ∈ ks', q.at_ < s) (x : Ent) :
    (JM r l rt bo (kidEs ks) (kidEs ks') x ∧ addrOf x.1 m < s) ↔ JM r l rt bo (kidEs ks) (kidEs ks') x := by
  refine ⟨(·.1), fun h1 => ⟨h1, ?_⟩⟩
  rcases h1.has with ⟨v, hv⟩ | ⟨v, hv⟩
  · obtain ⟨q, hq, hv⟩ := mem_kidEs.1 hv
    have h5 : addrOf x.1 m = q.at_ := (h.fk'.es q hq (x.1, v) hv).2.1
    rw [h5]
    exact hg q hq
  · obtain ⟨q, hq, hv⟩ := mem_kidEs.1 hv
    have h5 : addrOf x.1 m = q.at_ := (h'.fk'.es q hq (x.1, v) hv).2.1
    rw [h5]
    exact hg' q hq
end Go.Proofs.YtghnpflaafdcdaaGreat
set_option linter.unusedSimpArgs false
set_option linter.unusedVariables false
namespace Go.Proofs.YtghnpflaafdcdaaGreat
open Go.RowKit
theorem TopOk.none_ (w : World) (k : Nat) : TopOk w k none := by
  intro x hx
  cases hx
end Go.Proofs.YtghnpflaafdcdaaGreat
set_option linter.unusedSimpArgs false
set_option linter.unusedVariables false
namespace Go.Proofs.YtghnpflaafdcdaaGreat
open Go.RowKit
theorem DfOut.keepC {d : Bool} {w0 w w1 : World} {k bo : Nat} {rows : List CR} {A B : List Ent} {e : Ending} (h : DfOut d w0 w k bo rows A B e w1) : KeepC w w1 := h.choose_spec.2.keep
def DfHyp (w0 : World) (k N : Nat) : Prop := ∀ (w : World) (bo : Nat) (rows : List CR) (ta tb : Option (Nat × NT)), (esOf ta).length + (esOf tb).length < N → TopOk w0 k ta → TopOk w0 k tb → (esOf ta).length ≤ 60000 → (esOf tb).length ≤ 60000 →
  ColC w0.heap.size w bo rows → Below w0.heap.size w0 w → rows.length + (esOf ta).length + (esOf tb).length ≤ 200000 →
  Calls Tryz.prog 56 #[.agg #[tellV bo], ptrOf ta, ptrOf tb] w (DfOut true w0 w k bo rows (esOf ta) (esOf tb))
set_option maxHeartbeats 8000000 in
set_option maxRecDepth 100000 in
theorem df_even_leaf {w0 w : World} {k ga gb bo va vb : Nat} {p : List Nat} {rows : List CR} (hk : k ≤ 16) (hA : NodeOf w0 k ga (-1) p [(p, va)]) (hB : NodeOf w0 k gb (-1) p [(p, vb)]) (hC : ColC w0.heap.size w bo rows) (hb : Below w0.heap.size w0 w) (hl : rows.length ≤ 200000) :
    Calls Tryz.prog 85 #[.agg #[tellV bo], .pointer (some ⟨ga, 0, none⟩), .pointer (some ⟨gb, 0, none⟩)] w (DfOut true w0 w k bo rows [(p, va)] [(p, vb)]) := by
  have hal := (Below.refl w.heap.size w).alloc (Nat.le_refl _) (.cells #[tellV bo] 110)
  have hS := Blk.new w 110 #[tellV bo]
  have HS := hide hS
  have HAL := hide hal
  have HB := hide hb
  have HC := hide hC
  have HZ := hide hA.info.1
  have hva : va < 2 ^ 64 := (hA.info.2.2.2.2.1 _ (List.mem_singleton.2 rfl)).2.1
  have hvb : vb < 2 ^ 64 := (hB.info.2.2.2.2.1 _ (List.mem_singleton.2 rfl)).2.1
  have HV := hide (And.intro hva hvb)
  rcases hA.cases' with ⟨A, c, v, _, hes, hv, hP, hc, hBk⟩ | ⟨m, ks, h0, _⟩
  case inr => omega
  rcases hB.cases' with ⟨A', c', v', _, hes', hv', hP', hc', hBk'⟩ | ⟨m, ks, h0, _⟩
  case inr => omega
  obtain rfl : v = va := by
    injection hes with h _
    injection h with _ h
    exact h.symm
  obtain rfl : v' = vb := by
    injection hes' with h _
    injection h with _ h
    exact h.symm
  have HEA := hide (fun W (hW : Below w0.heap.size w0 W) => nd_entry_leaf (hBk.below hW) (hP.below hW) hk)
  have HEB := hide (fun W (hW : Below w0.heap.size w0 W) => nd_entry_leaf (hBk'.below hW) (hP'.below hW) hk)
  clear hA hB hC hb hal hS hes hv hP hc hBk hes' hv' hP' hc' hBk' hva hvb
  unfold tellV at HS HAL ⊢
  go_enter Tryz.func85, Tryz.ntmps85
  go_wp2_with fail
  refine wp_scope_jumps 0 (fun _ _ => False) (fun _ _ => 0) rfl ?_ (fun _ _ h => h.elim)
  go_wp2_with fail
  refine (HEA.out _ (HB.out.trans (HAL.out.mono HB.out.size))).mono ?_
  rintro e w4 ⟨BB, d, rfl, ho4, hb4⟩
  have hn4 := Blk.new w4 79 #[.slice BB k d, .int .u64 (v : Int)]
  have hal4 := (Below.refl w4.heap.size w4).alloc (Nat.le_refl _) (.cells #[.slice BB k d, .int .u64 (v : Int)] 79)
  have HOK := hide ((ER.okT.of_own ho4 HZ.out HV.out.1).below hal4)
  have HS5 := hide (HS.out.below (below_then hb4 hal4))
  have HB5 := hide (below_then HAL.out (below_then hb4 hal4))
  have HN5 := hide hn4
  clear ho4 hb4 hn4 hal4
  go_wp2_with fail
  refine (HEB.out _ (HB.out.trans (HB5.out.mono HB.out.size))).mono ?_
  rintro e w6 ⟨CC, dd, rfl, ho6, hb6⟩
  have hn6 := Blk.new w6 79 #[.slice CC k dd, .int .u64 (v' : Int)]
  have hal6 := (Below.refl w6.heap.size w6).alloc (Nat.le_refl _) (.cells #[.slice CC k dd, .int .u64 (v' : Int)] 79)
  have hb67 := below_then hb6 hal6
  have HOK7 := hide (HOK.out.below hb67)
  have HB7 := hide (below_then HB5.out hb67)
  have s7 := HS5.out.below hb67
  have x7 := HN5.out.below hb67
  have l0 := s7.cell 0
  have x0 := x7.cell 0
  have x1 := x7.cell 1
  have y0 := hn6.cell 0
  have y1 := hn6.cell 1
  simp at l0 x0 x1 y0 y1
  have HC7 := hide (Col.below HC.out HB7.out)
  have HBB := hide (HB.out.trans (HB7.out.mono HB.out.size))
  clear ho6 hb6 hn6 hal6 hb67 s7 x7 HS HAL HS5 HN5 HOK
  by_cases hvv : v = v'
  · have e1 : ((v : Int) != (v' : Int)) = false := by simp; omega
    have HF := hide (fun W (h : W = w6.alloc (.cells #[.slice CC k dd, .int .u64 (v' : Int)] 79)) => show DfOut true w0 w k bo rows [(p, v)] [(p, v')] (.returned (.tuple #[])) W from by
      subst h
      refine ⟨[], rfl, ⟨?_, Nat.zero_le _, by rw [List.append_nil]; exact HC7.out, fun r hr => (by cases hr), KeepC.below HB7.out, HBB.out⟩⟩
      have h := Chgs.one (p := p) (v := v) (u := v')
      rw [if_pos hvv] at h
      exact h)
    clear hvv
    go_wp2
    simp only [Exit.jump]
    go_end0
    exact HF.out _ rfl
  · have e1 : ((v : Int) != (v' : Int)) = true := by simp; omega
    have HT := hide (df_tell ⟨BB, k, d, p, true, true, v, v'⟩ HC7.out HBB.out hl)
    have HNE := hide hvv
    clear hvv
    go_wp2_with fail
    refine HT.out.mono ?_
    rintro e w8 ⟨rfl, hC8, hK8, hB8⟩
    have HF := hide (show DfOut true w0 w k bo rows [(p, v)] [(p, v')] (.returned (.tuple #[])) w8 from by
      refine ⟨[⟨BB, k, d, p, true, true, v, v'⟩], rfl, ⟨?_, by simp, hC8, fun r hr => ?_, (KeepC.below HB7.out).trans hK8, hB8⟩⟩
      · have h := Chgs.one (p := p) (v := v) (u := v')
        rw [if_neg HNE.out] at h
        exact h
      · rw [List.mem_singleton] at hr
        subst hr
        obtain ⟨⟨h1, h2, h3, h4⟩, h5⟩ := HOK7.out
        exact ⟨CR.okT.keep ⟨⟨h1, h2, h3, HV.out.1, HV.out.2⟩, h5⟩ hK8.u64, rfl⟩)
    clear hC8 hK8 hB8
    go_wp2
    simp only [Exit.jump]
    go_end0
    exact HF.out
end Go.Proofs.YtghnpflaafdcdaaGreat
set_option linter.unusedSimpArgs false
set_option linter.unusedVariables false
namespace Go.Proofs.YtghnpflaafdcdaaGreat
open Go.RowKit
/-- The kids ahead of a place lie below an address; those from it on, from it on. -/
def Lo (ks : List Kid) (i s : Nat) : Prop := ∀ (n : Nat) (q : Kid), ks[n]? = some q → n < i → q.at_ < s
def Hi (ks : List Kid) (i s : Nat) : Prop := ∀ (n : Nat) (q : Kid), ks[n]? = some q → i ≤ n → s ≤ q.at_
section
variable {ks : List Kid} {i s a : Nat} {q : Kid}
theorem Lo.step (h : Lo ks i s) (hq : ks[i]? = some q) (hs : s ≤ q.at_) : Lo ks (i + 1) (q.at_ + 1) := by
  intro n r hr hn
  rcases Nat.lt_or_ge n i with h1 | h1
  · have := h n r hr h1
    omega
  · obtain rfl : n = i := by omega
    rw [hq] at hr
    injection hr with hr
    subst hr
    omega
theorem Hi.step (hs : ks.Pairwise fun q r => q.at_ < r.at_) (hq : ks[i]? = some q) : Hi ks (i + 1) (q.at_ + 1) := fun n r hr hn => kids_lt hs hq hr (by omega)
theorem Lo.mono (h : Lo ks i s) (hs : s ≤ a) : Lo ks i (a + 1) := fun n r hr hn => by
  have := h n r hr hn
  omega
theorem Hi.none (h : ks.length ≤ i) (a : Nat) : Hi ks i a := fun n r hr hn => by
  have := (List.getElem?_eq_some_iff.1 hr).1
  omega
theorem Hi.some (hs : ks.Pairwise fun q r => q.at_ < r.at_) (hq : ks[i]? = some q) (ha : a < q.at_) : Hi ks i (a + 1) := by
  intro n r hr hn
  rcases Nat.eq_or_lt_of_le hn with h | h
  · subst h
    rw [hq] at hr
    injection hr with hr
    subst hr
    omega
  · have := kids_lt hs hq hr h
    omega
theorem kidEs_take_le (ks : List Kid) (i : Nat) : (kidEs (ks.take i)).length ≤ (kidEs ks).length := by
  have h := congrArg (fun l => (kidEs l).length) (List.take_append_drop i ks)
  simp only [kidEs_append, List.length_append] at h
  omega
theorem Lo.at_k {w : World} {k g m : Nat} {pre : List Nat} (hF : Fork w k g m pre ks) (h : Lo ks i s) : AtK m pre 0 s (kidEs (ks.take i)) :=
  AtK.kids hF (fun r hr => ⟨List.mem_of_mem_take hr, Nat.zero_le _, by
    obtain ⟨j, hj, hr⟩ := mem_take_idx hr
    exact h j r hr hj⟩)
end
/-- The frame at the head of a round. -/
def EvFr (tv : Value) (ga gb sb : Nat) (f : Nat → Value) (s : Nat) : Act := { tmps := #[.agg #[tv], .pointer (some ⟨ga, 0, none⟩), .pointer (some ⟨gb, 0, none⟩), .pointer (some ⟨sb, 0, none⟩), f 4, f 5, f 6, f 7, f 8, f 9, .int .i64 (s : Int), f 11, f 12, f 13, f 14, f 15, f 16, f 17, f 18, f 19, f 20, f 21, f 22, f 23, f 24, f 25, f 26, f 27, f 28, f 29, f 30, f 31, f 32, f 33, f 34, f 35, f 36, f 37, f 38, f 39, f 40, f 41, f 42, f 43, f 44, f 45, f 46, f 47, f 48, f 49, f 50, f 51, f 52, f 53, f 54, f 55, f 56, f 57, f 58, f 59, f 60, f 61, f 62, f 63, f 64, f 65, f 66, f 67, f 68, f 69, f 70, f 71, f 72, f 73, f 74, f 75, f 76, f 77, f 78, f 79, f 80, f 81, f 82, f 83, f 84, f 85, f 86, f 87, f 88, f 89, f 90, f 91, f 92, f 93, f 94, f 95], defers := [] }
def EvInv (tv : Value) (w0 w : World) (k ga gb bo : Nat) (ksa ksb : List Kid) (rows : List CR) (a' : Act) (wr : World) : Prop :=
  ∃ (s i j : Nat) (rows1 : List CR) (f : Nat → Value), a' = EvFr tv ga gb w.heap.size f s ∧ s ≤ 65536 ∧ i ≤ ksa.length ∧ j ≤ ksb.length ∧ Lo ksa i s ∧ Hi ksa i s ∧ Lo ksb j s ∧ Hi ksb j s ∧ DfSt true w0 w k bo rows (kidEs (ksa.take i)) (kidEs (ksb.take j)) rows1 wr ∧ Blk wr w.heap.size 110 #[tv]
theorem EvInv.intro {tv : Value} {w0 w : World} {k ga gb bo : Nat} {ksa ksb : List Kid} {rows : List CR} {a' : Act} {wr : World} (s i j : Nat) (rows1 : List CR) (h : a' = EvFr tv ga gb w.heap.size (fun n => a'.tmps.getD n undef) s) (h1 : s ≤ 65536) (h2 : i ≤ ksa.length) (h3 : j ≤ ksb.length) (h4 : Lo ksa i s) (h5 : Hi ksa i s) (h6 : Lo ksb j s) (h7 : Hi ksb j s) (h8 : DfSt true w0 w k bo rows (kidEs (ksa.take i)) (kidEs (ksb.take j)) rows1 wr) (h9 : Blk wr w.heap.size 110 #[tv]) : EvInv tv w0 w k ga gb bo ksa ksb rows a' wr :=
  ⟨s, i, j, rows1, _, h, h1, h2, h3, h4, h5, h6, h7, h8, h9⟩
set_option maxHeartbeats 8000000 in
set_option maxRecDepth 100000 in
theorem df_even {w0 w : World} {k N ga gb m bo : Nat} {pa pb : List Nat} {ksa ksb : List Kid} {rows : List CR} (hk : k ≤ 16) (H : DfHyp w0 k N) (hA : Fork w0 k ga m pa ksa) (hB : Fork w0 k gb m pb ksb) (hag : ∀ b, m < b → addrOf pa b = addrOf pb b) (hN : (kidEs ksa).length + (kidEs ksb).length ≤ N)
    (hla : (kidEs ksa).length ≤ 60000) (hlb : (kidEs ksb).length ≤ 60000) (hC : ColC w0.heap.size w bo rows) (hb : Below w0.heap.size w0 w) (hl : rows.length + (kidEs ksa).length + (kidEs ksb).length ≤ 200000) :
    Calls Tryz.prog 85 #[.agg #[tellV bo], .pointer (some ⟨ga, 0, none⟩), .pointer (some ⟨gb, 0, none⟩)] w (DfOut true w0 w k bo rows (kidEs ksa) (kidEs ksb)) := by
  have hal := (Below.refl w.heap.size w).alloc (Nat.le_refl _) (.cells #[tellV bo] 110)
  have hS := Blk.new w 110 #[tellV bo]
  obtain ⟨A0, c0, gs0, -, -, hB0⟩ := hA.head
  have HEN := hide (nd_entry_fork (hB0.below (hb.trans (hal.mono hb.size))))
  have HLK := hide hS
  have HST0 := hide ((DfSt.start (d := true) (k := k) hC hb).stay hal)
  have HIH := hide H
  have HFA := hide hA
  have HFB := hide hB
  have HAG := hide hag
  have HLN := hide (And.intro hN (And.intro hla (And.intro hlb hl)))
  have HAT := hide (fun q (hq : q ∈ ksa) => pow_le_16 (hA.kid q hq).2.2.2.2 hk)
  have HAT' := hide (fun q (hq : q ∈ ksb) => pow_le_16 (hB.kid q hq).2.2.2.2 hk)
  clear H hA hB hag hN hla hlb hC hb hl hal hS hB0
  generalize htv : tellV bo = tv at *
  have HTV := hide htv
  clear htv
  go_enter Tryz.func85, Tryz.ntmps85
  go_wp2_with fail
  refine wp_scope_goto2 0 (EvInv tv w0 w k ga gb bo ksa ksb rows) (fun a' _ => 70000 - (intOf (a'.tmps.getD 10 undef)).toNat) (by rfl) (by rfl) (by rfl) ?_ ?_
  · go_wp2_with fail
    refine HEN.out.mono ?_
    rintro e w2 ⟨rfl, hb2⟩
    have hal2 := below_then hb2 ((Below.refl w2.heap.size w2).alloc (Nat.le_refl _) (.cells #[.slice none 0 0, .int .u64 0] 79))
    have HST2 := hide (HST0.out.stay hal2)
    have HLK2 := hide (HLK.out.below hal2)
    clear hb2 hal2 HEN
    go_wp2
    exact EvInv.intro 0 0 0 [] rfl (by omega) (Nat.zero_le _) (Nat.zero_le _) (fun _ _ _ h => absurd h (Nat.not_lt_zero _)) (fun _ _ _ _ => Nat.zero_le _) (fun _ _ _ h => absurd h (Nat.not_lt_zero _)) (fun _ _ _ _ => Nat.zero_le _) HST2.out HLK2.out
  · rintro a' wr ⟨s, i, j, rows1, f, rfl, hs, hi, hj, hilo, hihi, hjlo, hjhi, hst, hlk⟩
    unfold EvFr
    have HST := hide hst
    have HLK1 := hide hlk
    have HL := hide (And.intro hilo (And.intro hihi (And.intro hjlo hjhi)))
    have HIJ := hide (And.intro hi hj)
    have hs6 : (s : Int) ≤ 65536 := by omega
    have hfa := fun W (hW : Below w0.heap.size w0 W) => nd_from_j (HFA.out.stay hW) i (s : Int) (fun n q hq hn => by have := hilo n q hq hn; omega) (fun q hq => by have := hihi i q hq (Nat.le_refl _); omega)
    have hfb := fun W (hW : Below w0.heap.size w0 W) => nd_from_j (HFB.out.stay hW) j (s : Int) (fun n q hq hn => by have := hjlo n q hq hn; omega) (fun q hq => by have := hjhi j q hq (Nat.le_refl _); omega)
    have HFRA := hide (hfa _ hst.below)
    have HFRB := hide hfb
    clear hilo hihi hjlo hjhi hfa hfb hst hlk HST0 HLK hi hj
    go_wp2_with fail
    refine HFRA.out.mono ?_
    rintro e w2 ⟨rfl, hb2⟩
    have HST2 := hide (HST.out.stay hb2)
    have HLK2 := hide (HLK1.out.below hb2)
    clear hb2 HST HLK1 HFRA
    have HFRB2 := hide (HFRB.out _ HST2.out.below)
    go_wp2_with fail
    refine HFRB2.out.mono ?_
    rintro e w3 ⟨rfl, hb3⟩
    have HST3 := hide (HST2.out.stay hb3)
    have HLK3 := hide (HLK2.out.below hb3)
    have hl3 := HLK2.out.below hb3
    have l0 := hl3.cell 0
    simp at l0
    clear hb3 HST2 HLK2 HFRB2 HFRB hl3
    rcases Nat.lt_or_ge i ksa.length with hil | hil
    · rcases Nat.lt_or_ge j ksb.length with hjl | hjl
      · obtain ⟨q, hq⟩ : ∃ q, ksa[i]? = some q := ⟨ksa[i], List.getElem?_eq_getElem hil⟩
        have hqm := List.mem_of_getElem? hq
        have hkq := (HFA.out.kid q hqm).1
        have hqs := HL.out.2.1 i q hq (Nat.le_refl _)
        obtain ⟨u, hu⟩ : ∃ u, ksb[j]? = some u := ⟨ksb[j], List.getElem?_eq_getElem hjl⟩
        have hum := List.mem_of_getElem? hu
        have hku := (HFB.out.kid u hum).1
        have hus := HL.out.2.2.2 j u hu (Nat.le_refl _)
        rw [kAt_some hq, kPt_some hq, kAt_some hu, kPt_some hu]
        rcases Nat.lt_trichotomy q.at_ u.at_ with hlt | heq | hgt
        · have f1 : decide (q.at_ < u.at_) = true := by simp [hlt]
          have hqa1 : ((q.at_ : Nat) : Int) ≤ 65535 := by have := HAT.out q hqm; omega
          have hbt := HIH.out w3 bo (rows ++ rows1) (some (q.blk, ⟨q.lv, q.pre, q.es⟩)) (none) (by have := HLN.out; have := kid_small HFA.out hqm; have := kidEs_le hq; have := List.length_pos_iff.2 HFB.out.node.info.2.1; simp only [esOf, List.length_nil]; omega) (fun x hx => by injection hx with hx; subst hx; exact hkq) (TopOk.none_ _ _) (by have := HLN.out; have := kid_small HFA.out hqm; have := kidEs_le hq; have := List.length_pos_iff.2 HFB.out.node.info.2.1; simp only [esOf, List.length_nil]; omega) (by have := HLN.out; have := kid_small HFA.out hqm; have := kidEs_le hq; have := List.length_pos_iff.2 HFB.out.node.info.2.1; simp only [esOf, List.length_nil]; omega) HST3.out.col HST3.out.below (by have := HLN.out; have := HST3.out.len; have := kid_small HFA.out hqm; have := kidEs_le hq; have := List.length_pos_iff.2 HFB.out.node.info.2.1; have := kidEs_take_le ksb j; simp only [esOf, List.length_nil, List.length_append]; omega)
          rw [HTV.out] at hbt
          have HBT := hide (show Calls Tryz.prog 56 #[.agg #[tv], .pointer (some ⟨q.blk, 0, none⟩), .pointer none] w3 (DfOut true w0 w3 k bo (rows ++ rows1) q.es []) from hbt)
          have HLO := hide (And.intro (HL.out.1.at_k HFA.out) ((HL.out.2.2.1.at_k HFB.out).zag HAG.out))
          have HXQ := hide (AtK.kid HFA.out hqm)
          have HSS := hide (show s ≤ q.at_ by omega)
          have HNL := hide (show Lo ksa (i + 1) (q.at_ + 1) ∧ Hi ksa (i + 1) (q.at_ + 1) ∧ Lo ksb (j) (q.at_ + 1) ∧ Hi ksb (j) (q.at_ + 1) from ⟨HL.out.1.step hq hqs, Hi.step HFA.out.sorted hq, (HL.out.2.2.1.mono hqs), Hi.some HFB.out.sorted hu hlt⟩)
          have HNI := hide (show i + 1 ≤ ksa.length ∧ j ≤ ksb.length from ⟨by have := (List.getElem?_eq_some_iff.1 hq).1; omega, HIJ.out.2⟩)
          have HEA := hide (kidEs_take hq)
          clear hbt hq hqm hkq hqs hu hum hku hus hlt hil hjl
          go_wp2_with fail
          refine HBT.out.mono ?_
          rintro e w4 hd4
          have hlk4 := HLK3.out.keep (hd4.keepC _ (by decide) (by decide))
          obtain ⟨rows4, rfl, hs4⟩ := HST3.out.next hd4 (HLO.out.1.ahead HXQ.out HSS.out) (Ahead.nil_r _) (HLO.out.2.ahead HXQ.out HSS.out) (Ahead.nil_r _)
          have HST4 := hide hs4
          have HLK4 := hide hlk4
          clear hd4 hs4 hlk4 HBT
          go_wp2_with fail
          go_step3
          refine ⟨rfl, EvInv.intro (q.at_ + 1) (i + 1) (j) rows4 rfl (by omega) HNI.out.1 HNI.out.2 HNL.out.1 HNL.out.2.1 HNL.out.2.2.1 HNL.out.2.2.2 ?_ HLK4.out, ?_⟩
          · have := HST4.out
            rw [HEA.out]
            simpa using this
          · simp [intOf]
            have := HSS.out
            omega
        · have f1 : decide (q.at_ < u.at_) = false := by simp; omega
          have f2 : decide (u.at_ < q.at_) = false := by simp; omega
          have hqa1 : ((q.at_ : Nat) : Int) ≤ 65535 := by have := HAT.out q hqm; omega
          have hbt := HIH.out w3 bo (rows ++ rows1) (some (q.blk, ⟨q.lv, q.pre, q.es⟩)) (some (u.blk, ⟨u.lv, u.pre, u.es⟩)) (by have := HLN.out; have := kid_small HFA.out hqm; have := kidEs_le hq; have := kid_small HFB.out hum; have := kidEs_le hu; simp only [esOf, List.length_nil]; omega) (fun x hx => by injection hx with hx; subst hx; exact hkq) (fun x hx => by injection hx with hx; subst hx; exact hku) (by have := HLN.out; have := kid_small HFA.out hqm; have := kidEs_le hq; have := kid_small HFB.out hum; have := kidEs_le hu; simp only [esOf, List.length_nil]; omega) (by have := HLN.out; have := kid_small HFA.out hqm; have := kidEs_le hq; have := kid_small HFB.out hum; have := kidEs_le hu; simp only [esOf, List.length_nil]; omega) HST3.out.col HST3.out.below (by have := HLN.out; have := HST3.out.len; have := kid_small HFA.out hqm; have := kidEs_le hq; have := kid_small HFB.out hum; have := kidEs_le hu; simp only [esOf, List.length_nil, List.length_append]; omega)
          rw [HTV.out] at hbt
          have HBT := hide (show Calls Tryz.prog 56 #[.agg #[tv], .pointer (some ⟨q.blk, 0, none⟩), .pointer (some ⟨u.blk, 0, none⟩)] w3 (DfOut true w0 w3 k bo (rows ++ rows1) q.es u.es) from hbt)
          have HLO := hide (And.intro (HL.out.1.at_k HFA.out) ((HL.out.2.2.1.at_k HFB.out).zag HAG.out))
          have HXQ := hide (AtK.kid HFA.out hqm)
          have HXU := hide ((AtK.kid HFB.out hum).zag HAG.out)
          have HSS := hide (show s ≤ q.at_ by omega)
          have HNL := hide (show Lo ksa (i + 1) (q.at_ + 1) ∧ Hi ksa (i + 1) (q.at_ + 1) ∧ Lo ksb (j + 1) (q.at_ + 1) ∧ Hi ksb (j + 1) (q.at_ + 1) from ⟨HL.out.1.step hq hqs, Hi.step HFA.out.sorted hq, (by have := HL.out.2.2.1.step hu hus; rw [← heq] at this; exact this), (by have := Hi.step HFB.out.sorted hu; rw [← heq] at this; exact this)⟩)
          have HNI := hide (show i + 1 ≤ ksa.length ∧ j + 1 ≤ ksb.length from ⟨by have := (List.getElem?_eq_some_iff.1 hq).1; omega, by have := (List.getElem?_eq_some_iff.1 hu).1; omega⟩)
          have HEA := hide (kidEs_take hq)
          have HEB := hide (kidEs_take hu)
          have HEQ := hide heq
          clear hbt hq hqm hkq hqs hu hum hku hus heq hil hjl
          go_wp2_with fail
          refine HBT.out.mono ?_
          rintro e w4 hd4
          have hlk4 := HLK3.out.keep (hd4.keepC _ (by decide) (by decide))
          obtain ⟨rows4, rfl, hs4⟩ := HST3.out.next hd4 (HLO.out.1.ahead HXQ.out HSS.out) (HLO.out.1.ahead HXU.out (by have := HSS.out; have := HEQ.out; omega)) (HLO.out.2.ahead HXQ.out HSS.out) (HLO.out.2.ahead HXU.out (by have := HSS.out; have := HEQ.out; omega))
          have HST4 := hide hs4
          have HLK4 := hide hlk4
          clear hd4 hs4 hlk4 HBT
          go_wp2_with fail
          go_step3
          refine ⟨rfl, EvInv.intro (q.at_ + 1) (i + 1) (j + 1) rows4 rfl (by omega) HNI.out.1 HNI.out.2 HNL.out.1 HNL.out.2.1 HNL.out.2.2.1 HNL.out.2.2.2 ?_ HLK4.out, ?_⟩
          · have := HST4.out
            rw [HEA.out, HEB.out]
            simpa using this
          · simp [intOf]
            have := HSS.out
            omega
        · have f1 : decide (q.at_ < u.at_) = false := by simp; omega
          have f2 : decide (u.at_ < q.at_) = true := by simp [hgt]
          have hqa1 : ((u.at_ : Nat) : Int) ≤ 65535 := by have := HAT'.out u hum; omega
          have hbt := HIH.out w3 bo (rows ++ rows1) (none) (some (u.blk, ⟨u.lv, u.pre, u.es⟩)) (by have := HLN.out; have := List.length_pos_iff.2 HFA.out.node.info.2.1; have := kid_small HFB.out hum; have := kidEs_le hu; simp only [esOf, List.length_nil]; omega) (TopOk.none_ _ _) (fun x hx => by injection hx with hx; subst hx; exact hku) (by have := HLN.out; have := List.length_pos_iff.2 HFA.out.node.info.2.1; have := kid_small HFB.out hum; have := kidEs_le hu; simp only [esOf, List.length_nil]; omega) (by have := HLN.out; have := List.length_pos_iff.2 HFA.out.node.info.2.1; have := kid_small HFB.out hum; have := kidEs_le hu; simp only [esOf, List.length_nil]; omega) HST3.out.col HST3.out.below (by have := HLN.out; have := HST3.out.len; have := List.length_pos_iff.2 HFA.out.node.info.2.1; have := kid_small HFB.out hum; have := kidEs_le hu; have := kidEs_take_le ksa i; simp only [esOf, List.length_nil, List.length_append]; omega)
          rw [HTV.out] at hbt
          have HBT := hide (show Calls Tryz.prog 56 #[.agg #[tv], .pointer none, .pointer (some ⟨u.blk, 0, none⟩)] w3 (DfOut true w0 w3 k bo (rows ++ rows1) [] u.es) from hbt)
          have HLO := hide (And.intro (HL.out.1.at_k HFA.out) ((HL.out.2.2.1.at_k HFB.out).zag HAG.out))
          have HXU := hide ((AtK.kid HFB.out hum).zag HAG.out)
          have HSS := hide (show s ≤ u.at_ by omega)
          have HNL := hide (show Lo ksa (i) (u.at_ + 1) ∧ Hi ksa (i) (u.at_ + 1) ∧ Lo ksb (j + 1) (u.at_ + 1) ∧ Hi ksb (j + 1) (u.at_ + 1) from ⟨(HL.out.1.mono hus), Hi.some HFA.out.sorted hq hgt, HL.out.2.2.1.step hu hus, Hi.step HFB.out.sorted hu⟩)
          have HNI := hide (show i ≤ ksa.length ∧ j + 1 ≤ ksb.length from ⟨HIJ.out.1, by have := (List.getElem?_eq_some_iff.1 hu).1; omega⟩)
          have HEB := hide (kidEs_take hu)
          clear hbt hq hqm hkq hqs hu hum hku hus hgt hil hjl
          go_wp2_with fail
          refine HBT.out.mono ?_
          rintro e w4 hd4
          have hlk4 := HLK3.out.keep (hd4.keepC _ (by decide) (by decide))
          obtain ⟨rows4, rfl, hs4⟩ := HST3.out.next hd4 (Ahead.nil_r _) (HLO.out.1.ahead HXU.out (by have := HSS.out; omega)) (Ahead.nil_r _) (HLO.out.2.ahead HXU.out (by have := HSS.out; omega))
          have HST4 := hide hs4
          have HLK4 := hide hlk4
          clear hd4 hs4 hlk4 HBT
          go_wp2_with fail
          go_step3
          refine ⟨rfl, EvInv.intro (u.at_ + 1) (i) (j + 1) rows4 rfl (by omega) HNI.out.1 HNI.out.2 HNL.out.1 HNL.out.2.1 HNL.out.2.2.1 HNL.out.2.2.2 ?_ HLK4.out, ?_⟩
          · have := HST4.out
            rw [HEB.out]
            simpa using this
          · simp [intOf]
            have := HSS.out
            omega
      · obtain ⟨q, hq⟩ : ∃ q, ksa[i]? = some q := ⟨ksa[i], List.getElem?_eq_getElem hil⟩
        have hqm := List.mem_of_getElem? hq
        have hkq := (HFA.out.kid q hqm).1
        have hqs := HL.out.2.1 i q hq (Nat.le_refl _)
        rw [kAt_some hq, kPt_some hq, kAt_none hjl, kPt_none hjl]
        have hqa1 : ((q.at_ : Nat) : Int) ≤ 65535 := by have := HAT.out q hqm; omega
        have hbt := HIH.out w3 bo (rows ++ rows1) (some (q.blk, ⟨q.lv, q.pre, q.es⟩)) (none) (by have := HLN.out; have := kid_small HFA.out hqm; have := kidEs_le hq; have := List.length_pos_iff.2 HFB.out.node.info.2.1; simp only [esOf, List.length_nil]; omega) (fun x hx => by injection hx with hx; subst hx; exact hkq) (TopOk.none_ _ _) (by have := HLN.out; have := kid_small HFA.out hqm; have := kidEs_le hq; have := List.length_pos_iff.2 HFB.out.node.info.2.1; simp only [esOf, List.length_nil]; omega) (by have := HLN.out; have := kid_small HFA.out hqm; have := kidEs_le hq; have := List.length_pos_iff.2 HFB.out.node.info.2.1; simp only [esOf, List.length_nil]; omega) HST3.out.col HST3.out.below (by have := HLN.out; have := HST3.out.len; have := kid_small HFA.out hqm; have := kidEs_le hq; have := List.length_pos_iff.2 HFB.out.node.info.2.1; have := kidEs_take_le ksb j; simp only [esOf, List.length_nil, List.length_append]; omega)
        rw [HTV.out] at hbt
        have HBT := hide (show Calls Tryz.prog 56 #[.agg #[tv], .pointer (some ⟨q.blk, 0, none⟩), .pointer none] w3 (DfOut true w0 w3 k bo (rows ++ rows1) q.es []) from hbt)
        have HLO := hide (And.intro (HL.out.1.at_k HFA.out) ((HL.out.2.2.1.at_k HFB.out).zag HAG.out))
        have HXQ := hide (AtK.kid HFA.out hqm)
        have HSS := hide (show s ≤ q.at_ by omega)
        have HNL := hide (show Lo ksa (i + 1) (q.at_ + 1) ∧ Hi ksa (i + 1) (q.at_ + 1) ∧ Lo ksb (j) (q.at_ + 1) ∧ Hi ksb (j) (q.at_ + 1) from ⟨HL.out.1.step hq hqs, Hi.step HFA.out.sorted hq, (HL.out.2.2.1.mono hqs), Hi.none hjl _⟩)
        have HNI := hide (show i + 1 ≤ ksa.length ∧ j ≤ ksb.length from ⟨by have := (List.getElem?_eq_some_iff.1 hq).1; omega, HIJ.out.2⟩)
        have HEA := hide (kidEs_take hq)
        clear hbt hq hqm hkq hqs hil hjl
        go_wp2_with fail
        refine HBT.out.mono ?_
        rintro e w4 hd4
        have hlk4 := HLK3.out.keep (hd4.keepC _ (by decide) (by decide))
        obtain ⟨rows4, rfl, hs4⟩ := HST3.out.next hd4 (HLO.out.1.ahead HXQ.out HSS.out) (Ahead.nil_r _) (HLO.out.2.ahead HXQ.out HSS.out) (Ahead.nil_r _)
        have HST4 := hide hs4
        have HLK4 := hide hlk4
        clear hd4 hs4 hlk4 HBT
        go_wp2_with fail
        go_step3
        refine ⟨rfl, EvInv.intro (q.at_ + 1) (i + 1) (j) rows4 rfl (by omega) HNI.out.1 HNI.out.2 HNL.out.1 HNL.out.2.1 HNL.out.2.2.1 HNL.out.2.2.2 ?_ HLK4.out, ?_⟩
        · have := HST4.out
          rw [HEA.out]
          simpa using this
        · simp [intOf]
          have := HSS.out
          omega
    · rcases Nat.lt_or_ge j ksb.length with hjl | hjl
      · obtain ⟨u, hu⟩ : ∃ u, ksb[j]? = some u := ⟨ksb[j], List.getElem?_eq_getElem hjl⟩
        have hum := List.mem_of_getElem? hu
        have hku := (HFB.out.kid u hum).1
        have hus := HL.out.2.2.2 j u hu (Nat.le_refl _)
        rw [kAt_none hil, kPt_none hil, kAt_some hu, kPt_some hu]
        have hqa1 : ((u.at_ : Nat) : Int) ≤ 65535 := by have := HAT'.out u hum; omega
        have hbt := HIH.out w3 bo (rows ++ rows1) (none) (some (u.blk, ⟨u.lv, u.pre, u.es⟩)) (by have := HLN.out; have := List.length_pos_iff.2 HFA.out.node.info.2.1; have := kid_small HFB.out hum; have := kidEs_le hu; simp only [esOf, List.length_nil]; omega) (TopOk.none_ _ _) (fun x hx => by injection hx with hx; subst hx; exact hku) (by have := HLN.out; have := List.length_pos_iff.2 HFA.out.node.info.2.1; have := kid_small HFB.out hum; have := kidEs_le hu; simp only [esOf, List.length_nil]; omega) (by have := HLN.out; have := List.length_pos_iff.2 HFA.out.node.info.2.1; have := kid_small HFB.out hum; have := kidEs_le hu; simp only [esOf, List.length_nil]; omega) HST3.out.col HST3.out.below (by have := HLN.out; have := HST3.out.len; have := List.length_pos_iff.2 HFA.out.node.info.2.1; have := kid_small HFB.out hum; have := kidEs_le hu; have := kidEs_take_le ksa i; simp only [esOf, List.length_nil, List.length_append]; omega)
        rw [HTV.out] at hbt
        have HBT := hide (show Calls Tryz.prog 56 #[.agg #[tv], .pointer none, .pointer (some ⟨u.blk, 0, none⟩)] w3 (DfOut true w0 w3 k bo (rows ++ rows1) [] u.es) from hbt)
        have HLO := hide (And.intro (HL.out.1.at_k HFA.out) ((HL.out.2.2.1.at_k HFB.out).zag HAG.out))
        have HXU := hide ((AtK.kid HFB.out hum).zag HAG.out)
        have HSS := hide (show s ≤ u.at_ by omega)
        have HNL := hide (show Lo ksa (i) (u.at_ + 1) ∧ Hi ksa (i) (u.at_ + 1) ∧ Lo ksb (j + 1) (u.at_ + 1) ∧ Hi ksb (j + 1) (u.at_ + 1) from ⟨(HL.out.1.mono hus), Hi.none hil _, HL.out.2.2.1.step hu hus, Hi.step HFB.out.sorted hu⟩)
        have HNI := hide (show i ≤ ksa.length ∧ j + 1 ≤ ksb.length from ⟨HIJ.out.1, by have := (List.getElem?_eq_some_iff.1 hu).1; omega⟩)
        have HEB := hide (kidEs_take hu)
        clear hbt hu hum hku hus hil hjl
        go_wp2_with fail
        refine HBT.out.mono ?_
        rintro e w4 hd4
        have hlk4 := HLK3.out.keep (hd4.keepC _ (by decide) (by decide))
        obtain ⟨rows4, rfl, hs4⟩ := HST3.out.next hd4 (Ahead.nil_r _) (HLO.out.1.ahead HXU.out (by have := HSS.out; omega)) (Ahead.nil_r _) (HLO.out.2.ahead HXU.out (by have := HSS.out; omega))
        have HST4 := hide hs4
        have HLK4 := hide hlk4
        clear hd4 hs4 hlk4 HBT
        go_wp2_with fail
        go_step3
        refine ⟨rfl, EvInv.intro (u.at_ + 1) (i) (j + 1) rows4 rfl (by omega) HNI.out.1 HNI.out.2 HNL.out.1 HNL.out.2.1 HNL.out.2.2.1 HNL.out.2.2.2 ?_ HLK4.out, ?_⟩
        · have := HST4.out
          rw [HEB.out]
          simpa using this
        · simp [intOf]
          have := HSS.out
          omega
      · rw [kAt_none hil, kPt_none hil, kAt_none hjl, kPt_none hjl]
        have HF := hide (show DfOut true w0 w k bo rows (kidEs ksa) (kidEs ksb) (.returned (.tuple #[])) w3 from by
          have := HST3.out.out
          rw [List.take_of_length_le hil, List.take_of_length_le hjl] at this
          exact this)
        clear hil hjl
        go_wp2
        simp only [Exit.jump]
        first
          | go_end0
          | ((try simp only [Exit.inBlock, Exit.then]); refine bodyPost_ret (results_none rfl _ _ _) rfl ?_)
        exact HF.out
end Go.Proofs.YtghnpflaafdcdaaGreat
