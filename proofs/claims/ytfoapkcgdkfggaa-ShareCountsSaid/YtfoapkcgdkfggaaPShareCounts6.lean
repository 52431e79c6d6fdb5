/- ShareCounts: contracts and plain laws that the statement leans on (ShrE WkC WkS ShrG LwTwo LwShC). No condition. -/
import Derived.Test.YtfoapkcgdkfggaaPShareCounts5
set_option linter.unusedSimpArgs false
set_option linter.unusedVariables false
namespace Go.Proofs.Ytfoapkcgdkfggaa
open Go.RowKit
theorem es17 {es1 es2 es3 : List Ent} (h1 : ∀ x, x ∈ es1 ↔ x = ([4, 0], 1) ∨ (x ∈ ([] : List Ent) ∧ x.1 ≠ [4, 0])) (h2 : ∀ x, x ∈ es2 ↔ x = ([7, 3], 2) ∨ (x ∈ es1 ∧ x.1 ≠ [7, 3])) (h3 : ∀ x, x ∈ es3 ↔ x = ([7, 3], 3) ∨ (x ∈ es2 ∧ x.1 ≠ [7, 3])) (hs2 : Zsorted es2) (hs3 : Zsorted es3) :
    es2 = [([4, 0], 1), ([7, 3], 2)] ∧ es3 = [([4, 0], 1), ([7, 3], 3)] := by
  have z1 : Zlt [4, 0] [7, 3] := (cmp_lt (k := 2) ⟨rfl, by decide⟩ ⟨rfl, by decide⟩).1 (by decide +kernel)
  have e2 : es2 = [([4, 0], 1), ([7, 3], 2)] := by
    refine sorted_ext hs2 ?_ fun e => ?_
    · unfold Zsorted
      simp only [List.pairwise_cons, List.mem_cons, List.not_mem_nil, or_false, forall_eq_or_imp, forall_eq, List.Pairwise.nil, and_true]
      exact ⟨z1, fun a h => h.elim⟩
    · rw [h2, h1]
      simp only [List.mem_cons, List.not_mem_nil, or_false, false_and]
      constructor
      · rintro (rfl | ⟨rfl, _⟩) <;> simp
      · rintro (rfl | rfl) <;> simp
  refine ⟨e2, sorted_ext hs3 ?_ fun e => ?_⟩
  · unfold Zsorted
    simp only [List.pairwise_cons, List.mem_cons, List.not_mem_nil, or_false, forall_eq_or_imp, forall_eq, List.Pairwise.nil, and_true]
    exact ⟨z1, fun a h => h.elim⟩
  · rw [h3, e2]
    simp only [List.mem_cons, List.not_mem_nil, or_false]
    constructor
    · rintro (rfl | ⟨rfl | rfl, h⟩)
      · simp
      · simp
      · simp at h
    · rintro (rfl | rfl) <;> simp
theorem kids_two {ks : List Kid} (h2 : 2 ≤ ks.length) (hne : ∀ q ∈ ks, q.es ≠ []) {a b : Ent} (h : kidEs ks = [a, b]) : ∃ q r, ks = [q, r] ∧ q.es = [a] ∧ r.es = [b] := by
  have hc := kid_count ks hne
  rw [h] at hc
  obtain ⟨q, r, rfl⟩ : ∃ q r, ks = [q, r] := by
    match ks, h2, hc with
    | [q, r], _, _ => exact ⟨q, r, rfl⟩
  have h1 := hne q (by simp)
  have h3 := hne r (by simp)
  have h4 : q.es ++ r.es = [a, b] := by simpa [kidEs] using h
  rcases hq : q.es with _ | ⟨x, xs⟩
  · exact absurd hq h1
  rcases hr : r.es with _ | ⟨y, ys⟩
  · exact absurd hr h3
  rw [hq, hr] at h4
  have hl := congrArg List.length h4
  simp at hl
  obtain rfl : xs = [] := List.eq_nil_of_length_eq_zero (by omega)
  obtain rfl : ys = [] := List.eq_nil_of_length_eq_zero (by omega)
  simp at h4
  exact ⟨q, r, rfl, by rw [hq, h4.1], by rw [hr, h4.2]⟩
theorem Bel.two {w : World} {k g d : Nat} {L : List Nat} {a b : Ent} (h : Bel w k g L d [a, b]) : ∃ x y, L = [g, x, y] ∧ (∃ lv pre, NodeOf w k x lv pre [a]) ∧ (∃ lv pre, NodeOf w k y lv pre [b]) := by
  obtain ⟨lv, pre, hN⟩ := h.nodeOf
  rcases hN.cases' with ⟨A, c, v, -, he, -⟩ | ⟨m, ks, rfl, he, hF⟩
  · simp at he
  · obtain ⟨F, dd, hL, -, hk⟩ := h.inv hF
    obtain ⟨q, r, rfl, hq, hr⟩ := kids_two hF.two (fun q hq => ((hF.kid q hq).1).info.2.1) he.symm
    have hbq := hk q (by simp)
    have hbr := hk r (by simp)
    have h1 := hbq.size.1
    have h2 := hbr.size.1
    rw [hq] at h1
    rw [hr] at h2
    obtain ⟨M, hM⟩ := hbq.head
    obtain ⟨M', hM'⟩ := hbr.head
    rw [hM] at h1
    rw [hM'] at h2
    simp at h1 h2
    subst h1 h2
    refine ⟨q.blk, r.blk, by rw [hL]; simp [hM, hM'], ⟨_, _, hq ▸ (hF.kid q (by simp)).1⟩, ⟨_, _, hr ▸ (hF.kid r (by simp)).1⟩⟩
/-- Of two trees of two entries that differ in the last one's value: one node is in both, if two at most are fresh. -/
theorem com_two {w : World} {k g g' d d' : Nat} {L L' : List Nat} {a b b' : Ent} (h : Bel w k g L d [a, b]) (h' : Bel w k g' L' d' [a, b']) (hne : b ≠ b') (hab : a ≠ b) (hab' : a ≠ b') (hf : L'.length - comN L L' ≤ 2) : L.length = 3 ∧ L'.length = 3 ∧ comN L L' = 1 := by
  obtain ⟨x, y, hL, ⟨lx, px, hx⟩, ⟨ly, py, hy⟩⟩ := h.two
  obtain ⟨x', y', hL', ⟨lx', px', hx'⟩, ⟨ly', py', hy'⟩⟩ := h'.two
  obtain ⟨lg, pg, hg⟩ := h.nodeOf
  obtain ⟨lg', pg', hg'⟩ := h'.nodeOf
  have hd : ∀ {u v : Nat} {eu ev : List Ent} {l1 l2 : Int} {p1 p2 : List Nat}, NodeOf w k u l1 p1 eu → NodeOf w k v l2 p2 ev → eu ≠ ev → u ≠ v := by
    intro u v eu ev l1 l2 p1 p2 hu hv he huv
    subst huv
    exact he (hu.uniq hv).2.2
  have n1 : g' ∉ L := by
    rw [hL]
    simp only [List.mem_cons, List.not_mem_nil, or_false, not_or]
    exact ⟨hd hg' hg (by simpa using fun h => hne h.symm), hd hg' hx (by simp), hd hg' hy (by simp)⟩
  have n2 : y' ∉ L := by
    rw [hL]
    simp only [List.mem_cons, List.not_mem_nil, or_false, not_or]
    exact ⟨hd hy' hg (by simp), hd hy' hx (by simpa using fun h => hab' h.symm), hd hy' hy (by simpa using fun h => hne h.symm)⟩
  have hc : comN L L' = if x' ∈ L then 1 else 0 := by
    unfold comN
    rw [hL']
    simp only [List.filter_cons, List.filter_nil, decide_eq_true_eq]
    rw [if_neg n1, if_neg n2]
    split <;> rfl
  have h3 : L'.length = 3 := by rw [hL']; rfl
  refine ⟨by rw [hL]; rfl, h3, ?_⟩
  rw [h3, hc] at hf
  rw [hc]
  split
  · rfl
  · rename_i hn
    rw [if_neg hn] at hf
    omega
/-- A path in a tree of two entries has two nodes at most. -/
theorem path_two {w : World} {k t n : Nat} {p : List Nat} {a b : Ent} (hT : TreeOf w k t [a, b]) (h : PathIs w k p t n) : n ≤ 2 := by
  obtain ⟨top, fs, bot, gs, below, h1, h2, h3, h4, rfl⟩ := h
  have hl : fs.length ≤ 1 := by
    match fs, h2, h3 with
    | [], _, _ => simp
    | [f], _, _ => simp
    | f :: f2 :: rest, h2, h3 =>
      exfalso
      have hF := h3 f (by simp)
      have hF2 := h3 f2 (by simp)
      have htop := h2.1
      have hk := h2.2.2.1
      obtain ⟨q, hq, -, he⟩ := kidAt_some hk
      injection he with e1 e2
      have hq2 := (hF.kid q hq).1
      rw [← e1] at hq2
      have hes : q.es = kidEs f2.ks := (hq2.uniq hF2.node).2.2
      have hroot : kidEs f.ks = [a, b] := by
        subst htop
        obtain ⟨-, -, ⟨g1, g2⟩ | ⟨g, lv, pre, g1, g2⟩⟩ := hT
        · cases g2
        · have he := (Blk.eq_ h1 g1).2
          simp at he
          rw [← he] at g2
          exact (hF.node.uniq g2).2.2
      obtain ⟨q1, r1, hks, hq1, hr1⟩ := kids_two hF.two (fun q hq => ((hF.kid q hq).1).info.2.1) hroot
      have hl1 : q.es.length = 1 := by
        rw [hks] at hq
        simp only [List.mem_cons, List.not_mem_nil, or_false] at hq
        rcases hq with rfl | rfl
        · rw [hq1]; rfl
        · rw [hr1]; rfl
      rw [hes] at hl1
      have h2' := hF2.two
      have := kid_count f2.ks (fun q hq => ((hF2.kid q hq).1).info.2.1)
      omega
  cases h4 <;> simp <;> omega
set_option maxHeartbeats 4000000 in
set_option maxRecDepth 100000 in
theorem awake17 (w : World) :
    Calls Try.prog 6 #[] w fun e w' => e = .returned (.bool true) ∧ Below w.heap.size w w' := by
  have HN := hide (tr_new 2 w (by omega) (by omega))
  go_enter Try.func6, Try.ntmps6
  go_wp2_with fail
  refine HN.out.mono ?_
  rintro e w1 ⟨rfl, hT1, hb1⟩
  have hb2 := below_alloc hb1 (Nat.le_refl _) (.cells #[.int .u64 4, .int .u64 0] 36)
  have hq2 := (Below.refl w1.heap.size w1).alloc (Nat.le_refl _) (.cells #[.int .u64 4, .int .u64 0] 36)
  have HP1 := hide (tr_put (v := 1) (c := 2) (TreeOf.stay ⟨by omega, by omega, .inl ⟨hT1, rfl⟩⟩ hq2) (pt_lit2 w1 4 0 (by omega) (by omega)) (by omega))
  have HB2 := hide hb2
  clear hT1 hb1 hb2 hq2 HN
  go_wp2_with fail
  refine HP1.out.mono ?_
  rintro e w3 ⟨t3, es1, rfl, hT3, hm1, -, hb3⟩
  have hc3 := below_then HB2.out hb3
  have hb4 := below_alloc hc3 (Nat.le_refl _) (.cells #[.int .u64 7, .int .u64 3] 36)
  have hq4 := (Below.refl w3.heap.size w3).alloc (Nat.le_refl _) (.cells #[.int .u64 7, .int .u64 3] 36)
  have HP2 := hide (tr_put (v := 2) (c := 2) (hT3.stay hq4) (pt_lit2 w3 7 3 (by omega) (by omega)) (by omega))
  have HB4 := hide hb4
  have HM1 := hide hm1
  clear hT3 hm1 hb3 hc3 hb4 hq4 HP1 HB2
  go_wp2_with fail
  refine HP2.out.mono ?_
  rintro e w5 ⟨t, es2, rfl, hT5, hm2, -, hb5⟩
  have hc5 := below_then HB4.out hb5
  have hb6 := below_alloc hc5 (Nat.le_refl _) (.cells #[.int .u64 7, .int .u64 3] 36)
  have hq6 := (Below.refl w5.heap.size w5).alloc (Nat.le_refl _) (.cells #[.int .u64 7, .int .u64 3] 36)
  have hT6 := hT5.stay hq6
  obtain ⟨top, hTB, hTop, htes, -, -⟩ := hT6.top
  have hpt := pt_lit2 w5 7 3 (by omega) (by omega)
  obtain ⟨fs, bot, gs, below, hW, hF, hfl, hE⟩ := way_any hTop hpt.zp
  have HP3 := hide (tr_put_on (v := 3) (c := 2) hT6 hTB htes hpt (by omega) hW hF hfl hE)
  have HB6 := hide hb6
  have HM2 := hide hm2
  have HWAY := hide (And.intro hW (And.intro hF (And.intro hfl (And.intro hTB (And.intro hT6 hpt.zp)))))
  clear hT5 hm2 hb5 hc5 hb6 hq6 HP2 HB4 hT6 hTB hTop htes hpt hW hF hfl hE
  go_wp2_with fail
  refine HP3.out.mono ?_
  rintro e w7 ⟨u, es3, rfl, hT7, hm3, hsame, hb7, hsh⟩
  have hc7 := below_then HB6.out hb7
  have hFA : ∃ (ra rb : Option Addr) (LA LB : List Nat) (da db : Nat) (ea eb : List Ent), TreeBlk w7 t 2 ra ∧ TreeBlk w7 u 2 rb ∧ TBel w7 2 ra LA da ea ∧ TBel w7 2 rb LB db eb ∧ LA.length = 3 ∧ LB.length = 3 ∧ comN LA LB = 1 := by
    obtain ⟨hW, hF, hfl, hTB, hT6, hzp⟩ := HWAY.out
    have hT6' := hT6.stay hb7
    obtain ⟨e2, e3⟩ := es17 HM1.out HM2.out hm3 hT6.sorted.1 hT7.sorted.1
    subst e2 e3
    obtain ⟨ra, LA, da, hra, hbA, -⟩ := hT6'.bel
    obtain ⟨rb, LB, db, hrb, hbB, -⟩ := hT7.bel
    have hne : u ≠ t := fun h => by
      have := hsame.1 h
      simp at this
    obtain ⟨n, hP, hn, -⟩ := put_fresh hzp hW (fun f hf => (hF f hf).stay hb7) hfl (Blk.below hTB hb7) hra hbA hsh hne hrb hbB
    have hn2 := path_two hT7 hP
    rcases hbA with ⟨-, -, -, h⟩ | ⟨g, hg, hBA⟩
    · cases h
    rcases hbB with ⟨-, -, -, h⟩ | ⟨g', hg', hBB⟩
    · cases h
    obtain ⟨h1, h2, h3⟩ := com_two hBA hBB (by simp) (by simp) (by simp) (by omega)
    exact ⟨ra, rb, LA, LB, da, db, _, _, hra, hrb, .inr ⟨g, hg, hBA⟩, .inr ⟨g', hg', hBB⟩, h1, h2, h3⟩
  obtain ⟨ra, rb, LA, LB, da, db, ea, eb, q1, q2, q3, q4, q5, q6, q7⟩ := hFA
  have hfr := sh_fresh q1 q2 q3 q4 (by omega) (by omega) (by omega) (by omega)
  rw [q6, q7] at hfr
  have HFR := hide hfr
  have HND := hide (fun W (hW : Below w7.heap.size w7 W) => sh_Nodes_of (w := W) (fun X hX => tr_root (q1.below (below_then hW hX))) (q3.stay hW) (by omega) (by omega) q3.nodup)
  rw [q5] at HND
  have HB7 := hide hc7
  clear hT7 hm3 hb7 hc7 hsame hsh q1 q2 q3 q4 q5 q6 q7 hfr HP3 HB6 HM1 HM2 HWAY
  go_wp2_with fail
  refine HFR.out.mono ?_
  rintro e w8 ⟨rfl, hb8⟩
  have HN8 := hide (HND.out w8 hb8)
  have HB8 := hide (below_then HB7.out hb8)
  clear hb8 HFR
  go_wp2_with fail
  refine HN8.out.mono ?_
  rintro e w9 ⟨rfl, hb9⟩
  have HF := hide (below_then HB8.out hb9)
  clear hb9
  go_wp2
  go_ret
  exact ⟨rfl, HF.out⟩
end Go.Proofs.Ytfoapkcgdkfggaa
set_option linter.unusedSimpArgs false
set_option linter.unusedVariables false
namespace Go.Proofs.Ytfoapkcgdkfggaa
open Go.RowKit
/-- An answer: an entry, or none. -/
def EntIs (w' : World) (k : Nat) (o : Option Ent) (r : ER) (ok : Bool) : Prop := r.okT w' ∧ ((ok = true ∧ r.n = k ∧ o = some r.e) ∨ (ok = false ∧ r = ⟨none, 0, 0, [], 0⟩ ∧ o = none))
theorem EntIs.keep {w w' : World} {k : Nat} {o : Option Ent} {r : ER} {ok : Bool} (h : EntIs w k o r ok) (hk : Keep 36 w w') : EntIs w' k o r ok := ⟨h.1.keep hk, h.2⟩
theorem EntIs.below {w w' : World} {k : Nat} {o : Option Ent} {r : ER} {ok : Bool} (h : EntIs w k o r ok) (hb : Below w.heap.size w w') : EntIs w' k o r ok := h.keep (Keep.below hb)
end Go.Proofs.Ytfoapkcgdkfggaa
set_option linter.unusedSimpArgs false
set_option linter.unusedVariables false
namespace Go.Proofs.Ytfoapkcgdkfggaa
open Go.RowKit
theorem nd_kid_at {w : World} {k g m : Nat} {pre : List Nat} {ks : List Kid} (h : Fork w k g m pre ks) (a : Nat) :
    Calls Try.prog 35 #[.pointer (some ⟨g, 0, none⟩), .int .i64 (a : Int)] w fun e w' => e = .returned (ptrOf (kidAt ks a)) ∧ Below w.heap.size w w' := by
  obtain ⟨A', c', gs', hp', hS', hB'⟩ := h.head
  have h9 := nd_kid hB' hS' (a : Int)
  rw [kid_ptr h] at h9
  exact h9
end Go.Proofs.Ytfoapkcgdkfggaa
set_option linter.unusedSimpArgs false
set_option linter.unusedVariables false
namespace Go.Proofs.Ytfoapkcgdkfggaa
open Go.RowKit
theorem kid_short {w : World} {k g m : Nat} {pre : List Nat} {ks : List Kid} (hF : Fork w k g m pre ks) {q : Kid} (hq : q ∈ ks) : q.es.length < (kidEs ks).length := by
  have hne : ∀ q ∈ ks, q.es ≠ [] := fun q hq => ((hF.kid q hq).1).info.2.1
  obtain ⟨l1, l2, hll⟩ := List.append_of_mem hq
  have hh2 := hF.two
  have h1 := kid_count l1 (fun q hq => hne q (by rw [hll]; simp [hq]))
  have h2 := kid_count l2 (fun q hq => hne q (by rw [hll]; simp [hq]))
  have hsz : (kidEs ks).length = (kidEs l1).length + (q.es.length + (kidEs l2).length) := by
    rw [hll]
    unfold kidEs
    rw [List.flatMap_append, List.flatMap_cons]
    simp only [List.length_append]
  rw [hll] at hh2
  simp only [List.length_append, List.length_cons] at hh2
  omega
theorem flat_lens {α β : Type} {f : Kid → List α} {h : List Ent → List β} : ∀ (ks : List Kid), (∀ q ∈ ks, (h q.es).length = (f q).length) → ((ks.map (·.es)).flatMap h).length = (ks.flatMap f).length
  | [], _ => rfl
  | q :: ks, H => by
    simp only [List.map_cons, List.flatMap_cons, List.length_append]
    rw [H q (List.mem_cons_self ..), flat_lens ks fun r hr => H r (List.mem_cons_of_mem _ hr)]
/-- As many nodes as shapes. -/
theorem bel_lvs {w : World} {k g d : Nat} {L : List Nat} {es : List Ent} (h : Bel w k g L d es) : ∀ n, es.length ≤ n → (lvsN n es).length = L.length := by
  induction h with
  | leaf hv hc hp hB =>
    intro n hn
    obtain ⟨n, rfl⟩ : ∃ n', n = n' + 1 := ⟨n - 1, by simp at hn; omega⟩
    rfl
  | @fork g m pre ks f d hF hk ih =>
    intro n hn
    have hne : ∀ q ∈ ks, q.es ≠ [] := fun q hq => ((hF.kid q hq).1).info.2.1
    have hge2 : 2 ≤ (kidEs ks).length := Nat.le_trans hF.two (kid_count ks hne)
    obtain ⟨n, rfl⟩ : ∃ n', n = n' + 1 := ⟨n - 1, by omega⟩
    obtain ⟨e, e', l, hel⟩ : ∃ e e' l, kidEs ks = e :: e' :: l := by
      match hh : kidEs ks, hge2 with
      | [], h => simp at h
      | [_], h => simp at h
      | e :: e' :: l, _ => exact ⟨e, e', l, rfl⟩
    have hfk : FK k ⟨g, m, pre, ks⟩ := Fork.fk (f := ⟨g, m, pre, ks⟩) hF
    obtain ⟨r1, r2⟩ := hfk.runs hne
    simp only at r1 r2
    have hpt := r1 e e' l hel
    rw [hel]
    unfold lvsN
    simp only
    rw [hpt, Int.toNat_natCast, ← hel, r2, List.length_cons, List.length_cons]
    congr 1
    refine flat_lens ks fun q hq => ih q hq n ?_
    have := kid_short hF hq
    omega
/-- The reference's depth of a list. -/
def RefDp (k : Nat) (es : List Ent) (d : Nat) : Prop := ∀ (W : World) (B : Option Addr) (n m : Nat) (rows : List ER), EntsAt W B n rows → n ≤ m → n ≤ 65536 → (∀ r ∈ rows, r.n = k) → ents rows = es →
  Calls Try.prog 22 #[.slice B n m] W fun e w' => e = .returned (.int .i64 (d : Int)) ∧ Below W.heap.size W w'
set_option maxHeartbeats 4000000 in
set_option maxRecDepth 100000 in
theorem refdp_short (W : World) (B : Option Addr) (n m : Nat) (hn : n < 2) : Calls Try.prog 22 #[.slice B n m] W fun e w' => e = .returned (.int .i64 (n : Int)) ∧ Below W.heap.size W w' := by
  have e1 : decide ((n : Int) < 2) = true := by simp; omega
  have e2 : decide (n < 2) = true := by simp; omega
  clear hn
  go_enter Try.func22, Try.ntmps22
  go_wp2
  go_ret
  exact ⟨rfl, Below.refl _ _⟩
theorem ents_len {W : World} {B : Option Addr} {n : Nat} {rows : List ER} {es : List Ent} (hE : EntsAt W B n rows) (h : ents rows = es) : es.length = n := by
  rw [← h]
  unfold ents
  rw [List.length_map]
  exact hE.len
theorem refdp_nil (k : Nat) : RefDp k [] 0 := by
  intro W B n m rows hE hnm hn hk he
  have hl := ents_len hE he
  simp at hl
  subst hl
  exact refdp_short W B 0 m (by omega)
theorem refdp_leaf (k : Nat) (e : Ent) : RefDp k [e] 1 := by
  intro W B n m rows hE hnm hn hk he
  have hl := ents_len hE he
  simp at hl
  subst hl
  exact refdp_short W B 1 m (by omega)
set_option maxHeartbeats 8000000 in
set_option maxRecDepth 100000 in
theorem refdp_fork {w : World} {k g lv : Nat} {pre : List Nat} {ks : List Kid} (hF : Fork w k g lv pre ks) (hk1 : 1 ≤ k) (hk : k ≤ 16) (dd : Kid → Nat) (hd : ∀ q ∈ ks, dd q ≤ 100000) (ih : ∀ q ∈ ks, RefDp k q.es (dd q)) : RefDp k (kidEs ks) (maxN (ks.map dd) + 1) := by
  intro W B n m rows hE hnm hn hkk he
  obtain ⟨G, rfl, hG⟩ := forkG hF he
  obtain ⟨r0, s0, hr0, hs0, hpart, hcut, hn2⟩ := hG.part_ hF hE hkk
  have hlv : lv < 64 := by obtain ⟨_, _, _, h1, _⟩ := hF; exact h1
  have hLv : ∀ X, Below W.heap.size W X → Calls Try.prog 55 #[.slice B n m] X fun e w' => e = .returned (.int .i64 (lv : Nat)) ∧ Below X.heap.size X w' := fun X hX => by
    have := ref_level B n m k G.flatten r0 s0 X (hE.below hX) hr0 hs0 (hkk r0 (List.mem_of_getElem? hr0)) (hkk s0 (List.mem_of_getElem? hs0)) (by omega) (by omega) (by omega)
    rwa [hpart] at this
  have HKI := hide (ref_kids B n m k lv G W hE hnm hkk (by omega) hn (by omega) hlv hG.parts hLv)
  have hgl : G.length ≤ 65536 := by
    rw [hG.len]
    have h1 := kid_count ks (fun q hq => ((hF.kid q hq).1).info.2.1)
    have h2 := ents_len hE he
    omega
  have HE := hide hE
  have HG := hide hG
  have HKK := hide hkk
  have HIH := hide ih
  have HDD := hide hd
  have HNM := hide hnm
  have HN := hide hn
  have e1 : decide ((n : Int) < 2) = false := by simp; omega
  have e2 : decide (n < 2) = false := by simp; omega
  obtain ⟨gl, hgle⟩ : ∃ gl, gl = G.length := ⟨_, rfl⟩
  have HGE := hide (And.intro hgle hG.len)
  rw [← hgle] at HKI hgl
  clear hF hE hkk hG ih hd hr0 hs0 hpart hcut hLv hnm hgle he
  go_enter Try.func22, Try.ntmps22
  go_wp2_with fail
  refine HKI.out.mono ?_
  rintro e w1 ⟨C, f, rfl, hoC, hb1⟩
  have HOC := hide hoC
  have HB1 := hide hb1
  clear hoC hb1 HKI
  go_wp2
  go_loopw [4, 5] (fun x4 x5 wr => ∃ (j dm : Nat), x4 = .int .i64 (dm : Int) ∧ x5 = .int .i64 (j : Int) ∧ j ≤ gl ∧ dm = maxN ((ks.take j).map dd) ∧ wr.ownsRow W.heap.size 40 1 (.slice C gl f) gl (segvs B m G gl) ∧ Below W.heap.size W wr) (fun _ x _ => gl - (intOf x).toNat)
  case atStart => exact ⟨0, 0, rfl, rfl, Nat.zero_le _, rfl, HOC.out, HB1.out⟩
  case round =>
    obtain ⟨j, dm, rfl, rfl, hj, hdm, hOC, hb⟩ := hrel
    rename World => wz
    have HOz := hide hOC
    have HBz := hide hb
    have HDM := hide hdm
    have hdb : dm ≤ 100000 := by
      rw [hdm]
      refine maxN_le fun x hx => ?_
      obtain ⟨q, hq, rfl⟩ := List.mem_map.1 hx
      exact HDD.out q (List.mem_of_mem_take hq)
    clear hdm HOC HB1
    by_cases hjn : j < gl
    · obtain ⟨gg, hg⟩ : ∃ gg, G[j]? = some gg := ⟨G[j]'(by have := HGE.out.1; omega), List.getElem?_eq_getElem _⟩
      obtain ⟨q, hq⟩ : ∃ q, ks[j]? = some q := ⟨ks[j]'(by have := HGE.out.1; have := HGE.out.2; omega), List.getElem?_eq_getElem _⟩
      obtain ⟨s1, s2, s3⟩ := (HE.out.below hb).seg HNM.out hg
      obtain ⟨b5, o5, hCe, hbl5, u, hu, k5⟩ := (own_rw hOC).2.one hjn
      subst hCe
      have hu2 : u = .slice (cutA B m 2 (fl G j)) gg.length (m - fl G j) := by
        unfold segvs at hu
        rw [List.getElem?_map, List.getElem?_range hjn] at hu
        simp at hu
        rw [← hu, s1]
      rw [hu2] at k5
      have hge := HG.out.es j gg q hg hq
      have hgn : gg.length ≤ 65536 := by
        have := fl_le hg
        rw [HE.out.len] at this
        have := HN.out
        omega
      have HI := hide (HIH.out q (List.mem_of_getElem? hq) wz (cutA B m 2 (fl G j)) gg.length (m - fl G j) gg s2 s3 hgn (fun r hr => HKK.out r (List.mem_flatten.2 ⟨gg, List.mem_of_getElem? hg, hr⟩)) hge)
      have hdq := HDD.out q (List.mem_of_getElem? hq)
      obtain ⟨dq, hdqe⟩ : ∃ dq, dd q = dq := ⟨_, rfl⟩
      rw [hdqe] at HI hdq
      have HQ := hide (And.intro hq hdqe)
      generalize cutA B m 2 (fl G j) = CA at *
      generalize m - fl G j = CC at *
      generalize gg.length = CN at *
      have i0 : (0 : Int) ≤ (j : Int) := by omega
      have i2 : (j : Int) < (gl : Int) := by omega
      clear hOC hb hu hu2 s1 s2 s3 hge hg hq hdqe hgn
      go_wp2_with fail
      refine HI.out.mono ?_
      rintro e w5 ⟨rfl, hb5⟩
      have HO5 := hide (own_below HOz.out hb5)
      have HB5 := hide (below_then HBz.out hb5)
      clear hb5 HI
      by_cases hlt : dm < dq
      · have e3 : decide ((dm : Int) < (dq : Int)) = true := by simp; omega
        have e4 : decide (dm < dq) = true := by simp; omega
        have HLT := hide hlt
        clear hlt
        go_wp2
        go_roundw
        case rel =>
          refine ⟨j + 1, dq, rfl, by go_num, by omega, ?_, HO5.out, HB5.out⟩
          rw [map_take' HQ.out.1, maxN_snoc, HQ.out.2, ← HDM.out]
          have := HLT.out
          simp only [Nat.max_def]
          split <;> omega
        case measure => simp [intOf]; omega
      · have e3 : decide ((dm : Int) < (dq : Int)) = false := by simp; omega
        have e4 : decide (dm < dq) = false := by simp; omega
        have HLT := hide hlt
        clear hlt
        go_wp2
        go_roundw
        case rel =>
          refine ⟨j + 1, dm, rfl, by go_num, by omega, ?_, HO5.out, HB5.out⟩
          rw [map_take' HQ.out.1, maxN_snoc, HQ.out.2, ← HDM.out]
          have := HLT.out
          simp only [Nat.max_def]
          split <;> omega
        case measure => simp [intOf]; omega
    · have e3 : decide ((j : Int) < (gl : Int)) = false := by simp; omega
      have e4 : decide (j < gl) = false := by simp; omega
      have i1 : IntKind.i64.wrap ((dm : Int) + 1) = (dm : Int) + 1 := by rw [IntKind.wrap_i64]; omega
      have HF := hide (show (Ending.returned (.int .i64 ((dm : Int) + 1)) = .returned (.int .i64 ((maxN (ks.map dd) + 1 : Nat) : Int))) ∧ Below W.heap.size W wz from by
        have h1 := HDM.out
        rw [List.take_of_length_le (by have := HGE.out.1; have := HGE.out.2; omega)] at h1
        rw [← h1]
        exact ⟨rfl, HBz.out⟩)
      clear hOC hb hjn
      go_wp2
      go_ret
      exact HF.out
theorem bel_depth {w : World} {k g d : Nat} {L : List Nat} {es : List Ent} (h : Bel w k g L d es) (hk1 : 1 ≤ k) (hk : k ≤ 16) (hL : L.length ≤ 100000) : RefDp k es d := by
  induction h with
  | leaf hv hc hp hB => exact refdp_leaf k _
  | fork f d hF hb ih =>
    simp only [List.length_cons] at hL
    exact refdp_fork hF hk1 hk d (fun q hq => by
      have h1 := (hb q hq).deep
      have h2 := mem_flat_le f hq
      omega) fun q hq => ih q hq (by have := mem_flat_le f hq; omega)
theorem shape_fld2 (x0 x1 x2 x3 x4 : Value) (w : World) : (Instr.field 75 (.agg #[x0, x1, x2, x3, x4]) 2).run Try.prog w = .ok x2 w := by kernel_rfl
theorem ptrs_one' (gs : List Nat) : ∀ u ∈ ptrs gs, u.oneCell' = true := by
  intro u hu
  simp only [ptrs, List.mem_map] at hu
  obtain ⟨x, _, rfl⟩ := hu
  rfl
theorem ptrs_app (a b : List Nat) : ptrs a ++ ptrs b = ptrs (a ++ b) := by simp [ptrs]
/-- The nodes from a node on, as the law lists them. -/
def ListOut (w : World) (L : List Nat) (e : Ending) (w' : World) : Prop := ∃ (A : Option Addr) (n c : Nat), e = .returned (.slice A n c) ∧ n = L.length ∧ w'.ownsRow w.heap.size 51 1 (.slice A n c) n (ptrs L) ∧ Below w.heap.size w w'
set_option maxHeartbeats 4000000 in
set_option maxRecDepth 100000 in
theorem below17_nil (w : World) : Calls Try.prog 18 #[.pointer none] w (ListOut w []) := by
  have HF := hide (show ListOut w [] (.returned (.slice none 0 0)) w from ⟨none, 0, 0, rfl, rfl, World.ownsRow_nil _ _ _ _, Below.refl _ _⟩)
  go_enter Try.func18, Try.ntmps18
  go_wp2
  go_ret
  exact HF.out
theorem own_one (w : World) (base g : Nat) (hb : base ≤ w.heap.size) : (w.alloc (.cells #[.pointer (some ⟨g, 0, none⟩)] 51)).ownsRow base 51 1 (.slice (some ⟨w.heap.size, 0, none⟩) 1 1) 1 (ptrs [g]) :=
  ⟨by simp [ptrs], .inr ⟨w.heap.size, 1, _, rfl, hb, heap_alloc_new w _, Nat.le_refl _, by unfold maxLen; omega, by simp, by simp [ptrs]⟩⟩
set_option maxHeartbeats 4000000 in
set_option maxRecDepth 100000 in
theorem below17_leaf {w : World} {k g c v : Nat} {A : Option Addr} {p : List Nat} (hk : k ≤ 16) (hp : Pt w A k p) (hB : Blk w g 103 (nodeCells (-1) A k c v none ⟨1, v, v, v⟩)) : Calls Try.prog 18 #[.pointer (some ⟨g, 0, none⟩)] w (ListOut w [g]) := by
  have hal := (Below.refl w.heap.size w).alloc (Nat.le_refl _) (.cells #[.pointer (some ⟨g, 0, none⟩)] 51)
  have HS := hide (nd_shape_leaf (hB.below hal) (hp.below hal) hk)
  have HO := hide (own_one w w.heap.size g (Nat.le_refl _))
  have HB := hide hal
  clear hp hB hal
  go_enter Try.func18, Try.ntmps18
  go_wp2_with fail
  refine HS.out.mono ?_
  rintro e w2 ⟨B2, d2, rfl, -, hb2⟩
  have hfld := shape_fld2 (.int .i64 (-1)) (.slice B2 k d2) (.slice none 0 0) (.bool false) (.int .u64 (v : Int))
  have HO2 := hide (own_below HO.out hb2)
  have HB2 := hide (below_then HB.out hb2)
  clear hb2 HS
  go_wp2
  go_loopw [3, 5] (fun x3 x5 wr => x3 = .slice (some ⟨w.heap.size, 0, none⟩) 1 1 ∧ x5 = .int .i64 0 ∧ wr.ownsRow w.heap.size 51 1 (.slice (some ⟨w.heap.size, 0, none⟩) 1 1) 1 (ptrs [g]) ∧ Below w.heap.size w wr) (fun _ _ _ => 0)
  case atStart => exact ⟨rfl, rfl, HO2.out, HB2.out⟩
  case round =>
    obtain ⟨rfl, rfl, hO, hb⟩ := hrel
    have HF := hide (show ListOut w [g] (.returned (.slice (some ⟨w.heap.size, 0, none⟩) 1 1)) _ from ⟨_, 1, 1, rfl, rfl, hO, hb⟩)
    clear hO hb
    go_wp2
    go_ret
    exact HF.out
set_option maxHeartbeats 8000000 in
set_option maxRecDepth 100000 in
theorem below17_fork {w : World} {k g m : Nat} {pre : List Nat} {ks : List Kid} (f : Kid → List Nat) (hF : Fork w k g m pre ks) (hk : k ≤ 16) (hL : (ks.flatMap f).length ≤ 200000) (ih : ∀ q ∈ ks, ∀ W, Below w.heap.size w W → Calls Try.prog 18 #[.pointer (some ⟨q.blk, 0, none⟩)] W (ListOut W (f q))) :
    Calls Try.prog 18 #[.pointer (some ⟨g, 0, none⟩)] w (ListOut w (g :: ks.flatMap f)) := by
  have hal := (Below.refl w.heap.size w).alloc (Nat.le_refl _) (.cells #[.pointer (some ⟨g, 0, none⟩)] 51)
  obtain ⟨A, c, gs, hp, hS, hB⟩ := hF.head
  have HS := hide (nd_shape_fork_t (hB.below hal) (hp.below hal) hk (hS.below hal))
  have HO := hide (own_one w w.heap.size g (Nat.le_refl _))
  have HB := hide hal
  have HF := hide hF
  have HIH := hide ih
  have HL := hide hL
  have hkl : ks.length ≤ 65536 := by
    have h1 := len_le_of_ok hS.ok
    have h2 := pow16 hS.2.1
    simp [kidTh] at h1
    omega
  obtain ⟨kl, hkle⟩ : ∃ kl, kl = ks.length := ⟨_, rfl⟩
  rw [← hkle] at HS hkl
  have HKL := hide hkle
  clear hp hB hal hS hF ih hL hkle
  go_enter Try.func18, Try.ntmps18
  go_wp2_with fail
  refine HS.out.mono ?_
  rintro e w2 ⟨B2, d2, C2, f2, rfl, -, hRC, hb2, -, hTC⟩
  have hfld := shape_fld2 (.int .i64 (m : Int)) (.slice B2 k d2) (.slice C2 kl f2) (.bool (denseB k kl)) (.int .u64 0)
  have HO2 := hide (own_below HO.out hb2)
  have HB2 := hide (below_then HB.out hb2)
  have HRC := hide (And.intro hRC hTC)
  clear hb2 HS hRC hTC
  go_wp2
  go_loopw [3, 5] (fun x3 x5 wr => ∃ (j n c : Nat) (A : Option Addr), x3 = .slice A n c ∧ x5 = .int .i64 (j : Int) ∧ j ≤ kl ∧ n = (g :: (ks.take j).flatMap f).length ∧ wr.ownsRow w.heap.size 51 1 (.slice A n c) n (ptrs (g :: (ks.take j).flatMap f)) ∧ Below w.heap.size w wr ∧ Rw wr 1 C2 kl (ks.map fun q => .int .i64 (q.at_ : Int)) ∧ TyRow wr 3 C2 kl) (fun _ x _ => kl - (intOf x).toNat)
  case atStart => exact ⟨0, 1, 1, _, rfl, rfl, Nat.zero_le _, rfl, HO2.out, HB2.out, HRC.out.1, HRC.out.2⟩
  case round =>
    obtain ⟨j, n, c, A, rfl, rfl, hj, hn, hO, hb, hrc, htc⟩ := hrel
    rename World => wz
    have HOz := hide hO
    have HBz := hide hb
    have HRz := hide (And.intro hrc htc)
    have HNN := hide hn
    have hnb : n ≤ 200001 := by
      rw [hn, List.length_cons]
      have h1 := flat_take_le (ks := ks) f j
      have h2 := HL.out
      omega
    clear hO hb hrc htc hn HO2 HB2 HRC
    by_cases hjn : j < kl
    · obtain ⟨q, hq⟩ : ∃ q, ks[j]? = some q := ⟨ks[j]'(by have := HKL.out; omega), List.getElem?_eq_getElem _⟩
      have hrow := HRz.out.1
      obtain ⟨cb, co, rfl, hcl, u, hu, k5⟩ := hrow.one hjn
      obtain rfl : u = .int .i64 (q.at_ : Int) := by
        rw [List.getElem?_map, hq] at hu
        simpa using hu.symm
      have HKD := hide (nd_kid_at (HF.out.stay HBz.out) q.at_)
      rw [kidAt_of HF.out.sorted hq] at HKD
      have HQ := hide hq
      have i0 : (0 : Int) ≤ (j : Int) := by omega
      have i2 : (j : Int) < (kl : Int) := by omega
      clear hrow hu hq
      go_wp2_with fail
      refine HKD.out.mono ?_
      rintro e w5 ⟨rfl, hb5⟩
      have HI := hide (HIH.out q (List.mem_of_getElem? HQ.out) w5 (below_then HBz.out hb5))
      have HO5 := hide (own_below HOz.out hb5)
      have HB5 := hide (below_then HBz.out hb5)
      have HR5 := hide (And.intro (HRz.out.1.below hb5) (HRz.out.2.below hb5))
      clear hb5 HKD
      change Hid (Calls _ _ #[.pointer (some ⟨q.blk, 0, none⟩)] _ _) at HI
      simp only [ptrOf, Option.map_some]
      go_wp2_with fail
      refine HI.out.mono ?_
      rintro e w6 ⟨A6, n6, c6, rfl, hn6, hO6, hb6⟩
      have hfb : n6 ≤ 200000 := by
        rw [hn6]
        have h1 := mem_flat_le f (List.mem_of_getElem? HQ.out)
        have h2 := HL.out
        omega
      have HO56 := hide (own_below HO5.out hb6)
      have HR6 := hide (own_rw hO6).2
      have HB6 := hide (below_then HB5.out hb6)
      have HR56 := hide (And.intro (HR5.out.1.below hb6) (HR5.out.2.below hb6))
      have HN6 := hide hn6
      clear hO6 hb6 HI hn6
      go_wp2_with (at_builtin
                   refine app_b _ rfl (.tmp 19) (.tmp 26) _ rfl w.heap.size 51 _ 1 8 Try.underlying44 info_n rfl (by omega) _ n _ rfl HO56.out A6 n6 c6 (ptrs (f q)) rfl w HB6.out (Nat.le_refl _) HR6.out (ptrs_one' _) (by unfold maxLen; omega) (by omega) ?_
                   intro v7 w7 ho7 hb7 hg7
                   obtain ⟨A7, c7, rfl, -, -⟩ := Rw.of_own ho7
                   have HO7 := hide ho7
                   have HB7 := hide hb7
                   have hkp := Keep.grown (t := 3) HO56.out (by decide) hg7
                   have HR7 := hide (And.intro (HR56.out.1.keep HR56.out.2 hkp) (HR56.out.2.keep hkp))
                   clear ho7 hb7 hg7 hkp)
      go_roundw
      case rel =>
        refine ⟨j + 1, n + n6, c7, A7, rfl, by go_num, by omega, ?_, ?_, HB7.out, HR7.out.1, HR7.out.2⟩
        · rw [flat_takeK HQ.out, HNN.out, HN6.out]
          simp only [List.length_cons, List.length_append]
          omega
        · have := HO7.out
          rw [ptrs_app] at this
          rw [flat_takeK HQ.out]
          exact this
      case measure => simp [intOf]; omega
    · have e3 : decide ((j : Int) < (kl : Int)) = false := by simp; omega
      have e4 : decide (j < kl) = false := by simp; omega
      have HFI := hide (show ListOut w (g :: ks.flatMap f) (.returned (.slice A n c)) wz from by
        have h1 := HNN.out
        have h2 := HOz.out
        rw [List.take_of_length_le (by have := HKL.out; omega)] at h1 h2
        exact ⟨A, n, c, rfl, h1, h2, HBz.out⟩)
      clear hjn
      go_wp2
      go_ret
      exact HFI.out
end Go.Proofs.Ytfoapkcgdkfggaa
set_option linter.unusedSimpArgs false
set_option linter.unusedVariables false
namespace Go.Proofs.Ytfoapkcgdkfggaa
open Go.RowKit
set_option maxHeartbeats 8000000 in
set_option maxRecDepth 100000 in
theorem two12 {w : World} {k n c m d : Nat} {A B : Option Addr} {acts acts2 : List TA} (hk1 : 1 ≤ k) (hk : k ≤ 16) (hE : ActsAt w A n acts) (hE2 : ActsAt w B m acts2) (hn : n ≤ 100) (hm : m ≤ 100) :
    Calls Try.prog 17 #[.int .i64 (k : Int), .slice A n c, .slice B m d] w fun e w' => ∃ (t u : Nat) (A1 A2 : Option Addr) (n1 c1 n2 c2 : Nat), e = .returned (.tuple #[.pointer (some ⟨t, 0, none⟩), .pointer (some ⟨u, 0, none⟩), .slice A1 n1 c1, .slice A2 n2 c2, .bool true]) ∧ Now w' k t A1 n1 c1 ∧ Now w' k u A2 n2 c2 ∧ n1 ≤ n ∧ n2 ≤ n + m ∧ Below w.heap.size w w' := by
  have HG := hide (grown7 (c := c) hk1 hk hE hn)
  have HE := hide hE2
  clear hE hE2
  go_enter Try.func17, Try.ntmps17
  go_wp2_with fail
  refine HG.out.mono ?_
  rintro e w1 ⟨t, A1, n1, c1, rfl, hN1, hn1, hb1⟩
  have HN1 := hide hN1
  have HB1 := hide hb1
  clear hN1 hb1 HG
  go_wp2
  go_loopw [13, 14, 15, 16] (fun x13 x14 x15 x16 wr => ∃ (j u : Nat) (A2 : Option Addr) (n2 c2 : Nat), x13 = .bool true ∧ x14 = .pointer (some ⟨u, 0, none⟩) ∧ x15 = .slice A2 n2 c2 ∧ x16 = .int .i64 (j : Int) ∧ j ≤ m ∧ n2 ≤ n + j ∧ Now wr k t A1 n1 c1 ∧ Now wr k u A2 n2 c2 ∧ Below w.heap.size w wr) (fun _ _ _ x _ => m - (intOf x).toNat)
  case atStart => exact ⟨0, t, A1, n1, c1, rfl, rfl, rfl, rfl, Nat.zero_le _, by omega, HN1.out, HN1.out, HB1.out⟩
  case round =>
    obtain ⟨j, u, A2, n2, c2, rfl, rfl, rfl, rfl, hj, hnj, hNt, hNu, hb⟩ := hrel
    have HNt := hide hNt
    have HNu := hide hNu
    have HBr := hide hb
    rename World => wz
    by_cases hjn : j < m
    · obtain ⟨b, o, r, rfl, hbl, hr, hok, k0, k1, k2⟩ := (HE.out.below hb).at_ hjn
      have HD := hide (done7 hNu (by omega) hok)
      clear hNt hNu hb hr hok
      go_wp2_with fail
      refine HD.out.mono ?_
      rintro e w5 ⟨t', A5, n5, c5, rfl, hN5, hn5, hb5⟩
      have HH := hide (And.intro (HNt.out.stay hb5) (And.intro hN5 (below_then HBr.out hb5)))
      clear hN5 hb5 HD k0 k1 k2
      go_wp2
      go_roundw
      case rel => exact ⟨j + 1, t', A5, n5, c5, rfl, rfl, rfl, by go_num, by omega, by omega, HH.out.1, HH.out.2.1, HH.out.2.2⟩
      case measure => simp [intOf]; omega
    · have e9 : decide ((j : Int) < (m : Int)) = false := by simp; omega
      clear hNt hNu hb
      go_wp2
      (try simp only [Exit.inBlock, Exit.then])
      refine bodyPost_ret (v := .tuple #[.pointer (some ⟨t, 0, none⟩), .pointer (some ⟨u, 0, none⟩), .slice A1 n1 c1, .slice A2 n2 c2, .bool true]) (by simp [results, Try.results17]) rfl ?_
      exact ⟨t, u, A1, A2, n1, c1, n2, c2, rfl, HNt.out, HNu.out, hn1, by omega, HBr.out⟩
end Go.Proofs.Ytfoapkcgdkfggaa
set_option linter.unusedSimpArgs false
set_option linter.unusedVariables false
namespace Go.Proofs.Ytfoapkcgdkfggaa
open Go.RowKit
theorem below17_ok {w0 : World} {k g d : Nat} {L : List Nat} {es : List Ent} (h : Bel w0 k g L d es) (hk : k ≤ 16) (hL : L.length ≤ 200000) : ∀ W, Below w0.heap.size w0 W → Calls Try.prog 18 #[.pointer (some ⟨g, 0, none⟩)] W (ListOut W L) := by
  induction h with
  | leaf hv hc hp hB => exact fun W hW => below17_leaf hk (hp.below hW) (hB.below hW)
  | fork f d hF hb ih =>
    intro W hW
    simp only [List.length_cons] at hL
    exact below17_fork f (hF.stay hW) hk (by omega) fun q hq X hX => ih q hq (by have := mem_flat_le f hq; omega) X (below_then hW hX)
theorem below17_t {w0 : World} {k d : Nat} {root : Option Addr} {L : List Nat} {es : List Ent} (h : TBel w0 k root L d es) (hk : k ≤ 16) (hL : L.length ≤ 200000) : ∀ W, Below w0.heap.size w0 W → Calls Try.prog 18 #[.pointer root] W (ListOut W L) := by
  rcases h with ⟨rfl, rfl, -, -⟩ | ⟨g, rfl, h⟩
  · exact fun W _ => below17_nil W
  · exact below17_ok h hk hL
theorem count_one {x : Nat} : ∀ {L : List Nat}, L.Nodup → (L.filter (fun y => decide (y = x))).length = if x ∈ L then 1 else 0
  | [], _ => rfl
  | y :: L, h => by
    obtain ⟨h1, h2⟩ := List.nodup_cons.1 h
    have ih := count_one (x := x) h2
    by_cases hy : y = x
    · subst hy
      rw [List.filter_cons_of_pos (by simp), List.length_cons, ih, if_neg h1, if_pos (List.mem_cons_self ..)]
    · rw [List.filter_cons_of_neg (by simpa using hy), ih]
      have : x ∈ y :: L ↔ x ∈ L := by
        rw [List.mem_cons]
        exact ⟨fun h => h.resolve_left (fun h => hy h.symm), .inr⟩
      simp only [this]
def eqN (L : List Nat) (x : Nat) : Nat := (L.filter (fun y => decide (y = x))).length
theorem eqN_take {L : List Nat} {j y x : Nat} (h : L[j]? = some y) : eqN (L.take (j + 1)) x = eqN (L.take j) x + (if y = x then 1 else 0) := by
  unfold eqN
  rw [List.take_add_one, h, List.filter_append, List.length_append]
  congr 1
  by_cases hy : y = x <;> simp [hy]
theorem comN_take {A B : List Nat} {j x : Nat} (h : B[j]? = some x) : comN A (B.take (j + 1)) = comN A (B.take j) + (if x ∈ A then 1 else 0) := by
  unfold comN
  rw [List.take_add_one, h, List.filter_append, List.length_append]
  congr 1
  by_cases hx : x ∈ A <;> simp [hx]
theorem eqN_le (L : List Nat) (x : Nat) : eqN L x ≤ L.length := List.length_filter_le ..
theorem eq_nodeN {w : World} {a b : Nat} {ca cb : Array Value} (ha : Blk w a 103 ca) (hb : Blk w b 103 cb) : (binOp .eql 51 (.pointer (some ⟨a, 0, none⟩)) (.pointer (some ⟨b, 0, none⟩))).run Try.prog w = .ok (.bool (decide (a = b))) w := by
  by_cases hab : a = b
  · subst hab
    rw [decide_eq_true rfl]
    exact ptr_same _ _
  · rw [decide_eq_false hab]
    exact ptr_other hab ha hb
set_option maxHeartbeats 8000000 in
set_option maxRecDepth 100000 in
theorem both17 {w : World} {A B : Option Addr} {n m c d : Nat} {LA LB : List Nat} (hA : Rw w 1 A n (ptrs LA)) (hB : Rw w 1 B m (ptrs LB)) (hN : LA.Nodup) (hn : n ≤ 200000) (hm : m ≤ 200000) (hba : ∀ x ∈ LA, ∃ cs, Blk w x 103 cs) (hbb : ∀ x ∈ LB, ∃ cs, Blk w x 103 cs) :
    Calls Try.prog 20 #[.slice A n c, .slice B m d] w fun e w' => e = .returned (.int .i64 ((comN LA LB : Nat) : Int)) ∧ Below w.heap.size w w' := by
  have hla : LA.length = n := by have := hA.1; simp [ptrs] at this; omega
  have hlb : LB.length = m := by have := hB.1; simp [ptrs] at this; omega
  have HA := hide hA
  have HB := hide hB
  have HBL := hide (And.intro hba hbb)
  have HLN := hide (And.intro hla (And.intro hlb hN))
  clear hA hB hba hbb hla hlb hN
  go_enter Try.func20, Try.ntmps20
  go_wp2
  go_loopw [5, 6] (fun x5 x6 wr => ∃ (cnt i : Nat), x5 = .int .i64 (cnt : Int) ∧ x6 = .int .i64 (i : Int) ∧ i ≤ m ∧ cnt = comN LA (LB.take i) ∧ Below w.heap.size w wr) (fun _ x _ => m - (intOf x).toNat)
  case atStart => exact ⟨0, 0, rfl, rfl, Nat.zero_le _, rfl, Below.refl _ _⟩
  case round =>
    obtain ⟨cnt, i, rfl, rfl, hi, hcnt, hb⟩ := hrel
    rename World => wz
    have HBz := hide hb
    have HC := hide hcnt
    clear hb hcnt
    by_cases him : i < m
    · obtain ⟨x, hx⟩ : ∃ x, LB[i]? = some x := ⟨LB[i]'(by have := HLN.out.2.1; omega), List.getElem?_eq_getElem _⟩
      have HX := hide hx
      have hcb : cnt ≤ 200000 := by
        have h1 := comN_le LA (LB.take i)
        rw [List.length_take] at h1
        have h2 := HC.out
        omega
      clear hx
      go_wp2
      go_loopw [5, 7] (fun x5 x7 wr => ∃ (ct kk : Nat), x5 = .int .i64 (ct : Int) ∧ x7 = .int .i64 (kk : Int) ∧ kk ≤ n ∧ ct = cnt + eqN (LA.take kk) x ∧ Below w.heap.size w wr) (fun _ x _ => n - (intOf x).toNat)
      case atStart => exact ⟨cnt, 0, rfl, rfl, Nat.zero_le _, rfl, HBz.out⟩
      case round =>
        obtain ⟨ct, kk, rfl, rfl, hkk, hct, hb⟩ := hrel
        rename World => wy
        have HBy := hide hb
        have HCT := hide hct
        clear hb hct HBz
        by_cases hkn : kk < n
        · obtain ⟨y, hy⟩ : ∃ y, LA[kk]? = some y := ⟨LA[kk]'(by have := HLN.out.1; omega), List.getElem?_eq_getElem _⟩
          obtain ⟨ab, ao, rfl, hal, u, hu, k1⟩ := (HA.out.below HBy.out).one hkn
          obtain ⟨bb, bo, rfl, hbl, v, hv, k2⟩ := (HB.out.below HBy.out).one him
          obtain rfl : u = .pointer (some ⟨y, 0, none⟩) := by
            unfold ptrs at hu
            rw [List.getElem?_map, hy] at hu
            simpa using hu.symm
          obtain rfl : v = .pointer (some ⟨x, 0, none⟩) := by
            unfold ptrs at hv
            rw [List.getElem?_map, HX.out] at hv
            simpa using hv.symm
          obtain ⟨cy, hcy⟩ := HBL.out.1 y (List.mem_of_getElem? hy)
          obtain ⟨cx, hcx⟩ := HBL.out.2 x (List.mem_of_getElem? HX.out)
          have heq := fun N => eq_nodeN ((hcy.below HBy.out).drewN N) ((hcx.below HBy.out).drewN N)
          have HY := hide hy
          have hctb : ct ≤ 400000 := by
            have h1 := eqN_le (LA.take kk) x
            rw [List.length_take] at h1
            have h2 := HCT.out
            omega
          have i0 : (0 : Int) ≤ (kk : Int) := by omega
          have i1 : (kk : Int) < (n : Int) := by omega
          have i2 : (0 : Int) ≤ (i : Int) := by omega
          have i3 : (i : Int) < (m : Int) := by omega
          have i4 : IntKind.i64.wrap ((ct : Int) + 1) = (ct : Int) + 1 := by rw [IntKind.wrap_i64]; omega
          clear hu hv hcy hcx hy
          by_cases hyx : y = x
          · have HE := hide (eqN_take (x := x) HY.out)
            rw [if_pos hyx] at HE
            simp only [hyx, decide_true] at heq
            subst hyx
            go_wp2_with fail
            go_quiet (fail)
            rename Nat => nq
            have HB2 := hide (below_drewN HBy.out nq)
            go_wp2
            go_roundw
            case rel => exact ⟨ct + 1, kk + 1, by go_num, by go_num, by omega, by have := HE.out; have := HCT.out; omega, HB2.out⟩
            case measure => simp [intOf]; omega
          · have HE := hide (eqN_take (x := x) HY.out)
            rw [if_neg hyx] at HE
            simp only [hyx, decide_false] at heq
            have HNE := hide hyx
            clear hyx
            go_wp2_with fail
            go_quiet (fail)
            rename Nat => nq
            have HB2 := hide (below_drewN HBy.out nq)
            go_wp2
            go_roundw
            case rel => exact ⟨ct, kk + 1, rfl, by go_num, by omega, by have := HE.out; have := HCT.out; omega, HB2.out⟩
            case measure => simp [intOf]; omega
        · have e3 : decide ((kk : Int) < (n : Int)) = false := by simp; omega
          have e4 : decide (kk < n) = false := by simp; omega
          have HF := hide (show ct = comN LA (LB.take (i + 1)) from by
            have h1 := HCT.out
            rw [List.take_of_length_le (by have := HLN.out.1; omega)] at h1
            rw [comN_take HX.out, ← HC.out, h1]
            unfold eqN
            rw [count_one HLN.out.2.2])
          clear hkn
          go_wp2
          go_roundw
          case rel => exact ⟨ct, i + 1, rfl, by go_num, by omega, HF.out, HBy.out⟩
          case measure => simp [intOf]; omega
    · have e3 : decide ((i : Int) < (m : Int)) = false := by simp; omega
      have e4 : decide (i < m) = false := by simp; omega
      have HF := hide (show cnt = comN LA LB from by
        have h1 := HC.out
        rwa [List.take_of_length_le (by have := HLN.out.2.1; omega)] at h1)
      clear him
      go_wp2
      go_ret
      exact ⟨by rw [HF.out]; rfl, HBz.out⟩
theorem union_len {A B U : List Nat} (hA : A.Nodup) (hB : B.Nodup) (hU : U.Nodup) (h : ∀ x, x ∈ U ↔ x ∈ A ∨ x ∈ B) : U.length = A.length + (B.length - comN A B) := by
  have h1 := filter_two (fun x => decide (x ∈ A)) B
  have h2 : (A ++ B.filter (fun x => !decide (x ∈ A))).Nodup := by
    refine List.nodup_append.2 ⟨hA, hB.sublist List.filter_sublist, fun x hx y hy hxy => ?_⟩
    subst hxy
    have := (List.mem_filter.1 hy).2
    simp [hx] at this
  have h3 := perm_len hU h2 fun x => by
    rw [h, List.mem_append, List.mem_filter]
    by_cases hx : x ∈ A <;> simp [hx]
  rw [h3, List.length_append]
  unfold comN
  omega
theorem tr_shapes_law {w : World} {k t : Nat} {es : List Ent} (h : TreeOf w k t es) (hes : es.length ≤ 30000) : ∃ L, RefSh k es L ∧ ∀ n, es.length ≤ n → L.map (·.lv) = lvsN n es := by
  obtain ⟨h1, h2, ⟨-, rfl⟩ | ⟨g, lv, pre, -, hN⟩⟩ := h
  · refine ⟨[], refsh_nil k, fun n hn => ?_⟩
    cases n <;> rfl
  · obtain ⟨L, -, hL2, -, hL4⟩ := shapes_are hN h1 h2 (by omega)
    exact ⟨L, hL2, hL4⟩
theorem tbel_shapes {w : World} {k t d : Nat} {root : Option Addr} {L : List Nat} {es : List Ent} (hT : TreeOf w k t es) (h : TBel w k root L d es) (hes : es.length ≤ 30000) : ∃ L', RefSh k es L' ∧ L'.length = L.length := by
  obtain ⟨L', h2, h3⟩ := tr_shapes_law hT hes
  refine ⟨L', h2, ?_⟩
  have h4 := congrArg List.length (h3 es.length (Nat.le_refl _))
  rw [List.length_map] at h4
  rw [h4]
  rcases h with ⟨-, rfl, -, rfl⟩ | ⟨g, -, hB⟩
  · rfl
  · exact bel_lvs hB _ (Nat.le_refl _)
theorem tbel_depth {w : World} {k d : Nat} {root : Option Addr} {L : List Nat} {es : List Ent} (h : TBel w k root L d es) (hk1 : 1 ≤ k) (hk : k ≤ 16) (hL : L.length ≤ 100000) : RefDp k es d := by
  rcases h with ⟨-, -, rfl, rfl⟩ | ⟨g, -, hB⟩
  · exact refdp_nil k
  · exact bel_depth hB hk1 hk hL
theorem shapes_n {w0 w w' : World} {L : List SC} {e : Ending} (h : ShapesOut w0.heap.size w L e w') : ∃ (A : Option Addr) (n d : Nat), e = .returned (.slice A n d) ∧ n = L.length ∧ Below w.heap.size w w' := by
  obtain ⟨A, d, srs, h1, -, -, h4, h5⟩ := h
  exact ⟨A, _, d, h1, by rw [← h4, List.length_map], h5⟩
set_option maxHeartbeats 8000000 in
set_option maxRecDepth 100000 in
theorem share_counts (w : World) (k0 : Int) (_ : (Lit.int .i64 k0).wf = true) (AL : Option Addr) (nl cl : Nat) (al : List TA) (hl : ActsAt w AL nl al ∧ nl ≤ cl ∧ cl ≤ maxLen) (AM : Option Addr) (nm cm : Nat) (am : List TA) (hm : ActsAt w AM nm am ∧ nm ≤ cm ∧ cm ≤ maxLen) :
    Calls Try.prog 5 #[.int .i64 k0, .slice AL nl cl, .slice AM nm cm] w fun e w' => e = .returned (.bool true) ∧ Below w.heap.size w w' := by
  have HEL := hide hl.1
  have HEM := hide hm.1
  clear hl hm
  go_enter Try.func5, Try.ntmps5
  go_wp2_with fail
  refine (awake17 w).mono ?_
  rintro e w1 ⟨rfl, hb1⟩
  have HB1 := hide hb1
  clear hb1
  have HHa := hide (heavy7 AL nl cl 40 al _ (HEL.out.below HB1.out) (by omega))
  simp only [Int.cast_ofNat_Int] at HHa
  go_wp2_with fail
  refine HHa.out.mono ?_
  rintro e wha ⟨rfl | ⟨rfl, hna⟩, hb3⟩
  · have HB3 := hide (below_then HB1.out hb3)
    clear hb3 HHa
    go_wp2
    go_ret
    exact ⟨rfl, HB3.out⟩
  have HB2 := hide (below_then HB1.out hb3)
  clear hb3 HHa
  have HHb := hide (heavy7 AM nm cm 40 am _ (HEM.out.below HB2.out) (by omega))
  simp only [Int.cast_ofNat_Int] at HHb
  go_wp2_with fail
  refine HHb.out.mono ?_
  rintro e whb ⟨rfl | ⟨rfl, hnb⟩, hb3⟩
  · have HB3 := hide (below_then HB2.out hb3)
    clear hb3 HHb
    go_wp2
    go_ret
    exact ⟨rfl, HB3.out⟩
  have HB3 := hide (below_then HB2.out hb3)
  clear hb3 HHb
  by_cases h1 : k0 < 1
  · have e1 : decide (k0 < 1) = true := by simpa using h1
    go_wp2
    go_ret
    exact ⟨rfl, HB3.out⟩
  have e1 : decide (k0 < 1) = false := by simpa using h1
  by_cases h2 : (16 : Int) < k0
  · have e2 : decide ((16 : Int) < k0) = true := by simpa using h2
    go_wp2
    go_ret
    exact ⟨rfl, HB3.out⟩
  have e2 : decide ((16 : Int) < k0) = false := by simpa using h2
  obtain ⟨k, rfl⟩ : ∃ k : Nat, k0 = (k : Int) := ⟨k0.toNat, by omega⟩
  have hk1k : 1 ≤ k := by omega
  have hk16k : k ≤ 16 := by omega
  clear h1 h2
  have HTW := hide (two12 (c := cl) (d := cm) hk1k hk16k (HEL.out.below HB3.out) (HEM.out.below HB3.out) (by omega) (by omega))
  go_wp2_with fail
  refine HTW.out.mono ?_
  rintro e w5 ⟨a, b, A1, A2, n1, c1, n2, c2, rfl, ⟨rwa, ea, hTa, hEa, hca, hSa, hka, hesa⟩, ⟨rwb, eb, hTb, hEb, hcb, hSb, hkb, hesb⟩, hn1, hn2, hb5⟩
  have HB5 := hide (below_then HB3.out hb5)
  have hlea : ea.length = n1 := ents_len hEa hesa
  have hleb : eb.length = n2 := ents_len hEb hesb
  obtain ⟨ra, LA, da, hra, hbA, -, s1, -, -⟩ := hTa.bel
  obtain ⟨rb, LB, db, hrb, hbB, -, s2, -, -⟩ := hTb.bel
  obtain ⟨SA, hSA, hSAl⟩ := tbel_shapes hTa hbA (by omega)
  obtain ⟨SB, hSB, hSBl⟩ := tbel_shapes hTb hbB (by omega)
  have HDA := hide (fun W (hW : Below w5.heap.size w5 W) => tbel_depth hbA hk1k hk16k (by omega) W A1 n1 c1 rwa (hEa.below hW) hca (by omega) hka hesa)
  have HDB := hide (fun W (hW : Below w5.heap.size w5 W) => tbel_depth hbB hk1k hk16k (by omega) W A2 n2 c2 rwb (hEb.below hW) hcb (by omega) hkb hesb)
  have HSA := hide (fun W (hW : Below w5.heap.size w5 W) => (hSA w5 W A1 n1 c1 rwa hW hEa hca (by omega) hka hesa).mono fun e w' h => shapes_n h)
  have HSB := hide (fun W (hW : Below w5.heap.size w5 W) => (hSB w5 W A2 n2 c2 rwb hW hEb hcb (by omega) hkb hesb).mono fun e w' h => shapes_n h)
  rw [hSAl] at HSA
  rw [hSBl] at HSB
  have hla : LA.length ≤ 100000 := by omega
  have hlb : LB.length ≤ 100000 := by omega
  have HT := hide (And.intro hra (And.intro hrb (And.intro hbA hbB)))
  obtain ⟨la, hlae⟩ : ∃ la, la = LA.length := ⟨_, rfl⟩
  obtain ⟨lb, hlbe⟩ : ∃ lb, lb = LB.length := ⟨_, rfl⟩
  have hcmb := comN_le LA LB
  obtain ⟨cmn, hcm⟩ : ∃ cmn, cmn = comN LA LB := ⟨_, rfl⟩
  rw [← hlae] at hla HSA
  rw [← hlbe] at hlb hcmb HSB
  rw [← hcm] at hcmb
  have HLE := hide (And.intro hlae (And.intro hlbe hcm))
  have HBA := hide (fun W (hW : Below w5.heap.size w5 W) => below17_t hbA hk16k (by omega) W hW)
  have HBB := hide (fun W (hW : Below w5.heap.size w5 W) => below17_t hbB hk16k (by omega) W hW)
  have HRA := hide (fun W (hW : Below w5.heap.size w5 W) => tr_root (hra.below hW))
  have HRB := hide (fun W (hW : Below w5.heap.size w5 W) => tr_root (hrb.below hW))
  have hsh := fun W (hW : Below w5.heap.size w5 W) => sh_shared (hra.below hW) (hrb.below hW) (hbA.stay hW) (hbB.stay hW) hk16k hk16k (by omega) (by omega)
  have hfr := fun W (hW : Below w5.heap.size w5 W) => sh_fresh (hra.below hW) (hrb.below hW) (hbA.stay hW) (hbB.stay hW) hk16k hk16k (by omega) (by omega)
  simp only [← hlbe, ← hcm] at hsh hfr
  have HSH := hide hsh
  have HFR := hide hfr
  have hna := fun W (hW : Below w5.heap.size w5 W) => sh_Nodes_of (w := W) (fun X hX => tr_root (hra.below (below_then hW hX))) (hbA.stay hW) hk16k (by omega) hbA.nodup
  have hnb := fun W (hW : Below w5.heap.size w5 W) => sh_Nodes_of (w := W) (fun X hX => tr_root (hrb.below (below_then hW hX))) (hbB.stay hW) hk16k (by omega) hbB.nodup
  simp only [← hlae] at hna
  simp only [← hlbe] at hnb
  have HNA := hide hna
  have HNB := hide hnb
  have HPA := hide (fun W (hW : Below w5.heap.size w5 W) => sh_depth_of (w := W) (fun X hX => tr_root (hra.below (below_then hW hX))) (hbA.stay hW) hk16k (by omega))
  have HPB := hide (fun W (hW : Below w5.heap.size w5 W) => sh_depth_of (w := W) (fun X hX => tr_root (hrb.below (below_then hW hX))) (hbB.stay hW) hk16k (by omega))
  clear hTa hTb hEa hEb hca hcb hSa hSb hka hkb hesa hesb hb5 HTW hlea hleb hra hrb hbA hbB s1 s2 hSA hSB hSAl hSBl hlae hlbe hcm hsh hfr hna hnb
  go_wp2_with fail
  refine (HRA.out w5 (Below.refl _ _)).mono ?_
  rintro e w6 ⟨rfl, rfl⟩
  go_wp2_with fail
  refine (HBA.out w5 (Below.refl _ _)).mono ?_
  rintro e w7 ⟨X1, x1, cx1, rfl, hx1, hO1, hb7⟩
  have HX1 := hide (And.intro hx1 hO1)
  have HQ7 := hide hb7
  have HR7 := hide (HRB.out w7 hb7)
  obtain rfl : la = x1 := by rw [hx1, HLE.out.1]
  clear hx1 hO1 hb7 HRA HRB HBA
  go_wp2_with fail
  refine HR7.out.mono ?_
  rintro e w8 ⟨rfl, rfl⟩
  go_wp2_with fail
  refine (HBB.out w7 HQ7.out).mono ?_
  rintro e w8 ⟨Y1, y1, cy1, rfl, hy1, hO2, hb8⟩
  obtain rfl : lb = y1 := by rw [hy1, HLE.out.2.1]
  have HX2 := hide (own_rw (own_below HX1.out.2 hb8)).2
  have HY2 := hide (own_rw hO2).2
  have HQ8 := hide (below_then HQ7.out hb8)
  clear hy1 hO2 hb8 HBB HR7 HX1
  go_wp2_with fail
  refine (HSH.out w8 HQ8.out).mono ?_
  rintro e w9 ⟨rfl, hb9⟩
  have HQ9 := hide (below_then HQ8.out hb9)
  have HX3 := hide (HX2.out.below hb9)
  have HY3 := hide (HY2.out.below hb9)
  clear hb9 HSH HX2 HY2
  go_wp2_with fail
  refine (HFR.out w9 HQ9.out).mono ?_
  rintro e w10 ⟨rfl, hb10⟩
  have HQ10 := hide (below_then HQ9.out hb10)
  have HX4 := hide (HX3.out.below hb10)
  have HY4 := hide (HY3.out.below hb10)
  have hbo := both17 (c := cx1) (d := cy1) HX4.out HY4.out HT.out.2.2.1.nodup (by omega) (by omega) (fun x hx => (HT.out.2.2.1.stay HQ10.out).blk x hx) (fun x hx => (HT.out.2.2.2.stay HQ10.out).blk x hx)
  rw [← HLE.out.2.2] at hbo
  have HBO := hide hbo
  clear hb10 HFR HX3 HY3 hbo
  go_wp2_with fail
  refine HBO.out.mono ?_
  rintro e w11 ⟨rfl, hb11⟩
  have HQ11 := hide (below_then HQ10.out hb11)
  have hal := (Below.refl w11.heap.size w11).alloc (Nat.le_refl _) (.cells #[.pointer (some ⟨a, 0, none⟩), .pointer none, .pointer (some ⟨b, 0, none⟩), .pointer (some ⟨a, 0, none⟩)] 23)
  have hq12 := below_then HQ11.out hal
  obtain ⟨hra, hrb, hbA, hbB⟩ := HT.out
  have hall := sh_all (c := 4) [TI.of a k ra LA da ea, ⟨none, 0, none, [], 0, []⟩, TI.of b k rb LB db eb, TI.of a k ra LA da ea] (Rw.of_blk (k := 0) (Blk.new w11 23 #[.pointer (some ⟨a, 0, none⟩), .pointer none, .pointer (some ⟨b, 0, none⟩), .pointer (some ⟨a, 0, none⟩)]) rfl (fun j u hu => by simpa [TI.of] using hu)) (fun i hi => by
    simp only [List.mem_cons, List.not_mem_nil, or_false] at hi
    rcases hi with rfl | rfl | rfl | rfl
    · exact TI.of_ok (hra.below hq12) (hbA.stay hq12) hk16k (by have := HLE.out.1; omega)
    · exact TI.none_ok _
    · exact TI.of_ok (hrb.below hq12) (hbB.stay hq12) hk16k (by have := HLE.out.2.1; omega)
    · exact TI.of_ok (hra.below hq12) (hbA.stay hq12) hk16k (by have := HLE.out.1; omega)) (by have := HLE.out.1; have := HLE.out.2.1; simp [sumL, TI.of]; omega) (by simp)
  have HAL := hide (hall.mono (R' := fun (e : Ending) (w' : World) => e = .returned (.tuple #[.int .i64 ((la + (lb - cmn) : Nat) : Int), .int .i64 ((2 * la + lb : Nat) : Int)]) ∧ Below _ _ w') fun e w' ⟨⟨U, g1, g2, g3⟩, g4⟩ => (⟨by
    have h1 : sumL [TI.of a k ra LA da ea, ⟨none, 0, none, [], 0, []⟩, TI.of b k rb LB db eb, TI.of a k ra LA da ea] = 2 * la + lb := by
      rw [HLE.out.1, HLE.out.2.1]
      simp [sumL, TI.of]
      omega
    have h2 : U.length = la + (lb - cmn) := by
      rw [HLE.out.1, HLE.out.2.1, HLE.out.2.2]
      refine union_len hbA.nodup hbB.nodup g2 fun x => ?_
      rw [g3]
      simp [TI.of]
      constructor
      · rintro (h | h | h)
        · exact .inl h
        · exact .inr h
        · exact .inl h
      · rintro (h | h)
        · exact .inl h
        · exact .inr (.inl h)
    rw [h1, h2] at g1
    exact g1, g4⟩))
  have HQ12 := hide hq12
  clear hb11 hal hq12 hra hrb hbA hbB hall HBO HX4 HY4
  go_wp2_with fail
  refine HAL.out.mono ?_
  rintro e w13 ⟨rfl, hb13⟩
  have HQ13 := hide (below_then HQ12.out hb13)
  have i1 : IntKind.i64.wrap ((lb : Int) - (cmn : Int)) = ((lb - cmn : Nat) : Int) := by rw [IntKind.wrap_i64]; omega
  have i2 : IntKind.i64.wrap ((la : Int) + (lb : Int)) = (la : Int) + (lb : Int) := by rw [IntKind.wrap_i64]; omega
  have i3 : IntKind.i64.wrap ((la : Int) + (lb : Int) - (cmn : Int)) = ((la + (lb - cmn) : Nat) : Int) := by rw [IntKind.wrap_i64]; omega
  have i4 : IntKind.i64.wrap (2 * (la : Int)) = 2 * (la : Int) := by rw [IntKind.wrap_i64]; omega
  have i5 : IntKind.i64.wrap (2 * (la : Int) + (lb : Int)) = ((2 * la + lb : Nat) : Int) := by rw [IntKind.wrap_i64]; omega
  obtain ⟨fr, hfr⟩ : ∃ fr, fr = lb - cmn := ⟨_, rfl⟩
  obtain ⟨on, hon⟩ : ∃ on, on = la + fr := ⟨_, rfl⟩
  obtain ⟨al2, hal2⟩ : ∃ al2, al2 = 2 * la + lb := ⟨_, rfl⟩
  rw [← hfr] at i1 i3 ⊢
  rw [← hon] at i3 ⊢
  rw [← hal2] at i5 ⊢
  clear hb13 HAL hfr hon hal2
  go_wp2_with fail
  refine (HNA.out w13 HQ13.out).mono ?_
  rintro e w14 ⟨rfl, hb14⟩
  have HQ14 := hide (below_then HQ13.out hb14)
  clear hb14 HNA
  go_wp2_with fail
  refine (HSA.out w14 HQ14.out).mono ?_
  rintro e w15 ⟨Z1, z1, cz1, rfl, hz1, hb15⟩
  subst hz1
  have HQ15 := hide (below_then HQ14.out hb15)
  clear hb15 HSA
  go_wp2_with fail
  refine (HNB.out w15 HQ15.out).mono ?_
  rintro e w16 ⟨rfl, hb16⟩
  have HQ16 := hide (below_then HQ15.out hb16)
  clear hb16 HNB
  go_wp2_with fail
  refine (HSB.out w16 HQ16.out).mono ?_
  rintro e w17 ⟨Z2, z2, cz2, rfl, hz2, hb17⟩
  subst hz2
  have HQ17 := hide (below_then HQ16.out hb17)
  clear hb17 HSB
  go_wp2_with fail
  refine (HPA.out w17 HQ17.out).mono ?_
  rintro e w18 ⟨rfl, hb18⟩
  have HQ18 := hide (below_then HQ17.out hb18)
  clear hb18 HPA
  go_wp2_with fail
  refine (HDA.out w18 HQ18.out).mono ?_
  rintro e w19 ⟨rfl, hb19⟩
  have HQ19 := hide (below_then HQ18.out hb19)
  clear hb19 HDA
  go_wp2_with fail
  refine (HPB.out w19 HQ19.out).mono ?_
  rintro e w20 ⟨rfl, hb20⟩
  have HQ20 := hide (below_then HQ19.out hb20)
  clear hb20 HPB
  go_wp2_with fail
  refine (HDB.out w20 HQ20.out).mono ?_
  rintro e w21 ⟨rfl, hb21⟩
  have HF := hide (below_then HB5.out (below_then HQ20.out hb21))
  clear hb21 HDB
  go_wp2
  go_ret
  exact ⟨rfl, HF.out⟩
end Go.Proofs.Ytfoapkcgdkfggaa
