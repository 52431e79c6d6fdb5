/- ShareNil: contracts and plain laws that the statement leans on (ShrD ShrE LwShN). No condition. -/
import Derived.Test.YtfoapkcgdkfggaaPShareNil3
set_option linter.unusedSimpArgs false
set_option linter.unusedVariables false
namespace Go.Proofs.Ytfoapkcgdkfggaa
open Go.RowKit
theorem kids_same {w : World} {k : Nat} : ∀ {ks ks' : List Kid}, (∀ q ∈ ks, NodeOf w k q.blk q.lv q.pre q.es) → (∀ q ∈ ks', NodeOf w k q.blk q.lv q.pre q.es) → kidTh ks = kidTh ks' → ks = ks'
  | [], [], _, _, _ => rfl
  | [], d :: ds, _, _, h => by simp [kidTh] at h
  | c :: cs, [], _, _, h => by simp [kidTh] at h
  | c :: cs, d :: ds, h1, h2, h => by
    simp only [kidTh, List.map_cons, List.cons.injEq, Prod.mk.injEq, Value.pointer.injEq, Option.some.injEq, Addr.mk.injEq, and_true] at h
    obtain ⟨⟨h3, h4⟩, h5⟩ := h
    have hc := h1 c (List.mem_cons_self ..)
    have hd := h2 d (List.mem_cons_self ..)
    rw [← h4] at hd
    obtain ⟨e1, e2, e3⟩ := hc.uniq hd
    have hr := kids_same (fun q hq => h1 q (List.mem_cons_of_mem _ hq)) (fun q hq => h2 q (List.mem_cons_of_mem _ hq)) h5
    obtain ⟨a, b, l, p, e⟩ := c
    obtain ⟨a', b', l', p', e'⟩ := d
    simp only at h3 h4 e1 e2 e3
    subst h3 h4 e1 e2 e3
    rw [hr]
theorem Fork.uniq {w : World} {k g m m' : Nat} {pre pre' : List Nat} {ks ks' : List Kid} (h : Fork w k g m pre ks) (h' : Fork w k g m' pre' ks') : m = m' ∧ ks = ks' := by
  obtain ⟨A, c, gs, hp, hS, hB⟩ := h.head
  obtain ⟨A', c', gs', hp', hS', hB'⟩ := h'.head
  have he := (Blk.eq_ hB hB').2
  simp [nodeCells] at he
  obtain ⟨e0, ⟨e1, e2⟩, e3, -⟩ := he
  subst e3
  exact ⟨by omega, kids_same (fun q hq => (h.kid q hq).1) (fun q hq => (h'.kid q hq).1) (hS.uniq hS')⟩
theorem flatMap_same {α β : Type} {f g : α → List β} : ∀ {l : List α}, (∀ a ∈ l, f a = g a) → l.flatMap f = l.flatMap g
  | [], _ => rfl
  | a :: l, h => by rw [List.flatMap_cons, List.flatMap_cons, h a (List.mem_cons_self ..), flatMap_same fun b hb => h b (List.mem_cons_of_mem _ hb)]
theorem filter_two {α : Type} (p : α → Bool) : ∀ l : List α, l.length = (l.filter p).length + (l.filter (fun x => !p x)).length
  | [] => rfl
  | a :: l => by
    have := filter_two p l
    cases h : p a <;> simp [h] <;> omega
theorem Bel.uniq {w : World} {k g d : Nat} {L : List Nat} {es : List Ent} (h : Bel w k g L d es) : ∀ {L' : List Nat} {d' : Nat} {es' : List Ent}, Bel w k g L' d' es' → L = L' ∧ d = d' ∧ es = es' := by
  induction h with
  | leaf hv hc hp hB =>
    intro L' d' es' h'
    cases h' with
    | leaf hv' hc' hp' hB' =>
      refine ⟨rfl, rfl, ?_⟩
      exact ((NodeOf.leaf hv hp hc hB).uniq (NodeOf.leaf hv' hp' hc' hB')).2.2
    | fork f d hF hk =>
      have := ((NodeOf.leaf hv hp hc hB).uniq hF.node).1
      omega
  | @fork g m pre ks f d hF hk ih =>
    intro L' d' es' h'
    cases h' with
    | leaf hv' hc' hp' hB' =>
      have := (hF.node.uniq (NodeOf.leaf hv' hp' hc' hB')).1
      omega
    | fork f' d2 hF' hk' =>
      obtain ⟨-, rfl⟩ := hF.uniq hF'
      refine ⟨?_, ?_, rfl⟩
      · congr 1
        exact flatMap_same fun q hq => (ih q hq (hk' q hq)).1
      · congr 2
        exact List.map_congr_left fun q hq => (ih q hq (hk' q hq)).2.1
theorem Bel.inv {w : World} {k g m d : Nat} {pre : List Nat} {ks : List Kid} {L : List Nat} {es : List Ent} (hF : Fork w k g m pre ks) (h : Bel w k g L d es) : ∃ (f : Kid → List Nat) (dd : Kid → Nat), L = g :: ks.flatMap f ∧ d = maxN (ks.map dd) + 1 ∧ ∀ q ∈ ks, Bel w k q.blk (f q) (dd q) q.es := by
  cases h with
  | leaf hv hc hp hB =>
    have := (hF.node.uniq (NodeOf.leaf hv hp hc hB)).1
    omega
  | fork f d hF2 hk =>
    obtain ⟨-, rfl⟩ := hF.uniq hF2
    exact ⟨f, d, rfl, rfl, hk⟩
theorem Bel.leaf_inv {w : World} {k g v : Nat} {p : List Nat} (h : NodeOf w k g (-1) p [(p, v)]) : Bel w k g [g] 1 [(p, v)] := by
  rcases h.cases' with ⟨A, c, v', -, he, hv, hP, hc, hB⟩ | ⟨m, ks, hm, -⟩
  · simp only [List.cons.injEq, Prod.mk.injEq, true_and, and_true] at he
    subst he
    exact .leaf hv hc hP hB
  · omega
/-- All that lies below it is in a list. -/
def In (w : World) (k : Nat) (LT : List Nat) (g : Nat) : Prop := ∃ L d es, Bel w k g L d es ∧ ∀ y ∈ L, y ∈ LT
theorem In.of {w : World} {k g d : Nat} {LT L : List Nat} {es : List Ent} (h : In w k LT g) (hB : Bel w k g L d es) : ∀ y ∈ L, y ∈ LT := by
  obtain ⟨L', d', es', h1, h2⟩ := h
  obtain ⟨rfl, -⟩ := hB.uniq h1
  exact h2
theorem In.kid {w : World} {k g m : Nat} {LT : List Nat} {pre : List Nat} {ks : List Kid} (h : In w k LT g) (hF : Fork w k g m pre ks) {q : Kid} (hq : q ∈ ks) : In w k LT q.blk := by
  obtain ⟨L, d, es, h1, h2⟩ := h
  cases h1 with
  | leaf hv hc hp hB =>
    have := (hF.node.uniq (NodeOf.leaf hv hp hc hB)).1
    omega
  | fork f d hF' hk =>
    obtain ⟨-, rfl⟩ := hF.uniq hF'
    exact ⟨f q, d q, q.es, hk q hq, fun y hy => h2 y (List.mem_cons_of_mem _ (List.mem_flatMap.2 ⟨q, hq, hy⟩))⟩
theorem In.way {w : World} {k : Nat} {LT p : List Nat} : ∀ {fs : List PF} {top bot : Option (Nat × NT)}, Way p fs top bot → (∀ f ∈ fs, Fork w k f.g f.lv f.pre f.ks) → (∀ y, top = some y → In w k LT y.1) → ∀ y, bot = some y → In w k LT y.1
  | [], top, bot, hW, _, hT => by
    rw [show top = bot from hW] at hT
    exact hT
  | f :: fs, top, bot, hW, hF, hT => by
    refine In.way hW.2.2 (fun f' hf' => hF f' (List.mem_cons_of_mem _ hf')) fun y hy => ?_
    obtain ⟨q, hq, -, rfl⟩ := kidAt_some hy
    exact (hT _ hW.1).kid (hF f (List.mem_cons_self ..)) hq
/-- The nodes of a tree behind an act: old ones, the new forks, what hangs at their end. -/
theorem up_in {w : World} {k : Nat} {LT p : List Nat} {x : Nat × NT} {Lx : List Nat} {dx : Nat} {ex : List Ent} (hx : Bel w k x.1 Lx dx ex) : ∀ {fs fs' : List PF} {top bot : Option (Nat × NT)} {L' : List Nat} {d' : Nat} {es' : List Ent}, UpRel p fs fs' x → Way p fs top bot →
    (∀ f ∈ fs, Fork w k f.g f.lv f.pre f.ks) → (∀ f ∈ fs', Fork w k f.g f.lv f.pre f.ks) → (∀ y, top = some y → In w k LT y.1) → Bel w k (pTop fs' x).1 L' d' es' → ∀ y ∈ L', y ∈ LT ∨ y ∈ fs'.map (·.g) ∨ y ∈ Lx
  | [], [], top, bot, L', d', es', hU, hW, hF, hF', hT, hB => by
    intro y hy
    obtain ⟨rfl, -⟩ := hx.uniq hB
    exact .inr (.inr hy)
  | [], f' :: fs', top, bot, L', d', es', hU, hW, hF, hF', hT, hB => False.elim hU
  | f :: fs, [], top, bot, L', d', es', hU, hW, hF, hF', hT, hB => False.elim hU
  | f :: fs, f' :: fs', top, bot, L', d', es', hU, hW, hF, hF', hT, hB => by
    obtain ⟨h1, h2, h3, h4⟩ := hU
    have hf := hF f (List.mem_cons_self ..)
    have hf' := hF' f' (List.mem_cons_self ..)
    have hIn := hT _ hW.1
    change Bel w k f'.g L' d' es' at hB
    cases hB with
    | leaf hv hc hp hB =>
      have := (hf'.node.uniq (NodeOf.leaf hv hp hc hB)).1
      omega
    | fork F d hF2 hk =>
      obtain ⟨-, rfl⟩ := hf'.uniq hF2
      intro y hy
      rcases List.mem_cons.1 hy with rfl | hy
      · exact .inr (.inl (by simp))
      obtain ⟨q, hq, hyq⟩ := List.mem_flatMap.1 hy
      rw [h3] at hq
      rcases mem_insK hq with rfl | hqk
      · have hk' := hk _ (by rw [h3]; exact hq)
        have := up_in hx h4 hW.2.2 (fun g hg => hF g (List.mem_cons_of_mem _ hg)) (fun g hg => hF' g (List.mem_cons_of_mem _ hg)) (fun z hz => by
          obtain ⟨r, hr, -, rfl⟩ := kidAt_some hz
          exact hIn.kid hf hr) hk' y hyq
        rcases this with h | h | h
        · exact .inl h
        · exact .inr (.inl (by simp only [List.map_cons]; exact List.mem_cons_of_mem _ h))
        · exact .inr (.inr h)
      · have hq2 := hk q (by rw [h3]; exact hq)
        exact .inl ((hIn.kid hf hqk).of hq2 y hyq)
theorem nodup_le : ∀ {L M : List Nat}, L.Nodup → (∀ y ∈ L, y ∈ M) → L.length ≤ M.length
  | [], M, _, _ => Nat.zero_le _
  | x :: L, M, h, hs => by
    obtain ⟨h1, h2⟩ := List.nodup_cons.1 h
    have hx := hs x (List.mem_cons_self ..)
    have := nodup_le (L := L) (M := M.erase x) h2 fun y hy => (List.mem_erase_of_ne (by rintro rfl; exact h1 hy)).2 (hs y (List.mem_cons_of_mem _ hy))
    rw [List.length_erase_of_mem hx] at this
    have hp := List.length_pos_of_mem hx
    simp only [List.length_cons]
    omega
theorem fresh_le {LT L' M : List Nat} (hN : L'.Nodup) (h : ∀ y ∈ L', y ∈ LT ∨ y ∈ M) : L'.length - comN LT L' ≤ M.length := by
  have h1 : (L'.filter (fun x => !decide (x ∈ LT))).length ≤ M.length := by
    refine nodup_le (hN.sublist List.filter_sublist) fun y hy => ?_
    obtain ⟨h2, h3⟩ := List.mem_filter.1 hy
    exact (h y h2).resolve_left (by simpa using h3)
  have h2 := filter_two (fun x => decide (x ∈ LT)) L'
  unfold comN
  omega
/-- How long the path of a point is, as Path tells it. -/
def PathIs (w : World) (k : Nat) (p : List Nat) (t' n : Nat) : Prop := ∃ (top : Option (Nat × NT)) (fs : List PF) (bot : Option (Nat × NT)) (gs : List Nat) (below : Option (Nat × NT)), TreeBlk w t' k (top.map fun y => ⟨y.1, 0, none⟩) ∧ Way p fs top bot ∧ (∀ f ∈ fs, Fork w k f.g f.lv f.pre f.ks) ∧ PathEnd w k p fs bot gs below ∧ gs.length = n
theorem Way.append {p : List Nat} : ∀ {fs fs2 : List PF} {top mid bot : Option (Nat × NT)}, Way p fs top mid → Way p fs2 mid bot → Way p (fs ++ fs2) top bot
  | [], fs2, top, mid, bot, h, h2 => by
    rw [show top = mid from h]
    exact h2
  | f :: fs, fs2, top, mid, bot, h, h2 => ⟨h.1, h.2.1, Way.append h.2.2 h2⟩
theorem PathEnd.append {w : World} {k : Nat} {p : List Nat} {fs : List PF} {bot below : Option (Nat × NT)} {gs : List Nat} (h : PathEnd w k p fs bot gs below) : ∀ fs0 : List PF, PathEnd w k p (fs0 ++ fs) bot (fs0.map (·.g) ++ gs) below
  | [] => h
  | f :: fs0 => (PathEnd.append h fs0).cons f
theorem top_bel {w : World} {k t d : Nat} {root : Option Addr} {top : Option (Nat × NT)} {L : List Nat} {es : List Ent} (hT : TreeBlk w t k root) (hT' : TreeBlk w t k (top.map fun y => ⟨y.1, 0, none⟩)) (hB : TBel w k root L d es) : ∀ y, top = some y → Bel w k y.1 L d es := by
  intro y hy
  subst hy
  have he := (Blk.eq_ hT hT').2
  simp at he
  subst he
  rcases hB with ⟨h, -⟩ | ⟨g, h, hB⟩
  · cases h
  · injection h with h
    injection h with h
    subst h
    exact hB
/-- Behind a put: no more fresh nodes than the new path has. -/
theorem put_fresh {w : World} {k v t t' d d' : Nat} {p : List Nat} {fs : List PF} {top bot below : Option (Nat × NT)} {LT L' : List Nat} {es es' : List Ent} {root root' : Option Addr} (hp : Zp k p) (hW : Way p fs top bot) (hF : ∀ f ∈ fs, Fork w k f.g f.lv f.pre f.ks) (hl : fs.length ≤ 64)
    (hT : TreeBlk w t k (top.map fun y => ⟨y.1, 0, none⟩)) (hTb : TreeBlk w t k root) (hB : TBel w k root LT d es) (h : PutSh k p v fs bot below t t' w) (hne : t' ≠ t) (hTb' : TreeBlk w t' k root') (hB' : TBel w k root' L' d' es') :
    ∃ n, PathIs w k p t' n ∧ L'.length - comN LT L' ≤ n ∧ L'.length - comN LT L' ≤ 66 := by
  rcases h with h | ⟨fs', x, g1, g2, g3, g4, g5⟩
  · exact absurd h hne
  have hin : ∀ y, top = some y → In w k LT y.1 := fun y hy => ⟨LT, d, es, top_bel hTb hT hB y hy, fun z hz => hz⟩
  have hbot := In.way hW hF hin
  have hBt := top_bel (top := some (pTop fs' x)) hTb' g1 hB' _ rfl
  have hlen := g2.len
  have hway : Way p fs' (some (pTop fs' x)) (some x) := g2.way (hW.covers)
  rcases g5 with ⟨hx, -⟩ | ⟨y, mm, gl, hbl, hb, h1, h2, h3, h4, h5, h6⟩
  · rw [hx] at g4
    obtain ⟨x1, x2⟩ := x
    simp only at hx g4
    subst hx
    have hBx : Bel w k x1 [x1] 1 [(p, v)] := Bel.leaf_inv g4
    refine ⟨fs'.length + 1, ⟨some (pTop fs' _), fs', _, _, _, g1, hway, g3, .leaf x1 v g4, by simp⟩, ?_⟩
    have := fresh_le (LT := LT) (M := fs'.map (·.g) ++ [x1]) hB'.nodup fun z hz => by
      rcases up_in hBx g2 hW hF g3 hin hBt z hz with h | h | h
      · exact .inl h
      · exact .inr (List.mem_append_left _ h)
      · exact .inr (List.mem_append_right _ h)
    simp only [List.length_append, List.length_map, List.length_singleton] at this
    omega
  · obtain ⟨x1, x2⟩ := x
    simp only at g1 g2 g4 h5 h6 hway hBt
    subst h6
    have hBg : Bel w k gl [gl] 1 [(p, v)] := Bel.leaf_inv h4
    obtain ⟨Lx, dx, hBx⟩ := bel_ex (mm + 2) x1 (mm : Int) _ _ (by omega) g4
    obtain ⟨F, dd, hL, -, hk⟩ := hBx.inv h5
    have hpk : pairK y.1 gl y.2.lv (-1) y.2.pre p y.2.es [(p, v)] mm = insK (insK [] ⟨addrOf y.2.pre mm, y.1, y.2.lv, y.2.pre, y.2.es⟩) ⟨addrOf p mm, gl, -1, p, [(p, v)]⟩ := rfl
    have hLx : ∀ z ∈ Lx, z ∈ LT ∨ z = x1 ∨ z = gl := by
      intro z hz
      rw [hL] at hz
      rcases List.mem_cons.1 hz with rfl | hz
      · exact .inr (.inl rfl)
      obtain ⟨q, hq, hzq⟩ := List.mem_flatMap.1 hz
      have hbq := hk q hq
      have hq2 : q.blk = y.1 ∨ q.blk = gl := by
        rw [hpk] at hq
        rcases mem_insK hq with rfl | hq
        · exact .inr rfl
        · rcases mem_insK hq with rfl | hq
          · exact .inl rfl
          · cases hq
      rcases hq2 with h | h
      · rw [h] at hbq
        exact .inl ((hbot _ hb).of hbq z hzq)
      · rw [h] at hbq
        obtain ⟨he, -⟩ := hBg.uniq hbq
        rw [← he] at hzq
        exact .inr (.inr (by simpa using hzq))
    have hcov : part (cut (mm + 1) y.2.pre) p ≤ (mm : Int) := by
      refine (part_le_iff (zp_cut h3) hp _ (by omega)).2 fun b hb => ?_
      rw [addr_cut_hi _ (by omega)]
      have := (part_spec y.2.pre p (by rw [h3.1, hp.1]) h3.2 hp.2).2.2.1
      rw [h2] at this
      exact this b hb
    have hk2 : kidAt (pairK y.1 gl y.2.lv (-1) y.2.pre p y.2.es [(p, v)] mm) (addrOf p mm) = some (gl, ⟨-1, p, [(p, v)]⟩) := by
      rw [hpk]
      exact kidAt_insK (q := ⟨addrOf p mm, gl, -1, p, [(p, v)]⟩)
    have hway2 := hway.app (f := ⟨x1, mm, cut (mm + 1) y.2.pre, pairK y.1 gl y.2.lv (-1) y.2.pre p y.2.es [(p, v)] mm⟩) rfl hcov
    simp only [hk2] at hway2
    refine ⟨fs'.length + 2, ⟨some (pTop fs' _), _, _, _, _, g1, hway2, fun f hf => ?_, .leaf gl v h4, by simp⟩, ?_⟩
    · rcases List.mem_append.1 hf with hf | hf
      · exact g3 f hf
      · rw [List.mem_singleton] at hf
        subst hf
        exact h5
    have := fresh_le (LT := LT) (M := fs'.map (·.g) ++ [x1, gl]) hB'.nodup fun z hz => by
      rcases up_in hBx g2 hW hF g3 hin hBt z hz with h | h | h
      · exact .inl h
      · exact .inr (List.mem_append_left _ h)
      · rcases hLx z h with h | rfl | rfl
        · exact .inl h
        · exact .inr (by simp)
        · exact .inr (by simp)
    simp only [List.length_append, List.length_map, List.length_cons, List.length_nil] at this
    omega
end Go.Proofs.Ytfoapkcgdkfggaa
set_option linter.unusedSimpArgs false
set_option linter.unusedVariables false
namespace Go.Proofs.Ytfoapkcgdkfggaa
open Go.RowKit
theorem es17 {es1 es2 es3 : List Ent} (h1 : ∀ x, x ∈ es1 ↔ x = ([4, 0], 1) ∨ (x ∈ ([] : List Ent) ∧ x.1 ≠ [4, 0])) (h2 : ∀ x, x ∈ es2 ↔ x = ([7, 3], 2) ∨ (x ∈ es1 ∧ x.1 ≠ [7, 3])) (h3 : ∀ x, x ∈ es3 ↔ x = ([7, 3], 3) ∨ (x ∈ es2 ∧ x.1 ≠ [7, 3])) (hs2 : Zsorted es2) (hs3 : Zsorted es3) :
    es2 = [([4, 0], 1), ([7, 3], 2)] ∧ es3 = [([4, 0], 1), ([7, 3], 3)] := by
  have z1 : Zlt [4, 0] [7, 3] := (cmp_lt (k := 2) ⟨rfl, by decide⟩ ⟨rfl, by decide⟩).1 (by decide +kernel)
  have e2 : es2 = [([4, 0], 1), ([7, 3], 2)] := by
    refine sorted_ext hs2 ?_ fun e => ?_
    · unfold Zsorted
      simp only [List.pairwise_cons, List.mem_cons, List.not_mem_nil, or_false, forall_eq_or_imp, forall_eq, List.Pairwise.nil, and_true]
      exact ⟨z1, fun a h => h.elim⟩
    · rw [h2, h1]
      simp only [List.mem_cons, List.not_mem_nil, or_false, false_and]
      constructor
      · rintro (rfl | ⟨rfl, _⟩) <;> simp
      · rintro (rfl | rfl) <;> simp
  refine ⟨e2, sorted_ext hs3 ?_ fun e => ?_⟩
  · unfold Zsorted
    simp only [List.pairwise_cons, List.mem_cons, List.not_mem_nil, or_false, forall_eq_or_imp, forall_eq, List.Pairwise.nil, and_true]
    exact ⟨z1, fun a h => h.elim⟩
  · rw [h3, e2]
    simp only [List.mem_cons, List.not_mem_nil, or_false]
    constructor
    · rintro (rfl | ⟨rfl | rfl, h⟩)
      · simp
      · simp
      · simp at h
    · rintro (rfl | rfl) <;> simp
theorem kids_two {ks : List Kid} (h2 : 2 ≤ ks.length) (hne : ∀ q ∈ ks, q.es ≠ []) {a b : Ent} (h : kidEs ks = [a, b]) : ∃ q r, ks = [q, r] ∧ q.es = [a] ∧ r.es = [b] := by
  have hc := kid_count ks hne
  rw [h] at hc
  obtain ⟨q, r, rfl⟩ : ∃ q r, ks = [q, r] := by
    match ks, h2, hc with
    | [q, r], _, _ => exact ⟨q, r, rfl⟩
  have h1 := hne q (by simp)
  have h3 := hne r (by simp)
  have h4 : q.es ++ r.es = [a, b] := by simpa [kidEs] using h
  rcases hq : q.es with _ | ⟨x, xs⟩
  · exact absurd hq h1
  rcases hr : r.es with _ | ⟨y, ys⟩
  · exact absurd hr h3
  rw [hq, hr] at h4
  have hl := congrArg List.length h4
  simp at hl
  obtain rfl : xs = [] := List.eq_nil_of_length_eq_zero (by omega)
  obtain rfl : ys = [] := List.eq_nil_of_length_eq_zero (by omega)
  simp at h4
  exact ⟨q, r, rfl, by rw [hq, h4.1], by rw [hr, h4.2]⟩
theorem Bel.two {w : World} {k g d : Nat} {L : List Nat} {a b : Ent} (h : Bel w k g L d [a, b]) : ∃ x y, L = [g, x, y] ∧ (∃ lv pre, NodeOf w k x lv pre [a]) ∧ (∃ lv pre, NodeOf w k y lv pre [b]) := by
  obtain ⟨lv, pre, hN⟩ := h.nodeOf
  rcases hN.cases' with ⟨A, c, v, -, he, -⟩ | ⟨m, ks, rfl, he, hF⟩
  · simp at he
  · obtain ⟨F, dd, hL, -, hk⟩ := h.inv hF
    obtain ⟨q, r, rfl, hq, hr⟩ := kids_two hF.two (fun q hq => ((hF.kid q hq).1).info.2.1) he.symm
    have hbq := hk q (by simp)
    have hbr := hk r (by simp)
    have h1 := hbq.size.1
    have h2 := hbr.size.1
    rw [hq] at h1
    rw [hr] at h2
    obtain ⟨M, hM⟩ := hbq.head
    obtain ⟨M', hM'⟩ := hbr.head
    rw [hM] at h1
    rw [hM'] at h2
    simp at h1 h2
    subst h1 h2
    refine ⟨q.blk, r.blk, by rw [hL]; simp [hM, hM'], ⟨_, _, hq ▸ (hF.kid q (by simp)).1⟩, ⟨_, _, hr ▸ (hF.kid r (by simp)).1⟩⟩
/-- Of two trees of two entries that differ in the last one's value: one node is in both, if two at most are fresh. -/
theorem com_two {w : World} {k g g' d d' : Nat} {L L' : List Nat} {a b b' : Ent} (h : Bel w k g L d [a, b]) (h' : Bel w k g' L' d' [a, b']) (hne : b ≠ b') (hab : a ≠ b) (hab' : a ≠ b') (hf : L'.length - comN L L' ≤ 2) : L.length = 3 ∧ L'.length = 3 ∧ comN L L' = 1 := by
  obtain ⟨x, y, hL, ⟨lx, px, hx⟩, ⟨ly, py, hy⟩⟩ := h.two
  obtain ⟨x', y', hL', ⟨lx', px', hx'⟩, ⟨ly', py', hy'⟩⟩ := h'.two
  obtain ⟨lg, pg, hg⟩ := h.nodeOf
  obtain ⟨lg', pg', hg'⟩ := h'.nodeOf
  have hd : ∀ {u v : Nat} {eu ev : List Ent} {l1 l2 : Int} {p1 p2 : List Nat}, NodeOf w k u l1 p1 eu → NodeOf w k v l2 p2 ev → eu ≠ ev → u ≠ v := by
    intro u v eu ev l1 l2 p1 p2 hu hv he huv
    subst huv
    exact he (hu.uniq hv).2.2
  have n1 : g' ∉ L := by
    rw [hL]
    simp only [List.mem_cons, List.not_mem_nil, or_false, not_or]
    exact ⟨hd hg' hg (by simpa using fun h => hne h.symm), hd hg' hx (by simp), hd hg' hy (by simp)⟩
  have n2 : y' ∉ L := by
    rw [hL]
    simp only [List.mem_cons, List.not_mem_nil, or_false, not_or]
    exact ⟨hd hy' hg (by simp), hd hy' hx (by simpa using fun h => hab' h.symm), hd hy' hy (by simpa using fun h => hne h.symm)⟩
  have hc : comN L L' = if x' ∈ L then 1 else 0 := by
    unfold comN
    rw [hL']
    simp only [List.filter_cons, List.filter_nil, decide_eq_true_eq]
    rw [if_neg n1, if_neg n2]
    split <;> rfl
  have h3 : L'.length = 3 := by rw [hL']; rfl
  refine ⟨by rw [hL]; rfl, h3, ?_⟩
  rw [h3, hc] at hf
  rw [hc]
  split
  · rfl
  · rename_i hn
    rw [if_neg hn] at hf
    omega
/-- A path in a tree of two entries has two nodes at most. -/
theorem path_two {w : World} {k t n : Nat} {p : List Nat} {a b : Ent} (hT : TreeOf w k t [a, b]) (h : PathIs w k p t n) : n ≤ 2 := by
  obtain ⟨top, fs, bot, gs, below, h1, h2, h3, h4, rfl⟩ := h
  have hl : fs.length ≤ 1 := by
    match fs, h2, h3 with
    | [], _, _ => simp
    | [f], _, _ => simp
    | f :: f2 :: rest, h2, h3 =>
      exfalso
      have hF := h3 f (by simp)
      have hF2 := h3 f2 (by simp)
      have htop := h2.1
      have hk := h2.2.2.1
      obtain ⟨q, hq, -, he⟩ := kidAt_some hk
      injection he with e1 e2
      have hq2 := (hF.kid q hq).1
      rw [← e1] at hq2
      have hes : q.es = kidEs f2.ks := (hq2.uniq hF2.node).2.2
      have hroot : kidEs f.ks = [a, b] := by
        subst htop
        obtain ⟨-, -, ⟨g1, g2⟩ | ⟨g, lv, pre, g1, g2⟩⟩ := hT
        · cases g2
        · have he := (Blk.eq_ h1 g1).2
          simp at he
          rw [← he] at g2
          exact (hF.node.uniq g2).2.2
      obtain ⟨q1, r1, hks, hq1, hr1⟩ := kids_two hF.two (fun q hq => ((hF.kid q hq).1).info.2.1) hroot
      have hl1 : q.es.length = 1 := by
        rw [hks] at hq
        simp only [List.mem_cons, List.not_mem_nil, or_false] at hq
        rcases hq with rfl | rfl
        · rw [hq1]; rfl
        · rw [hr1]; rfl
      rw [hes] at hl1
      have h2' := hF2.two
      have := kid_count f2.ks (fun q hq => ((hF2.kid q hq).1).info.2.1)
      omega
  cases h4 <;> simp <;> omega
set_option maxHeartbeats 4000000 in
set_option maxRecDepth 100000 in
theorem awake17 (w : World) :
    Calls Try.prog 6 #[] w fun e w' => e = .returned (.bool true) ∧ Below w.heap.size w w' := by
  have HN := hide (tr_new 2 w (by omega) (by omega))
  go_enter Try.func6, Try.ntmps6
  go_wp2_with fail
  refine HN.out.mono ?_
  rintro e w1 ⟨rfl, hT1, hb1⟩
  have hb2 := below_alloc hb1 (Nat.le_refl _) (.cells #[.int .u64 4, .int .u64 0] 36)
  have hq2 := (Below.refl w1.heap.size w1).alloc (Nat.le_refl _) (.cells #[.int .u64 4, .int .u64 0] 36)
  have HP1 := hide (tr_put (v := 1) (c := 2) (TreeOf.stay ⟨by omega, by omega, .inl ⟨hT1, rfl⟩⟩ hq2) (pt_lit2 w1 4 0 (by omega) (by omega)) (by omega))
  have HB2 := hide hb2
  clear hT1 hb1 hb2 hq2 HN
  go_wp2_with fail
  refine HP1.out.mono ?_
  rintro e w3 ⟨t3, es1, rfl, hT3, hm1, -, hb3⟩
  have hc3 := below_then HB2.out hb3
  have hb4 := below_alloc hc3 (Nat.le_refl _) (.cells #[.int .u64 7, .int .u64 3] 36)
  have hq4 := (Below.refl w3.heap.size w3).alloc (Nat.le_refl _) (.cells #[.int .u64 7, .int .u64 3] 36)
  have HP2 := hide (tr_put (v := 2) (c := 2) (hT3.stay hq4) (pt_lit2 w3 7 3 (by omega) (by omega)) (by omega))
  have HB4 := hide hb4
  have HM1 := hide hm1
  clear hT3 hm1 hb3 hc3 hb4 hq4 HP1 HB2
  go_wp2_with fail
  refine HP2.out.mono ?_
  rintro e w5 ⟨t, es2, rfl, hT5, hm2, -, hb5⟩
  have hc5 := below_then HB4.out hb5
  have hb6 := below_alloc hc5 (Nat.le_refl _) (.cells #[.int .u64 7, .int .u64 3] 36)
  have hq6 := (Below.refl w5.heap.size w5).alloc (Nat.le_refl _) (.cells #[.int .u64 7, .int .u64 3] 36)
  have hT6 := hT5.stay hq6
  obtain ⟨top, hTB, hTop, htes, -, -⟩ := hT6.top
  have hpt := pt_lit2 w5 7 3 (by omega) (by omega)
  obtain ⟨fs, bot, gs, below, hW, hF, hfl, hE⟩ := way_any hTop hpt.zp
  have HP3 := hide (tr_put_on (v := 3) (c := 2) hT6 hTB htes hpt (by omega) hW hF hfl hE)
  have HB6 := hide hb6
  have HM2 := hide hm2
  have HWAY := hide (And.intro hW (And.intro hF (And.intro hfl (And.intro hTB (And.intro hT6 hpt.zp)))))
  clear hT5 hm2 hb5 hc5 hb6 hq6 HP2 HB4 hT6 hTB hTop htes hpt hW hF hfl hE
  go_wp2_with fail
  refine HP3.out.mono ?_
  rintro e w7 ⟨u, es3, rfl, hT7, hm3, hsame, hb7, hsh⟩
  have hc7 := below_then HB6.out hb7
  have hFA : ∃ (ra rb : Option Addr) (LA LB : List Nat) (da db : Nat) (ea eb : List Ent), TreeBlk w7 t 2 ra ∧ TreeBlk w7 u 2 rb ∧ TBel w7 2 ra LA da ea ∧ TBel w7 2 rb LB db eb ∧ LA.length = 3 ∧ LB.length = 3 ∧ comN LA LB = 1 := by
    obtain ⟨hW, hF, hfl, hTB, hT6, hzp⟩ := HWAY.out
    have hT6' := hT6.stay hb7
    obtain ⟨e2, e3⟩ := es17 HM1.out HM2.out hm3 hT6.sorted.1 hT7.sorted.1
    subst e2 e3
    obtain ⟨ra, LA, da, hra, hbA, -⟩ := hT6'.bel
    obtain ⟨rb, LB, db, hrb, hbB, -⟩ := hT7.bel
    have hne : u ≠ t := fun h => by
      have := hsame.1 h
      simp at this
    obtain ⟨n, hP, hn, -⟩ := put_fresh hzp hW (fun f hf => (hF f hf).stay hb7) hfl (Blk.below hTB hb7) hra hbA hsh hne hrb hbB
    have hn2 := path_two hT7 hP
    rcases hbA with ⟨-, -, -, h⟩ | ⟨g, hg, hBA⟩
    · cases h
    rcases hbB with ⟨-, -, -, h⟩ | ⟨g', hg', hBB⟩
    · cases h
    obtain ⟨h1, h2, h3⟩ := com_two hBA hBB (by simp) (by simp) (by simp) (by omega)
    exact ⟨ra, rb, LA, LB, da, db, _, _, hra, hrb, .inr ⟨g, hg, hBA⟩, .inr ⟨g', hg', hBB⟩, h1, h2, h3⟩
  obtain ⟨ra, rb, LA, LB, da, db, ea, eb, q1, q2, q3, q4, q5, q6, q7⟩ := hFA
  have hfr := sh_fresh q1 q2 q3 q4 (by omega) (by omega) (by omega) (by omega)
  rw [q6, q7] at hfr
  have HFR := hide hfr
  have HND := hide (fun W (hW : Below w7.heap.size w7 W) => sh_Nodes_of (w := W) (fun X hX => tr_root (q1.below (below_then hW hX))) (q3.stay hW) (by omega) (by omega) q3.nodup)
  rw [q5] at HND
  have HB7 := hide hc7
  clear hT7 hm3 hb7 hc7 hsame hsh q1 q2 q3 q4 q5 q6 q7 hfr HP3 HB6 HM1 HM2 HWAY
  go_wp2_with fail
  refine HFR.out.mono ?_
  rintro e w8 ⟨rfl, hb8⟩
  have HN8 := hide (HND.out w8 hb8)
  have HB8 := hide (below_then HB7.out hb8)
  clear hb8 HFR
  go_wp2_with fail
  refine HN8.out.mono ?_
  rintro e w9 ⟨rfl, hb9⟩
  have HF := hide (below_then HB8.out hb9)
  clear hb9
  go_wp2
  go_ret
  exact ⟨rfl, HF.out⟩
end Go.Proofs.Ytfoapkcgdkfggaa
set_option linter.unusedSimpArgs false
set_option linter.unusedVariables false
namespace Go.Proofs.Ytfoapkcgdkfggaa
open Go.RowKit
theorem fresh_l (w : World) (b : Option Addr) : Calls Try.prog 9 #[.pointer none, .pointer b] w fun e w' => e = .returned (.tuple #[.int .i64 0, .int .i64 1]) ∧ w = w' := sh_fresh_of (sh_shared_l w b)
theorem fresh_r (w : World) (a : Option Addr) (ha : ∀ x, a = some x → ∃ g, x = ⟨g, 0, none⟩) : Calls Try.prog 9 #[.pointer a, .pointer none] w fun e w' => e = .returned (.tuple #[.int .i64 0, .int .i64 1]) ∧ w = w' := by
  rcases a with _ | x
  · exact fresh_l w none
  · obtain ⟨g, rfl⟩ := ha x rfl
    exact sh_fresh_of (sh_shared_r w g)
set_option maxHeartbeats 8000000 in
set_option maxRecDepth 100000 in
theorem share_nil (w : World) (k0 : Int) (_ : (Lit.int .i64 k0).wf = true) : Calls Try.prog 3 #[.int .i64 k0] w fun e w' => e = .returned (.bool true) ∧ Below w.heap.size w w' := by
  have HNEW : ∀ W, Calls Try.prog 7 #[.int .i64 k0] W fun e W' => ∃ (t : Option Addr) (c : Int), e = .returned (.tuple #[.pointer t, .int .i64 c]) ∧ (∀ x, t = some x → ∃ g, x = ⟨g, 0, none⟩) ∧ (∀ W2, Below W'.heap.size W' W2 → Calls Try.prog 19 #[.pointer t] W2 fun e w' => e = .returned (.pointer none) ∧ W2 = w') ∧ Below W.heap.size W W' := by
    intro W
    by_cases hk : 1 ≤ k0 ∧ k0 ≤ 16
    · obtain ⟨k, rfl⟩ : ∃ k : Nat, k0 = (k : Int) := ⟨k0.toNat, by omega⟩
      refine (tr_new k W (by omega) (by omega)).mono ?_
      rintro e W' ⟨rfl, hT, hb⟩
      exact ⟨_, _, rfl, fun x hx => ⟨_, by injection hx with hx; exact hx.symm⟩, fun W2 h2 => tr_root (Blk.below hT h2), hb⟩
    · refine (tr_new_bad k0 W (by omega)).mono ?_
      rintro e W' ⟨rfl, rfl⟩
      exact ⟨none, _, rfl, fun x hx => (by cases hx), fun W2 _ => tr_root_nil W2, Below.refl _ _⟩
  have HN := hide HNEW
  clear HNEW
  go_enter Try.func3, Try.ntmps3
  go_wp2_with fail
  refine (awake17 w).mono ?_
  rintro e w1 ⟨rfl, hb1⟩
  have HB1 := hide hb1
  clear hb1
  go_wp2_with fail
  refine (HN.out w1).mono ?_
  rintro e w2 ⟨t, c, rfl, hpt, hR, hb2⟩
  have HB2 := hide (below_then HB1.out hb2)
  have HR := hide hR
  have HPT := hide hpt
  have H1 := hide (sh_shared_l w2 t)
  clear hb2 hR hpt HN
  go_wp2_with fail
  refine H1.out.mono ?_
  rintro e w3 ⟨rfl, rfl⟩
  have H2 := hide (fresh_r w2 t HPT.out)
  go_wp2_with fail
  refine H2.out.mono ?_
  rintro e w3 ⟨rfl, rfl⟩
  have hb4 := (Below.refl w2.heap.size w2).alloc (Nat.le_refl _) (.cells #[.pointer none, .pointer t] 23)
  have hI : ∀ i ∈ [(⟨none, 0, none, [], 0, []⟩ : TI), ⟨t, 0, none, [], 0, []⟩], i.ok (w2.alloc (.cells #[.pointer none, .pointer t] 23)) := by
    intro i hi
    simp only [List.mem_cons, List.not_mem_nil, or_false] at hi
    rcases hi with rfl | rfl
    · exact TI.none_ok _
    · exact ⟨fun W hW => HR.out W (below_then hb4 hW), .inl ⟨rfl, rfl, rfl, rfl⟩, Nat.zero_le _, Nat.zero_le _⟩
  have hal := sh_all (c := 2) [(⟨none, 0, none, [], 0, []⟩ : TI), ⟨t, 0, none, [], 0, []⟩] (Rw.of_blk (k := 0) (Blk.new w2 23 #[.pointer none, .pointer t]) rfl (fun j u hu => by simpa using hu)) hI (by simp [sumL]) (by simp)
  have HAL := hide hal
  have HB4 := hide (below_then HB2.out hb4)
  have HRR := hide (fun W (hW : Below w2.heap.size w2 W) => HR.out W hW)
  have HQ4 := hide hb4
  clear hb4 hI hal H1 H2
  go_wp2_with fail
  refine HAL.out.mono ?_
  rintro e w5 ⟨⟨U, rfl, hN, hU⟩, hb5⟩
  obtain rfl : U = [] := by
    rcases U with _ | ⟨x, xs⟩
    · rfl
    · have := (hU x).1 (by simp)
      simp at this
  have HB5 := hide (below_then HB4.out hb5)
  have HQ5 := hide (below_then HQ4.out hb5)
  clear hb5 hN hU HAL
  have N1 := hide (fun W => sh_Nodes_of (w := W) (t := none) (k := 0) (fun X _ => tr_root_nil X) (.inl ⟨rfl, rfl, rfl, rfl⟩) (Nat.zero_le _) (Nat.zero_le _) List.nodup_nil)
  have D1 := hide (fun W => sh_depth_of (w := W) (t := none) (k := 0) (fun X _ => tr_root_nil X) (.inl ⟨rfl, rfl, rfl, rfl⟩) (Nat.zero_le _) (Nat.zero_le _))
  have N2 := hide (fun W (hW : Below w2.heap.size w2 W) => sh_Nodes_of (w := W) (t := t) (k := 0) (fun X hX => HRR.out X (below_then hW hX)) (.inl ⟨rfl, rfl, rfl, rfl⟩) (Nat.zero_le _) (Nat.zero_le _) List.nodup_nil)
  have D2 := hide (fun W (hW : Below w2.heap.size w2 W) => sh_depth_of (w := W) (t := t) (k := 0) (fun X hX => HRR.out X (below_then hW hX)) (.inl ⟨rfl, rfl, rfl, rfl⟩) (Nat.zero_le _) (Nat.zero_le _))
  have s1 : ((([] : List TI).length : Nat) : Int) = 0 := rfl
  go_wp2_with fail
  refine (N1.out w5).mono ?_
  rintro e w6 ⟨rfl, hb6⟩
  have HB6 := hide (below_then HB5.out hb6)
  have HQ6 := hide (below_then HQ5.out hb6)
  clear hb6
  go_wp2_with fail
  refine (D1.out w6).mono ?_
  rintro e w7 ⟨rfl, hb7⟩
  have HB7 := hide (below_then HB6.out hb7)
  have HQ7 := hide (below_then HQ6.out hb7)
  clear hb7
  go_wp2_with fail
  refine (N2.out w7 HQ7.out).mono ?_
  rintro e w8 ⟨rfl, hb8⟩
  have HB8 := hide (below_then HB7.out hb8)
  have HQ8 := hide (below_then HQ7.out hb8)
  clear hb8
  go_wp2_with fail
  refine (D2.out w8 HQ8.out).mono ?_
  rintro e w9 ⟨rfl, hb9⟩
  have HB9 := hide (below_then HB8.out hb9)
  clear hb9
  go_wp2
  go_ret
  exact ⟨rfl, HB9.out⟩
end Go.Proofs.Ytfoapkcgdkfggaa
