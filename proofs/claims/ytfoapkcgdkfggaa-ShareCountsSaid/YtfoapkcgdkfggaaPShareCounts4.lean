/- ShareCounts: contracts and plain laws that the statement leans on (Fr Ke Ex Mp TrA TrB PlW WkB TrC). No condition. -/
import Derived.Test.YtfoapkcgdkfggaaPShareCounts3
import Derived.Maps.RangeRun
import Derived.Maps.RangeWalk
import Derived.Maps.OwnOps
set_option linter.unusedSimpArgs false
set_option linter.unusedVariables false
namespace Go.Proofs.Ytfoapkcgdkfggaa
open Go.RowKit
def kAt (ks : List Kid) (j : Nat) : Nat := match ks[j]? with | some q => q.at_ | none => 0
def kPt (ks : List Kid) (j : Nat) : Value := match ks[j]? with | some q => .pointer (some ⟨q.blk, 0, none⟩) | none => .pointer none
theorem kAt_some {ks : List Kid} {j : Nat} {q : Kid} (h : ks[j]? = some q) : kAt ks j = q.at_ := by unfold kAt; rw [h]
theorem kPt_some {ks : List Kid} {j : Nat} {q : Kid} (h : ks[j]? = some q) : kPt ks j = .pointer (some ⟨q.blk, 0, none⟩) := by unfold kPt; rw [h]
theorem kPt_none {ks : List Kid} {j : Nat} (h : ks.length ≤ j) : kPt ks j = .pointer none := by unfold kPt; rw [List.getElem?_eq_none h]
theorem kidTh_get (ks : List Kid) (j : Nat) : (kidTh ks)[j]? = (ks[j]?).map fun q => (q.at_, Value.pointer (some ⟨q.blk, 0, none⟩)) := by
  unfold kidTh
  rw [List.getElem?_map]
theorem kids_lt {ks : List Kid} (h : ks.Pairwise fun q r => q.at_ < r.at_) {i j : Nat} {q r : Kid} (hi : ks[i]? = some q) (hj : ks[j]? = some r) (hij : i < j) : q.at_ < r.at_ := by
  obtain ⟨h1, rfl⟩ := List.getElem?_eq_some_iff.1 hi
  obtain ⟨h2, rfl⟩ := List.getElem?_eq_some_iff.1 hj
  exact List.pairwise_iff_getElem.1 h i j h1 h2 hij
section
variable {w : World} {k g m : Nat} {pre : List Nat} {ks : List Kid}
theorem Fork.sorted (h : Fork w k g m pre ks) : ks.Pairwise fun q r => q.at_ < r.at_ := by
  obtain ⟨A, c, gs, h1, h2, h3, h4, h5, h6, h7, h8, h9, h10, h11⟩ := h
  exact h8
theorem Fork.two (h : Fork w k g m pre ks) : 2 ≤ ks.length := by
  obtain ⟨A, c, gs, h1, h2, h3, h4, h5, h6, h7, h8, h9, h10, h11⟩ := h
  exact h9
theorem Fork.kid (h : Fork w k g m pre ks) : ∀ q ∈ ks, NodeOf w k q.blk q.lv q.pre q.es ∧ q.lv < m ∧ addrOf q.pre m = q.at_ ∧ (∀ b, m < b → addrOf q.pre b = addrOf pre b) ∧ q.at_ < 2 ^ k := by
  obtain ⟨A, c, gs, h1, h2, h3, h4, h5, h6, h7, h8, h9, h10, h11⟩ := h
  intro q hq
  refine ⟨h5 q hq, h6 q hq, (h7 q hq).1, (h7 q hq).2, ?_⟩
  rw [← (h7 q hq).1]
  exact addr_lt_pow (h5 q hq).info.1 m
theorem Fork.lv (h : Fork w k g m pre ks) : m < 64 := by
  obtain ⟨A, c, gs, h1, _⟩ := h
  exact h1
theorem pow_le_16 {k a : Nat} (h : a < 2 ^ k) (hk : k ≤ 16) : a < 65536 := Nat.lt_of_lt_of_le h (pow_len_le (k := k) (n := 16) hk)
theorem nd_from_j (h : Fork w k g m pre ks) (j : Nat) (addr : Int) (hl : ∀ (i : Nat) (q : Kid), ks[i]? = some q → i < j → (q.at_ : Int) < addr) (hr : ∀ q, ks[j]? = some q → addr ≤ (q.at_ : Int)) :
    Calls Try.prog 43 #[.pointer (some ⟨g, 0, none⟩), .int .i64 addr] w fun e w' => e = .returned (.tuple #[.int .i64 ((kAt ks j : Nat) : Int), kPt ks j]) ∧ Below w.heap.size w w' := by
  obtain ⟨A, c, gs, hp, hS, hB⟩ := h.head
  refine (nd_from hB hS addr).mono ?_
  rintro e w' ⟨⟨a, x, rfl, hh⟩, hb⟩
  refine ⟨?_, hb⟩
  have h1 : fromTh (kidTh ks) addr = (kidTh ks)[j]? := by
    refine th_from_at hS.ok ?_ ?_
    · intro i t ht hij
      rw [kidTh_get] at ht
      cases hq : ks[i]? with
      | none => rw [hq] at ht; cases ht
      | some q => rw [hq] at ht; cases ht; exact hl i q hq hij
    · intro t ht
      rw [kidTh_get] at ht
      cases hq : ks[j]? with
      | none => rw [hq] at ht; cases ht
      | some q => rw [hq] at ht; cases ht; exact hr q hq
  rw [h1, kidTh_get] at hh
  unfold kAt kPt
  cases hq : ks[j]? with
  | none =>
    rw [hq] at hh
    rcases hh with hh | ⟨-, rfl, rfl⟩
    · cases hh
    · rfl
  | some q =>
    rw [hq] at hh
    rcases hh with hh | ⟨hh, -, -⟩
    · injection hh with hh
      injection hh with e1 e2
      rw [← e1, ← e2]
    · cases hh
theorem nd_from_0 (h : Fork w k g m pre ks) :
    Calls Try.prog 43 #[.pointer (some ⟨g, 0, none⟩), .int .i64 0] w fun e w' => e = .returned (.tuple #[.int .i64 ((kAt ks 0 : Nat) : Int), kPt ks 0]) ∧ Below w.heap.size w w' :=
  nd_from_j h 0 0 (fun i q _ hi => absurd hi (by omega)) (fun q _ => by omega)
theorem nd_from_next (h : Fork w k g m pre ks) {j : Nat} {q : Kid} (hq : ks[j]? = some q) :
    Calls Try.prog 43 #[.pointer (some ⟨g, 0, none⟩), .int .i64 ((q.at_ : Int) + 1)] w fun e w' => e = .returned (.tuple #[.int .i64 ((kAt ks (j + 1) : Nat) : Int), kPt ks (j + 1)]) ∧ Below w.heap.size w w' := by
  refine nd_from_j h (j + 1) _ (fun i r hr hi => ?_) (fun r hr => ?_)
  · rcases Nat.lt_or_ge i j with h1 | h1
    · have := kids_lt h.sorted hr hq h1
      omega
    · obtain rfl : i = j := by omega
      rw [hq] at hr
      injection hr with hr
      subst hr
      omega
  · have := kids_lt h.sorted hq hr (by omega)
    omega
end
end Go.Proofs.Ytfoapkcgdkfggaa
set_option linter.unusedSimpArgs false
set_option linter.unusedVariables false
namespace Go.Proofs.Ytfoapkcgdkfggaa
open Go.RowKit
def Keep (t : TypeId) (w w' : World) : Prop := ∀ (b : Nat) (cs : Array Value) (fr : Nat × Nat), w.heap[b]? = some (Obj.cells cs t fr) → w'.heap[b]? = some (Obj.cells cs t fr)
section
variable {t : TypeId} {w w' w'' : World}
theorem heap_lt {w : World} {b : Nat} {o : Obj} (h : w.heap[b]? = some o) : b < w.heap.size := (Array.getElem?_eq_some_iff.1 h).1
theorem Keep.refl (t : TypeId) (w : World) : Keep t w w := fun _ _ _ h => h
theorem Keep.trans (h : Keep t w w') (h' : Keep t w' w'') : Keep t w w'' := fun b cs fr hb => h' b cs fr (h b cs fr hb)
theorem Keep.below (hb : Below w.heap.size w w') : Keep t w w' := fun b cs fr h => (hb.block b (heap_lt h)).trans h
theorem Keep.set {g i : Nat} {t' : TypeId} {cs : Array Value} (hB : Blk w g t' cs) (hne : t ≠ t') (u : Value) : Keep t w (w.setCell ⟨g, i, none⟩ u) := by
  intro b cs' fr h
  refine (Below.heap_setCell w ⟨g, i, none⟩ u b ?_).trans h
  rintro rfl
  unfold Blk at hB
  rw [hB] at h
  injection h with h
  injection h with _ h
  exact hne h.symm
theorem Keep.grown {base n sz : Nat} {t' : TypeId} {v : Value} {xs : List Value} (ho : w.ownsRow base t' sz v n xs) (hne : t ≠ t') (hg : w.grownBy w' v.ownBlock) : Keep t w w' := by
  intro b cs fr h
  refine (hg.block b (heap_lt h) ?_).trans h
  intro hv
  rcases ho.2 with ⟨rfl, _⟩ | ⟨g, cap, cur, rfl, hg, hh, _⟩
  · simp [Value.ownBlock] at hv
  · have hgb : b = g := by simpa [Value.ownBlock] using hv
    subst hgb
    rw [hh] at h
    injection h with h
    injection h with _ h
    exact hne h.symm
theorem Blk.keep {g : Nat} {cs : Array Value} (h : Blk w g t cs) (hk : Keep t w w') : Blk w' g t cs := hk g cs (0, 0) h
theorem TyRow.keep {A : Option Addr} {n : Nat} (h : TyRow w t A n) (hk : Keep t w w') : TyRow w' t A n := by
  intro hn
  obtain ⟨b, o, cs, fr, h1, h2⟩ := h hn
  exact ⟨b, o, cs, fr, h1, hk b cs fr h2⟩
theorem Rw.keep {sz n : Nat} {A : Option Addr} {vs : List Value} (h : Rw w sz A n vs) (ht : TyRow w t A n) (hk : Keep t w w') : Rw w' sz A n vs := by
  refine ⟨h.1, fun hn => ?_⟩
  obtain ⟨b, o, h1, hl, hc⟩ := h.2 hn
  obtain ⟨b', o', cs, fr, h1', h2⟩ := ht hn
  rw [h1] at h1'
  injection h1' with h1'
  injection h1' with h3 h4
  subst h3 h4
  have h5 := hk b cs fr h2
  refine ⟨b, o, h1, heap_lt h5, fun j u hu => ?_⟩
  rw [World.cell?_of_block (w := w) (a := ⟨b, o + j, none⟩) (h5.trans h2.symm)]
  exact hc j u hu
end
/-- An entry whose point lies in a block of numbers. -/
def ER.okT (w : World) (r : ER) : Prop := r.ok w ∧ TyRow w 36 r.A r.n
section
variable {w w' : World} {r : ER}
theorem ER.okT.keep (h : r.okT w) (hk : Keep 36 w w') : r.okT w' := ⟨⟨⟨h.1.1.1, h.1.1.2.1.keep h.2 hk, h.1.1.2.2⟩, h.1.2⟩, h.2.keep hk⟩
theorem ER.okT.below (h : r.okT w) (hb : Below w.heap.size w w') : r.okT w' := h.keep (Keep.below hb)
theorem ER.okT.of_own {base n : Nat} {A : Option Addr} {c v : Nat} {p : List Nat} (h : w.ownsRow base 36 1 (.slice A n c) n (u64s p)) (hp : Zp n p) (hv : v < 2 ^ 64) : ER.okT w ⟨A, n, c, p, v⟩ := by
  obtain ⟨A', c', e, hc, hR⟩ := Rw.of_own h
  injection e with e1 e2 e3
  subst e1 e3
  refine ⟨⟨⟨hp.1, hR, hp.2⟩, hc, ?_, hv⟩, own_ty h⟩
  rcases h.2 with ⟨h1, -⟩ | ⟨g, cap, cur, h1, _, _, _, hm, _⟩
  · injection h1 with _ _ h3
    show c ≤ maxLen
    rw [h3]
    exact Nat.zero_le _
  · injection h1 with _ _ h3
    show c ≤ maxLen
    rw [h3]
    exact hm
theorem ER.okT.nil (w : World) : ER.okT w ⟨none, 0, 0, [], 0⟩ := ⟨⟨pt_nil w, Nat.le_refl _, Nat.zero_le _, by decide⟩, fun h => absurd h (by decide)⟩
end
/-- A list that grows behind a captured variable. -/
def Col {α : Type} (tv te : TypeId) (sz : Nat) (f : α → List Value) (B : Nat) (w : World) (bo : Nat) (rows : List α) : Prop :=
  B ≤ bo ∧ ∃ v, Blk w bo tv #[v] ∧ w.ownsRow B te sz v rows.length (rows.flatMap f)
theorem Col.below {α : Type} {tv te : TypeId} {sz : Nat} {f : α → List Value} {B : Nat} {w w' : World} {bo : Nat} {rows : List α} (h : Col tv te sz f B w bo rows) (hb : Below w.heap.size w w') : Col tv te sz f B w' bo rows := by
  obtain ⟨h1, v, h2, h3⟩ := h
  exact ⟨h1, v, h2.below hb, own_below h3 hb⟩
/-- What the captured variable holds. -/
theorem Col.cell {α : Type} {tv te : TypeId} {sz : Nat} {f : α → List Value} {B : Nat} {w : World} {bo : Nat} {rows : List α} (h : Col tv te sz f B w bo rows) :
    ∃ A c, w.cell? ⟨bo, 0, none⟩ = some (.slice A rows.length c) ∧ w.frozen? ⟨bo, 0, none⟩ = false ∧ bo < w.heap.size ∧ Blk w bo tv #[.slice A rows.length c] ∧ w.ownsRow B te sz (.slice A rows.length c) rows.length (rows.flatMap f) := by
  obtain ⟨h1, v, h2, h3⟩ := h
  obtain ⟨A, c, rfl, -, -⟩ := Rw.of_own h3
  exact ⟨A, c, h2.cell 0, h2.frozen 0, h2.lt, h2, h3⟩
end Go.Proofs.Ytfoapkcgdkfggaa
set_option linter.unusedSimpArgs false
set_option linter.unusedVariables false
namespace Go.Proofs.Ytfoapkcgdkfggaa
open Go.RowKit
/-- All is as it was but one block. -/
structure Ex (c : Nat) (w w' : World) : Prop where
  os : w'.os = w.os
  tape : w'.tape = w.tape
  output : w'.output = w.output
  size : w.heap.size ≤ w'.heap.size
  block : ∀ k, k < w.heap.size → k ≠ c → w'.heap[k]? = w.heap[k]?
section
variable {c : Nat} {w a a' : World}
theorem Ex.refl (c : Nat) (w : World) : Ex c w w := ⟨rfl, rfl, rfl, Nat.le_refl _, fun _ _ _ => rfl⟩
theorem Ex.below (h : Ex c w a) (hb : Below a.heap.size a a') : Ex c w a' :=
  ⟨hb.os.trans h.os, hb.tape.trans h.tape, hb.output.trans h.output, Nat.le_trans h.size hb.size, fun k hk hne => (hb.block k (Nat.lt_of_lt_of_le hk h.size)).trans (h.block k hk hne)⟩
theorem Ex.alloc (h : Ex c w a) (o : Obj) : Ex c w (a.alloc o) := h.below ((Below.refl _ _).alloc (Nat.le_refl _) o)
theorem Ex.drew (h : Ex c w a) : Ex c w a.drew := h.below (Below.refl _ _).drew
theorem Ex.set (h : Ex c w a) (i : Nat) (u : Value) : Ex c w (a.setCell ⟨c, i, none⟩ u) := by
  have hs := (Below.refl 0 a).setCell (p := ⟨c, i, none⟩) (Nat.zero_le _) u
  exact ⟨hs.os.trans h.os, hs.tape.trans h.tape, hs.output.trans h.output, Nat.le_trans h.size hs.size, fun k hk hne => (Below.heap_setCell a ⟨c, i, none⟩ u k hne).trans (h.block k hk hne)⟩
theorem Ex.trans (h : Ex c w a) (k : Ex c a a') : Ex c w a' :=
  ⟨k.os.trans h.os, k.tape.trans h.tape, k.output.trans h.output, Nat.le_trans h.size k.size, fun j hj hne => (k.block j (Nat.lt_of_lt_of_le hj h.size) hne).trans (h.block j hj hne)⟩
theorem Ex.to_below {B : Nat} (h : Ex c w a) (hc : B ≤ c) (hB : B ≤ w.heap.size) : Below B w a :=
  ⟨h.os, h.tape, h.output, h.size, fun k hk => h.block k (Nat.lt_of_lt_of_le hk hB) (by omega)⟩
theorem Ex.keep {t tc : TypeId} {cs : Array Value} (h : Ex c w a) (hB : Blk w c tc cs) (hne : t ≠ tc) : Keep t w a := by
  intro b cs' fr hb
  refine (h.block b (heap_lt hb) ?_).trans hb
  rintro rfl
  unfold Blk at hB
  rw [hB] at hb
  injection hb with hb
  injection hb with _ hb
  exact hne hb.symm
theorem Ex.blk {t : TypeId} {g : Nat} {cs : Array Value} (h : Ex c w a) (hB : Blk w g t cs) (hne : g ≠ c) : Blk a g t cs := (h.block g hB.lt hne).trans hB
end
end Go.Proofs.Ytfoapkcgdkfggaa
set_option linter.unusedSimpArgs false
set_option linter.unusedVariables false
namespace Go.Proofs.Ytfoapkcgdkfggaa
open Go.RowKit
open Go.ChangeMaps (setBlock)
abbrev ptrN (g : Nat) : Value := .pointer (some ⟨g, 0, none⟩)
theorem ptrN_inj {a b : Nat} (h : ptrN a = ptrN b) : a = b := by
  injection h with h
  injection h with h
  injection h
theorem ty_heap : Try.prog.underlying 61 = some (.map 51 4) := by kernel_rfl
theorem eq_node {w : World} {a b : Nat} {ca cb : Array Value} (ha : Blk w a 103 ca) (hb : Blk w b 103 cb) : (Op.equal 51 (ptrN a) (ptrN b)).run Try.prog w = .ok (decide (a = b)) w := by
  have key : ∀ c : Bool, (binOp .eql 51 (ptrN a) (ptrN b)).run Try.prog w = .ok (.bool c) w → (Op.equal 51 (ptrN a) (ptrN b)).run Try.prog w = .ok c w := by
    intro c h
    simp only [binOp, Sem.run_bind] at h
    rcases hr : (Op.equal 51 (ptrN a) (ptrN b)).run Try.prog w with ⟨v, w'⟩ | _ | _
    all_goals rw [hr] at h
    all_goals simp [Result.andThen] at h
    obtain ⟨h1, h2⟩ := h
    rw [h1, h2]
  by_cases hab : a = b
  · subst hab
    rw [decide_eq_true rfl]
    exact key _ (ptr_same _ _)
  · rw [decide_eq_false hab]
    exact key _ (ptr_other hab ha hb)
/-- The nodes that a map holds, each as true. -/
structure MapEs (w : World) (es : Array MapEntry) (clock : Nat) (S : List Nat) : Prop where
  keys : es.toList.map (·.key) = S.map ptrN
  vals : ∀ e ∈ es.toList, e.val = .bool true
  born : (es.toList.map (·.born)).Nodup
  old : ∀ e ∈ es.toList, e.born < clock
  nodup : S.Nodup
  node : ∀ g ∈ S, ∃ cs, Blk w g 103 cs
def MapAt (w : World) (b : Nat) (S : List Nat) : Prop := ∃ es clock, w.heap[b]? = some (.map es clock) ∧ MapEs w es clock S
/-- A block without cells: a map's, an iterator's. -/
def IsMap (w : World) (b : Nat) : Prop := ∀ cs t fr, w.heap[b]? ≠ some (.cells cs t fr)
theorem IsMap.of_map {w : World} {b : Nat} {es : Array MapEntry} {clock : Nat} (h : w.heap[b]? = some (.map es clock)) : IsMap w b := by
  intro cs t fr h'
  rw [h] at h'
  cases h'
theorem IsMap.of_iter {w : World} {b : Nat} {m : Option Nat} {s c : Nat} {seen : Array Nat} (h : w.heap[b]? = some (.mapIter m s seen c)) : IsMap w b := by
  intro cs t fr h'
  rw [h] at h'
  cases h'
section
variable {w w' : World} {b r : Nat} {S left : List Nat} {es : Array MapEntry} {clock : Nat}
theorem MapAt.isMap (h : MapAt w b S) : IsMap w b := by
  obtain ⟨es, clock, h, -⟩ := h
  exact IsMap.of_map h
theorem MapAt.lt (h : MapAt w b S) : b < w.heap.size := by
  obtain ⟨es, clock, h, -⟩ := h
  exact heap_lt h
theorem MapEs.world (h : MapEs w es clock S) (hw : ∀ g ∈ S, ∀ cs, Blk w g 103 cs → Blk w' g 103 cs) : MapEs w' es clock S :=
  ⟨h.keys, h.vals, h.born, h.old, h.nodup, fun g hg => (h.node g hg).imp fun cs hc => hw g hg cs hc⟩
theorem MapAt.below (h : MapAt w b S) (hb : Below w.heap.size w w') : MapAt w' b S := by
  obtain ⟨es, clock, h1, h2⟩ := h
  exact ⟨es, clock, (hb.block b (heap_lt h1)).trans h1, h2.world fun g _ cs hc => hc.below hb⟩
/-- Another map's block is changed. -/
theorem MapAt.exO {c : Nat} (h : MapAt w b S) (hx : Ex c w w') (hne : b ≠ c) (hc : IsMap w c) : MapAt w' b S := by
  obtain ⟨es, clock, h1, h2⟩ := h
  refine ⟨es, clock, (hx.block b (heap_lt h1) hne).trans h1, h2.world fun g _ cs hB => hx.blk hB ?_⟩
  rintro rfl
  exact hc _ _ _ hB
theorem blk_exM {c g : Nat} {t : TypeId} {cs : Array Value} (h : Blk w g t cs) (hx : Ex c w w') (hc : IsMap w c) : Blk w' g t cs := by
  refine hx.blk h ?_
  rintro rfl
  exact hc _ _ _ h
theorem find_node (hn : ∀ e ∈ es.toList, ∃ y cs, e.key = ptrN y ∧ Blk w y 103 cs) {x : Nat} {cx : Array Value} (hx : Blk w x 103 cx) : ∀ (l : List MapEntry) (i : Nat), (∀ e ∈ l, ∃ y cs, e.key = ptrN y ∧ Blk w y 103 cs) →
    ((Instr.findAsking 51 (ptrN x) l i).run Try.prog w = .ok none w ∧ ∀ e ∈ l, e.key ≠ ptrN x) ∨ ∃ j e, (Instr.findAsking 51 (ptrN x) l i).run Try.prog w = .ok (some (i + j, e.val)) w ∧ l[j]? = some e ∧ e.key = ptrN x
  | [], i, _ => .inl ⟨rfl, fun e h => by cases h⟩
  | e :: l, i, h => by
    obtain ⟨y, cs, he, hB⟩ := h e (List.mem_cons_self ..)
    have heq := eq_node hx hB
    unfold Instr.findAsking
    simp only [Sem.run_bind, he, heq, Result.andThen]
    by_cases hxy : x = y
    · right
      refine ⟨0, e, ?_, rfl, by rw [he, hxy]⟩
      simp [hxy]
    · rcases find_node hn hx l (i + 1) (fun e he => h e (List.mem_cons_of_mem _ he)) with ⟨h1, h2⟩ | ⟨j, e', h1, h2, h3⟩
      · left
        refine ⟨by simpa [hxy] using h1, fun e' he' => ?_⟩
        rcases List.mem_cons.1 he' with rfl | he'
        · rw [he]
          intro h0
          exact hxy (ptrN_inj h0).symm
        · exact h2 e' he'
      · right
        refine ⟨j + 1, e', ?_, by simpa using h2, h3⟩
        simpa [hxy, Nat.add_comm, Nat.add_left_comm] using h1
theorem MapEs.ent (h : MapEs w es clock S) {e : MapEntry} (he : e ∈ es.toList) : ∃ y ∈ S, e.key = ptrN y := by
  have : e.key ∈ S.map ptrN := by
    rw [← h.keys]
    exact List.mem_map.2 ⟨e, he, rfl⟩
  obtain ⟨y, h1, h2⟩ := List.mem_map.1 this
  exact ⟨y, h1, h2.symm⟩
theorem find_key (h : MapEs w es clock S) {x : Nat} {cx : Array Value} (hx : Blk w x 103 cx) :
    ((Instr.findKey 51 (ptrN x) es.toList).run Try.prog w = .ok none w ∧ x ∉ S) ∨ ∃ j e, (Instr.findKey 51 (ptrN x) es.toList).run Try.prog w = .ok (some (j, e.val)) w ∧ es.toList[j]? = some e ∧ e.key = ptrN x ∧ x ∈ S := by
  have hn : ∀ e ∈ es.toList, ∃ y cs, e.key = ptrN y ∧ Blk w y 103 cs := fun e he => by
    obtain ⟨y, h1, h2⟩ := h.ent he
    obtain ⟨cs, hc⟩ := h.node y h1
    exact ⟨y, cs, h2, hc⟩
  have hu : Try.prog.underlying 51 = some (.pointer 103) := Try.underlying51
  have hfk : (Instr.findKey 51 (ptrN x) es.toList).run Try.prog w = (Instr.findAsking 51 (ptrN x) es.toList 0).run Try.prog w := by
    unfold Instr.findKey
    simp only [Sem.run_bind, run_underlying hu, Result.andThen]
    rcases hl : es.toList with _ | ⟨e, l⟩
    · rfl
    · rfl
  rw [hfk]
  rcases find_node hn hx es.toList 0 hn with ⟨h1, h2⟩ | ⟨j, e, h1, h2, h3⟩
  · refine .inl ⟨h1, fun hxS => ?_⟩
    have : ptrN x ∈ es.toList.map (·.key) := by
      rw [h.keys]
      exact List.mem_map.2 ⟨x, hxS, rfl⟩
    obtain ⟨e, he, he2⟩ := List.mem_map.1 this
    exact h2 e he he2
  · refine .inr ⟨j, e, by simpa using h1, h2, h3, ?_⟩
    obtain ⟨y, h4, h5⟩ := h.ent (List.mem_of_getElem? h2)
    rw [h3] at h5
    rwa [ptrN_inj h5]
theorem check_node (w : World) (x : Nat) (e : Bool) : (Instr.checkKey e 10000 51 (ptrN x)).run Try.prog w = .ok () w := by
  have hu : Try.prog.underlying 51 = some (.pointer 103) := Try.underlying51
  unfold Instr.checkKey
  simp only [Sem.run_bind, run_underlying hu, Result.andThen]
  rfl
theorem Ex.setBlock {c : Nat} {w : World} (o : Obj) : Ex c w (Go.ChangeMaps.setBlock w c o) := by
  refine ⟨rfl, rfl, rfl, by simp [Go.ChangeMaps.setBlock], fun k hk hne => ?_⟩
  simp only [Go.ChangeMaps.setBlock]
  rw [Array.getElem?_setIfInBounds_ne (Ne.symm hne)]
theorem blk_setBlock {g c : Nat} {t : TypeId} {cs : Array Value} {o : Obj} (h : Blk w g t cs) (hc : IsMap w c) : Blk (Go.ChangeMaps.setBlock w c o) g t cs := blk_exM h (Ex.setBlock o) hc
theorem heap_setBlock {c : Nat} {o : Obj} (h : c < w.heap.size) : (Go.ChangeMaps.setBlock w c o).heap[c]? = some o := by
  simp only [Go.ChangeMaps.setBlock]
  rw [Array.getElem?_setIfInBounds_self_of_lt h]
/-- One more, or none. -/
def addN (S : List Nat) (x : Nat) : List Nat := if x ∈ S then S else S ++ [x]
theorem mem_addN {S : List Nat} {x y : Nat} : y ∈ addN S x ↔ y ∈ S ∨ y = x := by
  unfold addN
  split
  · rename_i h
    exact ⟨.inl, fun h' => h'.elim id (fun e => e ▸ h)⟩
  · simp
theorem map_update (h : MapAt w b S) {x : Nat} {cx : Array Value} (hx : Blk w x 103 cx) :
    ∃ w', (Instr.mapUpdate 61 (.map (some b)) (ptrN x) (.bool true)).run Try.prog w = .ok () w' ∧ MapAt w' b (addN S x) ∧ Ex b w w' := by
  have hm := h.isMap
  obtain ⟨es, clock, hb, hE⟩ := h
  rcases find_key hE hx with ⟨h1, h2⟩ | ⟨j, e, h1, h2, h3, h4⟩
  · refine ⟨setBlock w b (.map (es.push ⟨ptrN x, .bool true, clock⟩) (clock + 1)), ?_, ?_, Ex.setBlock _⟩
    · simp [Instr.mapUpdate, run_underlying ty_heap, MapKept.run_getObj_map hb, check_node, h1, MapKept.run_setObj_map _ hb, Result.andThen, setBlock]
    · refine ⟨_, _, heap_setBlock (heap_lt hb), ?_⟩
      unfold addN
      rw [if_neg h2]
      refine ⟨by simp [hE.keys], fun e he => ?_, ?_, fun e he => ?_, ?_, fun g hg => ?_⟩
      · simp only [Array.toList_push, List.mem_append, List.mem_singleton] at he
        rcases he with he | rfl
        · exact hE.vals e he
        · rfl
      · simp only [Array.toList_push, List.map_append, List.map_cons, List.map_nil]
        refine List.nodup_append.2 ⟨hE.born, by simp, fun a ha c hc => ?_⟩
        obtain ⟨e, he, rfl⟩ := List.mem_map.1 ha
        simp at hc
        subst hc
        exact Nat.ne_of_lt (hE.old e he)
      · simp only [Array.toList_push, List.mem_append, List.mem_singleton] at he
        rcases he with he | rfl
        · exact Nat.lt_succ_of_lt (hE.old e he)
        · exact Nat.lt_succ_self _
      · refine List.nodup_append.2 ⟨hE.nodup, by simp, fun a ha c hc => ?_⟩
        simp at hc
        subst hc
        rintro rfl
        exact h2 ha
      · rcases List.mem_append.1 hg with hg | hg
        · obtain ⟨cs, hc⟩ := hE.node g hg
          exact ⟨cs, blk_setBlock hc hm⟩
        · rw [List.mem_singleton] at hg
          subst hg
          exact ⟨cx, blk_setBlock hx hm⟩
  · have hv : e.val = .bool true := hE.vals e (List.mem_of_getElem? h2)
    have hj : es[j]? = some e := by simpa using h2
    have hsame : es.modify j (fun e => { e with key := ptrN x, val := .bool true }) = es := by
      apply Array.ext_getElem?
      intro i
      rw [Array.getElem?_modify]
      split
      · rename_i hij
        subst hij
        rw [hj]
        simp [← h3, ← hv]
      · rfl
    refine ⟨setBlock w b (.map es clock), ?_, ?_, Ex.setBlock _⟩
    · have hk : (Instr.keyThatStays (ptrN x) (ptrN x)).run Try.prog w = .ok (ptrN x) w := by
        unfold Instr.keyThatStays
        simp [Instr.sameBits]
      simp [Instr.mapUpdate, run_underlying ty_heap, MapKept.run_getObj_map hb, check_node, h1, hj, h3, hk, MapKept.run_setObj_map _ hb, Result.andThen, setBlock, hsame]
    · refine ⟨_, _, heap_setBlock (heap_lt hb), ?_⟩
      unfold addN
      rw [if_pos h4]
      exact hE.world fun g _ cs hc => blk_setBlock hc hm
theorem map_lookup (h : MapAt w b S) {x : Nat} {cx : Array Value} (hx : Blk w x 103 cx) : (Instr.lookup 61 (.map (some b)) (ptrN x) false).run Try.prog w = .ok (.bool (decide (x ∈ S))) w := by
  obtain ⟨es, clock, hb, hE⟩ := h
  have hz : (zeroValue 4).run Try.prog w = .ok (.bool false) w := by kernel_rfl
  rcases find_key hE hx with ⟨h1, h2⟩ | ⟨j, e, h1, h2, h3, h4⟩
  · rw [decide_eq_false h2]
    simp [Instr.lookup, run_underlying ty_heap, MapKept.run_getObj_map hb, check_node, h1, hz, Result.andThen]
  · rw [decide_eq_true h4]
    have hv : e.val = .bool true := hE.vals e (List.mem_of_getElem? h2)
    simp [Instr.lookup, run_underlying ty_heap, MapKept.run_getObj_map hb, check_node, h1, hv, Result.andThen]
theorem map_len (h : MapAt w b S) (ty : TypeId) : (Builtin.len_ #[61] ty #[.map (some b)]).run Try.prog w = .ok (.int .i64 (S.length : Int)) w := by
  obtain ⟨es, clock, hb, hE⟩ := h
  have hl : es.size = S.length := by
    have := congrArg List.length hE.keys
    simpa using this
  simp [Builtin.len_, run_underlying ty_heap, MapKept.run_getObj_map hb, goInt, Result.andThen, hl]
theorem map_new (w : World) : MapAt (w.alloc (.map #[] 0)) w.heap.size [] := ⟨#[], 0, heap_alloc_new w _, ⟨rfl, fun e h => by simp at h, by simp, fun e h => by simp at h, by simp, fun g h => by cases h⟩⟩
theorem map_box {ops : Array Oper} {rest : List Oper} {o : Oper} {a : Act} {Q : Exit → Act → World → Prop} (hg : o.guard = none) (m x v : Operand) (hop : o.op = Op.mapUpdate 61 m x v) (b : Nat) (S : List Nat)
    (hm : a.eval m = .map (some b)) (hown : MapAt w b S) (g : Nat) (cx : Array Value) (hx : a.eval x = ptrN g) (hv : a.eval v = .bool true) (hB : Blk w g 103 cx)
    (hK : ∀ w', MapAt w' b (addN S g) → Ex b w w' → wpList Try.prog ops Q rest (a.put o.dst undef) w') : wpList Try.prog ops Q (o :: rest) a w := by
  refine wpList_plain hg fun K' hK' => ?_
  obtain ⟨w', hrun, r1, r2⟩ := map_update hown hB
  unfold Oper.wp
  simp [execOp, hop, hm, hx, hv, hrun, Result.andThen]
  exact hK' _ _ (hK w' r1 r2)
def unptr : Value → Nat | .pointer (some a) => a.block | _ => 0
theorem perm_out {e : MapEntry} : ∀ {l : List MapEntry}, e ∈ l → (l.map (·.born)).Nodup → l.Perm (e :: l.filter (fun x => !(x.born == e.born)))
  | [], h, _ => by cases h
  | x :: l, h, hn => by
    simp only [List.map_cons, List.nodup_cons] at hn
    by_cases hx : x.born = e.born
    · have hl : ∀ y ∈ l, ¬ y.born = e.born := fun y hy h0 => hn.1 (List.mem_map.2 ⟨y, hy, h0.trans hx.symm⟩)
      have he : e = x := by
        rcases List.mem_cons.1 h with h | h
        · exact h
        · exact absurd rfl (hl e h)
      subst he
      rw [List.filter_cons_of_neg (by simp), List.filter_eq_self.2 (fun y hy => by simpa using hl y hy)]
    · have he : e ∈ l := by
        rcases List.mem_cons.1 h with h | h
        · exact absurd (by rw [h]) hx
        · exact h
      rw [List.filter_cons_of_pos (by simpa using hx)]
      exact ((perm_out he hn.2).cons x).trans (List.Perm.swap ..)
/-- Going through a map: what is left. -/
def IterAt (w : World) (r b : Nat) (S left : List Nat) : Prop := ∃ es clock seen c0, w.heap[b]? = some (.map es clock) ∧ MapEs w es clock S ∧ w.heap[r]? = some (.mapIter (some b) clock seen c0) ∧ clock ≤ c0 ∧ (leftOf es seen).toList.map (·.key) = left.map ptrN
theorem map_go (h : MapAt w b S) : ∃ ob : Obj, (Instr.range 61 (.map (some b))).run Try.prog w = .ok (.pointer (some ⟨w.heap.size, 0, none⟩)) (w.alloc ob) ∧ IterAt (w.alloc ob) w.heap.size b S S := by
  obtain ⟨es, clock, hb, hE⟩ := h
  have hb0 := (Below.refl w.heap.size w).alloc (Nat.le_refl _) (.mapIter (some b) clock #[] clock)
  refine ⟨_, run_range_map w _ _ _ b es clock ty_heap hb, es, clock, #[], clock, (hb0.block b (heap_lt hb)).trans hb, hE.world fun g _ cs hc => hc.below hb0, heap_alloc_new _ _, Nat.le_refl _, ?_⟩
  rw [← hE.keys]
  congr 1
  simp [leftOf]
theorem IterAt.map (h : IterAt w r b S left) : MapAt w b S := by
  obtain ⟨es, clock, seen, c0, h1, h2, -⟩ := h
  exact ⟨es, clock, h1, h2⟩
theorem IterAt.left_eq (h : IterAt w r b S left) : w.rangeLeft b r = left.length := by
  obtain ⟨es, clock, seen, c0, h1, h2, h3, h4, h5⟩ := h
  unfold World.rangeLeft
  rw [h1, h3]
  have := congrArg List.length h5
  simpa using this
theorem IterAt.iter (h : IterAt w r b S left) : IsMap w r := by
  obtain ⟨es, clock, seen, c0, h1, h2, h3, -⟩ := h
  exact IsMap.of_iter h3
theorem IterAt.ne {r : Nat} {left : List Nat} (h : IterAt w r b S left) : r ≠ b := by
  obtain ⟨es, clock, seen, c0, h1, h2, h3, -⟩ := h
  rintro rfl
  rw [h1] at h3
  cases h3
theorem left_push (es : Array MapEntry) (seen : Array Nat) (n : Nat) : (leftOf es (seen.push n)).toList = (leftOf es seen).toList.filter (fun x => !(x.born == n)) := by
  unfold leftOf
  simp only [Array.toList_filter, List.filter_filter]
  refine List.filter_congr fun x _ => ?_
  rw [contains_push]
  cases seen.contains x.born <;> cases (x.born == n) <;> rfl
theorem IterAt.next {r : Nat} {left : List Nat} (h : IterAt w r b S left) (ty : TypeId) :
    (left = [] ∧ (Instr.next (.pointer (some ⟨r, 0, none⟩)) false ty).run Try.prog w = .ok (.tuple #[.bool false]) w) ∨
    ∃ g left' w', (Instr.next (.pointer (some ⟨r, 0, none⟩)) false ty).run Try.prog w = .ok (.tuple #[.bool true, ptrN g, .bool true]) w' ∧ left.Perm (g :: left') ∧ g ∈ S ∧ IterAt w' r b S left' ∧ (Instr.entry (.pointer (some ⟨r, 0, none⟩))).run Try.prog w' = .ok (.tuple #[ptrN g, .bool true]) w' ∧ Ex r w w' := by
  have hne := h.ne
  obtain ⟨es, clock, seen, c0, h1, h2, h3, h4, h5⟩ := h
  rcases run_next_at (P := Try.prog) w ty r b clock c0 seen es clock h3 h1 h2.old h4 with ⟨h6, h7⟩ | ⟨e, he, w1, hw1, hrun⟩
  · refine .inl ⟨?_, h7⟩
    have : (leftOf es seen).toList = [] := by
      rw [Array.eq_empty_of_size_eq_zero h6]
    rw [this] at h5
    simpa using h5.symm
  · have hme := (mem_left he).1
    obtain ⟨g, hgS, hg⟩ := h2.ent hme
    have hv := h2.vals e hme
    rw [hg, hv] at hrun
    have hx1 : Ex r w w1 := by
      rcases hw1 with rfl | rfl
      · exact Ex.refl _ _
      · exact (Ex.refl _ _).drew
    have hx := hx1.trans (Ex.setBlock (c := r) (w := w1) (.mapIter (some b) clock (seen.push e.born) clock))
    have hr1 : r < w1.heap.size := Nat.lt_of_lt_of_le (heap_lt h3) hx1.size
    have hb' := (hx.block b (heap_lt h1) (Ne.symm hne)).trans h1
    have hr' : (setBlock w1 r (.mapIter (some b) clock (seen.push e.born) clock)).heap[r]? = _ := heap_setBlock hr1
    have hE' : MapEs (setBlock w1 r (.mapIter (some b) clock (seen.push e.born) clock)) es clock S := h2.world fun q hq cs hc => by
      refine hx.blk hc ?_
      rintro rfl
      unfold Blk at hc
      rw [h3] at hc
      cases hc
    have hsub : ∀ x ∈ (leftOf es (seen.push e.born)).toList, ptrN (unptr x.key) = x.key := fun x hx => by
      obtain ⟨y, -, hy⟩ := h2.ent (mem_left hx).1
      rw [hy]
      rfl
    refine .inr ⟨g, (leftOf es (seen.push e.born)).toList.map (fun x => unptr x.key), _, hrun, ?_, hgS, ⟨es, clock, _, _, hb', hE', hr', Nat.le_refl _, ?_⟩, ?_, hx⟩
    · have hp := perm_out he (by
        have : (leftOf es seen).toList.Sublist es.toList := by
          unfold leftOf
          rw [Array.toList_filter]
          exact List.filter_sublist
        exact (this.map _).nodup h2.born)
      rw [← left_push] at hp
      have hq := hp.map (fun x => unptr x.key)
      have hl : (leftOf es seen).toList.map (fun x => unptr x.key) = left := by
        have := congrArg (List.map unptr) h5
        rw [List.map_map, List.map_map] at this
        have h0 : (unptr ∘ ptrN) = id := by
          funext x
          rfl
        rw [h0, List.map_id] at this
        exact this
      rw [hl, List.map_cons, hg] at hq
      exact hq
    · rw [List.map_map]
      exact (List.map_congr_left fun x hx => (hsub x hx).symm)
    · have := run_entry_at (P := Try.prog) _ r b clock seen es clock e hr' hb' hme h2.born
      rw [hg, hv] at this
      exact this
theorem iter_next {ops : Array Oper} {rest : List Oper} {o : Oper} {a : Act} {Q : Exit → Act → World → Prop} {r : Nat} {left : List Nat} (hg : o.guard = none) (it : Operand) (hop : o.op = Op.next it false) (b : Nat) (S : List Nat)
    (hit : a.eval it = .pointer (some ⟨r, 0, none⟩)) (h : IterAt w r b S left)
    (hDone : left = [] → wpList Try.prog ops Q rest (a.put o.dst (.tuple #[.bool false])) w)
    (hMore : ∀ g left' w', left.Perm (g :: left') → g ∈ S → IterAt w' r b S left' → (Instr.entry (.pointer (some ⟨r, 0, none⟩))).run Try.prog w' = .ok (.tuple #[ptrN g, .bool true]) w' → Ex r w w' → wpList Try.prog ops Q rest (a.put o.dst (.tuple #[.bool true, ptrN g, .bool true])) w') :
    wpList Try.prog ops Q (o :: rest) a w := by
  refine wpList_plain hg fun K' hK' => ?_
  unfold Oper.wp
  rcases h.next o.type with ⟨h0, hrun⟩ | ⟨g, left', w', hrun, hp, hgS, hI, hen, hx⟩
  · simp [execOp, hop, hit, hrun, Result.andThen]
    exact hK' _ _ (hDone h0)
  · simp [execOp, hop, hit, hrun, Result.andThen]
    exact hK' _ _ (hMore g left' w' hp hgS hI hen hx)
end
end Go.Proofs.Ytfoapkcgdkfggaa
set_option linter.unusedSimpArgs false
set_option linter.unusedVariables false
namespace Go.Proofs.Ytfoapkcgdkfggaa
open Go.RowKit
/-- A tree of k coordinates with a root. -/
def TreeBlk (w : World) (t k : Nat) (root : Option Addr) : Prop := Blk w t 79 #[.int .i64 (k : Int), .pointer root]
/-- A tree with these entries. -/
def TreeOf (w : World) (k t : Nat) (es : List Ent) : Prop :=
  1 ≤ k ∧ k ≤ 16 ∧ ((TreeBlk w t k none ∧ es = []) ∨ ∃ g lv pre, TreeBlk w t k (some ⟨g, 0, none⟩) ∧ NodeOf w k g lv pre es)
theorem TreeOf.stay {w w' : World} {k t : Nat} {es : List Ent} (h : TreeOf w k t es) (hb : Below w.heap.size w w') : TreeOf w' k t es := by
  obtain ⟨h1, h2, h3⟩ := h
  refine ⟨h1, h2, ?_⟩
  rcases h3 with ⟨h3, h4⟩ | ⟨g, lv, pre, h3, h4⟩
  · exact .inl ⟨Blk.below h3 hb, h4⟩
  · exact .inr ⟨g, lv, pre, Blk.below h3 hb, h4.stay hb⟩
set_option maxHeartbeats 1000000 in
set_option maxRecDepth 100000 in
theorem tr_k {w : World} {t k : Nat} {root : Option Addr} (h : TreeBlk w t k root) : Calls Try.prog 27 #[.pointer (some ⟨t, 0, none⟩)] w fun e w' => e = .returned (.int .i64 (k : Int)) ∧ w = w' := by
  have c0 := Blk.cell h 0
  simp at c0
  clear h
  go_enter Try.func27, Try.ntmps27
  go_wp2
  go_ret
  exact ⟨rfl, rfl⟩
set_option maxHeartbeats 1000000 in
set_option maxRecDepth 100000 in
theorem tr_root {w : World} {t k : Nat} {root : Option Addr} (h : TreeBlk w t k root) : Calls Try.prog 19 #[.pointer (some ⟨t, 0, none⟩)] w fun e w' => e = .returned (.pointer root) ∧ w = w' := by
  have c1 := Blk.cell h 1
  simp at c1
  clear h
  go_enter Try.func19, Try.ntmps19
  go_wp2
  go_ret
  exact ⟨rfl, rfl⟩
set_option maxHeartbeats 1000000 in
set_option maxRecDepth 100000 in
theorem tr_root_nil (w : World) : Calls Try.prog 19 #[.pointer none] w fun e w' => e = .returned (.pointer none) ∧ w = w' := by
  go_enter Try.func19, Try.ntmps19
  go_wp2
  go_ret
  exact ⟨rfl, rfl⟩
set_option maxHeartbeats 1000000 in
set_option maxRecDepth 100000 in
theorem tr_of_nil (k : Nat) (w : World) (h1 : 1 ≤ k) (h2 : k ≤ 16) : Calls Try.prog 24 #[.int .i64 (k : Int), .pointer none] w fun e w' => e = .returned (.tuple #[.pointer (some ⟨w.heap.size, 0, none⟩), .int .i64 0]) ∧ TreeBlk w' w.heap.size k none ∧ Below w.heap.size w w' := by
  have e1 : decide ((k : Int) < 1) = false := by simp; omega
  have e2 : decide ((16 : Int) < (k : Int)) = false := by simp; omega
  go_enter Try.func24, Try.ntmps24
  go_wp2
  go_ret2
  exact ⟨rfl, Blk.new w _ _, (Below.refl _ _).alloc (Nat.le_refl _) _⟩
set_option maxHeartbeats 1000000 in
set_option maxRecDepth 100000 in
theorem tr_new (k : Nat) (w : World) (h1 : 1 ≤ k) (h2 : k ≤ 16) : Calls Try.prog 7 #[.int .i64 (k : Int)] w fun e w' => e = .returned (.tuple #[.pointer (some ⟨w.heap.size, 0, none⟩), .int .i64 0]) ∧ TreeBlk w' w.heap.size k none ∧ Below w.heap.size w w' := by
  have HO := hide (tr_of_nil k w h1 h2)
  go_enter Try.func7, Try.ntmps7
  go_wp2_with fail
  refine HO.out.mono ?_
  rintro e w1 ⟨rfl, hB, hb⟩
  have HB := hide hB
  clear hB
  go_wp2
  go_ret2
  exact ⟨rfl, HB.out, hb⟩
set_option maxHeartbeats 1000000 in
set_option maxRecDepth 100000 in
theorem tr_check_dim {w : World} {t k : Nat} {root : Option Addr} (h : TreeBlk w t k root) (A : Option Addr) (n c : Nat) (hn : n ≠ k) : Calls Try.prog 32 #[.pointer (some ⟨t, 0, none⟩), .slice A n c] w fun e w' => e = .returned (.int .i64 2) ∧ w = w' := by
  have c0 := Blk.cell h 0
  simp at c0
  have e1 : ((n : Int) != (k : Int)) = true := by simp; omega
  clear h hn
  go_enter Try.func32, Try.ntmps32
  go_wp2
  go_ret
  exact ⟨rfl, rfl⟩
set_option maxHeartbeats 1000000 in
set_option maxRecDepth 100000 in
theorem tr_check {w : World} {t k : Nat} {root : Option Addr} (h : TreeBlk w t k root) (A : Option Addr) (c : Nat) : Calls Try.prog 32 #[.pointer (some ⟨t, 0, none⟩), .slice A k c] w fun e w' => e = .returned (.int .i64 0) ∧ w = w' := by
  have c0 := Blk.cell h 0
  simp at c0
  clear h
  go_enter Try.func32, Try.ntmps32
  go_wp2
  go_ret
  exact ⟨rfl, rfl⟩
set_option maxHeartbeats 1000000 in
set_option maxRecDepth 100000 in
theorem tr_down {w : World} {k g m : Nat} {pre : List Nat} {ks : List Kid} (h : Fork w k g m pre ks) (hk1 : 1 ≤ k) (hk : k ≤ 16) {A : Option Addr} {c : Nat} {p : List Nat} (hp : Pt w A k p) :
    Calls Try.prog 49 #[.pointer (some ⟨g, 0, none⟩), .slice A k c] w fun e w' => e = .returned ((getTh (kidTh ks) (addrOf p m : Int)).getD (.pointer none)) ∧ Below w.heap.size w w' := by
  have hm : m < 64 := by obtain ⟨_, _, _, h1, _⟩ := h; exact h1
  obtain ⟨A', c', gs, hp', hS, hB⟩ := h.head
  have HL := hide (nd_level h.node)
  have HA := hide (zb_addr A k p c m w hp hk1 hk hm)
  have HK := hide (nd_kid hB hS (addrOf p m : Int))
  have hv : ∃ x, (getTh (kidTh ks) (addrOf p m : Int)).getD (.pointer none) = .pointer x := by
    cases hg : getTh (kidTh ks) (addrOf p m : Int) with
    | none => exact ⟨none, rfl⟩
    | some v =>
      obtain ⟨i, t, h1, h2⟩ := getTh_idx hg
      have ht := List.mem_of_getElem? h1
      have := getTh_some hS.ok ht
      rw [h2, hg] at this
      injection this with this
      obtain ⟨q, hq, rfl⟩ := List.mem_map.1 ht
      exact ⟨_, by rw [this]; rfl⟩
  obtain ⟨x, hx⟩ := hv
  rw [hx] at HK ⊢
  clear h hp hp' hS hB hx
  go_enter Try.func49, Try.ntmps49
  go_wp2_with fail
  refine HL.out.mono ?_
  rintro e w1 ⟨rfl, rfl⟩
  go_wp2_with fail
  refine HA.out.mono ?_
  rintro e w1 ⟨rfl, rfl⟩
  go_wp2_with fail
  refine HK.out.mono ?_
  rintro e w1 ⟨rfl, hb1⟩
  go_wp2
  go_ret
  exact ⟨rfl, hb1⟩
set_option maxHeartbeats 1000000 in
set_option maxRecDepth 100000 in
theorem tr_found_none (A : Option Addr) (c : Nat) (w : World) : Calls Try.prog 38 #[.slice A 0 c] w fun e w' => e = .returned (.tuple #[.agg #[.slice none 0 0, .int .u64 0], .bool false]) ∧ Below w.heap.size w w' := by
  have b1 := (Below.refl w.heap.size w).alloc (Nat.le_refl _) (.cells #[.slice none 0 0, .int .u64 0] 84)
  have hN := Blk.new w 84 #[.slice none 0 0, .int .u64 0]
  have z0 := hN.frozen 0
  have z1 := hN.frozen 1
  have e2 := (hN.set1 (i := 0) (.slice none 0 0)).set1 (i := 1) (.int .u64 0)
  have b2 := ((b1.setCell (p := ⟨w.heap.size, 0, none⟩) (Nat.le_refl _) (.slice none 0 0)).setCell (p := ⟨w.heap.size, 1, none⟩) (Nat.le_refl _) (.int .u64 0))
  have g0 := e2.cell 0
  have g1 := e2.cell 1
  simp at g0 g1
  have HB2 := hide b2
  have HB1 := hide b1
  clear hN e2 b2
  go_enter Try.func38, Try.ntmps38
  go_wp2
  first
    | refine bodyPost_ret (v := .tuple #[.agg #[.slice none 0 0, .int .u64 0], .bool false]) (by simp [results, Try.results38, go_sem, g0, g1]) rfl ⟨rfl, HB2.out⟩
    | refine bodyPost_ret (v := .tuple #[.agg #[.slice none 0 0, .int .u64 0], .bool false]) (by simp [results, Try.results38, go_sem]) rfl ⟨rfl, HB1.out⟩
/-- A fork on a path. -/
structure PF where
  g : Nat
  lv : Nat
  pre : List Nat
  ks : List Kid
/-- What a node tells: its level, prefix, entries. -/
structure NT where
  lv : Int
  pre : List Nat
  es : List Ent
/-- The node that hangs at the path's head, when another one hangs at its end. -/
def upN : List PF → NT → NT
  | [], n => n
  | f :: fs, n => ⟨f.lv, f.pre, kidEs (insK f.ks ⟨addrOf (upN fs n).pre f.lv, 0, (upN fs n).lv, (upN fs n).pre, (upN fs n).es⟩)⟩
def ChainOk : List PF → NT → Prop
  | [], _ => True
  | f :: fs, n => ChainOk fs n ∧ part f.pre (upN fs n).pre ≤ (f.lv : Int) ∧ (upN fs n).lv < (f.lv : Int)
theorem kidEs_blk (ks : List Kid) (a g g' : Nat) (l : Int) (p : List Nat) (es : List Ent) : kidEs (insK ks ⟨a, g, l, p, es⟩) = kidEs (insK ks ⟨a, g', l, p, es⟩) := by
  unfold kidEs insK
  simp
theorem chain_drop : ∀ (fs : List PF) (n : NT) (i : Nat), ChainOk fs n → ChainOk (fs.drop i) n
  | fs, n, 0, h => by simpa using h
  | [], n, i + 1, h => by simpa using h
  | f :: fs, n, i + 1, h => by simpa using chain_drop fs n i h.1
set_option maxHeartbeats 2000000 in
set_option maxRecDepth 100000 in
theorem tr_up {w : World} {t k g0 : Nat} {root : Option Addr} (fs : List PF) (n0 : NT) (A : Option Addr) (m c : Nat) (hT : TreeBlk w t k root) (hk1 : 1 ≤ k) (hk : k ≤ 16) (hA : Rw w 1 A m (ptrs (fs.map (·.g)))) (hm : fs.length = m) (hm100 : m ≤ 1000)
    (hF : ∀ f ∈ fs, Fork w k f.g f.lv f.pre f.ks) (hn : NodeOf w k g0 n0.lv n0.pre n0.es) (hc : ChainOk fs n0) :
    Calls Try.prog 41 #[.pointer (some ⟨t, 0, none⟩), .slice A m c, .pointer (some ⟨g0, 0, none⟩)] w fun e w' => ∃ t' g', e = .returned (.pointer (some ⟨t', 0, none⟩)) ∧ w.heap.size ≤ t' ∧ TreeBlk w' t' k (some ⟨g', 0, none⟩) ∧ NodeOf w' k g' (upN fs n0).lv (upN fs n0).pre (upN fs n0).es ∧ Below w.heap.size w w' := by
  have HT := hide hT
  have HA := hide hA
  have HF := hide hF
  have HN := hide hn
  have HC := hide hc
  have HM := hide hm
  have ew : IntKind.i64.wrap ((m : Int) - 1) = (m : Int) - 1 := by rw [IntKind.wrap_i64]; omega
  clear hT hA hF hn hc hm
  go_enter Try.func41, Try.ntmps41
  go_wp2
  go_loopw [2, 7] (fun x2 x7 wr => ∃ (i gc : Nat), x7 = .int .i64 ((i : Int) - 1) ∧ i ≤ m ∧ x2 = .pointer (some ⟨gc, 0, none⟩) ∧ NodeOf wr k gc (upN (fs.drop i) n0).lv (upN (fs.drop i) n0).pre (upN (fs.drop i) n0).es ∧ Below w.heap.size w wr) (fun _ x _ => (intOf x + 1).toNat)
  case atStart =>
    refine ⟨m, g0, rfl, Nat.le_refl _, rfl, ?_, Below.refl _ _⟩
    rw [List.drop_of_length_le (by have := HM.out; omega)]
    exact HN.out
  case round =>
    obtain ⟨i, gc, rfl, hi, rfl, hN, hb⟩ := hrel
    have HNN := hide hN
    clear hN
    rcases Nat.eq_zero_or_pos i with rfl | hi0
    · have t0 := Blk.cell (Blk.below HT.out hb) 0
      simp at t0
      go_wp2
      go_ret
      refine ⟨_, gc, rfl, hb.size, Blk.new _ _ _, HNN.out.stay ((Below.refl _ _).alloc (Nat.le_refl _) _), below_alloc hb (Nat.le_refl _) _⟩
    · obtain ⟨j, rfl⟩ : ∃ j, i = j + 1 := ⟨i - 1, by omega⟩
      have hjl : j < fs.length := by have := HM.out; omega
      obtain ⟨b, o, rfl, hbl, u, hu, k0⟩ := (HA.out.below hb).one (i := j) (by omega)
      have hfj : fs[j]? = some fs[j] := List.getElem?_eq_getElem hjl
      have hd : fs.drop j = fs[j] :: fs.drop (j + 1) := List.drop_eq_getElem_cons hjl
      generalize fs[j] = f at *
      unfold ptrs at hu
      rw [List.map_map, List.getElem?_map, hfj] at hu
      simp at hu
      rw [← hu] at k0
      have hch := chain_drop fs n0 j HC.out
      rw [hd] at hch
      have hW := nd_with ((HF.out f (List.mem_of_getElem? hfj)).stay hb) HNN.out hk1 hk hch.2.1 hch.2.2
      have HW := hide hW
      have HD := hide hd
      have e0 : ((j + 1 : Nat) : Int) - 1 = (j : Int) := by omega
      rw [e0]
      have ej : (0 : Int) ≤ (j : Int) := by omega
      have ejm : (j : Int) < (m : Int) := by omega
      have ejn : j < m := by omega
      clear hu hfj hd hch hW e0
      go_wp2_with fail
      refine HW.out.mono ?_
      rintro e w2 ⟨gn, rfl, hFn, hgn, hb2⟩
      have HFn := hide hFn
      clear hFn HW
      go_wp2
      go_roundw
      case rel =>
        refine ⟨j, gn, by go_num, by omega, rfl, ?_, below_then hb hb2⟩
        rw [HD.out]
        have := HFn.out.node
        rw [kidEs_blk _ _ _ 0] at this
        exact this
      case measure => simp [intOf]
set_option maxHeartbeats 2000000 in
set_option maxRecDepth 100000 in
/-- found, over what the last node's Entry tells. -/
theorem tr_found_some (A : Option Addr) (n c g : Nat) (gs : List Nat) (w : World) (hA : Rw w 1 A n (ptrs gs)) (hn1 : 1 ≤ n) (hn : n ≤ 1000) (hg : gs[n - 1]? = some g) (k v : Nat) (ok : Bool)
    (hE : ∀ W, Below w.heap.size w W → Calls Try.prog 59 #[.pointer (some ⟨g, 0, none⟩)] W fun e w' => (∃ B d, e = .returned (.tuple #[.agg #[.slice B k d, .int .u64 (v : Int)], .bool ok])) ∧ Below W.heap.size W w') :
    Calls Try.prog 38 #[.slice A n c] w fun e w' => (∃ B d, e = .returned (.tuple #[.agg #[.slice B k d, .int .u64 (v : Int)], .bool ok])) ∧ Below w.heap.size w w' := by
  have b1 := (Below.refl w.heap.size w).alloc (Nat.le_refl _) (.cells #[.slice none 0 0, .int .u64 0] 84)
  have hN := Blk.new w 84 #[.slice none 0 0, .int .u64 0]
  obtain ⟨i, hi⟩ : ∃ i, i = n - 1 := ⟨_, rfl⟩
  rw [← hi] at hg
  obtain ⟨b, o, rfl, hbl, u, hu, k0⟩ := (hA.below b1).one (i := i) (by omega)
  unfold ptrs at hu
  rw [List.getElem?_map, hg] at hu
  simp at hu
  rw [← hu] at k0
  have HE := hide (hE _ b1)
  have HN := hide hN
  have e2 : (n : Int) - 1 = (i : Int) := by omega
  have hin : i < n := by omega
  have hi0 : (0 : Int) ≤ (i : Int) := by omega
  have hi7 : (i : Int) ≤ 70368744177664 := by omega
  have e5 : IntKind.i64.wrap (i : Int) = (i : Int) := by rw [IntKind.wrap_i64]; omega
  have e6 : wrap64 (i : Int) = (i : Int) := by unfold wrap64; omega
  have hin' : (i : Int) < (n : Int) := by omega
  have ne0 : ((n : Int) == 0) = false := by simp; omega
  clear hA hg hu hE hN hi
  go_enter Try.func38, Try.ntmps38
  go_wp2_with fail
  refine HE.out.mono ?_
  rintro e w2 ⟨⟨B, d, rfl⟩, hb2⟩
  have hN2 := HN.out.below hb2
  have z0 := hN2.frozen 0
  have z1 := hN2.frozen 1
  have y0 := hN2.cell 0
  have y1 := hN2.cell 1
  simp at y0 y1
  have c2 := below_then b1 hb2
  have e3 := (hN2.set1 (i := 0) (.slice B k d)).set1 (i := 1) (.int .u64 (v : Int))
  have b3 := ((c2.setCell (p := ⟨w.heap.size, 0, none⟩) (Nat.le_refl _) (.slice B k d)).setCell (p := ⟨w.heap.size, 1, none⟩) (Nat.le_refl _) (.int .u64 (v : Int)))
  have g0 := e3.cell 0
  have g1 := e3.cell 1
  simp at g0 g1
  have HB3 := hide b3
  clear hN2 e3 b3
  go_wp2
  refine bodyPost_ret (v := .tuple #[.agg #[.slice B k d, .int .u64 (v : Int)], .bool ok]) (by simp [results, Try.results38, go_sem, g0, g1]) rfl ⟨⟨B, d, rfl⟩, HB3.out⟩
theorem part_le_iff {k : Nat} {p q : List Nat} (hp : Zp k p) (hq : Zp k q) (m : Int) (hm : -1 ≤ m) : part p q ≤ m ↔ ∀ b : Nat, m < (b : Int) → addrOf p b = addrOf q b := by
  obtain ⟨h1, h2, h3, h4⟩ := part_spec p q (by rw [hp.1, hq.1]) hp.2 hq.2
  constructor
  · intro h b hb
    exact h3 b (by omega)
  · intro h
    rcases Int.lt_or_le m (part p q) with h5 | h5
    · exact absurd (h (part p q).toNat (by omega)) (h4 (by omega))
    · exact h5
/-- What is told of a fork, with no world in sight. -/
structure FK (k : Nat) (f : PF) : Prop where
  lv : f.lv < 64
  pre : Zp k f.pre
  ksz : ∀ q ∈ f.ks, Zp k q.pre
  at_ : ∀ q ∈ f.ks, addrOf q.pre f.lv = q.at_ ∧ ∀ b, f.lv < b → addrOf q.pre b = addrOf f.pre b
  low : ∀ q ∈ f.ks, q.lv < f.lv
  up : ∀ q ∈ f.ks, -1 ≤ q.lv
  es : ∀ q ∈ f.ks, ∀ e ∈ q.es, Zp k e.1 ∧ addrOf e.1 f.lv = q.at_ ∧ ∀ b, f.lv < b → addrOf e.1 b = addrOf f.pre b
  sort : f.ks.Pairwise fun q r => q.at_ < r.at_
  two : 2 ≤ f.ks.length
theorem Fork.fk {w : World} {k : Nat} {f : PF} (h : Fork w k f.g f.lv f.pre f.ks) : FK k f := by
  obtain ⟨A, c, gs, h1, h2, h3, h4, h5, h6, h7, h8, h9, h10, h11⟩ := h
  refine ⟨h1, h2.zp, fun q hq => (h5 q hq).info.1, h7, h6, fun q hq => (h5 q hq).info.2.2.1, fun q hq e he => ?_, h8, h9⟩
  obtain ⟨i1, i2, i3, i4, i5, i6⟩ := (h5 q hq).info
  obtain ⟨j1, j2, j3⟩ := i5 e he
  have hl := h6 q hq
  refine ⟨j1, ?_, fun b hb => ?_⟩
  · rw [j3 f.lv hl, (h7 q hq).1]
  · rw [j3 b (by omega), (h7 q hq).2 b hb]
def PF.nt (f : PF) : NT := ⟨f.lv, f.pre, kidEs f.ks⟩
def kidAt (ks : List Kid) (a : Nat) : Option (Nat × NT) := (ks.find? fun q => decide (q.at_ = a)).map fun q => (q.blk, ⟨q.lv, q.pre, q.es⟩)
def esOf : Option (Nat × NT) → List Ent
  | none => []
  | some x => x.2.es
theorem kidAt_none {ks : List Kid} {a : Nat} (h : kidAt ks a = none) : ∀ q ∈ ks, q.at_ ≠ a := by
  unfold kidAt at h
  rw [Option.map_eq_none_iff, List.find?_eq_none] at h
  intro q hq hqa
  exact h q hq (by simpa using hqa)
theorem kidAt_some {ks : List Kid} {a : Nat} {x : Nat × NT} (h : kidAt ks a = some x) : ∃ q ∈ ks, q.at_ = a ∧ x = (q.blk, ⟨q.lv, q.pre, q.es⟩) := by
  unfold kidAt at h
  obtain ⟨q, hq, rfl⟩ := Option.map_eq_some_iff.1 h
  exact ⟨q, List.mem_of_find?_eq_some hq, by simpa using List.find?_some hq, rfl⟩
/-- The forks on a point's path, and what hangs where they end. -/
def Way (p : List Nat) : List PF → Option (Nat × NT) → Option (Nat × NT) → Prop
  | [], top, bot => top = bot
  | f :: fs, top, bot => top = some (f.g, f.nt) ∧ part f.pre p ≤ (f.lv : Int) ∧ Way p fs (kidAt f.ks (addrOf p f.lv)) bot
theorem Way.snoc {p : List Nat} : ∀ {fs : List PF} {top bot : Option (Nat × NT)} {f : PF}, Way p fs top bot → bot = some (f.g, f.nt) → part f.pre p ≤ (f.lv : Int) → Way p (fs ++ [f]) top (kidAt f.ks (addrOf p f.lv))
  | [], top, bot, f, h, hb, hc => ⟨by rw [show top = bot from h, hb], hc, rfl⟩
  | f' :: fs, top, bot, f, h, hb, hc => ⟨h.1, h.2.1, Way.snoc h.2.2 hb hc⟩
theorem Way.cut {p : List Nat} : ∀ {fs : List PF} {top bot : Option (Nat × NT)} {f : PF}, Way p (fs ++ [f]) top bot → Way p fs top (some (f.g, f.nt)) ∧ part f.pre p ≤ (f.lv : Int) ∧ bot = kidAt f.ks (addrOf p f.lv)
  | [], top, bot, f, h => ⟨h.1, h.2.1, h.2.2.symm⟩
  | f' :: fs, top, bot, f, h => by
    obtain ⟨h1, h2, h3⟩ := h
    obtain ⟨g1, g2, g3⟩ := Way.cut h3
    exact ⟨⟨h1, h2, g1⟩, g2, g3⟩
theorem Way.len {p : List Nat} {k : Nat} : ∀ {fs : List PF} {x : Nat × NT} {bot : Option (Nat × NT)}, (∀ f ∈ fs, FK k f) → -1 ≤ x.2.lv → Way p fs (some x) bot → (fs.length : Int) ≤ x.2.lv + 1
  | [], x, bot, hF, hx, h => by simp; omega
  | f :: fs, x, bot, hF, hx, h => by
    obtain ⟨h1, h2, h3⟩ := h
    injection h1 with h1
    subst h1
    have hf := hF f List.mem_cons_self
    cases hk : kidAt f.ks (addrOf p f.lv) with
    | none =>
      rw [hk] at h3
      cases fs with
      | nil => simp [PF.nt]; omega
      | cons f2 fs => exact absurd h3.1 (by simp)
    | some y =>
      rw [hk] at h3
      obtain ⟨q, hq, -, rfl⟩ := kidAt_some hk
      have := Way.len (fun f hf => hF f (List.mem_cons_of_mem _ hf)) (hf.up q hq) h3
      have := hf.low q hq
      simp [PF.nt] at *
      omega
/-- A point's entries are where its path ends. -/
theorem FK.mem {k : Nat} {f : PF} (h : FK k f) {e : Ent} {a : Nat} (he : addrOf e.1 f.lv = a) : e ∈ kidEs f.ks ↔ e ∈ esOf (kidAt f.ks a) := by
  unfold kidEs
  rw [List.mem_flatMap]
  cases hk : kidAt f.ks a with
  | none =>
    simp only [esOf]
    constructor
    · rintro ⟨q, hq, heq⟩
      exact absurd ((h.es q hq e heq).2.1.symm.trans he) (kidAt_none hk q hq)
    · intro h; cases h
  | some x =>
    obtain ⟨q, hq, hqa, rfl⟩ := kidAt_some hk
    simp only [esOf]
    constructor
    · rintro ⟨r, hr, her⟩
      have hra := (h.es r hr e her).2.1
      have : r = q := by
        have hs := h.sort
        obtain ⟨i, hi, rfl⟩ := List.getElem_of_mem hr
        obtain ⟨j, hj, rfl⟩ := List.getElem_of_mem hq
        rw [List.pairwise_iff_getElem] at hs
        rcases Nat.lt_trichotomy i j with hij | hij | hij
        · have := hs i j hi hj hij
          omega
        · simp [hij]
        · have := hs j i hj hi hij
          omega
      rw [← this]
      exact her
    · intro h2
      exact ⟨q, hq, h2⟩
theorem Way.mem {k : Nat} {p : List Nat} : ∀ {fs : List PF} {top bot : Option (Nat × NT)}, (∀ f ∈ fs, FK k f) → Way p fs top bot → ∀ v, (p, v) ∈ esOf top ↔ (p, v) ∈ esOf bot
  | [], top, bot, hF, h, v => by rw [show top = bot from h]
  | f :: fs, top, bot, hF, h, v => by
    obtain ⟨rfl, h2, h3⟩ := h
    rw [← Way.mem (fun f hf => hF f (List.mem_cons_of_mem _ hf)) h3 v]
    exact (hF f List.mem_cons_self).mem rfl
/-- What fits below the last fork of a path. -/
def FitsAt (p : List Nat) (f : PF) (n : NT) : Prop := part f.pre n.pre ≤ (f.lv : Int) ∧ n.lv < (f.lv : Int) ∧ addrOf n.pre f.lv = addrOf p f.lv
theorem way_up {k : Nat} {p : List Nat} {n : NT} {N : Ent → Prop} (hN : ∀ e, N e → e.1 = p) : ∀ {fs : List PF} {top bot : Option (Nat × NT)}, (∀ f ∈ fs, FK k f) → Way p fs top bot → (∀ f ∈ fs.getLast?, FitsAt p f n) → (∀ e, e ∈ n.es ↔ N e ∨ (e ∈ esOf bot ∧ e.1 ≠ p)) →
    ChainOk fs n ∧ ∀ e, e ∈ (upN fs n).es ↔ N e ∨ (e ∈ esOf top ∧ e.1 ≠ p)
  | [], top, bot, hF, hW, hL, he => ⟨trivial, by rw [show top = bot from hW]; exact he⟩
  | f :: fs, top, bot, hF, hW, hL, he => by
    obtain ⟨rfl, h2, h3⟩ := hW
    have hf := hF f List.mem_cons_self
    have hL2 : ∀ f' ∈ fs.getLast?, FitsAt p f' n := by
      intro f' hf'
      refine hL f' ?_
      cases fs with
      | nil => simp at hf'
      | cons f2 fs => rwa [List.getLast?_cons_cons]
    obtain ⟨i1, i2⟩ := way_up hN (fun f hf => hF f (List.mem_cons_of_mem _ hf)) h3 hL2 he
    have hfit : FitsAt p f (upN fs n) := by
      cases fs with
      | nil => exact hL f (by simp)
      | cons f2 fs =>
        obtain ⟨h4, h5, h6⟩ := h3
        obtain ⟨q, hq, hqa, hx⟩ := kidAt_some h4
        injection hx with hx1 hx2
        have hlow := hf.low q hq
        obtain ⟨a1, a2⟩ := hf.at_ q hq
        have hz := hf.ksz q hq
        simp only [PF.nt, NT.mk.injEq] at hx2
        obtain ⟨x1, x2, x3⟩ := hx2
        refine ⟨?_, ?_, ?_⟩
        · show part f.pre f2.pre ≤ _
          rw [x2]
          exact (part_le_iff hf.pre hz _ (by omega)).2 fun b hb => (a2 b (by omega)).symm
        · show (f2.lv : Int) < _
          rw [x1]; exact hlow
        · show addrOf f2.pre f.lv = _
          rw [x2, a1, hqa]
    refine ⟨⟨i1, hfit.1, hfit.2.1⟩, fun e => ?_⟩
    have ha := hfit.2.2
    have hi := i2 e
    have hun : (upN (f :: fs) n).es = kidEs (insK f.ks ⟨addrOf (upN fs n).pre f.lv, 0, (upN fs n).lv, (upN fs n).pre, (upN fs n).es⟩) := rfl
    rw [hun]
    generalize upN fs n = m at *
    rw [ha]
    have h4 : e ∈ kidEs (insK f.ks ⟨addrOf p f.lv, 0, m.lv, m.pre, m.es⟩) ↔ e ∈ m.es ∨ ∃ r ∈ f.ks, r.at_ ≠ addrOf p f.lv ∧ e ∈ r.es := by
      unfold kidEs
      simp only [List.mem_flatMap, mem_insK_iff]
      constructor
      · rintro ⟨r, rfl | ⟨hr, hra⟩, her⟩
        · exact .inl her
        · exact .inr ⟨r, hr, hra, her⟩
      · rintro (h | ⟨r, hr, hra, her⟩)
        · exact ⟨_, .inl rfl, h⟩
        · exact ⟨r, .inr ⟨hr, hra⟩, her⟩
    rw [h4, hi]
    show _ ↔ N e ∨ (e ∈ kidEs f.ks ∧ e.1 ≠ p)
    constructor
    · rintro ((h | ⟨h, hp⟩) | ⟨r, hr, hra, her⟩)
      · exact .inl h
      · refine .inr ⟨?_, hp⟩
        cases hk : kidAt f.ks (addrOf p f.lv) with
        | none => rw [hk] at h; cases h
        | some x =>
          rw [hk] at h
          obtain ⟨q, hq, hqa, rfl⟩ := kidAt_some hk
          exact List.mem_flatMap.2 ⟨q, hq, h⟩
      · refine .inr ⟨List.mem_flatMap.2 ⟨r, hr, her⟩, fun h => ?_⟩
        have := (hf.es r hr e her).2.1
        rw [h] at this
        exact hra this.symm
    · rintro (h | ⟨h, hp⟩)
      · exact .inl (.inl h)
      · obtain ⟨r, hr, her⟩ := List.mem_flatMap.1 h
        by_cases hra : r.at_ = addrOf p f.lv
        · refine .inl (.inr ⟨?_, hp⟩)
          have := (hf.es r hr e her).2.1
          exact (hf.mem (this.trans hra)).1 h
        · exact .inr ⟨r, hr, hra, her⟩
theorem Way.last {p : List Nat} {fs : List PF} {top bot : Option (Nat × NT)} {f : PF} (h : Way p fs top bot) (hf : f ∈ fs.getLast?) : part f.pre p ≤ (f.lv : Int) ∧ bot = kidAt f.ks (addrOf p f.lv) := by
  obtain ⟨fs0, rfl⟩ := List.getLast?_eq_some_iff.1 hf
  exact (Way.cut h).2
theorem last_mem {fs : List PF} {f : PF} (hf : f ∈ fs.getLast?) : f ∈ fs := by
  obtain ⟨fs0, rfl⟩ := List.getLast?_eq_some_iff.1 hf
  simp
/-- What hangs at the path's end parts from the point below the last fork. -/
theorem FK.below {k : Nat} {p : List Nat} {f : PF} {x : Nat × NT} (h : FK k f) (hp : Zp k p) (hc : part f.pre p ≤ (f.lv : Int)) (hx : kidAt f.ks (addrOf p f.lv) = some x) : part x.2.pre p < (f.lv : Int) ∧ Zp k x.2.pre ∧ FitsAt p f x.2 ∧ ∀ b, f.lv ≤ b → addrOf x.2.pre b = addrOf p b := by
  obtain ⟨q, hq, hqa, rfl⟩ := kidAt_some hx
  obtain ⟨a1, a2⟩ := h.at_ q hq
  have hz := h.ksz q hq
  have hcc := (part_le_iff h.pre hp _ (by omega)).1 hc
  have hall : ∀ b, f.lv ≤ b → addrOf q.pre b = addrOf p b := by
    intro b hb
    rcases Nat.eq_or_lt_of_le hb with rfl | hb
    · rw [a1, hqa]
    · rw [a2 b hb, hcc b (by omega)]
  refine ⟨?_, hz, ⟨?_, h.low q hq, ?_⟩, hall⟩
  · have := (part_le_iff hz hp ((f.lv : Int) - 1) (by omega)).2 fun b hb => hall b (by omega)
    show part q.pre p < _
    omega
  · exact (part_le_iff h.pre hz _ (by omega)).2 fun b hb => (a2 b (by omega)).symm
  · rw [a1, hqa]
theorem put_leaf {k v : Nat} {p : List Nat} (hp : Zp k p) {fs : List PF} {top bot : Option (Nat × NT)} (hF : ∀ f ∈ fs, FK k f) (hW : Way p fs top bot) (hb : ∀ e ∈ esOf bot, e.1 = p) :
    ChainOk fs ⟨-1, p, [(p, v)]⟩ ∧ ∀ e, e ∈ (upN fs ⟨-1, p, [(p, v)]⟩).es ↔ e = (p, v) ∨ (e ∈ esOf top ∧ e.1 ≠ p) := by
  refine way_up (N := fun e => e = (p, v)) (fun e h => by rw [h]) hF hW (fun f hf => ?_) fun e => ?_
  · exact ⟨(hW.last hf).1, by show (-1 : Int) < _; omega, rfl⟩
  · simp only [List.mem_singleton]
    constructor
    · exact .inl
    · rintro (h | ⟨h, h2⟩)
      · exact h
      · exact absurd (hb e h) h2
theorem put_pair {k v m : Nat} {p : List Nat} {g g' : Nat} {nt : NT} (hp : Zp k p) {fs : List PF} {top : Option (Nat × NT)} (hF : ∀ f ∈ fs, FK k f) (hW : Way p fs top (some (g, nt))) (hm : part nt.pre p = (m : Int)) (hl : nt.lv < m) (hz : Zp k nt.pre)
    (hes : ∀ e ∈ nt.es, Zp k e.1 ∧ ∀ b : Nat, nt.lv < b → addrOf e.1 b = addrOf nt.pre b) :
    ChainOk fs ⟨m, cut (m + 1) nt.pre, kidEs (pairK g g' nt.lv (-1) nt.pre p nt.es [(p, v)] m)⟩ ∧ ∀ e, e ∈ (upN fs ⟨m, cut (m + 1) nt.pre, kidEs (pairK g g' nt.lv (-1) nt.pre p nt.es [(p, v)] m)⟩).es ↔ e = (p, v) ∨ (e ∈ esOf top ∧ e.1 ≠ p) := by
  have hne : addrOf nt.pre m ≠ addrOf p m := by
    have := (part_spec nt.pre p (by rw [hz.1, hp.1]) hz.2 hp.2).2.2.2
    rw [hm] at this
    exact this (by omega)
  refine way_up (N := fun e => e = (p, v)) (fun e h => by rw [h]) hF hW (fun f hf => ?_) fun e => ?_
  · obtain ⟨h1, h2⟩ := hW.last hf
    have hf' := hF f (last_mem hf)
    obtain ⟨g1, g2, g3, g4⟩ := hf'.below hp h1 h2.symm
    simp only at g1 g2 g3 g4
    rw [hm] at g1
    have hm2 : m < f.lv := by omega
    refine ⟨?_, by show (m : Int) < _; omega, ?_⟩
    · refine (part_le_iff hf'.pre (zp_cut hz) _ (by omega)).2 fun b hb => ?_
      rw [addr_cut_hi _ (by omega)]
      exact (part_le_iff hf'.pre hz _ (by omega)).1 g3.1 b hb
    · show addrOf (cut (m + 1) nt.pre) f.lv = _
      rw [addr_cut_hi _ (by omega)]
      exact g4 _ (Nat.le_refl _)
  · have h4 : e ∈ kidEs (pairK g g' nt.lv (-1) nt.pre p nt.es [(p, v)] m) ↔ e ∈ nt.es ∨ e = (p, v) := by
      rw [pairK_eq hne]
      unfold kidEs
      split
      · simp [List.flatMap]
      · simp [List.flatMap]
        exact Or.comm
    show e ∈ kidEs (pairK g g' nt.lv (-1) nt.pre p nt.es [(p, v)] m) ↔ _
    rw [h4]
    simp only [esOf]
    constructor
    · rintro (h | h)
      · refine .inr ⟨h, fun he => ?_⟩
        have := (hes e h).2 m hl
        rw [he] at this
        exact hne this.symm
      · exact .inl h
    · rintro (h | h)
      · exact .inr h
      · exact .inl h.1
/-- A fork on the way without one of its kids. -/
theorem del_fork {k : Nat} {p : List Nat} (hp : Zp k p) {fs : List PF} {f : PF} {top bot : Option (Nat × NT)} (hF : ∀ f' ∈ fs, FK k f') (hf : FK k f) (hW : Way p fs top (some (f.g, f.nt))) (hb : ∀ e ∈ esOf (kidAt f.ks (addrOf p f.lv)), e.1 = p) {n : NT}
    (hes : ∀ e, e ∈ n.es ↔ ∃ r ∈ f.ks, r.at_ ≠ addrOf p f.lv ∧ e ∈ r.es) (hpre : Zp k n.pre) (hlv : n.lv ≤ f.lv) (hag : ∀ b, f.lv < b → addrOf n.pre b = addrOf f.pre b) :
    ChainOk fs n ∧ ∀ e, e ∈ (upN fs n).es ↔ (e ∈ esOf top ∧ e.1 ≠ p) := by
  have := way_up (n := n) (N := fun e => False) (fun e h => h.elim) hF hW (fun f' hf' => ?_) fun e => ?_
  · refine ⟨this.1, fun e => ?_⟩
    rw [this.2 e]
    simp
  · obtain ⟨h1, h2⟩ := hW.last hf'
    have hff := hF f' (last_mem hf')
    obtain ⟨g1, g2, g3, g4⟩ := hff.below hp h1 h2.symm
    simp only [PF.nt] at g1 g2 g3 g4
    have hlow : (f.lv : Int) < f'.lv := g3.2.1
    refine ⟨?_, by omega, ?_⟩
    · refine (part_le_iff hff.pre hpre _ (by omega)).2 fun b hb => ?_
      rw [hag b (by omega)]
      exact (part_le_iff hff.pre hf.pre _ (by omega)).1 g3.1 b hb
    · rw [hag _ (by omega)]
      exact g3.2.2
  · rw [hes e]
    simp only [false_or, esOf, PF.nt]
    constructor
    · rintro ⟨r, hr, hra, her⟩
      refine ⟨List.mem_flatMap.2 ⟨r, hr, her⟩, fun h => ?_⟩
      have := (hf.es r hr e her).2.1
      rw [h] at this
      exact hra this.symm
    · rintro ⟨h, hp⟩
      obtain ⟨r, hr, her⟩ := List.mem_flatMap.1 h
      refine ⟨r, hr, fun hra => ?_, her⟩
      have := (hf.es r hr e her).2.1
      exact hp (hb e ((hf.mem (this.trans hra)).1 h))
end Go.Proofs.Ytfoapkcgdkfggaa
set_option linter.unusedSimpArgs false
set_option linter.unusedVariables false
namespace Go.Proofs.Ytfoapkcgdkfggaa
open Go.RowKit
theorem wp_scope_goto2 {P : Program} {Q : Exit → Act → World → Prop} {a : Act} {w : World} {c p1 p2 rest : Code} (l : Nat) (J : Act → World → Prop) (μ : Act → World → Nat) (hc : c = p1.seq (p2.seq ((Code.label l).seq rest))) (hf1 : findLabel p1 l = none) (hf2 : findLabel p2 l = none)
    (first : p1.wp P (Exit.then (p2.wp P (Exit.then J NoExit)) NoExit) a w)
    (pass : ∀ a w, J a w → rest.wp P (Exit.jump l (fun a' w' => J a' w' ∧ μ a' w' < μ a w) Q) a w) : (Code.scope c).wp P Q a w := by
  subst hc
  refine wp_scope_jumps l J μ (rest := Code.skip.seq rest) (by simp [findLabel, hf1, hf2]) ?_ (fun a w h => Go.wp_seq (Go.wp_skip (pass a w h)))
  refine Go.wp_seq (Code.wp_mono (fun e a w h => ?_) first)
  cases e with
  | normal =>
    refine Go.wp_seq (Code.wp_mono (fun e a w h => ?_) h)
    cases e with
    | normal => exact Go.wp_seq (Go.wp_label (jump_mono (pass a w h) fun _ _ h => h.1))
    | _ => exact False.elim h
  | _ => exact False.elim h
def sliceLen : Value → Nat
  | .slice _ n _ => n
  | _ => 0
def ptrOf (x : Option (Nat × NT)) : Value := .pointer (x.map fun y => ⟨y.1, 0, none⟩)
/-- How a path may end: the nodes on it, and what hangs below. -/
inductive PathEnd (w : World) (k : Nat) (p : List Nat) (fs : List PF) : Option (Nat × NT) → List Nat → Option (Nat × NT) → Prop
  | none : PathEnd w k p fs none (fs.map (·.g)) none
  | leaf (g v : Nat) (hn : NodeOf w k g (-1) p [(p, v)]) : PathEnd w k p fs (some (g, ⟨-1, p, [(p, v)]⟩)) (fs.map (·.g) ++ [g]) none
  | miss (x : Nat × NT) (hn : NodeOf w k x.1 x.2.lv x.2.pre x.2.es) (hm : x.2.lv < part x.2.pre p) : PathEnd w k p fs (some x) (fs.map (·.g)) (some x)
def TopOk (w : World) (k : Nat) (top : Option (Nat × NT)) : Prop := ∀ x, top = some x → NodeOf w k x.1 x.2.lv x.2.pre x.2.es
theorem kid_ptr {w : World} {k g m : Nat} {pre : List Nat} {ks : List Kid} (h : Fork w k g m pre ks) (a : Nat) : (getTh (kidTh ks) (a : Int)).getD (.pointer none) = ptrOf (kidAt ks a) := by
  obtain ⟨A, c, gs, hp, hS, hB⟩ := h.head
  cases hk : kidAt ks a with
  | none =>
    rw [getTh_none]
    · rfl
    · intro t ht
      obtain ⟨q, hq, rfl⟩ := List.mem_map.1 ht
      have := kidAt_none hk q hq
      simp only
      omega
  | some x =>
    obtain ⟨q, hq, rfl, rfl⟩ := kidAt_some hk
    have := getTh_some hS.ok (t := (q.at_, .pointer (some ⟨q.blk, 0, none⟩))) (List.mem_map.2 ⟨q, hq, rfl⟩)
    simp only at this
    rw [this]
    rfl
theorem kid_top {w : World} {k g m : Nat} {pre : List Nat} {ks : List Kid} (h : Fork w k g m pre ks) (a : Nat) : TopOk w k (kidAt ks a) := by
  intro x hx
  obtain ⟨q, hq, -, rfl⟩ := kidAt_some hx
  obtain ⟨A, c, gs, h1, h2, h3, h4, h5, h6, h7, h8, h9, h10, h11⟩ := h
  exact h5 q hq
theorem ptrs_snoc (gs : List Nat) (g : Nat) : ptrs (gs ++ [g]) = ptrs gs ++ [.pointer (some ⟨g, 0, none⟩)] := by simp [ptrs]
set_option maxHeartbeats 4000000 in
set_option maxRecDepth 100000 in
theorem tr_path {w : World} {t k : Nat} {top : Option (Nat × NT)} (hT : TreeBlk w t k (top.map fun y => ⟨y.1, 0, none⟩)) (hn : TopOk w k top) (hk1 : 1 ≤ k) (hk : k ≤ 16) {A : Option Addr} {c : Nat} {p : List Nat} (hp : Pt w A k p) :
    Calls Try.prog 33 #[.pointer (some ⟨t, 0, none⟩), .slice A k c] w fun e w' => ∃ (fs : List PF) (bot : Option (Nat × NT)) (gs : List Nat) (below : Option (Nat × NT)) (B : Option Addr) (d : Nat), Way p fs top bot ∧ (∀ f ∈ fs, Fork w k f.g f.lv f.pre f.ks) ∧ fs.length ≤ 64 ∧ PathEnd w k p fs bot gs below ∧ e = .returned (.tuple #[.slice B gs.length d, ptrOf below]) ∧ w'.ownsRow w.heap.size 51 1 (.slice B gs.length d) gs.length (ptrs gs) ∧ Below w.heap.size w w' := by
  have c1 := Blk.cell hT 1
  simp at c1
  have HP := hide hp
  have HTN := hide hn
  have hlen : ∀ (fs : List PF) (bot : Option (Nat × NT)), (∀ f ∈ fs, Fork w k f.g f.lv f.pre f.ks) → Way p fs top bot → fs.length ≤ 64 := by
    intro fs bot hF hW
    cases fs with
    | nil => simp
    | cons f fs =>
      have h0 := hW.1
      rw [h0] at hW
      have hi := (hn _ h0).info
      have := Way.len (fun f hf => (hF f hf).fk) hi.2.2.1 hW
      have := hi.2.2.2.1
      omega
  have HLEN := hide hlen
  clear hT hp hn hlen
  go_enter Try.func33, Try.ntmps33
  go_wp2
  refine wp_scope_goto2 0 (fun a' wr => ∃ (fs : List PF) (bot : Option (Nat × NT)) (B : Option Addr) (d : Nat) (u2 u3 u8 u9 u10 u11 u12 u13 u14 u15 u16 u17 u18 u19 u20 u21 u22 u23 u24 u25 u26 u27 u28 : Value), a' = { tmps := #[.pointer (some ⟨t, 0, none⟩), .slice A k c, u2, u3, .slice none 0 0, .pointer none, .slice B fs.length d, ptrOf bot, u8, u9, u10, u11, u12, u13, u14, u15, u16, u17, u18, u19, u20, u21, u22, u23, u24, u25, u26, u27, u28], defers := [] } ∧ Way p fs top bot ∧ (∀ f ∈ fs, Fork w k f.g f.lv f.pre f.ks) ∧ TopOk w k bot ∧ wr.ownsRow w.heap.size 51 1 (.slice B fs.length d) fs.length (ptrs (fs.map (·.g))) ∧ Below w.heap.size w wr) (fun a' _ => 65 - sliceLen (a'.tmps.getD 6 undef)) (by rfl) (by rfl) (by rfl) ?_ ?_
  · go_wp2
    exact ⟨[], top, none, 0, _, _, _, _, _, _, _, _, _, _, _, _, _, _, _, _, _, _, _, _, _, _, _, rfl, rfl, fun f hf => (by cases hf), HTN.out, World.ownsRow_nil _ _ _ _, Below.refl _ _⟩
  · rintro a' wr ⟨fs, bot, B, d, u2, u3, u8, u9, u10, u11, u12, u13, u14, u15, u16, u17, u18, u19, u20, u21, u22, u23, u24, u25, u26, u27, u28, rfl, hW, hF, hN, hO, hb⟩
    have HW := hide hW
    have HF := hide hF
    have HO := hide hO
    have HB := hide hb
    have hfl : fs.length ≤ 64 := HLEN.out fs bot hF hW
    cases bot with
    | none =>
      clear hW hF hN hO hb
      unfold ptrOf
      simp only [Option.map_none]
      go_wp2_with fail
      refine (nd_covers_nil _ _ _ _).mono ?_
      rintro e w1 ⟨rfl, rfl⟩
      go_wp2
      simp only [Exit.jump]
      go_ret2
      refine ⟨fs, none, _, _, B, d, HW.out, HF.out, hfl, .none, by simp [ptrOf], by simpa using HO.out, HB.out⟩
    | some x =>
      have hNx := hN x rfl
      have HX := hide hNx
      have HC := hide (nd_covers (d := c) (hNx.stay hb) hk1 hk (HP.out.below hb))
      clear hW hF hN hO hb
      unfold ptrOf
      simp only [Option.map_some]
      by_cases hcv : part x.2.pre p ≤ x.2.lv
      · rw [show decide (part x.2.pre p ≤ x.2.lv) = true by simpa using hcv] at HC
        rcases hNx.cases' with ⟨A', c', v, hlv, hes, hv, hP', hc', hB'⟩ | ⟨m, ks, hlv, hes, hFk⟩
        · have HL := hide (nd_level (HX.out.stay HB.out))
          rw [hlv] at HL
          have hpe : x.2.pre = p := part_neg hP'.zp HP.out.zp (by omega)
          have hx : x = (x.1, ⟨-1, p, [(p, v)]⟩) := by
            obtain ⟨g, ⟨l, pr, es⟩⟩ := x
            simp only at hlv hes hpe
            rw [hlv, hes, hpe]
          have HXE := hide hx
          clear hNx hcv hlv hes hv hP' hc' hB' hpe hx
          go_wp2_with fail
          refine HC.out.mono ?_
          rintro e w1 ⟨rfl, rfl⟩
          have hb4 := below_alloc HB.out (Nat.le_refl _) (.cells #[.pointer (some ⟨x.1, 0, none⟩)] 51)
          go_wp2_with (first
            | (at_builtin
               refine app_b _ rfl (.tmp 18) (.tmp 20) _ rfl w.heap.size 51 _ 1 8 Try.underlying44 info_n rfl (by omega) _ fs.length _ rfl (HO.out.alloc _) (some ⟨wr.heap.size, 0, none⟩) 1 1 [.pointer (some ⟨x.1, 0, none⟩)] rfl w hb4 (Nat.le_refl _) (Rw.new1 wr 51 #[.pointer (some ⟨x.1, 0, none⟩)] rfl) ?h2 (by unfold maxLen; omega) (by omega) ?_
               case h2 =>
                 intro u hu
                 rw [List.mem_singleton] at hu
                 rw [hu]
                 rfl
               intro v5 w5 ho5 hb5 _
               have HO5 := hide ho5
               have HB5 := hide hb5
               obtain ⟨B5, d5, rfl, -, hR5⟩ := Rw.of_own ho5
               have HL5 := hide (nd_level (HX.out.stay hb5))
               rw [show x.2.lv = -1 by rw [HXE.out]] at HL5
               clear ho5 hb5 hR5 HL)
            | fail)
          go_wp2_with fail
          refine HL5.out.mono ?_
          rintro e w6 ⟨rfl, rfl⟩
          go_wp2
          simp only [Exit.jump]
          go_ret2
          have hxx := HX.out
          have hww := HW.out
          rw [HXE.out] at hxx hww
          refine ⟨fs, _, _, _, B5, d5, hww, HF.out, hfl, .leaf x.1 v hxx, by simp [ptrOf], ?_, HB5.out⟩
          have := HO5.out
          rw [ptrs_snoc]
          simpa using this
        · have hm64 : m < 64 := by obtain ⟨_, _, _, h1, _⟩ := hFk; exact h1
          have HFK := hide hFk
          have HLV := hide hlv
          have HES := hide hes
          rw [hlv] at hcv
          have HCV := hide hcv
          clear hNx hcv hlv hes hFk
          go_wp2_with fail
          refine HC.out.mono ?_
          rintro e w1 ⟨rfl, rfl⟩
          have hb4 := below_alloc HB.out (Nat.le_refl _) (.cells #[.pointer (some ⟨x.1, 0, none⟩)] 51)
          go_wp2_with (first
            | (at_builtin
               refine app_b _ rfl (.tmp 18) (.tmp 20) _ rfl w.heap.size 51 _ 1 8 Try.underlying44 info_n rfl (by omega) _ fs.length _ rfl (HO.out.alloc _) (some ⟨wr.heap.size, 0, none⟩) 1 1 [.pointer (some ⟨x.1, 0, none⟩)] rfl w hb4 (Nat.le_refl _) (Rw.new1 wr 51 #[.pointer (some ⟨x.1, 0, none⟩)] rfl) ?h2 (by unfold maxLen; omega) (by omega) ?_
               case h2 =>
                 intro u hu
                 rw [List.mem_singleton] at hu
                 rw [hu]
                 rfl
               intro v5 w5 ho5 hb5 _
               have HO5 := hide ho5
               have HB5 := hide hb5
               obtain ⟨B5, d5, rfl, -, hR5⟩ := Rw.of_own ho5
               have HL5 := hide (nd_level (HX.out.stay hb5))
               rw [HLV.out] at HL5
               have HD5 := hide (tr_down (c := c) (HFK.out.stay hb5) hk1 hk (HP.out.below hb5))
               rw [kid_ptr HFK.out] at HD5
               unfold ptrOf at HD5
               clear ho5 hb5 hR5)
            | fail)
          go_wp2_with fail
          refine HL5.out.mono ?_
          rintro e w6 ⟨rfl, rfl⟩
          have em : decide ((m : Int) < 0) = false := by simp
          go_wp2_with fail
          refine HD5.out.mono ?_
          rintro e w7 ⟨rfl, hb7⟩
          go_wp2
          go_step3
          have hnt : x = (x.1, (⟨x.1, m, x.2.pre, ks⟩ : PF).nt) := by
            obtain ⟨g, ⟨l, pr, es⟩⟩ := x
            have h1 := HLV.out
            have h2 := HES.out
            simp only at h1 h2
            rw [h1, h2]
            rfl
          have hW2 := HW.out.snoc (f := ⟨x.1, m, x.2.pre, ks⟩) (by rw [← hnt]) HCV.out
          have hF2 : ∀ f ∈ fs ++ [(⟨x.1, m, x.2.pre, ks⟩ : PF)], Fork w k f.g f.lv f.pre f.ks := by
            intro f hf
            rcases List.mem_append.1 hf with hf | hf
            · exact HF.out f hf
            · rw [List.mem_singleton] at hf
              subst hf
              exact HFK.out
          have hl2 := HLEN.out _ _ hF2 hW2
          rw [List.length_append, List.length_singleton] at hl2
          refine ⟨rfl, ⟨fs ++ [⟨x.1, m, x.2.pre, ks⟩], kidAt ks (addrOf p m), B5, d5, _, _, _, _, _, _, _, _, _, _, _, _, _, _, _, _, _, _, _, _, _, _, _, by rw [List.length_append]; rfl, hW2, hF2, kid_top HFK.out _, ?_, below_then HB5.out hb7⟩, ?_⟩
          · have := own_below HO5.out hb7
            rw [List.map_append, List.map_singleton, ptrs_snoc]
            simpa using this
          · simp [sliceLen]
            omega
      · rw [show decide (part x.2.pre p ≤ x.2.lv) = false by simpa using hcv] at HC
        have hcv2 : x.2.lv < part x.2.pre p := by omega
        have HCV := hide hcv2
        clear hNx hcv hcv2
        go_wp2_with fail
        refine HC.out.mono ?_
        rintro e w1 ⟨rfl, rfl⟩
        go_wp2
        simp only [Exit.jump]
        go_ret2
        refine ⟨fs, some x, _, _, B, d, HW.out, HF.out, hfl, .miss x HX.out HCV.out, by simp [ptrOf], by simpa using HO.out, HB.out⟩
theorem TreeOf.top {w : World} {k t : Nat} {es : List Ent} (h : TreeOf w k t es) : ∃ top, TreeBlk w t k (top.map fun y => ⟨y.1, 0, none⟩) ∧ TopOk w k top ∧ esOf top = es ∧ 1 ≤ k ∧ k ≤ 16 := by
  obtain ⟨h1, h2, ⟨h3, rfl⟩ | ⟨g, lv, pre, h3, h4⟩⟩ := h
  · exact ⟨none, h3, fun x hx => (by cases hx), rfl, h1, h2⟩
  · refine ⟨some (g, ⟨lv, pre, es⟩), h3, fun x hx => ?_, rfl, h1, h2⟩
    injection hx with hx
    subst hx
    exact h4
theorem TopOk.stay {w w' : World} {k : Nat} {top : Option (Nat × NT)} (h : TopOk w k top) (hb : Below w.heap.size w w') : TopOk w' k top := fun x hx => (h x hx).stay hb
section
variable {w : World} {k : Nat} {p : List Nat} {fs : List PF} {top bot below : Option (Nat × NT)} {gs : List Nat}
theorem PathEnd.no (h : PathEnd w k p fs bot gs below) (hp : Zp k p) (hl : gs = fs.map (·.g)) : ∀ v, (p, v) ∉ esOf bot := by
  intro v hv
  cases h with
  | none => cases hv
  | leaf g v' hn => simp at hl
  | miss x hn hm =>
    obtain ⟨i1, i2, i3, i4, i5, i6, i7⟩ := hn.info
    obtain ⟨j1, j2, j3⟩ := i5 _ hv
    obtain ⟨s1, s2, s3, s4⟩ := part_spec x.2.pre p (by rw [i1.1, hp.1]) i1.2 hp.2
    exact s4 (by omega) (j3 _ (by omega)).symm
theorem PathEnd.cases_ (h : PathEnd w k p fs bot gs below) : gs = fs.map (·.g) ∨ ∃ g v, gs = fs.map (·.g) ++ [g] ∧ below = Option.none ∧ bot = some (g, ⟨-1, p, [(p, v)]⟩) ∧ NodeOf w k g (-1) p [(p, v)] := by
  cases h with
  | none => exact .inl rfl
  | leaf g v hn => exact .inr ⟨g, v, rfl, rfl, rfl, hn⟩
  | miss x hn hm => exact .inl rfl
end
/-- found, where no entry ends the path. -/
theorem tr_found_fork {w : World} {k : Nat} {fs : List PF} {B : Option Addr} {d n : Nat} (hn : n = fs.length) (hF : ∀ f ∈ fs, Fork w k f.g f.lv f.pre f.ks) (hl : fs.length ≤ 64) (hR : Rw w 1 B n (ptrs (fs.map (·.g)))) :
    Calls Try.prog 38 #[.slice B n d] w fun e w' => (∃ C m c, e = .returned (.tuple #[.agg #[.slice C m c, .int .u64 ((0 : Nat) : Int)], .bool false])) ∧ Below w.heap.size w w' := by
  subst hn
  rcases Nat.eq_zero_or_pos fs.length with h0 | h0
  · rw [h0]
    exact (tr_found_none B d w).mono fun e w' ⟨h1, h2⟩ => ⟨⟨none, 0, 0, (by rw [h1]; rfl)⟩, h2⟩
  · have hi : fs.length - 1 < fs.length := by omega
    have hg := List.getElem?_eq_getElem hi
    generalize fs[fs.length - 1] = f at hg
    have hFf := hF f (List.mem_of_getElem? hg)
    obtain ⟨A, c, s, hp', hS, hB⟩ := hFf.head
    refine (tr_found_some B fs.length d f.g (fs.map (·.g)) w hR h0 (by omega) (by rw [List.getElem?_map, hg]; rfl) 0 0 false fun W hW => ?_).mono fun e w' ⟨⟨C, c, h1⟩, h2⟩ => ⟨⟨C, 0, c, h1⟩, h2⟩
    exact (nd_entry_fork (hB.below hW)).mono fun e w' ⟨h1, h2⟩ => ⟨⟨none, 0, (by rw [h1]; rfl)⟩, h2⟩
/-- found, where an entry ends it. -/
theorem tr_found_leaf {w : World} {k g v n : Nat} {p : List Nat} {fs : List PF} {B : Option Addr} {d : Nat} (hn : n = (fs.map (·.g) ++ [g]).length) (hN : NodeOf w k g (-1) p [(p, v)]) (hk : k ≤ 16) (hl : fs.length ≤ 64) (hR : Rw w 1 B n (ptrs (fs.map (·.g) ++ [g]))) :
    Calls Try.prog 38 #[.slice B n d] w fun e w' => (∃ C m c, e = .returned (.tuple #[.agg #[.slice C m c, .int .u64 (v : Int)], .bool true])) ∧ Below w.heap.size w w' := by
  have hn2 : n = fs.length + 1 := by simpa using hn
  clear hn
  subst hn2
  refine (tr_found_some B (fs.length + 1) d g (fs.map (·.g) ++ [g]) w hR (by omega) (by omega) (by simp) k v true fun W hW => ?_).mono fun e w' ⟨⟨C, c, h1⟩, h2⟩ => ⟨⟨C, k, c, h1⟩, h2⟩
  rcases (hN.stay hW).cases' with ⟨A', c', v', -, hes, hv, hP', hc', hB'⟩ | ⟨m, ks, hlv, -, -⟩
  · have : v' = v := by simpa using hes.symm
    subst this
    exact (nd_entry_leaf hB' hP' hk).mono fun e w' ⟨C, c, h1, _, h2⟩ => ⟨⟨C, c, h1⟩, h2⟩
  · omega
set_option maxHeartbeats 1000000 in
set_option maxRecDepth 100000 in
theorem tr_put_dim {w : World} {t k : Nat} {root : Option Addr} (h : TreeBlk w t k root) (A : Option Addr) (n c : Nat) (v : Int) (hn : n ≠ k) : Calls Try.prog 23 #[.pointer (some ⟨t, 0, none⟩), .slice A n c, .int .u64 v] w fun e w' => e = .returned (.tuple #[.pointer none, .int .i64 2]) ∧ w = w' := by
  have HC := hide (tr_check_dim h A n c hn)
  clear h hn
  go_enter Try.func23, Try.ntmps23
  go_wp2_with fail
  refine HC.out.mono ?_
  rintro e w1 ⟨rfl, rfl⟩
  go_wp2
  go_ret2
  exact ⟨rfl, rfl⟩
set_option maxHeartbeats 1000000 in
set_option maxRecDepth 100000 in
theorem tr_del_dim {w : World} {t k : Nat} {root : Option Addr} (h : TreeBlk w t k root) (A : Option Addr) (n c : Nat) (hn : n ≠ k) : Calls Try.prog 28 #[.pointer (some ⟨t, 0, none⟩), .slice A n c] w fun e w' => e = .returned (.tuple #[.pointer none, .int .i64 2]) ∧ w = w' := by
  have HC := hide (tr_check_dim h A n c hn)
  clear h hn
  go_enter Try.func28, Try.ntmps28
  go_wp2_with fail
  refine HC.out.mono ?_
  rintro e w1 ⟨rfl, rfl⟩
  go_wp2
  go_ret2
  exact ⟨rfl, rfl⟩
theorem up_tree {w : World} {k t g : Nat} {fs : List PF} {n : NT} (hk1 : 1 ≤ k) (hk : k ≤ 16) (h1 : TreeBlk w t k (some ⟨g, 0, none⟩)) (h2 : NodeOf w k g (upN fs n).lv (upN fs n).pre (upN fs n).es) : TreeOf w k t (upN fs n).es :=
  ⟨hk1, hk, .inr ⟨g, _, _, h1, h2⟩⟩
theorem Rw.init {w : World} {A : Option Addr} {n : Nat} {vs : List Value} {x : Value} (h : Rw w 1 A (n + 1) (vs ++ [x])) : Rw w 1 A n vs := by
  have hl := h.1
  have := h.take_ (i := n) (by omega)
  simp at hl
  rw [Nat.mul_one, List.take_append_of_le_length (by omega), List.take_of_length_le (by omega)] at this
  exact this
/-- What Put answers. -/
def PutOut (w : World) (t k : Nat) (p : List Nat) (v : Nat) (es : List Ent) (e : Ending) (w' : World) : Prop :=
  ∃ t' es', e = .returned (.tuple #[.pointer (some ⟨t', 0, none⟩), .int .i64 0]) ∧ TreeOf w' k t' es' ∧ (∀ x, x ∈ es' ↔ x = (p, v) ∨ (x ∈ es ∧ x.1 ≠ p)) ∧ (t' = t ↔ (p, v) ∈ es) ∧ Below w.heap.size w w'
set_option maxHeartbeats 4000000 in
set_option maxRecDepth 100000 in
theorem tr_put {w : World} {t k v : Nat} {es : List Ent} (hT : TreeOf w k t es) {A : Option Addr} {c : Nat} {p : List Nat} (hp : Pt w A k p) (hv : v < 2 ^ 64) :
    Calls Try.prog 23 #[.pointer (some ⟨t, 0, none⟩), .slice A k c, .int .u64 (v : Int)] w (PutOut w t k p v es) := by
  obtain ⟨top, hB, hN, hes, hk1, hk⟩ := hT.top
  have HC := hide (tr_check hB A c)
  have HP := hide (tr_path hB hN hk1 hk (c := c) hp)
  have HZ := hide hp.zp
  have HES := hide hes
  have HT := hide hT
  have HTB := hide hB
  have HPT := hide hp
  have htlt : t < w.heap.size := hB.lt
  have HLT := hide htlt
  have HLF := hide (fun (W : World) (hW : Below w.heap.size w W) => nd_leaf A k c p v W (hp.below hW) hv hk1 hk)
  clear hT hB hN hp hes htlt
  go_enter Try.func23, Try.ntmps23
  go_wp2_with fail
  refine HC.out.mono ?_
  rintro e w1 ⟨rfl, rfl⟩
  go_wp2_with fail
  refine HP.out.mono ?_
  rintro e w1 ⟨fs, bot, gs, below, B, d, hW, hF, hl, hE, rfl, hO, hb⟩
  have HW := hide hW
  have HF := hide hF
  have HB := hide hb
  obtain ⟨hcap, hR⟩ := own_rw hO
  have HE := hide hE
  have HR := hide hR
  rcases hE.cases_ with hgs | ⟨g, v0, hgs, hbe, hbot, hNl⟩
  · have hno := hE.no HZ.out hgs
    have HNO := hide hno
    have HFO := hide (tr_found_fork (n := gs.length) (d := d) (by rw [hgs]; simp) (fun f hf => (hF f hf).stay hb) hl (by rw [hgs] at hR ⊢; exact hR))
    have hnt : ∀ x, (p, x) ∉ es := fun x hx => by
      rw [← HES.out, Way.mem (fun f hf => (HF.out f hf).fk) HW.out] at hx
      exact hno x hx
    have HNT := hide hnt
    have HGS := hide hgs
    have hgl : gs.length = fs.length := by rw [hgs]; simp
    have HGL := hide hgl
    rw [hgs] at HR
    have HNT := hide (HNT.out v)
    cases hE with
    | leaf g v' hn => simp at hgs
    | none =>
      unfold ptrOf
      simp only [Option.map_none]
      clear hW hF hO hb hR hgs hno hnt hcap
      rw [hgl] at HFO HR ⊢
      clear hgl
      go_wp2_with fail
      refine HFO.out.mono ?_
      rintro e w2 ⟨⟨C, m, cc, rfl⟩, hb2⟩
      have t1 := (Blk.new w2 84 #[.slice C m cc, .int .u64 ((0 : Nat) : Int)]).cell 1
      simp at t1
      have hb3 := below_alloc (below_then HB.out hb2) (Nat.le_refl _) (.cells #[.slice C m cc, .int .u64 ((0 : Nat) : Int)] 84)
      have hq3 := below_alloc hb2 (Nat.le_refl _) (.cells #[.slice C m cc, .int .u64 ((0 : Nat) : Int)] 84)
      have HL := hide (HLF.out _ hb3)
      have HB3 := hide hb3
      have HQ3 := hide hq3
      clear hb2 hb3 hq3 HFO
      go_wp2_with fail
      refine HL.out.mono ?_
      rintro e w4 ⟨g4, rfl, hN4, -, hb4⟩
      have hb4' := below_then HB3.out hb4
      have hq4 := below_then HQ3.out hb4
      have hPL := put_leaf (v := v) HZ.out (fun f hf => (HF.out f hf).fk) HW.out (fun e he => by cases he)
      have HME := hide hPL.2
      have HUP := hide (tr_up (fs := fs) ⟨-1, p, [(p, v)]⟩ B fs.length d (HTB.out.below hb4') hk1 hk (HR.out.below hq4) rfl (by omega) (fun f hf => (HF.out f hf).stay hb4') hN4 hPL.1)
      have HB4 := hide hb4'
      clear hN4 hb4 hb4' hq4 hPL HL t1
      go_wp2_with fail
      refine HUP.out.mono ?_
      rintro e w5 ⟨t', g', rfl, ht', hT5, hN5, hb5⟩
      have HH := hide (And.intro ht' (And.intro hT5 (And.intro hN5 hb5)))
      clear ht' hT5 hN5 hb5
      go_wp2
      go_ret2
      obtain ⟨ht', hT5, hN5, hb5⟩ := HH.out
      refine ⟨t', _, rfl, up_tree hk1 hk hT5 hN5, ?_, ?_, below_then HB4.out hb5⟩
      · rw [← HES.out]; exact HME.out
      · constructor
        · intro h
          have := HB4.out.size
          have := HLT.out
          omega
        · intro h
          exact absurd h (HNT.out)
    | miss x hn hm =>
      have HN := hide hn
      have HM := hide hm
      unfold ptrOf
      simp only [Option.map_some]
      clear hW hF hO hb hR hgs hno hnt hcap hn hm
      rw [hgl] at HFO HR ⊢
      clear hgl
      go_wp2_with fail
      refine HFO.out.mono ?_
      rintro e w2 ⟨⟨C, m, cc, rfl⟩, hb2⟩
      have t1 := (Blk.new w2 84 #[.slice C m cc, .int .u64 ((0 : Nat) : Int)]).cell 1
      simp at t1
      have hb3 := below_alloc (below_then HB.out hb2) (Nat.le_refl _) (.cells #[.slice C m cc, .int .u64 ((0 : Nat) : Int)] 84)
      have hq3 := below_alloc hb2 (Nat.le_refl _) (.cells #[.slice C m cc, .int .u64 ((0 : Nat) : Int)] 84)
      have HL := hide (HLF.out _ hb3)
      have HB3 := hide hb3
      have HQ3 := hide hq3
      clear hb2 hb3 hq3 HFO
      go_wp2_with fail
      refine HL.out.mono ?_
      rintro e w4 ⟨g4, rfl, hN4, -, hb4⟩
      have hb4' := below_then HB3.out hb4
      have hq4 := below_then HQ3.out hb4
      obtain ⟨i1, i2, i3, i4, i5, i6, i7⟩ := HN.out.info
      obtain ⟨mm, hmm⟩ : ∃ mm : Nat, part x.2.pre p = (mm : Int) := ⟨(part x.2.pre p).toNat, by have := HM.out; omega⟩
      have hlm : x.2.lv < (mm : Int) := by rw [← hmm]; exact HM.out
      have HPR := hide (nd_pair (HN.out.stay hb4') hN4 hk1 hk hmm hlm (by omega))
      have hPP := fun g' => put_pair (v := v) (g' := g') HZ.out (fun f hf => (HF.out f hf).fk) HW.out hmm hlm i1 (fun e he => ⟨(i5 e he).1, (i5 e he).2.2⟩)
      have HPP := hide hPP
      have HB4 := hide hb4'
      have HQ4 := hide hq4
      clear i1 i2 i3 i4 i5 i6 i7 hmm hlm hPP hN4 hb4 hb4' hq4 HL t1
      go_wp2_with fail
      refine HPR.out.mono ?_
      rintro e w6 ⟨g6, rfl, hF6, -, hb6⟩
      have hN4 := hF6.node
      have hb4' := below_then HB4.out hb6
      have hq4 := below_then HQ4.out hb6
      have hPL := HPP.out g4
      have t1 := trivial
      have HL := trivial
      have hb4 := trivial
      clear HB4 HPR hF6 hb6
      have HME := hide hPL.2
      have HUP := hide (tr_up (fs := fs) ⟨mm, cut (mm + 1) x.2.pre, kidEs (pairK x.1 g4 x.2.lv (-1) x.2.pre p x.2.es [(p, v)] mm)⟩ B fs.length d (HTB.out.below hb4') hk1 hk (HR.out.below hq4) rfl (by omega) (fun f hf => (HF.out f hf).stay hb4') hN4 hPL.1)
      have HB4 := hide hb4'
      clear hN4 hb4 hb4' hq4 hPL HL t1
      go_wp2_with fail
      refine HUP.out.mono ?_
      rintro e w5 ⟨t', g', rfl, ht', hT5, hN5, hb5⟩
      have HH := hide (And.intro ht' (And.intro hT5 (And.intro hN5 hb5)))
      clear ht' hT5 hN5 hb5
      go_wp2
      go_ret2
      obtain ⟨ht', hT5, hN5, hb5⟩ := HH.out
      refine ⟨t', _, rfl, up_tree hk1 hk hT5 hN5, ?_, ?_, below_then HB4.out hb5⟩
      · rw [← HES.out]; exact HME.out
      · constructor
        · intro h
          have := HB4.out.size
          have := HLT.out
          omega
        · intro h
          exact absurd h (HNT.out)
  · have HBO := hide hbot
    have HFO := hide (tr_found_leaf (n := gs.length) (d := d) (fs := fs) (by rw [hgs]) (hNl.stay hb) hk hl (by rw [hgs] at hR ⊢; exact hR))
    have hgl : gs.length = fs.length + 1 := by rw [hgs]; simp
    have hin : (p, v0) ∈ es := by
      rw [← HES.out, Way.mem (fun f hf => (HF.out f hf).fk) HW.out, hbot]
      exact List.mem_singleton.2 rfl
    have hun : ∀ x, (p, x) ∈ es → x = v0 := fun x hx => by
      rw [← HES.out, Way.mem (fun f hf => (HF.out f hf).fk) HW.out, hbot] at hx
      injection List.mem_singleton.1 hx
    have HIN := hide hin
    have HUN := hide hun
    rw [hgs, ptrs_snoc] at HR
    rw [hbe]
    unfold ptrOf
    simp only [Option.map_none]
    clear hW hF hO hb hR hgs hE HE hNl hbot hin hun hbe
    rw [show (List.map (fun x => x.g) fs ++ [g]).length = fs.length + 1 by simp] at HR
    rw [hgl] at HFO hcap ⊢
    clear hgl
    by_cases hvv : v0 = v
    · subst hvv
      go_wp2_with fail
      refine HFO.out.mono ?_
      rintro e w2 ⟨⟨C, m, cc, rfl⟩, hb2⟩
      have t1 := (Blk.new w2 84 #[.slice C m cc, .int .u64 (v0 : Int)]).cell 1
      simp at t1
      have hb3 := below_alloc (below_then HB.out hb2) (Nat.le_refl _) (.cells #[.slice C m cc, .int .u64 (v0 : Int)] 84)
      have hq3 := below_alloc hb2 (Nat.le_refl _) (.cells #[.slice C m cc, .int .u64 (v0 : Int)] 84)
      have HL := hide (HLF.out _ hb3)
      have HB3 := hide hb3
      have HQ3 := hide hq3
      clear hb2 hb3 hq3 HFO
      go_wp2
      go_ret2
      refine ⟨t, es, rfl, HT.out.stay HB3.out, fun x => ?_, ?_, HB3.out⟩
      · constructor
        · intro hx
          by_cases hxp : x.1 = p
          · left
            obtain ⟨xp, xv⟩ := x
            simp only at hxp
            subst hxp
            rw [HUN.out xv hx]
          · exact .inr ⟨hx, hxp⟩
        · rintro (rfl | h)
          · exact HIN.out
          · exact h.1
      · exact ⟨fun _ => HIN.out, fun _ => rfl⟩
    · have evv : ((v0 : Int) == (v : Int)) = false := by simp; omega
      have HNT : Hid ((p, v) ∉ es) := hide fun h => hvv (HUN.out v h).symm
      have r2s := fun W => run_slice_to (P := Try.prog) (w := W) Try.underlying44 (sz := 1) Try.sizeOf51 B (fs.length + 1) d fs.length (by omega)
      clear hvv hcap
      go_wp2_with fail
      refine HFO.out.mono ?_
      rintro e w2 ⟨⟨C, m, cc, rfl⟩, hb2⟩
      have t1 := (Blk.new w2 84 #[.slice C m cc, .int .u64 (v0 : Int)]).cell 1
      simp at t1
      have hb3 := below_alloc (below_then HB.out hb2) (Nat.le_refl _) (.cells #[.slice C m cc, .int .u64 (v0 : Int)] 84)
      have hq3 := below_alloc hb2 (Nat.le_refl _) (.cells #[.slice C m cc, .int .u64 (v0 : Int)] 84)
      have HL := hide (HLF.out _ hb3)
      have HB3 := hide hb3
      have HQ3 := hide hq3
      clear hb2 hb3 hq3 HFO
      go_wp2_with fail
      refine HL.out.mono ?_
      rintro e w4 ⟨g4, rfl, hN4, -, hb4⟩
      have hb4' := below_then HB3.out hb4
      have hq4 := below_then HQ3.out hb4
      have hPL := put_leaf (v := v) HZ.out (fun f hf => (HF.out f hf).fk) HW.out (fun e he => by rw [HBO.out] at he; rw [List.mem_singleton.1 he])
      replace HR := hide HR.out.init
      have HME := hide hPL.2
      have HUP := hide (tr_up (fs := fs) ⟨-1, p, [(p, v)]⟩ B fs.length d (HTB.out.below hb4') hk1 hk (HR.out.below hq4) rfl (by omega) (fun f hf => (HF.out f hf).stay hb4') hN4 hPL.1)
      have HB4 := hide hb4'
      clear hN4 hb4 hb4' hq4 hPL HL t1
      go_wp2_with fail
      refine HUP.out.mono ?_
      rintro e w5 ⟨t', g', rfl, ht', hT5, hN5, hb5⟩
      have HH := hide (And.intro ht' (And.intro hT5 (And.intro hN5 hb5)))
      clear ht' hT5 hN5 hb5
      go_wp2
      go_ret2
      obtain ⟨ht', hT5, hN5, hb5⟩ := HH.out
      refine ⟨t', _, rfl, up_tree hk1 hk hT5 hN5, ?_, ?_, below_then HB4.out hb5⟩
      · rw [← HES.out]; exact HME.out
      · constructor
        · intro h
          have := HB4.out.size
          have := HLT.out
          omega
        · intro h
          exact absurd h (HNT.out)
/-- A fork with one kid less: another fork, or its other kid. -/
theorem nd_less {w : World} {k : Nat} {p : List Nat} {f : PF} (h : Fork w k f.g f.lv f.pre f.ks) (hk : k ≤ 16) (hp : Zp k p) {q : Kid} (hq : q ∈ f.ks) (hqa : q.at_ = addrOf p f.lv) :
    Calls Try.prog 46 #[.pointer (some ⟨f.g, 0, none⟩), .int .i64 (addrOf p f.lv : Int)] w fun e w' => ∃ (gn : Nat) (n : NT), e = .returned (.tuple #[.pointer (some ⟨gn, 0, none⟩), .int .i64 0]) ∧ NodeOf w' k gn n.lv n.pre n.es ∧
      (∀ e, e ∈ n.es ↔ ∃ r ∈ f.ks, r.at_ ≠ addrOf p f.lv ∧ e ∈ r.es) ∧ Zp k n.pre ∧ n.lv ≤ f.lv ∧ (∀ b, f.lv < b → addrOf n.pre b = addrOf f.pre b) ∧ Below w.heap.size w w' := by
  have hf := h.fk
  have hl := delK_len (a := addrOf p f.lv) hf.sort ⟨q, hq, hqa⟩
  have h2 := hf.two
  have ha := addr_lt_pow hp f.lv
  rcases Nat.lt_or_ge f.ks.length 3 with h3 | h3
  · obtain ⟨r, hr⟩ : ∃ r, delK f.ks (addrOf p f.lv) = [r] := List.length_eq_one_iff.1 (by omega)
    have hrm : r ∈ f.ks ∧ r.at_ ≠ addrOf p f.lv := mem_delK.1 (by rw [hr]; simp)
    have hrN : NodeOf w k r.blk r.lv r.pre r.es := by
      obtain ⟨A, c, gs, _, _, _, _, h5, _⟩ := h
      exact h5 r hrm.1
    refine (nd_without_two h ha hq hqa hr).mono fun e w' ⟨h4, h5⟩ => ⟨r.blk, ⟨r.lv, r.pre, r.es⟩, h4, hrN.stay h5, fun e => ?_, hf.ksz r hrm.1, ?_, (hf.at_ r hrm.1).2, h5⟩
    · constructor
      · intro he
        exact ⟨r, hrm.1, hrm.2, he⟩
      · rintro ⟨s, hs, hsa, hes⟩
        have : s ∈ delK f.ks (addrOf p f.lv) := mem_delK.2 ⟨hs, hsa⟩
        rw [hr, List.mem_singleton] at this
        rw [← this]
        exact hes
    · have := hf.low r hrm.1
      show r.lv ≤ _
      omega
  · refine (nd_without h ha hq hqa h3).mono fun e w' ⟨gn, h4, h5, _, h6⟩ => ⟨gn, ⟨f.lv, f.pre, kidEs (delK f.ks (addrOf p f.lv))⟩, h4, h5.node, fun e => ?_, hf.pre, Int.le_refl _, fun _ _ => rfl, h6⟩
    unfold kidEs
    rw [List.mem_flatMap]
    constructor
    · rintro ⟨s, hs, hes⟩
      exact ⟨s, (mem_delK.1 hs).1, (mem_delK.1 hs).2, hes⟩
    · rintro ⟨s, hs, hsa, hes⟩
      exact ⟨s, mem_delK.2 ⟨hs, hsa⟩, hes⟩
theorem idx2 {j n : Nat} (hn : n = j + 2) (hj : j ≤ 64) : (n : Int) - 2 = (j : Int) ∧ j < n ∧ (0 : Int) ≤ (j : Int) ∧ (j : Int) ≤ 70368744177664 ∧ IntKind.i64.wrap (j : Int) = (j : Int) ∧ wrap64 (j : Int) = (j : Int) ∧ (j : Int) < (n : Int) ∧ ((n : Int) == 1) = false := by
  refine ⟨by omega, by omega, by omega, by omega, by rw [IntKind.wrap_i64]; omega, by unfold wrap64; omega, by omega, ?_⟩
  simp
  omega
/-- What Del answers. -/
def DelOut (w : World) (t k : Nat) (p : List Nat) (es : List Ent) (e : Ending) (w' : World) : Prop :=
  ((e = .returned (.tuple #[.pointer none, .int .i64 6]) ∧ ∀ v, (p, v) ∉ es) ∨ ∃ t' es' v, e = .returned (.tuple #[.pointer (some ⟨t', 0, none⟩), .int .i64 0]) ∧ TreeOf w' k t' es' ∧ (p, v) ∈ es ∧ (∀ x, x ∈ es' ↔ x ∈ es ∧ x.1 ≠ p)) ∧ Below w.heap.size w w'
set_option maxHeartbeats 4000000 in
set_option maxRecDepth 100000 in
theorem tr_del {w : World} {t k : Nat} {es : List Ent} (hT : TreeOf w k t es) {A : Option Addr} {c : Nat} {p : List Nat} (hp : Pt w A k p) :
    Calls Try.prog 28 #[.pointer (some ⟨t, 0, none⟩), .slice A k c] w (DelOut w t k p es) := by
  obtain ⟨top, hB, hN, hes, hk1, hk⟩ := hT.top
  have HC := hide (tr_check hB A c)
  have HP := hide (tr_path hB hN hk1 hk (c := c) hp)
  have HZ := hide hp.zp
  have HES := hide hes
  have HTB := hide hB
  have HPT := hide hp
  clear hT hB hN hp hes
  go_enter Try.func28, Try.ntmps28
  go_wp2_with fail
  refine HC.out.mono ?_
  rintro e w1 ⟨rfl, rfl⟩
  go_wp2_with fail
  refine HP.out.mono ?_
  rintro e w1 ⟨fs, bot, gs, below, B, d, hW, hF, hl, hE, rfl, hO, hb⟩
  have HW := hide hW
  have HF := hide hF
  have HB := hide hb
  obtain ⟨hcap, hR⟩ := own_rw hO
  have HR := hide hR
  rcases hE.cases_ with hgs | ⟨g, v0, hgs, hbe, hbot, hNl⟩
  · have hno := hE.no HZ.out hgs
    have HFO := hide (tr_found_fork (n := gs.length) (d := d) (by rw [hgs]; simp) (fun f hf => (hF f hf).stay hb) hl (by rw [hgs] at hR ⊢; exact hR))
    have hnt : ∀ x, (p, x) ∉ es := fun x hx => by
      rw [← HES.out, Way.mem (fun f hf => (HF.out f hf).fk) HW.out] at hx
      exact hno x hx
    have HNT := hide hnt
    unfold ptrOf
    clear hW hF hO hb hR hgs hno hnt hcap hE
    go_wp2_with fail
    refine HFO.out.mono ?_
    rintro e w2 ⟨⟨C, m, cc, rfl⟩, hb2⟩
    have HB3 := hide (below_alloc (below_then HB.out hb2) (Nat.le_refl _) (.cells #[.slice C m cc, .int .u64 ((0 : Nat) : Int)] 84))
    clear hb2
    go_wp2
    go_ret2
    exact ⟨.inl ⟨rfl, HNT.out⟩, HB3.out⟩
  · have HBO := hide hbot
    have HFO := hide (tr_found_leaf (n := gs.length) (d := d) (fs := fs) (by rw [hgs]) (hNl.stay hb) hk hl (by rw [hgs] at hR ⊢; exact hR))
    have hgl : gs.length = fs.length + 1 := by rw [hgs]; simp
    have hin : (p, v0) ∈ es := by
      rw [← HES.out, Way.mem (fun f hf => (HF.out f hf).fk) HW.out, hbot]
      exact List.mem_singleton.2 rfl
    have HIN := hide hin
    rw [hgs, ptrs_snoc] at HR
    unfold ptrOf
    clear hF hO hb hR hgs hE hNl hbot hin hbe
    rw [show (List.map (fun x => x.g) fs ++ [g]).length = fs.length + 1 by simp] at HR
    rw [hgl] at HFO hcap ⊢
    clear hgl
    rcases (show fs = [] ∨ ∃ fs0 f, fs = fs0 ++ [f] from (List.eq_nil_or_concat fs).imp id fun ⟨a, b, h⟩ => ⟨a, b, by rw [h, List.concat_eq_append]⟩) with rfl | ⟨fs0, f, rfl⟩
    · have hes0 : es = [(p, v0)] := by
        rw [← HES.out, show top = bot from hW, HBO.out]
        rfl
      have HE0 := hide hes0
      have t0 := (Blk.cell HTB.out 0)
      simp at t0
      clear hW hcap hes0
      simp only [List.length_nil, Nat.zero_add] at HFO ⊢
      go_wp2_with fail
      refine HFO.out.mono ?_
      rintro e w2 ⟨⟨C, m, cc, rfl⟩, hb2⟩
      have hb3 := below_alloc (below_then HB.out hb2) (Nat.le_refl _) (.cells #[.slice C m cc, .int .u64 (v0 : Int)] 84)
      have HB3 := hide hb3
      have t0 := Blk.cell (Blk.below HTB.out hb3) 0
      simp at t0
      clear hb2 hb3
      go_wp2
      go_ret2
      refine ⟨.inr ⟨_, [], v0, rfl, ⟨hk1, hk, .inl ⟨by
        have h := Blk.new (w2.alloc (.cells #[.slice C m cc, .int .u64 (v0 : Int)] 84)) 79 #[.int .i64 (k : Int), .pointer none]
        rw [show (w2.alloc (.cells #[.slice C m cc, .int .u64 (v0 : Int)] 84)).heap.size = w2.heap.size + 1 by simp] at h
        exact h, rfl⟩⟩, HIN.out, fun x => ?_⟩, below_alloc HB3.out (Nat.le_refl _) _⟩
      rw [HE0.out]
      simp only [List.not_mem_nil, List.mem_singleton, false_iff]
      rintro ⟨rfl, h⟩
      exact h rfl
    · have hlen : (fs0 ++ [f]).length + 1 = fs0.length + 2 := by simp
      obtain ⟨c1, c2, c3⟩ := hW.cut
      have hFk := HF.out f (by simp)
      obtain ⟨q, hq, hqa, hqx⟩ := kidAt_some (c3.symm.trans HBO.out)
      have HLS := hide (fun (W : World) (hW : Below w.heap.size w W) => nd_less (hFk.stay hW) hk HZ.out hq hqa)
      have HLV := hide (fun (W : World) (hW : Below w.heap.size w W) => nd_level (hFk.stay hW).node)
      have HAD := hide (fun (W : World) (hW : Below w.heap.size w W) => zb_addr A k p c f.lv W (HPT.out.below hW) hk1 hk hFk.fk.lv)
      have HCW := hide c1
      have hq1 : ∀ e ∈ esOf (kidAt f.ks (addrOf p f.lv)), e.1 = p := fun e he => by
        rw [← c3, HBO.out] at he
        rw [List.mem_singleton.1 he]
      have HQ1 := hide hq1
      have HFK := hide hFk.fk
      have hl0 : fs0.length ≤ 64 := by simp at hl; omega
      have hfs0 : ∀ f ∈ fs0, Fork w k f.g f.lv f.pre f.ks := fun f hf => HF.out f (by simp [hf])
      have HF0 := hide hfs0
      obtain ⟨n, hn⟩ : ∃ n, n = fs0.length + 2 := ⟨_, rfl⟩
      obtain ⟨j, hj⟩ : ∃ j, j = fs0.length := ⟨_, rfl⟩
      rw [hlen, ← hn] at HFO hcap HR ⊢
      have hRj : (ptrs (List.map (fun x => x.g) (fs0 ++ [f])) ++ [Value.pointer (some ⟨g, 0, none⟩)])[j]? = some (.pointer (some ⟨f.g, 0, none⟩)) := by
        rw [hj]; simp [ptrs]
      have hRt : Rw w1 1 B j (ptrs (fs0.map (·.g))) := by
        have := HR.out.take_ (i := j) (by omega)
        rw [Nat.mul_one, hj] at this
        simpa [ptrs, hj] using this
      have HRT := hide hRt
      obtain ⟨b, o, rfl, hbl, u, hu, k0⟩ := HR.out.one (i := j) (by omega)
      rw [hRj] at hu
      injection hu with hu
      rw [← hu] at k0
      have K0 := hide (fun (W : World) (hW : Below w1.heap.size w1 W) => ((hW.cell (p := ⟨b, o + j, none⟩) hbl).trans k0))
      obtain ⟨e2, hin, hi0, hi7, e5, e6, hin', ne1⟩ := idx2 (j := j) (n := n) (hn.trans (by rw [hj])) (by rw [hj]; exact hl0)
      have hjd : j ≤ d := Nat.le_trans (Nat.le_of_lt hin) hcap
      have r2s := fun W => run_slice_to (P := Try.prog) (w := W) Try.underlying44 (sz := 1) Try.sizeOf51 (some ⟨b, o, none⟩) n d j hjd
      have HJ := hide hj
      clear hW hcap hlen c1 c2 c3 hFk hq hqa hqx hq1 hfs0 hn hRj hRt hu hj
      go_wp2_with fail
      refine HFO.out.mono ?_
      rintro e w2 ⟨⟨C, m, cc, rfl⟩, hb2⟩
      have hb3 := below_alloc (below_then HB.out hb2) (Nat.le_refl _) (.cells #[.slice C m cc, .int .u64 (v0 : Int)] 84)
      have hq3 := below_alloc hb2 (Nat.le_refl _) (.cells #[.slice C m cc, .int .u64 (v0 : Int)] 84)
      have HB3 := hide hb3
      have HQ3 := hide hq3
      have k0 := K0.out _ hq3
      have HL := hide (HLV.out _ hb3)
      have HA := hide (HAD.out _ hb3)
      have HN := hide (HLS.out _ hb3)
      clear hb2 hb3 hq3 HFO
      go_wp2_with fail
      refine HL.out.mono ?_
      rintro e w3 ⟨rfl, rfl⟩
      go_wp2_with fail
      refine HA.out.mono ?_
      rintro e w3 ⟨rfl, rfl⟩
      go_wp2_with fail
      refine HN.out.mono ?_
      rintro e w4 ⟨gn, nn, rfl, hN4, hes4, hz4, hl4, ha4, hb4⟩
      have hb4' := below_then HB3.out hb4
      have hq4 := below_then HQ3.out hb4
      have hPL := del_fork (bot := none) HZ.out (fun f hf => (HF0.out f hf).fk) HFK.out HCW.out HQ1.out hes4 hz4 hl4 ha4
      have HME := hide hPL.2
      have HUP := hide (tr_up (fs := fs0) nn (some ⟨b, o, none⟩) j d (HTB.out.below hb4') hk1 hk (HRT.out.below hq4) HJ.out.symm (by have := HJ.out; omega) (fun f hf => (HF0.out f hf).stay hb4') hN4 hPL.1)
      have HB4 := hide hb4'
      clear hN4 hb4 hb4' hq4 hPL HL HA HN k0 hes4 hz4 hl4 ha4
      go_wp2_with fail
      refine HUP.out.mono ?_
      rintro e w5 ⟨t', g', rfl, ht', hT5, hN5, hb5⟩
      have HH := hide (And.intro ht' (And.intro hT5 (And.intro hN5 hb5)))
      clear ht' hT5 hN5 hb5
      go_wp2
      go_ret2
      obtain ⟨ht', hT5, hN5, hb5⟩ := HH.out
      refine ⟨.inr ⟨t', _, v0, rfl, up_tree hk1 hk hT5 hN5, HIN.out, ?_⟩, below_then HB4.out hb5⟩
      rw [← HES.out]
      exact HME.out
end Go.Proofs.Ytfoapkcgdkfggaa
set_option linter.unusedSimpArgs false
set_option linter.unusedVariables false
namespace Go.Proofs.Ytfoapkcgdkfggaa
open Go.RowKit
/-! ### A fork's kids, ahead of a point and behind it -/
section
variable {k : Nat} {p : List Nat} {f : PF}
theorem FK.agree (h : FK k f) (hp : Zp k p) (hc : part f.pre p ≤ (f.lv : Int)) : ∀ b : Nat, f.lv < b → addrOf f.pre b = addrOf p b := by
  intro b hb
  exact (part_le_iff h.pre hp f.lv (by omega)).1 hc b (by omega)
theorem FK.kid_lt (h : FK k f) (hp : Zp k p) (hc : part f.pre p ≤ (f.lv : Int)) {q : Kid} (hq : q ∈ f.ks) (hlt : q.at_ < addrOf p f.lv) : ∀ e ∈ q.es, Zlt e.1 p := by
  intro e he
  obtain ⟨h1, h2, h3⟩ := h.es q hq e he
  exact ⟨f.lv, fun b hb => (h3 b hb).trans (h.agree hp hc b hb), by rw [h2]; exact hlt⟩
theorem FK.kid_gt (h : FK k f) (hp : Zp k p) (hc : part f.pre p ≤ (f.lv : Int)) {q : Kid} (hq : q ∈ f.ks) (hlt : addrOf p f.lv < q.at_) : ∀ e ∈ q.es, Zlt p e.1 := by
  intro e he
  obtain ⟨h1, h2, h3⟩ := h.es q hq e he
  exact ⟨f.lv, fun b hb => ((h3 b hb).trans (h.agree hp hc b hb)).symm, by rw [h2]; exact hlt⟩
end
/-! ### Places among the kids -/
theorem kidAt_of {ks : List Kid} (hs : ks.Pairwise fun q r => q.at_ < r.at_) {j : Nat} {q : Kid} (h : ks[j]? = some q) : kidAt ks q.at_ = some (q.blk, ⟨q.lv, q.pre, q.es⟩) := by
  have hm := List.mem_of_getElem? h
  cases hk : kidAt ks q.at_ with
  | none => exact absurd rfl (kidAt_none hk q hm)
  | some x =>
    obtain ⟨r, hr, hra, rfl⟩ := kidAt_some hk
    obtain ⟨i, hi⟩ := List.getElem?_of_mem hr
    have : i = j := by
      rcases Nat.lt_trichotomy i j with h1 | h1 | h1
      · have := kids_lt hs hi h h1; omega
      · exact h1
      · have := kids_lt hs h hi h1; omega
    subst this
    rw [hi] at h
    injection h with h
    rw [h]
theorem kidEs_append (a b : List Kid) : kidEs (a ++ b) = kidEs a ++ kidEs b := by unfold kidEs; exact List.flatMap_append
theorem kidEs_cons (q : Kid) (b : List Kid) : kidEs (q :: b) = q.es ++ kidEs b := by unfold kidEs; exact List.flatMap_cons
theorem mem_kidEs {ks : List Kid} {e : Ent} : e ∈ kidEs ks ↔ ∃ q ∈ ks, e ∈ q.es := by unfold kidEs; exact List.mem_flatMap
theorem kidEs_at {ks : List Kid} {j : Nat} {q : Kid} (h : ks[j]? = some q) : kidEs ks = kidEs (ks.take j) ++ (q.es ++ kidEs (ks.drop (j + 1))) := by
  conv => lhs; rw [th_split h]
  rw [kidEs_append, kidEs_cons]
/-! ### What stands around a point in a list in z-order -/
/-- A list in three: what is ahead of a point, what may be either, what is behind it. -/
structure Mid (p : List Nat) (es A es' B : List Ent) : Prop where
  eq : es = A ++ (es' ++ B)
  lo : ∀ e ∈ A, Zlt e.1 p
  hi : ∀ e ∈ B, Zlt p e.1
section
variable {k : Nat} {p : List Nat} {es A es' B : List Ent}
theorem Mid.kid (h : Mid p es A es' B) {f : PF} (hf : FK k f) (hp : Zp k p) (hc : part f.pre p ≤ (f.lv : Int)) (he : es' = kidEs f.ks) {j : Nat} {q : Kid} (hq : f.ks[j]? = some q) (hlo : ∀ r ∈ f.ks.take j, r.at_ < addrOf p f.lv) (hhi : ∀ r ∈ f.ks.drop (j + 1), addrOf p f.lv < r.at_) :
    Mid p es (A ++ kidEs (f.ks.take j)) q.es (kidEs (f.ks.drop (j + 1)) ++ B) := by
  subst he
  refine ⟨?_, fun e h' => ?_, fun e h' => ?_⟩
  · rw [h.eq, kidEs_at hq]
    simp only [List.append_assoc]
  · rcases List.mem_append.1 h' with h' | h'
    · exact h.lo e h'
    · obtain ⟨r, hr, he⟩ := mem_kidEs.1 h'
      exact hf.kid_lt hp hc (List.mem_of_mem_take hr) (hlo r hr) e he
  · rcases List.mem_append.1 h' with h' | h'
    · obtain ⟨r, hr, he⟩ := mem_kidEs.1 h'
      exact hf.kid_gt hp hc (List.mem_of_mem_drop hr) (hhi r hr) e he
    · exact h.hi e h'
theorem Mid.lt (h : Mid p es A es' B) (hl : ∀ e ∈ es', Zlt e.1 p) : Mid p es (A ++ es') [] B := by
  refine ⟨by rw [h.eq]; simp, fun e h' => ?_, h.hi⟩
  rcases List.mem_append.1 h' with h' | h'
  · exact h.lo e h'
  · exact hl e h'
end
end Go.Proofs.Ytfoapkcgdkfggaa
set_option linter.unusedSimpArgs false
set_option linter.unusedVariables false
namespace Go.Proofs.Ytfoapkcgdkfggaa
open Go.RowKit
def fromM : Value → Value → Nat
  | _, .pointer none => 0
  | .int _ x, _ => 70001 - x.toNat
  | _, _ => 0
theorem fromM_lt {ks : List Kid} (hs : ks.Pairwise fun q r => q.at_ < r.at_) (hb : ∀ q ∈ ks, q.at_ < 65536) {j : Nat} {q : Kid} (hq : ks[j]? = some q) :
    fromM (.int .i64 ((kAt ks (j + 1) : Nat) : Int)) (kPt ks (j + 1)) < fromM (.int .i64 ((q.at_ : Nat) : Int)) (.pointer (some ⟨q.blk, 0, none⟩)) := by
  have h1 := hb q (List.mem_of_getElem? hq)
  cases hr : ks[j + 1]? with
  | none =>
    rw [kPt_none (by simpa using hr)]
    simp only [fromM]
    omega
  | some r =>
    rw [kAt_some hr, kPt_some hr]
    have h2 := hb r (List.mem_of_getElem? hr)
    have h3 := kids_lt hs hq hr (by omega)
    simp only [fromM]
    omega
/-- What All gives. -/
def AllOut (w : World) (k : Nat) (es : List Ent) (e : Ending) (w' : World) : Prop :=
  ∃ (A : Option Addr) (c : Nat) (rows : List ER), e = .returned (.slice A rows.length c) ∧ ents rows = es ∧ w'.ownsRow w.heap.size 84 2 (.slice A rows.length c) rows.length (rows.flatMap entv) ∧ (∀ r ∈ rows, r.okT w' ∧ r.n = k) ∧ Below w.heap.size w w'
theorem AllOut.at_ {w w' : World} {k : Nat} {es : List Ent} {e : Ending} (h : AllOut w k es e w') : ∃ (A : Option Addr) (c : Nat) (rows : List ER), e = .returned (.slice A rows.length c) ∧ ents rows = es ∧ EntsAt w' A rows.length rows ∧ rows.length ≤ c ∧ (∀ r ∈ rows, r.n = k) ∧ Below w.heap.size w w' := by
  obtain ⟨A, c, rows, h1, h2, h3, h4, h5⟩ := h
  obtain ⟨h6, h7⟩ := own_rw h3
  exact ⟨A, c, rows, h1, h2, ⟨h7, fun r hr => (h4 r hr).1.1⟩, h6, fun r hr => (h4 r hr).2, h5⟩
end Go.Proofs.Ytfoapkcgdkfggaa
set_option linter.unusedSimpArgs false
set_option linter.unusedVariables false
namespace Go.Proofs.Ytfoapkcgdkfggaa
open Go.RowKit
/-- What a shape tells. -/
structure SC where
  lv : Int
  xs : List Int
  pl : List Int
  dn : Bool
  v : Int
structure SR where
  A : Option Addr
  k : Nat
  c : Nat
  C : Option Addr
  m : Nat
  f : Nat
  sc : SC
def shv (r : SR) : List Value := [.int .i64 r.sc.lv, .slice r.A r.k r.c, .slice r.C r.m r.f, .bool r.sc.dn, .int .u64 r.sc.v]
theorem info_sh : (Try.prog.info? 75).map (fun i => (i.zero, i.size, i.bytes)) = some (some (.agg #[.int .i64 0, .slice none 0 0, .slice none 0 0, .bool false, .int .u64 0]), 5, 72) := by kernel_rfl
/-- A row that stays where rows of other types grow above the base. -/
def Still (base : Nat) (w : World) (e : TypeId) (A : Option Addr) (n : Nat) : Prop := 0 < n → ∃ b o, A = some ⟨b, o, none⟩ ∧ b < w.heap.size ∧ (b < base ∨ ∃ cs fr, w.heap[b]? = some (.cells cs e fr))
theorem Still.below {base : Nat} {w w' : World} {e : TypeId} {A : Option Addr} {n : Nat} (h : Still base w e A n) (hb : Below w.heap.size w w') : Still base w' e A n := by
  intro hn
  obtain ⟨b, o, h1, hl, h2⟩ := h hn
  refine ⟨b, o, h1, Nat.lt_of_lt_of_le hl hb.size, ?_⟩
  rcases h2 with h2 | ⟨cs, fr, h2⟩
  · exact .inl h2
  · exact .inr ⟨cs, fr, (hb.block b hl).trans h2⟩
theorem Still.ty {base : Nat} {w : World} {e : TypeId} {A : Option Addr} {n : Nat} (h : TyRow w e A n) : Still base w e A n := by
  intro hn
  obtain ⟨b, o, cs, fr, h1, h2⟩ := h hn
  exact ⟨b, o, h1, (Array.getElem?_eq_some_iff.1 h2).1, .inr ⟨cs, fr, h2⟩⟩
theorem Still.mono {base base' : Nat} {w : World} {e : TypeId} {A : Option Addr} {n : Nat} (h : Still base w e A n) (hb : base ≤ base') : Still base' w e A n := by
  intro hn
  obtain ⟨b, o, h1, hl, h2⟩ := h hn
  refine ⟨b, o, h1, hl, ?_⟩
  rcases h2 with h2 | h2
  · exact .inl (by omega)
  · exact .inr h2
/-- The block of a row that stays is not the one that grows. -/
theorem Still.ne {base base' : Nat} {w : World} {e t : TypeId} {A : Option Addr} {n m sz : Nat} {v : Value} {xs : List Value} (h : Still base w e A n) (ho : w.ownsRow base' t sz v m xs) (hbb : base ≤ base') (hne : e ≠ t) (hn : 0 < n) :
    ∃ b o, A = some ⟨b, o, none⟩ ∧ b < w.heap.size ∧ some b ≠ v.ownBlock := by
  obtain ⟨b, o, h1, hl, h2⟩ := h hn
  refine ⟨b, o, h1, hl, fun hv => ?_⟩
  rcases ho.2 with ⟨rfl, _⟩ | ⟨g, cap, cur, rfl, hg, hh, _⟩
  · simp [Value.ownBlock] at hv
  · have hgb : b = g := by simpa [Value.ownBlock] using hv
    subst hgb
    rcases h2 with h2 | ⟨cs, fr, h2⟩
    · omega
    · rw [hh] at h2
      injection h2 with h2
      injection h2 with _ h2
      exact hne h2.symm
theorem Still.grown {base base' : Nat} {w w' : World} {e t : TypeId} {A : Option Addr} {n m sz : Nat} {v : Value} {xs : List Value} (h : Still base w e A n) (ho : w.ownsRow base' t sz v m xs) (hbb : base ≤ base') (hne : e ≠ t) (hg : w.grownBy w' v.ownBlock) : Still base w' e A n := by
  intro hn
  obtain ⟨b, o, h1, hl, h3⟩ := h.ne ho hbb hne hn
  obtain ⟨b', o', h1', hl', h2⟩ := h hn
  rw [h1] at h1'
  injection h1' with h1'
  injection h1' with h1' h1''
  subst h1'
  have hblk := hg.block b hl h3
  have hlt : b < w'.heap.size := by
    have h5 : w.heap[b]? = some w.heap[b] := by simp [hl]
    rw [← hblk] at h5
    exact (Array.getElem?_eq_some_iff.1 h5).1
  refine ⟨b, o, h1, hlt, ?_⟩
  rcases h2 with h2 | ⟨cs, fr, h2⟩
  · exact .inl h2
  · exact .inr ⟨cs, fr, hblk.trans h2⟩
theorem Rw.grown_still {base base' : Nat} {w w' : World} {e t : TypeId} {A : Option Addr} {n m sz : Nat} {v : Value} {xs vs : List Value} (hR : Rw w 1 A n vs) (h : Still base w e A n) (ho : w.ownsRow base' t sz v m xs) (hbb : base ≤ base') (hne : e ≠ t) (hg : w.grownBy w' v.ownBlock) : Rw w' 1 A n vs := by
  refine ⟨hR.1, fun hn => ?_⟩
  obtain ⟨b, o, h1, hl, h3⟩ := h.ne ho hbb hne hn
  obtain ⟨b', o', h1', hl', hc⟩ := hR.2 hn
  rw [h1] at h1'
  injection h1' with h1'
  injection h1' with h1' h1''
  subst h1' h1''
  have hblk := hg.block b hl h3
  have hlt : b < w'.heap.size := by
    have h5 : w.heap[b]? = some w.heap[b] := by simp [hl]
    rw [← hblk] at h5
    exact (Array.getElem?_eq_some_iff.1 h5).1
  refine ⟨b, o, h1, hlt, fun j u hu => ?_⟩
  rw [World.cell?_of_block (w := w) (a := ⟨b, o + j, none⟩) hblk]
  exact hc j u hu
def SR.ok (base : Nat) (w : World) (r : SR) : Prop :=
  Rw w 1 r.A r.k (r.sc.xs.map fun z => .int .u64 z) ∧ Rw w 1 r.C r.m (r.sc.pl.map fun z => .int .i64 z) ∧ r.k ≤ 65536 ∧ r.m ≤ 65536 ∧ Still base w 36 r.A r.k ∧ Still base w 3 r.C r.m
theorem SR.ok.below {base : Nat} {w w' : World} {r : SR} (h : r.ok base w) (hb : Below w.heap.size w w') : r.ok base w' :=
  ⟨h.1.below hb, h.2.1.below hb, h.2.2.1, h.2.2.2.1, h.2.2.2.2.1.below hb, h.2.2.2.2.2.below hb⟩
theorem SR.ok.grown {base base' : Nat} {w w' : World} {t : TypeId} {m sz : Nat} {v : Value} {xs : List Value} {r : SR} (h : r.ok base w) (ho : w.ownsRow base' t sz v m xs) (hbb : base ≤ base') (h1 : 36 ≠ t) (h2 : 3 ≠ t) (hg : w.grownBy w' v.ownBlock) : r.ok base w' :=
  ⟨h.1.grown_still h.2.2.2.2.1 ho hbb h1 hg, h.2.1.grown_still h.2.2.2.2.2 ho hbb h2 hg, h.2.2.1, h.2.2.2.1, h.2.2.2.2.1.grown ho hbb h1 hg, h.2.2.2.2.2.grown ho hbb h2 hg⟩
/-- What Shape and Kid answer of one node. -/
structure NodeShape (w : World) (g : Nat) (sc : SC) (gs : List Nat) : Prop where
  len : gs.length ≤ 65536
  pl : sc.pl.length = gs.length
  shape : ∀ W, Below w.heap.size w W → Calls Try.prog 34 #[.pointer (some ⟨g, 0, none⟩)] W fun e w' => ∃ A k c C f, e = .returned (.agg #[.int .i64 sc.lv, .slice A k c, .slice C gs.length f, .bool sc.dn, .int .u64 sc.v]) ∧ k ≤ 16 ∧
    Rw w' 1 A k (sc.xs.map fun z => .int .u64 z) ∧ Rw w' 1 C gs.length (sc.pl.map fun z => .int .i64 z) ∧ TyRow w' 36 A k ∧ TyRow w' 3 C gs.length ∧ Below W.heap.size W w'
  kid : ∀ (i g' : Nat), gs[i]? = some g' → ∃ a, sc.pl[i]? = some a ∧ ∀ W, Below w.heap.size w W → Calls Try.prog 35 #[.pointer (some ⟨g, 0, none⟩), .int .i64 a] W fun e w' => e = .returned (.pointer (some ⟨g', 0, none⟩)) ∧ Below W.heap.size W w'
theorem NodeShape.stay {w w' : World} {g : Nat} {sc : SC} {gs : List Nat} (h : NodeShape w g sc gs) (hb : Below w.heap.size w w') : NodeShape w' g sc gs :=
  ⟨h.len, h.pl, fun W hW => h.shape W (below_then hb hW), fun i g' hi => by
    obtain ⟨a, h1, h2⟩ := h.kid i g' hi
    exact ⟨a, h1, fun W hW => h2 W (below_then hb hW)⟩⟩
/-- The shapes of a node and of all below it, each ahead of its kids'. -/
inductive SN (w : World) : Nat → List SC → Prop
  | mk {g : Nat} {sc : SC} {gs : List Nat} {Ls : List (List SC)} (hs : NodeShape w g sc gs) (hl : gs.length = Ls.length) (hk : ∀ (i g' : Nat) (L : List SC), gs[i]? = some g' → Ls[i]? = some L → SN w g' L) : SN w g (sc :: Ls.flatten)
theorem shape_leaf {w : World} {k g : Nat} {A : Option Addr} {c v : Nat} {p : List Nat} (hp : Pt w A k p) (hk : k ≤ 16) (hB : Blk w g 103 (nodeCells (-1) A k c v none ⟨1, v, v, v⟩)) : NodeShape w g ⟨-1, p.map fun (x : Nat) => (x : Int), [], false, (v : Int)⟩ [] := by
  refine ⟨by simp, rfl, fun W hW => ?_, fun i g' hi => by simp at hi⟩
  refine (nd_shape_leaf_t (hB.below hW) (hp.below hW) hk).mono fun e w' ⟨B, d, h1, h2, h3, h4⟩ => ⟨B, k, d, none, 0, h1, hk, ?_, Rw.nil _ _ _, h4, fun h => (by cases h), h3⟩
  rw [u64s_int] at h2
  exact h2
theorem shape_fork {w : World} {k g m : Nat} {pre : List Nat} {ks : List Kid} (hF : Fork w k g m pre ks) (hk : k ≤ 16) : NodeShape w g ⟨(m : Int), pre.map fun (x : Nat) => (x : Int), ks.map fun q => (q.at_ : Int), denseB k ks.length, 0⟩ (ks.map (·.blk)) := by
  obtain ⟨A, c, gs, hp, hS, hB⟩ := hF.head
  have hkl : ks.length ≤ 65536 := by
    have h1 := len_le_of_ok hS.ok
    have h2 := pow16 hS.2.1
    simp [kidTh] at h1
    omega
  refine ⟨by simpa using hkl, by simp, fun W hW => ?_, fun i g' hi => ?_⟩
  · refine (nd_shape_fork_t (hB.below hW) (hp.below hW) hk (hS.below hW)).mono fun e w' ⟨B, d, C, f, h1, h2, h3, h4, h5, h6⟩ => ⟨B, k, d, C, f, ?_, hk, ?_, ?_, h5, ?_, h4⟩
    · rw [h1]; simp
    · rw [u64s_int] at h2
      exact h2
    · rw [places_int] at h3
      rw [List.length_map]
      exact h3
    · rw [List.length_map]
      exact h6
  · rw [List.getElem?_map] at hi
    obtain ⟨q, hq, rfl⟩ := Option.map_eq_some_iff.1 hi
    refine ⟨(q.at_ : Int), by simp [hq], fun W hW => ?_⟩
    have hth : getTh (kidTh ks) (q.at_ : Int) = some (.pointer (some ⟨q.blk, 0, none⟩)) :=
      getTh_some hS.ok (t := (q.at_, .pointer (some ⟨q.blk, 0, none⟩))) (List.mem_map.2 ⟨q, List.mem_of_getElem? hq, rfl⟩)
    have := nd_kid (hB.below hW) (hS.below hW) (q.at_ : Int)
    rw [hth] at this
    exact this
theorem SN.stay {w w' : World} {g : Nat} {L : List SC} (h : SN w g L) (hb : Below w.heap.size w w') : SN w' g L := by
  induction h with
  | mk hs hl hk ih => exact .mk (hs.stay hb) hl fun i g' L h1 h2 => ih i g' L h1 h2
theorem SN.ne {w : World} {g : Nat} {L : List SC} (h : SN w g L) : 0 < L.length := by
  cases h with
  | mk hs hl hk => simp
/-- What Shapes answers. -/
def ShapesOut (base : Nat) (w : World) (L : List SC) (e : Ending) (w' : World) : Prop :=
  ∃ (A : Option Addr) (d : Nat) (srs : List SR), e = .returned (.slice A srs.length d) ∧ w'.ownsRow w.heap.size 75 5 (.slice A srs.length d) srs.length (srs.flatMap shv) ∧ (∀ r ∈ srs, SR.ok base w' r) ∧ srs.map (·.sc) = L ∧ Below w.heap.size w w'
/-- The document's shapes of these entries. -/
def RefSh (k : Nat) (es : List Ent) (L : List SC) : Prop :=
  ∀ (w0 W : World) (B : Option Addr) (n m : Nat) (rows : List ER), Below w0.heap.size w0 W → EntsAt w0 B n rows → n ≤ m → n ≤ 65536 → (∀ r ∈ rows, r.n = k) → ents rows = es →
    Calls Try.prog 21 #[.slice B n m] W (ShapesOut w0.heap.size W L)
theorem lit_shape (w : World) (base : Nat) (r : SR) (hb : base ≤ w.heap.size) : (w.alloc (.cells #[.int .i64 r.sc.lv, .slice r.A r.k r.c, .slice r.C r.m r.f, .bool r.sc.dn, .int .u64 r.sc.v] 75)).ownsRow base 75 5 (.slice (some ⟨w.heap.size, 0, none⟩) 1 1) 1 (shv r) :=
  World.ownsRow_lit (base := base) (e := 75) (size := 5) w #[.int .i64 r.sc.lv, .slice r.A r.k r.c, .slice r.C r.m r.f, .bool r.sc.dn, .int .u64 r.sc.v] 1 hb (by unfold maxLen; omega) rfl
theorem still_old {base : Nat} {w : World} {e : TypeId} {A : Option Addr} {n : Nat} {vs : List Value} (h : Rw w 1 A n vs) (hb : w.heap.size ≤ base) : Still base w e A n := by
  intro hn
  obtain ⟨b, o, h1, h2, _⟩ := h.2 hn
  exact ⟨b, o, h1, h2, .inl (by omega)⟩
set_option maxHeartbeats 2000000 in
set_option maxRecDepth 100000 in
theorem refsh_nil (k : Nat) : RefSh k [] [] := by
  intro w0 W B n m rows hb hE hnm hn hk hes
  obtain rfl : rows = [] := by unfold ents at hes; simpa using hes
  obtain rfl : n = 0 := by have := hE.len; simpa using this.symm
  clear hE hk hes hb
  go_enter Try.func21, Try.ntmps21
  go_wp2
  go_ret
  exact ⟨none, 0, [], rfl, World.ownsRow_nil _ _ _ _, fun r hr => (by cases hr), rfl, Below.refl _ _⟩
set_option maxHeartbeats 2000000 in
set_option maxRecDepth 100000 in
theorem refsh_leaf {k v : Nat} {p : List Nat} (hk : k ≤ 16) : RefSh k [(p, v)] [⟨-1, p.map fun (x : Nat) => (x : Int), [], false, (v : Int)⟩] := by
  intro w0 W B n m rows hb hE hnm hn hkk hes
  obtain ⟨r, rfl⟩ : ∃ r, rows = [r] := by
    have : rows.length = 1 := by
      have := congrArg List.length hes
      unfold ents at this
      simpa using this
    match rows, this with
    | [r], _ => exact ⟨r, rfl⟩
  obtain ⟨hrp, hrv⟩ : r.p = p ∧ r.v = v := by
    unfold ents ER.e at hes
    simp at hes
    exact hes
  obtain rfl : n = 1 := by have := hE.len; simpa using this.symm
  have hok := hE.2 r List.mem_cons_self
  have hrk := hkk r List.mem_cons_self
  have HS := hide (ref_shape1 B m r W (hE.below hb))
  have HOK := hide hok
  have HB := hide hb
  have HK := hide hrk
  have HP := hide hrp
  have HV := hide hrv
  clear hE hkk hes hok hrk hb hrp hrv
  go_enter Try.func21, Try.ntmps21
  go_wp2_with fail
  refine HS.out.mono ?_
  rintro e w1 ⟨rfl, hb1⟩
  have HB1 := hide hb1
  clear hb1 HS
  go_wp2
  go_ret
  have hal := below_alloc HB1.out (Nat.le_refl _) (.cells #[.int .i64 (-1), .slice r.A r.n r.c, .slice none 0 0, .bool false, .int .u64 (r.v : Int)] 75)
  refine ⟨_, _, [(⟨r.A, r.n, r.c, none, 0, 0, ⟨-1, p.map fun (x : Nat) => (x : Int), [], false, (v : Int)⟩⟩ : SR)], rfl, ?_, fun s hs => ?_, rfl, hal⟩
  · have := lit_shape w1 W.heap.size (⟨r.A, r.n, r.c, none, 0, 0, ⟨-1, p.map fun (x : Nat) => (x : Int), [], false, (v : Int)⟩⟩ : SR) HB1.out.size
    rw [← HV.out] at this ⊢
    exact this
  · rw [List.mem_singleton] at hs
    subst hs
    have h0 := HOK.out.1.2.1
    have h1 := (h0.below HB.out).below hal
    have h2 : Still w0.heap.size w0 36 r.A r.n := still_old h0 (Nat.le_refl _)
    refine ⟨?_, Rw.nil _ _ _, by show r.n ≤ _; rw [HK.out]; omega, Nat.zero_le _, (h2.below HB.out).below hal, fun h => (by cases h)⟩
    rw [u64s_int, HP.out] at h1
    exact h1
set_option maxHeartbeats 4000000 in
set_option maxRecDepth 100000 in
theorem refsh_fork {w w0 W : World} {k g lv n : Nat} {pre : List Nat} {ks : List Kid} {B : Option Addr} {m : Nat} {G : List (List ER)} (hF : Fork w k g lv pre ks) (hk1 : 1 ≤ k) (hk : k ≤ 16) (hb0 : Below w0.heap.size w0 W) (hE : EntsAt w0 B n G.flatten) (hnm : n ≤ m) (hn : n ≤ 65536) (hkk : ∀ r ∈ G.flatten, r.n = k)
    (hG : ForkG k lv pre ks G) (Ls : List (List SC)) (hls : Ls.length = ks.length) (hL : Ls.flatten.length ≤ 200000) (ih : ∀ (i : Nat) (q : Kid) (L : List SC), ks[i]? = some q → Ls[i]? = some L → RefSh k q.es L) :
    Calls Try.prog 21 #[.slice B n m] W (ShapesOut w0.heap.size W (⟨(lv : Int), pre.map fun (x : Nat) => (x : Int), ks.map fun q => (q.at_ : Int), denseB k ks.length, 0⟩ :: Ls.flatten)) := by
  have hEW := hE.below hb0
  obtain ⟨r0, s0, hr0, hs0, hpart, hcut, hn2⟩ := hG.part_ hF hE hkk
  have hlv : lv < 64 := by obtain ⟨_, _, _, h1, _⟩ := hF; exact h1
  have hLv : ∀ X, Below W.heap.size W X → Calls Try.prog 55 #[.slice B n m] X fun e w' => e = .returned (.int .i64 (lv : Nat)) ∧ Below X.heap.size X w' := fun X hX => by
    have := ref_level B n m k G.flatten r0 s0 X (hEW.below hX) hr0 hs0 (hkk r0 (List.mem_of_getElem? hr0)) (hkk s0 (List.mem_of_getElem? hs0)) (by omega) (by omega) (by omega)
    rwa [hpart] at this
  have hkl : ks.length ≤ 65536 := by
    obtain ⟨A, c, gs, hp, hS, hB⟩ := hF.head
    have h1 := len_le_of_ok hS.ok
    have h2 := pow16 hS.2.1
    simp [kidTh] at h1
    omega
  have hgl : G.length ≤ 65536 := by rw [hG.len]; exact hkl
  have HRS := hide (ref_shape_t B n m k lv G r0 W hEW hnm hkk hk1 hk hn hn2 hlv hG.parts hr0 hLv)
  have HKI := hide (fun (X : World) (hX : Below W.heap.size W X) => ref_kids B n m k lv G X (hEW.below hX) hnm hkk (by omega) hn (by omega) hlv hG.parts (fun Y hY => hLv Y (below_then hX hY)))
  have HE := hide hE
  have HB0 := hide hb0
  have HCUT := hide hcut
  have HG := hide hG
  have HKK := hide hkk
  have HIH := hide ih
  have HNM := hide hnm
  have HLS := hide hls
  have HLL := hide hL
  have HPI := hide (placesG_int hG)
  have HGN := hide hG.len
  have en0 : ((n : Int) == 0) = false := by simp; omega
  have en1 : ((n : Int) == 1) = false := by simp; omega
  obtain ⟨gl, hgle⟩ : ∃ gl, gl = G.length := ⟨_, rfl⟩
  have HGE := hide hgle
  rw [← hgle] at HRS HKI hgl
  clear hF hb0 hE hkk hG hls hL ih hEW hr0 hs0 hpart hcut hLv hnm hgle
  go_enter Try.func21, Try.ntmps21
  go_wp2_with fail
  refine HRS.out.mono ?_
  rintro e w1 ⟨A1, d1, C1, f1, rfl, hRA, hRC, hb1, hTA, hTC⟩
  obtain ⟨sc, hsc⟩ : ∃ sc : SC, sc = ⟨(lv : Int), pre.map fun (x : Nat) => (x : Int), ks.map fun q => (q.at_ : Int), denseB k ks.length, 0⟩ := ⟨_, rfl⟩
  have HSC := hide hsc
  rw [HCUT.out, u64s_int] at hRA
  rw [HPI.out] at hRC
  have hal := below_alloc hb1 (Nat.le_refl _) (.cells #[.int .i64 (lv : Int), .slice A1 k d1, .slice C1 gl f1, .bool (denseB k gl), .int .u64 0] 75)
  have ha1 := (Below.refl w1.heap.size w1).alloc (Nat.le_refl _) (.cells #[.int .i64 (lv : Int), .slice A1 k d1, .slice C1 gl f1, .bool (denseB k gl), .int .u64 0] 75)
  have hO2 : (w1.alloc (.cells #[.int .i64 (lv : Int), .slice A1 k d1, .slice C1 gl f1, .bool (denseB k gl), .int .u64 0] 75)).ownsRow W.heap.size 75 5 (.slice (some ⟨w1.heap.size, 0, none⟩) 1 1) 1 (shv ⟨A1, k, d1, C1, gl, f1, sc⟩) := by
    have := lit_shape w1 W.heap.size (⟨A1, k, d1, C1, gl, f1, sc⟩ : SR) hb1.size
    rw [hsc] at this ⊢
    simp only at this
    rw [← HGN.out, ← HGE.out] at this ⊢
    exact this
  have hok2 : SR.ok w0.heap.size (w1.alloc (.cells #[.int .i64 (lv : Int), .slice A1 k d1, .slice C1 gl f1, .bool (denseB k gl), .int .u64 0] 75)) (⟨A1, k, d1, C1, gl, f1, sc⟩ : SR) := by
    rw [hsc]
    refine ⟨hRA.below ha1, ?_, by show k ≤ _; omega, hgl, Still.ty (hTA.below ha1), Still.ty (hTC.below ha1)⟩
    have := hRC.below ha1
    simpa [Function.comp_def] using this
  have HO2 := hide hO2
  have HOK2 := hide hok2
  have HAL := hide hal
  have HKD := hide (HKI.out _ hal)
  clear hsc hRA hRC hb1 hTA hTC hal ha1 hO2 hok2 HRS HKI
  go_wp2_with fail
  refine HKD.out.mono ?_
  rintro e w3 ⟨C, f, rfl, hoC, hb3⟩
  have HO3 := hide (own_below HO2.out hb3)
  have HOK3 := hide (HOK2.out.below hb3)
  have HOC := hide hoC
  have HB3 := hide (below_then HAL.out hb3)
  have HCB : Hid (W.heap.size ≤ (w1.alloc (.cells #[.int .i64 (lv : Int), .slice A1 k d1, .slice C1 gl f1, .bool (denseB k gl), .int .u64 0] 75)).heap.size) := hide HAL.out.size
  generalize (w1.alloc (.cells #[.int .i64 (lv : Int), .slice A1 k d1, .slice C1 gl f1, .bool (denseB k gl), .int .u64 0] 75)).heap.size = cb at hoC HOC HCB
  generalize w1.heap.size = bs at *
  clear hoC hb3 HO2 HOK2 HAL HKD
  go_wp2
  go_loopw [3, 5] (fun x3 x5 wr => ∃ (j : Nat) (srs : List SR) (A3 : Option Addr) (d3 sl : Nat), x5 = .int .i64 (j : Int) ∧ j ≤ gl ∧ x3 = .slice A3 sl d3 ∧ sl = srs.length ∧ wr.ownsRow W.heap.size 75 5 (.slice A3 sl d3) sl (srs.flatMap shv) ∧ (∀ r ∈ srs, SR.ok w0.heap.size wr r) ∧ srs.map (·.sc) = sc :: (Ls.take j).flatten ∧
    wr.ownsRow cb 40 1 (.slice C gl f) gl (segvs B m G gl) ∧ Below W.heap.size W wr) (fun _ x _ => gl - (intOf x).toNat)
  case atStart =>
    refine ⟨0, [⟨A1, k, d1, C1, gl, f1, sc⟩], some ⟨bs, 0, none⟩, 1, 1, rfl, Nat.zero_le _, rfl, rfl, ?_, fun r hr => ?_, by simp, HOC.out, HB3.out⟩
    · simpa using HO3.out
    · rw [List.mem_singleton.1 hr]; exact HOK3.out
  case round =>
    obtain ⟨j, srs, A3, d3, sl, rfl, hj, rfl, hsl, hO, hOK, hSC, hOC, hb⟩ := hrel
    have HSL := hide hsl
    have HO := hide hO
    have HOK := hide hOK
    have HSCS := hide hSC
    have HOCC := hide hOC
    have HB := hide hb
    rename World => wz
    by_cases hjn : j < gl
    · obtain ⟨gg, hg⟩ : ∃ gg, G[j]? = some gg := ⟨G[j]'(by have := HGE.out; omega), List.getElem?_eq_getElem _⟩
      obtain ⟨q, hq⟩ : ∃ q, ks[j]? = some q := ⟨ks[j]'(by have := HGE.out; have := HGN.out; omega), List.getElem?_eq_getElem _⟩
      obtain ⟨L, hLj⟩ : ∃ L, Ls[j]? = some L := ⟨Ls[j]'(by have := HGE.out; have := HGN.out; have := HLS.out; omega), List.getElem?_eq_getElem _⟩
      obtain ⟨s1, s2, s3⟩ := HE.out.seg HNM.out hg
      obtain ⟨b5, o5, hCe, hbl5, u, hu, k5⟩ := (own_rw hOC).2.one hjn
      have hu2 : u = .slice (cutA B m 2 (fl G j)) gg.length (m - fl G j) := by
        unfold segvs at hu
        rw [List.getElem?_map, List.getElem?_range hjn] at hu
        simp at hu
        rw [← hu, s1]
      rw [hu2] at k5
      have hge := HG.out.es j gg q hg hq
      have hgn : gg.length ≤ 65536 := by
        have := fl_le hg
        rw [HE.out.len] at this
        omega
      have hlt : (Ls.take j).flatten.length + L.length ≤ 200000 := by
        have h1 := HLL.out
        have h2 : Ls.flatten.length = ((Ls.take j).flatten ++ L ++ (Ls.drop (j + 1)).flatten).length := by
          have hjl := (List.getElem?_eq_some_iff.1 hLj).1
          have hjv := (List.getElem?_eq_some_iff.1 hLj).2
          conv => lhs; rw [← List.take_append_drop j Ls, List.drop_eq_getElem_cons hjl, hjv]
          simp
        rw [h2] at h1
        simp only [List.length_append] at h1
        omega
      have hsn : sl = 1 + (Ls.take j).flatten.length := by
        have := congrArg List.length hSC
        rw [List.length_map, List.length_cons] at this
        omega
      have hsl2 : sl + L.length ≤ 200001 := by omega
      have HCI := hide (HIH.out j q L hq hLj w0 wz (cutA B m 2 (fl G j)) gg.length (m - fl G j) gg (below_then HB0.out hb) s2 s3 hgn (fun r hr => HKK.out r (List.mem_flatten.2 ⟨gg, List.mem_of_getElem? hg, hr⟩)) hge)
      have HLJ := hide hLj
      have HSZ : Hid (W.heap.size ≤ wz.heap.size) := hide hb.size
      have HS2 := hide hsl2
      have hjn' : (j : Int) < (gl : Int) := by omega
      have hj0 : (0 : Int) ≤ (j : Int) := by omega
      subst hCe
      generalize cutA B m 2 (fl G j) = cA at *
      generalize m - fl G j = cg at *
      generalize gg.length = gn at *
      clear hO hOK hSC hOC hb hsl hg hq hLj s1 s2 s3 hu hu2 hge hgn hlt hsn hsl2
      go_wp2_with fail
      refine HCI.out.mono ?_
      rintro e w7 ⟨A7, d7, sr7, rfl, ho7, hok7, hsc7, hb7⟩
      have hlen7 : sr7.length = L.length := by rw [← hsc7, List.length_map]
      obtain ⟨l7, hl7⟩ : ∃ l7, l7 = sr7.length := ⟨_, rfl⟩
      rw [← hl7] at ho7 hlen7 ⊢
      have hsum : sl + l7 ≤ 200001 := by rw [hlen7]; exact HS2.out
      have hR7 := (own_rw ho7).2
      have HO7 := hide ho7
      have HOK7 := hide hok7
      have HSC7 := hide hsc7
      have HL7 := hide hl7
      have HB7 := hide hb7
      have HR7 := hide hR7
      have hbW : Below W.heap.size W w7 := below_then HB.out hb7
      have HBW := hide hbW
      clear ho7 hok7 hsc7 hb7 hlen7 hl7 hR7 hbW k5 HCI
      go_wp2_with (first
        | (at_builtin
           refine app_b _ rfl (.tmp 24) (.tmp 29) _ rfl W.heap.size 75 _ 5 72 Try.underlying54 info_sh rfl (by omega) _ sl _ rfl (own_below HO.out HB7.out) A7 l7 d7 (sr7.flatMap shv) rfl W HBW.out (Nat.le_refl _) HR7.out ?h2 (by unfold maxLen; omega) (by omega) ?_
           case h2 =>
             intro u hu
             obtain ⟨r, _, hu⟩ := List.mem_flatMap.1 hu
             unfold shv at hu
             simp only [List.mem_cons, List.not_mem_nil, or_false] at hu
             rcases hu with rfl | rfl | rfl | rfl | rfl <;> rfl
           intro v9 w9 ho9 hb9 hg9
           obtain ⟨A9, d9, rfl, -, -⟩ := Rw.of_own ho9
           have hoq := own_below HO.out HB7.out
           have HO9 := hide ho9
           have HB9 := hide hb9
           have HOC9 := hide (own_grown (own_below HOCC.out HB7.out) hoq (by decide) hg9)
           have HOKA := hide (fun r hr => ((HOK.out r hr).below HB7.out).grown hoq HB0.out.size (by decide) (by decide) hg9)
           have HOKB := hide (fun r hr => (HOK7.out r hr).grown hoq HB0.out.size (by decide) (by decide) hg9)
           clear ho9 hb9 hg9 hoq)
        | fail)
      go_roundw
      case rel =>
        refine ⟨j + 1, srs ++ sr7, A9, d9, sl + l7, by go_num, by omega, rfl, ?_, ?_, fun r hr => ?_, ?_, HOC9.out, HB9.out⟩
        · rw [List.length_append, ← HSL.out, ← HL7.out]
        · rw [List.flatMap_append]; exact HO9.out
        · rcases List.mem_append.1 hr with hr | hr
          · exact HOKA.out r hr
          · exact HOKB.out r hr
        · rw [List.map_append, HSCS.out, HSC7.out, List.take_add_one, HLJ.out]
          simp
      case measure => simp [intOf]; omega
    · have hj' : j = gl := by omega
      have e9 : decide ((j : Int) < (gl : Int)) = false := by simp; omega
      have HJ := hide hj'
      clear hO hOK hSC hOC hb hsl
      go_wp2
      go_ret
      have hsl := HSL.out
      refine ⟨A3, d3, srs, by rw [← hsl]; rfl, by rw [← hsl]; exact HO.out, HOK.out, ?_, HB.out⟩
      rw [HSCS.out, HSC.out, HJ.out, List.take_of_length_le (by have := HGE.out; have := HGN.out; have := HLS.out; omega)]
/-- Entries in runs of one address. -/
def grp (m : Nat) : List Ent → List (List Ent)
  | [] => []
  | e :: l => match grp m l with
    | [] => [[e]]
    | [] :: gs => [e] :: gs
    | (f :: g) :: gs => if addrOf e.1 m = addrOf f.1 m then (e :: f :: g) :: gs else [e] :: (f :: g) :: gs
/-- The levels of a list's shapes. -/
def lvsN : Nat → List Ent → List Int
  | 0, _ => []
  | n + 1, es => match es with
    | [] => []
    | [_] => [-1]
    | e :: f :: l => part e.1 ((e :: f :: l).getLast (by simp)).1 :: (grp (part e.1 ((e :: f :: l).getLast (by simp)).1).toNat (e :: f :: l)).flatMap (lvsN n)
theorem grp_cons (m : Nat) (e : Ent) (l : List Ent) : grp m (e :: l) = match grp m l with
    | [] => [[e]]
    | [] :: gs => [e] :: gs
    | (f :: g) :: gs => if addrOf e.1 m = addrOf f.1 m then (e :: f :: g) :: gs else [e] :: (f :: g) :: gs := rfl
theorem grp_head (m : Nat) (f : Ent) (l : List Ent) : ∃ g gs, grp m (f :: l) = (f :: g) :: gs := by
  rw [grp_cons]
  cases grp m l with
  | nil => exact ⟨_, _, rfl⟩
  | cons x gs =>
    cases x with
    | nil => exact ⟨_, _, rfl⟩
    | cons y g =>
      by_cases h : addrOf f.1 m = addrOf y.1 m
      · simp only [h, if_true]; exact ⟨_, _, rfl⟩
      · simp only [h, if_false]; exact ⟨_, _, rfl⟩
theorem grp_run {m a : Nat} : ∀ (g : List Ent) (l : List Ent), g ≠ [] → (∀ e ∈ g, addrOf e.1 m = a) → (∀ f, l.head? = some f → addrOf f.1 m ≠ a) → grp m (g ++ l) = g :: grp m l
  | [], l, h, _, _ => absurd rfl h
  | [e], l, _, hg, hl => by
    show grp m (e :: l) = [e] :: grp m l
    rw [grp_cons]
    cases l with
    | nil => rfl
    | cons f l =>
      have hne : addrOf e.1 m ≠ addrOf f.1 m := by
        have h1 := hg e List.mem_cons_self
        have h2 := hl f rfl
        omega
      obtain ⟨g, gs, h3⟩ := grp_head m f l
      rw [h3]
      simp only [hne, if_false]
  | e :: f :: g, l, _, hg, hl => by
    have ih := grp_run (m := m) (a := a) (f :: g) l (by simp) (fun x hx => hg x (List.mem_cons_of_mem _ hx)) hl
    show grp m (e :: ((f :: g) ++ l)) = _
    rw [grp_cons, ih]
    have h1 := hg e List.mem_cons_self
    have h2 := hg f (by simp)
    simp only [h1, h2, if_true]
theorem grp_flat {m : Nat} : ∀ (Gs : List (List Ent)), (∀ g ∈ Gs, g ≠ []) → (∀ g ∈ Gs, ∀ e ∈ g, ∀ f ∈ g, addrOf e.1 m = addrOf f.1 m) → Gs.Pairwise (fun g h => ∀ e ∈ g, ∀ f ∈ h, addrOf e.1 m ≠ addrOf f.1 m) → grp m Gs.flatten = Gs
  | [], _, _, _ => rfl
  | g :: Gs, h1, h2, h3 => by
    have ih := grp_flat (m := m) Gs (fun g hg => h1 g (List.mem_cons_of_mem _ hg)) (fun g hg => h2 g (List.mem_cons_of_mem _ hg)) (List.pairwise_cons.1 h3).2
    obtain ⟨e, t, rfl⟩ := List.exists_cons_of_ne_nil (h1 g List.mem_cons_self)
    rw [List.flatten_cons, grp_run (a := addrOf e.1 m) (e :: t) Gs.flatten (by simp) (fun x hx => h2 _ List.mem_cons_self x hx e List.mem_cons_self) ?_, ih]
    intro f hf heq
    cases Gs with
    | nil => simp at hf
    | cons g' Gs =>
      obtain ⟨e', t', rfl⟩ := List.exists_cons_of_ne_nil (h1 g' (by simp))
      simp at hf
      subst hf
      exact (List.pairwise_cons.1 h3).1 _ List.mem_cons_self e List.mem_cons_self e' List.mem_cons_self heq.symm
/-- The first and the last entry of a fork part at its level; its kids' entries are the runs. -/
theorem FK.runs {k : Nat} {f : PF} (h : FK k f) (hne : ∀ q ∈ f.ks, q.es ≠ []) : (∀ (e g : Ent) (l : List Ent) (hl : kidEs f.ks = e :: g :: l), part e.1 ((e :: g :: l).getLast (by simp)).1 = (f.lv : Int)) ∧ grp f.lv (kidEs f.ks) = f.ks.map (·.es) := by
  have hk : kidEs f.ks = (f.ks.map (·.es)).flatten := by unfold kidEs; rw [List.flatMap_def]
  constructor
  · intro e g l hl
    have h2 := h.two
    have hs := h.sort
    have h0 := h
    obtain ⟨q, ks', hks⟩ : ∃ q ks', f.ks = q :: ks' := List.exists_cons_of_length_pos (by omega)
    have hlen : ks' ≠ [] := by
      intro h3
      rw [hks, h3] at h2
      simp at h2
    obtain ⟨r, hr⟩ : ∃ r, r = ks'.getLast hlen := ⟨_, rfl⟩
    have hrm : r ∈ ks' := by rw [hr]; exact List.getLast_mem hlen
    have hqr : q.at_ < r.at_ := by
      rw [hks] at hs
      exact (List.pairwise_cons.1 hs).1 r hrm
    have hqne := hne q (by rw [hks]; exact List.mem_cons_self)
    have hrne := hne r (by rw [hks]; exact List.mem_cons_of_mem _ hrm)
    have he : e ∈ q.es := by
      obtain ⟨x, t, hx⟩ := List.exists_cons_of_ne_nil hqne
      have h4 := hl
      rw [hks] at h4
      unfold kidEs at h4
      rw [List.flatMap_cons, hx] at h4
      injection h4 with h4 _
      rw [hx, ← h4]
      exact List.mem_cons_self
    have hz : ((e :: g :: l).getLast (by simp)) ∈ r.es := by
      have h5 : kidEs f.ks ≠ [] := by rw [hl]; simp
      have h6 : (e :: g :: l).getLast (by simp) = (kidEs f.ks).getLast h5 := by simp only [hl]
      rw [h6]
      have h7 : kidEs f.ks = kidEs (q :: ks'.dropLast) ++ r.es := by
        have h8 : f.ks = (q :: ks'.dropLast) ++ [r] := by rw [hks, List.cons_append, hr, List.dropLast_concat_getLast]
        conv => lhs; rw [h8]
        unfold kidEs
        rw [List.flatMap_append]
        simp
      have h9 : (kidEs f.ks).getLast h5 = r.es.getLast hrne := by
        simp only [h7]
        rw [List.getLast_append_of_ne_nil _ hrne]
      rw [h9]
      exact List.getLast_mem hrne
    obtain ⟨a1, a2, a3⟩ := h.es q (by rw [hks]; exact List.mem_cons_self) e he
    obtain ⟨b1, b2, b3⟩ := h.es r (by rw [hks]; exact List.mem_cons_of_mem _ hrm) _ hz
    exact part_unique a1 b1 (fun b hb => by rw [a3 b hb, b3 b hb]) (by rw [a2, b2]; omega)
  · rw [hk]
    refine grp_flat _ (fun g hg => ?_) (fun g hg e he f' hf' => ?_) ?_
    · obtain ⟨q, hq, rfl⟩ := List.mem_map.1 hg
      exact hne q hq
    · obtain ⟨q, hq, rfl⟩ := List.mem_map.1 hg
      rw [(h.es q hq e he).2.1, (h.es q hq f' hf').2.1]
    · rw [List.pairwise_map]
      refine h.sort.imp_of_mem ?_
      intro q r hq hr hqr e he f' hf'
      rw [(h.es q hq e he).2.1, (h.es r hr f' hf').2.1]
      omega
/-- What is told of a node's shapes. -/
def ShapesAre (w : World) (k g : Nat) (es : List Ent) (L : List SC) : Prop :=
  SN w g L ∧ RefSh k es L ∧ L.length + 1 ≤ 2 * es.length ∧ ∀ n, es.length ≤ n → L.map (·.lv) = lvsN n es
theorem pick_all {α β : Type} {P : α → β → Prop} : ∀ (l : List α), (∀ a ∈ l, ∃ b, P a b) → ∃ bs : List β, bs.length = l.length ∧ ∀ (i : Nat) (a : α) (b : β), l[i]? = some a → bs[i]? = some b → P a b
  | [], _ => ⟨[], rfl, fun i a b h => by simp at h⟩
  | a :: l, h => by
    obtain ⟨b, hb⟩ := h a List.mem_cons_self
    obtain ⟨bs, h1, h2⟩ := pick_all l fun a ha => h a (List.mem_cons_of_mem _ ha)
    refine ⟨b :: bs, by simp [h1], fun i x y hx hy => ?_⟩
    cases i with
    | zero => simp at hx hy; rw [← hx, ← hy]; exact hb
    | succ i => exact h2 i x y (by simpa using hx) (by simpa using hy)
theorem kid_count : ∀ (ks : List Kid), (∀ q ∈ ks, q.es ≠ []) → ks.length ≤ (kidEs ks).length
  | [], _ => by simp
  | q :: ks, h => by
    have h1 := kid_count ks fun q hq => h q (List.mem_cons_of_mem _ hq)
    have h2 := List.length_pos_iff.2 (h q List.mem_cons_self)
    unfold kidEs at h1 ⊢
    rw [List.flatMap_cons, List.length_append, List.length_cons]
    omega
theorem sum_len : ∀ (ks : List Kid) (Ls : List (List SC)), Ls.length = ks.length → (∀ (i : Nat) (q : Kid) (L : List SC), ks[i]? = some q → Ls[i]? = some L → L.length + 1 ≤ 2 * q.es.length) → Ls.flatten.length + ks.length ≤ 2 * (kidEs ks).length
  | [], [], _, _ => by simp
  | [], _ :: _, h, _ => by simp at h
  | _ :: _, [], h, _ => by simp at h
  | q :: ks, L :: Ls, h, hk => by
    have h1 := sum_len ks Ls (by simpa using h) fun i q' L' h1 h2 => hk (i + 1) q' L' (by simpa using h1) (by simpa using h2)
    have h2 := hk 0 q L rfl rfl
    unfold kidEs at h1 ⊢
    simp only [List.flatten_cons, List.flatMap_cons, List.length_append, List.length_cons]
    omega
theorem lv_flat : ∀ (ks : List Kid) (Ls : List (List SC)) (n : Nat), Ls.length = ks.length → (∀ (i : Nat) (q : Kid) (L : List SC), ks[i]? = some q → Ls[i]? = some L → L.map (·.lv) = lvsN n q.es) → Ls.flatten.map (·.lv) = (ks.map (·.es)).flatMap (lvsN n)
  | [], [], _, _, _ => by simp
  | [], _ :: _, _, h, _ => by simp at h
  | _ :: _, [], _, h, _ => by simp at h
  | q :: ks, L :: Ls, n, h, hk => by
    have h1 := lv_flat ks Ls n (by simpa using h) fun i q' L' h1 h2 => hk (i + 1) q' L' (by simpa using h1) (by simpa using h2)
    have h2 := hk 0 q L rfl rfl
    rw [List.flatten_cons, List.map_append, h2, h1, List.map_cons, List.flatMap_cons]
theorem shapes_are {w : World} {k g : Nat} {lv : Int} {pre : List Nat} {es : List Ent} (h : NodeOf w k g lv pre es) (hk1 : 1 ≤ k) (hk : k ≤ 16) (hes : es.length ≤ 65536) : ∃ L, ShapesAre w k g es L := by
  induction h with
  | @leaf g A c p v hv hp hc hB =>
    refine ⟨_, .mk (gs := []) (Ls := []) (shape_leaf hp hk hB) rfl (fun i g' L h => by simp at h), refsh_leaf hk, by simp, fun n hn => ?_⟩
    obtain ⟨n, rfl⟩ : ∃ n', n = n' + 1 := ⟨n - 1, by simp at hn; omega⟩
    rfl
  | @fork g A c lv pre gs ks hlv hp hc hz hkid hl ha hs h2 hS hB ih =>
    have hF : Fork w k g lv pre ks := ⟨A, c, gs, hlv, hp, hc, hz, hkid, hl, ha, hs, h2, hS, hB⟩
    have hle : ∀ q ∈ ks, q.es.length ≤ (kidEs ks).length := by
      intro q hq
      obtain ⟨l1, l2, rfl⟩ := List.append_of_mem hq
      unfold kidEs
      rw [List.flatMap_append, List.flatMap_cons]
      simp only [List.length_append]
      omega
    obtain ⟨Ls, h3, h4⟩ := pick_all (P := fun q L => ShapesAre w k q.blk q.es L) ks fun q hq => ih q hq (Nat.le_trans (hle q hq) hes)
    have hne : ∀ q ∈ ks, q.es ≠ [] := fun q hq => (hkid q hq).info.2.1
    have hsum := sum_len ks Ls h3 fun i q L h5 h6 => (h4 i q L h5 h6).2.2.1
    have hfk : FK k ⟨g, lv, pre, ks⟩ := Fork.fk (f := ⟨g, lv, pre, ks⟩) hF
    obtain ⟨r1, r2⟩ := hfk.runs hne
    simp only at r1 r2
    refine ⟨⟨(lv : Int), pre.map fun (x : Nat) => (x : Int), ks.map fun q => (q.at_ : Int), denseB k ks.length, 0⟩ :: Ls.flatten, .mk (gs := ks.map (·.blk)) (shape_fork hF hk) (by simp [h3]) (fun i g' L h5 h6 => ?_), ?_, ?_, fun n hn => ?_⟩
    · rw [List.getElem?_map] at h5
      obtain ⟨q, hq, rfl⟩ := Option.map_eq_some_iff.1 h5
      exact (h4 i q L hq h6).1
    · intro w0 W B n m rows hb0 hE hnm hn hkk hents
      obtain ⟨G, rfl, hG⟩ := forkG hF hents
      exact refsh_fork hF hk1 hk hb0 hE hnm hn hkk hG Ls h3 (by omega) fun i q L h5 h6 => (h4 i q L h5 h6).2.1
    · rw [List.length_cons]
      omega
    · have hge2 : 2 ≤ (kidEs ks).length := Nat.le_trans h2 (kid_count ks hne)
      obtain ⟨n, rfl⟩ : ∃ n', n = n' + 1 := ⟨n - 1, by omega⟩
      obtain ⟨e, e', l, hel⟩ : ∃ e e' l, kidEs ks = e :: e' :: l := by
        match hh : kidEs ks, hge2 with
        | [], h => simp at h
        | [_], h => simp at h
        | e :: e' :: l, _ => exact ⟨e, e', l, rfl⟩
      have hpt := r1 e e' l hel
      rw [hel]
      unfold lvsN
      simp only
      rw [hpt, Int.toNat_natCast, ← hel, r2, List.map_cons]
      congr 1
      refine lv_flat ks Ls n h3 fun i q L h5 h6 => (h4 i q L h5 h6).2.2.2 n ?_
      have hq := List.mem_of_getElem? h5
      have : q.es.length < (kidEs ks).length := by
        obtain ⟨l1, l2, hll⟩ := List.append_of_mem hq
        have hh2 := h2
        rw [hll] at hh2
        have hl12 : l1 ≠ [] ∨ l2 ≠ [] := by
          cases l1 with
          | nil =>
            cases l2 with
            | nil => simp at hh2
            | cons => exact .inr (by simp)
          | cons => exact .inl (by simp)
        have hpos : ∀ l : List Kid, (∀ q ∈ l, q ∈ ks) → l ≠ [] → 0 < (kidEs l).length := by
          intro l hl hlne
          obtain ⟨q, t, rfl⟩ := List.exists_cons_of_ne_nil hlne
          have := List.length_pos_iff.2 (hne q (hl q List.mem_cons_self))
          unfold kidEs
          rw [List.flatMap_cons, List.length_append]
          omega
        have hsz : (kidEs ks).length = (kidEs l1).length + (q.es.length + (kidEs l2).length) := by
          rw [hll]
          unfold kidEs
          rw [List.flatMap_append, List.flatMap_cons]
          simp only [List.length_append]
        rcases hl12 with h | h
        · have := hpos l1 (fun q' hq' => by rw [hll]; simp [hq']) h
          omega
        · have := hpos l2 (fun q' hq' => by rw [hll]; simp [hq']) h
          omega
      omega
end Go.Proofs.Ytfoapkcgdkfggaa
