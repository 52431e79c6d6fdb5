/- diff: what lies where among kids; plain laws. -/
import Derived.Test.YtfkpanpageeklaaDfA
import Derived.Test.YtfkpanpageeklaaRkU
import Derived.Test.YtfkpanpageeklaaUq
set_option linter.unusedSimpArgs false
set_option linter.unusedVariables false
namespace Go.Proofs.Ytfkpanpageeklaa
open Go.RowKit
/-- A node has one list of entries. -/
theorem node_uniq {w : World} {k g : Nat} {lv lv' : Int} {pre pre' : List Nat} {es es' : List Ent} (hk1 : 1 ≤ k) (hk : k ≤ 16) (h : NodeOf w k g lv pre es) (h' : NodeOf w k g lv' pre' es') : es = es' := by
  have hb : Below w.heap.size w (w.alloc (.cells #[.int .i64 (k : Int), .pointer (some ⟨g, 0, none⟩)] 100)) := (Below.refl _ _).alloc (Nat.le_refl _) _
  have hT : TreeBlk (w.alloc (.cells #[.int .i64 (k : Int), .pointer (some ⟨g, 0, none⟩)] 100)) w.heap.size k (some ⟨g, 0, none⟩) := Blk.new w _ _
  exact tree_uniq (t := w.heap.size) ⟨hk1, hk, .inr ⟨g, lv, pre, hT, h.stay hb⟩⟩ ⟨hk1, hk, .inr ⟨g, lv', pre', hT, h'.stay hb⟩⟩
/-- Entries that agree with a point above a level, and lie between two addresses at it. -/
def AtK (m : Nat) (z : List Nat) (lo hi : Nat) (X : List Ent) : Prop := ∀ x ∈ X, (∀ b, m < b → addrOf x.1 b = addrOf z b) ∧ lo ≤ addrOf x.1 m ∧ addrOf x.1 m < hi
section
variable {m : Nat} {z : List Nat} {lo hi lo' hi' : Nat} {X Y : List Ent}
theorem AtK.ahead (h : AtK m z lo hi X) (h' : AtK m z lo' hi' Y) (hl : hi ≤ lo') : Ahead X Y := by
  intro x hx y hy
  have h1 := h x hx
  have h2 := h' y hy
  exact ⟨m, fun b hb => (h1.1 b hb).trans (h2.1 b hb).symm, by omega⟩
theorem AtK.nil : AtK m z lo hi [] := fun x hx => (by cases hx)
theorem AtK.mono (h : AtK m z lo hi X) (h1 : lo' ≤ lo) (h2 : hi ≤ hi') : AtK m z lo' hi' X := fun x hx => ⟨(h x hx).1, by have := (h x hx).2; omega, by have := (h x hx).2; omega⟩
theorem AtK.zag (h : AtK m z lo hi X) {z' : List Nat} (hz : ∀ b, m < b → addrOf z' b = addrOf z b) : AtK m z' lo hi X := fun x hx => ⟨fun b hb => ((h x hx).1 b hb).trans (hz b hb).symm, (h x hx).2⟩
theorem AtK.kids {w : World} {k g : Nat} {pre : List Nat} {ks L : List Kid} (h : Fork w k g m pre ks) (hL : ∀ q ∈ L, q ∈ ks ∧ lo ≤ q.at_ ∧ q.at_ < hi) : AtK m pre lo hi (kidEs L) := by
  intro x hx
  obtain ⟨q, hq, hx⟩ := mem_kidEs.1 hx
  have h1 := h.fk'.es q (hL q hq).1 x hx
  have h2 : addrOf x.1 m = q.at_ := h1.2.1
  exact ⟨h1.2.2, by rw [h2]; exact (hL q hq).2.1, by rw [h2]; exact (hL q hq).2.2⟩
theorem AtK.kid {w : World} {k g : Nat} {pre : List Nat} {ks : List Kid} (h : Fork w k g m pre ks) {q : Kid} (hq : q ∈ ks) : AtK m pre q.at_ (q.at_ + 1) q.es := by
  intro x hx
  have h1 := h.fk'.es q hq x hx
  have h2 : addrOf x.1 m = q.at_ := h1.2.1
  exact ⟨h1.2.2, by omega, by omega⟩
theorem AtK.top {w : World} {k g a : Nat} {pre : List Nat} {ks : List Kid} (h : Fork w k g m pre ks) : AtK m pre a (a + 1) (esOf (kidAt ks a)) := by
  cases hk : kidAt ks a with
  | none => exact AtK.nil
  | some y =>
    obtain ⟨q, hq, hqa, rfl⟩ := kidAt_some hk
    have := AtK.kid h hq
    rw [hqa] at this
    exact this
end
/-- What a part of the walk through two nodes has told so far. -/
structure DfSt (d : Bool) (w0 w : World) (k bo : Nat) (rows : List CR) (A B : List Ent) (rows' : List CR) (wr : World) : Prop where
  chg : ChgD d A B (ces rows')
  len : rows'.length ≤ A.length + B.length
  col : ColC w0.heap.size wr bo (rows ++ rows')
  ok : ∀ r ∈ rows', r.okT wr ∧ r.n = k
  keep : KeepC w wr
  below : Below w0.heap.size w0 wr
/-- What a part of the walk through two nodes tells. -/
def DfOut (d : Bool) (w0 w : World) (k bo : Nat) (rows : List CR) (A B : List Ent) (e : Ending) (w' : World) : Prop :=
  ∃ rows' : List CR, e = .returned (.tuple #[]) ∧ DfSt d w0 w k bo rows A B rows' w'
section
variable {d : Bool} {w0 w w1 w2 : World} {k bo : Nat} {rows rows1 : List CR} {A A1 A2 B B1 B2 : List Ent} {e : Ending}
theorem DfSt.start (hC : ColC w0.heap.size w bo rows) (hb : Below w0.heap.size w0 w) : DfSt d w0 w k bo rows [] [] [] w :=
  ⟨ChgD.nil d, Nat.zero_le _, by rw [List.append_nil]; exact hC, fun r hr => (by cases hr), KeepC.refl _, hb⟩
theorem DfSt.stay (h : DfSt d w0 w k bo rows A B rows1 w1) (hb : Below w1.heap.size w1 w2) : DfSt d w0 w k bo rows A B rows1 w2 :=
  ⟨h.chg, h.len, Col.below h.col hb, fun r hr => ⟨(h.ok r hr).1.keep (Keep.below hb), (h.ok r hr).2⟩, h.keep.trans (KeepC.below hb), h.below.trans (hb.mono h.below.size)⟩
theorem DfSt.next (h : DfSt d w0 w k bo rows A1 B1 rows1 w1) (h' : DfOut d w0 w1 k bo (rows ++ rows1) A2 B2 e w2) (haa : Ahead A1 A2) (hab : Ahead A1 B2) (hba : Ahead B1 A2) (hbb : Ahead B1 B2) :
    ∃ rows2, e = .returned (.tuple #[]) ∧ DfSt d w0 w k bo rows (A1 ++ A2) (B1 ++ B2) rows2 w2 := by
  obtain ⟨rows2, he, h2⟩ := h'
  refine ⟨rows1 ++ rows2, he, ⟨?_, ?_, ?_, ?_, h.keep.trans h2.keep, h2.below⟩⟩
  · rw [ces_append]
    exact h.chg.append h2.chg haa hab hba hbb
  · have h3 := h.len
    have h4 := h2.len
    simp only [List.length_append]
    omega
  · rw [← List.append_assoc]
    exact h2.col
  · intro r hr
    rcases List.mem_append.1 hr with hr | hr
    · exact ⟨(h.ok r hr).1.keep h2.keep.u64, (h.ok r hr).2⟩
    · exact h2.ok r hr
theorem DfSt.out (h : DfSt d w0 w k bo rows A B rows1 w1) : DfOut d w0 w k bo rows A B (.returned (.tuple #[])) w1 := ⟨rows1, rfl, h⟩
theorem DfOut.flip (h : DfOut d w0 w k bo rows A B e w1) : DfOut (!d) w0 w k bo rows B A e w1 := by
  obtain ⟨rows', h1, h2⟩ := h
  refine ⟨rows', h1, ⟨?_, by have := h2.len; omega, h2.col, h2.ok, h2.keep, h2.below⟩⟩
  have h3 := h2.chg
  cases d <;> exact h3
/-- The walk began in a world that has been kept. -/
theorem DfOut.from_ (h : DfOut d w0 w1 k bo rows A B e w2) (hk : KeepC w w1) : DfOut d w0 w k bo rows A B e w2 := by
  obtain ⟨rows', h1, h2⟩ := h
  exact ⟨rows', h1, ⟨h2.chg, h2.len, h2.col, h2.ok, hk.trans h2.keep, h2.below⟩⟩
end
end Go.Proofs.Ytfkpanpageeklaa
