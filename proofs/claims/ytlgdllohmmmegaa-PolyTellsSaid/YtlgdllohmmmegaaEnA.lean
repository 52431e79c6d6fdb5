/- Lists that are compared; entries; what came in, opened. -/
import Derived.Test.YtlgdllohmmmegaaNdA
import Derived.Test.YtlgdllohmmmegaaBaA
import Derived.Test.YtlgdllohmmmegaaProg
import Derived.Deep.Strs
set_option linter.unusedSimpArgs false
set_option linter.unusedVariables false
namespace Go.Proofs.Ytlgdllohmmmegaa
section
open Go.RowKit
/-- Are two lists the same? -/
def sameB (xs ys : List Int) : Bool := decide (xs = ys)
theorem sameB_len {xs ys : List Int} (h : xs.length ≠ ys.length) : sameB xs ys = false := by
  unfold sameB
  simp only [decide_eq_false_iff_not]
  intro e
  exact h (by rw [e])
theorem sameB_at {xs ys : List Int} {j : Nat} {x y : Int} (hx : xs[j]? = some x) (hy : ys[j]? = some y) (h : x ≠ y) : sameB xs ys = false := by
  unfold sameB
  simp only [decide_eq_false_iff_not]
  intro e
  rw [e, hy] at hx
  injection hx with hx
  exact h hx.symm
theorem sameB_take {xs ys : List Int} {j : Nat} (hx : xs.length = j) (hy : ys.length = j) (h : xs.take j = ys.take j) : sameB xs ys = true := by
  unfold sameB
  simp only [decide_eq_true_eq]
  rw [List.take_of_length_le (by omega), List.take_of_length_le (by omega)] at h
  exact h
end
section
open Go.RowKit
end
section
open Go.RowKit
/-- An entry in memory: its point's slice, the point, the value. -/
structure ER where
  A : Option Addr
  n : Nat
  c : Nat
  p : List Nat
  v : Nat
def entv (r : ER) : List Value := [.slice r.A r.n r.c, .int .u64 (r.v : Int)]
def ER.e (r : ER) : Ent := (r.p, r.v)
theorem entv_len (r : ER) : (entv r).length = 2 := rfl
def ER.ok (w : World) (r : ER) : Prop := Pt w r.A r.n r.p ∧ r.n ≤ r.c ∧ r.c ≤ maxLen ∧ r.v < 2 ^ 64
/-- A slice of entries. -/
def EntsAt (w : World) (A : Option Addr) (n : Nat) (rows : List ER) : Prop := Rw w 2 A n (rows.flatMap entv) ∧ ∀ r ∈ rows, r.ok w
def ents (rows : List ER) : List Ent := rows.map ER.e
section
variable {w w' : World} {A : Option Addr} {n : Nat} {rows : List ER}
theorem ER.ok.below {r : ER} (h : r.ok w) (hb : Below w.heap.size w w') : r.ok w' := ⟨h.1.below hb, h.2⟩
theorem EntsAt.below (h : EntsAt w A n rows) (hb : Below w.heap.size w w') : EntsAt w' A n rows := ⟨h.1.below hb, fun r hr => (h.2 r hr).below hb⟩
theorem EntsAt.len (h : EntsAt w A n rows) : rows.length = n := by
  have := h.1.1
  rw [flat_length entv_len] at this
  omega
theorem EntsAt.at_ {i : Nat} (h : EntsAt w A n rows) (hi : i < n) :
    ∃ b o r, A = some ⟨b, o, none⟩ ∧ b < w.heap.size ∧ rows[i]? = some r ∧ r.ok w ∧ w.cell? ⟨b, o + i * 2, none⟩ = some (.slice r.A r.n r.c) ∧ w.cell? ⟨b, o + i * 2 + 1, none⟩ = some (.int .u64 (r.v : Int)) := by
  obtain ⟨b, o, r, hA, hb, hr, hc⟩ := h.1.elem entv_len hi (by omega)
  exact ⟨b, o, r, hA, hb, hr, h.2 r (List.mem_of_getElem? hr), hc 0 _ rfl, by rw [Nat.add_assoc]; exact hc 1 _ rfl⟩
end
theorem maxL_snoc (l : List Nat) (v : Nat) : maxL (l ++ [v]) = Nat.max (maxL l) v := by
  rw [maxL_append]
  have : maxL [v] = v := by unfold maxL; simp
  rw [this]
theorem minL_snoc {l : List Nat} (h : l ≠ []) (v : Nat) : minL (l ++ [v]) = Nat.min (minL l) v := minL_append h (by simp)
theorem sums_step (l : List Ent) (e : Ent) : sumsOf (l ++ [e]) = ⟨((sumsOf l).c + 1) % 2 ^ 64, ((sumsOf l).s + e.2) % 2 ^ 64, if l = [] then e.2 else Nat.min (sumsOf l).mn e.2, Nat.max (sumsOf l).mx e.2⟩ := by
  unfold sumsOf
  simp only [List.map_append, List.length_append, List.sum_append, List.map_cons, List.map_nil, List.sum_cons, List.sum_nil, List.length_cons, List.length_nil, maxL_snoc]
  congr 1
  · omega
  · omega
  · split
    · rename_i h; subst h; rfl
    · rename_i h; exact minL_snoc (by simpa using h) _
theorem sums_empty : sumsOf [] = ⟨0, 0, 0, 0⟩ := rfl
theorem ents_take {rows : List ER} {j : Nat} {r : ER} (h : rows[j]? = some r) : ents (rows.take (j + 1)) = ents (rows.take j) ++ [r.e] := by
  unfold ents
  rw [List.take_add_one, h]
  simp
theorem wrap_u64_nat' (a b : Nat) : IntKind.u64.wrap ((a : Int) + (b : Int)) = (((a + b) % 2 ^ 64 : Nat) : Int) := by
  rw [IntKind.wrap_u64]; omega
theorem Blk.sums4 {w : World} {g : Nat} {t : TypeId} {x0 x1 x2 x3 y0 y1 y2 y3 : Value} (h : Blk w g t #[x0, x1, x2, x3]) :
    Blk ((((w.setCell ⟨g, 2, none⟩ y2).setCell ⟨g, 3, none⟩ y3).setCell ⟨g, 0, none⟩ y0).setCell ⟨g, 1, none⟩ y1) g t #[y0, y1, y2, y3] :=
  (((h.set1 y2).set1 y3).set1 y0).set1 y1
theorem Blk.sums3a {w : World} {g : Nat} {t : TypeId} {x0 x1 x2 x3 y0 y1 y3 : Value} (h : Blk w g t #[x0, x1, x2, x3]) :
    Blk (((w.setCell ⟨g, 3, none⟩ y3).setCell ⟨g, 0, none⟩ y0).setCell ⟨g, 1, none⟩ y1) g t #[y0, y1, x2, y3] :=
  ((h.set1 y3).set1 y0).set1 y1
theorem Blk.sums3b {w : World} {g : Nat} {t : TypeId} {x0 x1 x2 x3 y0 y1 y2 : Value} (h : Blk w g t #[x0, x1, x2, x3]) :
    Blk (((w.setCell ⟨g, 2, none⟩ y2).setCell ⟨g, 0, none⟩ y0).setCell ⟨g, 1, none⟩ y1) g t #[y0, y1, y2, x3] :=
  ((h.set1 y2).set1 y0).set1 y1
theorem Blk.sums2 {w : World} {g : Nat} {t : TypeId} {x0 x1 x2 x3 y0 y1 : Value} (h : Blk w g t #[x0, x1, x2, x3]) :
    Blk ((w.setCell ⟨g, 0, none⟩ y0).setCell ⟨g, 1, none⟩ y1) g t #[y0, y1, x2, x3] :=
  (h.set1 y0).set1 y1
theorem Blk.far1 {w : World} {g b i : Nat} {t : TypeId} {cs : Array Value} {u : Value} (h : Blk w g t cs) (hne : g ≠ b) : Blk (w.setCell ⟨b, i, none⟩ u) g t cs := h.set_ b i u hne
theorem below_set1 {B g i : Nat} {a w : World} {x : Value} (h : Below B a w) (hg : B ≤ g) : Below B a (w.setCell ⟨g, i, none⟩ x) := h.setCell hg _
def sumCells (s : Sum4) : Array Value := #[.int .u64 (s.c : Int), .int .u64 (s.s : Int), .int .u64 (s.mn : Int), .int .u64 (s.mx : Int)]
end
section
open Go.RowKit
section
open Go.RowKit Go.ChangeShapes Go.WideShapes Go.Deep
theorem u64s_flat (p : List Nat) : p.flatMap (fun (x : Nat) => [Value.int .u64 (x : Int)]) = u64s p := by
  unfold u64s
  induction p with
  | nil => rfl
  | cons x p ih => rw [List.flatMap_cons, ih]; rfl
theorem wf_u64 {z : Int} (h : (Lit.int .u64 z).wf = true) : 0 ≤ z ∧ z < 18446744073709551616 := by
  simp [Lit.wf] at h
  have h1 : IntKind.u64.min = 0 := by decide
  have h2 : IntKind.u64.max = 18446744073709551615 := by decide
  rw [h1, h2] at h
  omega
set_option maxRecDepth 100000 in
theorem open_point' {H : Type} {enc : TypeId × Value → H} {w : World} {spare : Nat → Bool} {held : Bool} {fuel : Nat} {A : Option Addr} {len cap : Nat} {x : DataW H × List MemPlace}
    (h : DataW.trod enc Try.prog w 0 spare held fuel 23 [.slice A len cap] = some x) :
    ∃ p : List Nat, Pt w A len p ∧ len ≤ cap ∧ cap ≤ maxLen := by
  obtain ⟨rows, h0, hok, h1, h2, h3⟩ := open_elems (sz := 1) (fun (x : Nat) => [Value.int .u64 (x : Int)]) (fun x => x < 2 ^ 64) (fun _ => rfl) (by omega) Try.underlying23 (by kernel_rfl) (fun n cs d hd => by
    obtain ⟨z, e, -, hw⟩ := DataW.trod_int Try.underlying43 hd
    have hz := wf_u64 hw
    refine ⟨z.toNat, ?_, by show z.toNat < 18446744073709551616; omega⟩
    rw [e, Int.toNat_of_nonneg hz.1]) h
  rw [u64s_flat] at h1
  exact ⟨rows, ⟨h0, h1, hok⟩, h2, h3⟩
theorem open_point {H : Type} {enc : TypeId × Value → H} {w : World} {A : Option Addr} {len cap : Nat} {d : DataW H} {ps : List MemPlace}
    (h : DataW.Trod enc Try.prog w 0 (fun _ => true) true 23 (.slice A len cap) d ps) :
    ∃ p : List Nat, Pt w A len p ∧ len ≤ cap ∧ cap ≤ maxLen := by
  obtain ⟨fuel, h⟩ := h
  exact open_point' h
end
theorem pt_nil (w : World) : Pt w none 0 [] := ⟨rfl, Rw.nil _ _ _, fun x h => by cases h⟩
set_option maxRecDepth 100000 in
open Go.ChangeShapes Go.WideShapes in
/-- An act: a point loses or gets a value. -/
structure TA where
  d : Bool
  A : Option Addr
  n : Nat
  c : Nat
  p : List Nat
  v : Nat
def tav (r : TA) : List Value := [.bool r.d, .slice r.A r.n r.c, .int .u64 (r.v : Int)]
theorem tav_len (r : TA) : (tav r).length = 3 := rfl
def TA.ok (w : World) (r : TA) : Prop := Pt w r.A r.n r.p ∧ r.n ≤ r.c ∧ r.c ≤ maxLen ∧ r.v < 2 ^ 64
theorem TA.ok.below {w w' : World} {r : TA} (h : r.ok w) (hb : Below w.heap.size w w') : r.ok w' := ⟨h.1.below hb, h.2⟩
/-- A slice of acts. -/
def ActsAt (w : World) (A : Option Addr) (n : Nat) (rows : List TA) : Prop := Rw w 3 A n (rows.flatMap tav) ∧ ∀ r ∈ rows, r.ok w
set_option maxRecDepth 100000 in
open Go.ChangeShapes Go.WideShapes in
section
variable {w w' : World} {A : Option Addr} {n : Nat} {rows : List TA}
theorem ActsAt.below (h : ActsAt w A n rows) (hb : Below w.heap.size w w') : ActsAt w' A n rows := ⟨h.1.below hb, fun r hr => (h.2 r hr).below hb⟩
theorem ActsAt.len (h : ActsAt w A n rows) : rows.length = n := by
  have := h.1.1
  rw [flat_length tav_len] at this
  omega
theorem ActsAt.at_ {i : Nat} (h : ActsAt w A n rows) (hi : i < n) :
    ∃ b o r, A = some ⟨b, o, none⟩ ∧ b < w.heap.size ∧ rows[i]? = some r ∧ r.ok w ∧ w.cell? ⟨b, o + i * 3, none⟩ = some (.bool r.d) ∧ w.cell? ⟨b, o + i * 3 + 1, none⟩ = some (.slice r.A r.n r.c) ∧ w.cell? ⟨b, o + i * 3 + 2, none⟩ = some (.int .u64 (r.v : Int)) := by
  obtain ⟨b, o, r, hA, hb, hr, hc⟩ := h.1.elem tav_len hi (by omega)
  exact ⟨b, o, r, hA, hb, hr, h.2 r (List.mem_of_getElem? hr), hc 0 _ rfl, by rw [Nat.add_assoc]; exact hc 1 _ rfl, by rw [Nat.add_assoc]; exact hc 2 _ rfl⟩
end
end
end Go.Proofs.Ytlgdllohmmmegaa
