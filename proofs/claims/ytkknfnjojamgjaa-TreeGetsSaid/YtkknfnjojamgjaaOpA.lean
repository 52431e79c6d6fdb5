/- Points, entries, acts that came in, opened. -/
import Derived.Test.YtkknfnjojamgjaaOpen
import Derived.Test.YtkknfnjojamgjaaProg
import Derived.Test.YtkknfnjojamgjaaEnts
import Derived.Deep.Strs
set_option linter.unusedSimpArgs false
set_option linter.unusedVariables false
namespace Go.Proofs.Ytkknfnjojamgjaa
open Go.RowKit
section
open Go.RowKit Go.ChangeShapes Go.WideShapes Go.Deep
theorem u64s_flat (p : List Nat) : p.flatMap (fun (x : Nat) => [Value.int .u64 (x : Int)]) = u64s p := by
  unfold u64s
  induction p with
  | nil => rfl
  | cons x p ih => rw [List.flatMap_cons, ih]; rfl
theorem wf_u64 {z : Int} (h : (Lit.int .u64 z).wf = true) : 0 ≤ z ∧ z < 18446744073709551616 := by
  simp [Lit.wf] at h
  have h1 : IntKind.u64.min = 0 := by decide
  have h2 : IntKind.u64.max = 18446744073709551615 := by decide
  rw [h1, h2] at h
  omega
set_option maxRecDepth 100000 in
theorem open_point' {H : Type} {enc : TypeId × Value → H} {w : World} {spare : Nat → Bool} {held : Bool} {fuel : Nat} {A : Option Addr} {len cap : Nat} {x : DataW H × List MemPlace}
    (h : DataW.trod enc Try.prog w 0 spare held fuel 30 [.slice A len cap] = some x) :
    ∃ p : List Nat, Pt w A len p ∧ len ≤ cap ∧ cap ≤ maxLen := by
  obtain ⟨rows, h0, hok, h1, h2, h3⟩ := open_elems (sz := 1) (fun (x : Nat) => [Value.int .u64 (x : Int)]) (fun x => x < 2 ^ 64) (fun _ => rfl) (by omega) Try.underlying30 (by kernel_rfl) (fun n cs d hd => by
    obtain ⟨z, e, -, hw⟩ := DataW.trod_int Try.underlying28 hd
    have hz := wf_u64 hw
    refine ⟨z.toNat, ?_, by show z.toNat < 18446744073709551616; omega⟩
    rw [e, Int.toNat_of_nonneg hz.1]) h
  rw [u64s_flat] at h1
  exact ⟨rows, ⟨h0, h1, hok⟩, h2, h3⟩
theorem open_point {H : Type} {enc : TypeId × Value → H} {w : World} {A : Option Addr} {len cap : Nat} {d : DataW H} {ps : List MemPlace}
    (h : DataW.Trod enc Try.prog w 0 (fun _ => true) true 30 (.slice A len cap) d ps) :
    ∃ p : List Nat, Pt w A len p ∧ len ≤ cap ∧ cap ≤ maxLen := by
  obtain ⟨fuel, h⟩ := h
  exact open_point' h
end
theorem pt_nil (w : World) : Pt w none 0 [] := ⟨rfl, Rw.nil _ _ _, fun x h => by cases h⟩
set_option maxRecDepth 100000 in
open Go.ChangeShapes Go.WideShapes in
theorem open_entries {H : Type} {enc : TypeId × Value → H} {w : World} {A : Option Addr} {len cap : Nat} {d : DataW H} {ps : List MemPlace}
    (h : DataW.Trod enc Try.prog w 0 (fun _ => true) true 49 (.slice A len cap) d ps) :
    ∃ rows : List ER, EntsAt w A len rows ∧ len ≤ cap ∧ cap ≤ maxLen := by
  obtain ⟨fuel, h⟩ := h
  obtain ⟨rows, -, hok, h1, h2, h3⟩ := open_elems (sz := 2) entv (fun r => ER.ok w r) entv_len (by omega) Try.underlying49 (by kernel_rfl) (fun n cs d hd => by
    obtain ⟨y0, y1, n', -, hl, g0, g1⟩ := trod_struct2 Try.underlying59 hd
    have hl2 : cs.length = 2 := hl
    match cs, hl2 with
    | [u0, u1], _ =>
      have g0' : DataW.trod enc Try.prog w 0 (fun _ => true) true n' 30 [u0] = some y0 := by
        rw [show Try.prog.cellsOf 30 = 1 by kernel_rfl] at g0
        simpa using g0
      obtain ⟨z, e1, -, hw⟩ := DataW.trod_int Try.underlying28 g1
      have e1' : u1 = .int .u64 z := by
        rw [show Try.prog.cellsOf 28 = 1 by kernel_rfl] at e1
        simpa using e1
      have hz := wf_u64 hw
      have hz1 : u1 = .int .u64 ((z.toNat : Nat) : Int) := by rw [e1', Int.toNat_of_nonneg hz.1]
      rcases Go.Deep.open_slice Try.underlying30 g0' with ⟨h0, _⟩ | ⟨a, l, c, _, _, _, _, h0, _⟩
      · have h0' : u0 = .slice none 0 0 := by simpa using h0
        exact ⟨⟨none, 0, 0, [], z.toNat⟩, by rw [h0', hz1]; rfl, pt_nil w, Nat.le_refl _, Nat.zero_le _, by show z.toNat < 18446744073709551616; omega⟩
      · have h0' : u0 = .slice (some a) l c := by simpa using h0
        rw [h0'] at g0'
        obtain ⟨p, q1, q2, q3⟩ := open_point' g0'
        exact ⟨⟨some a, l, c, p, z.toNat⟩, by rw [h0', hz1]; rfl, q1, q2, q3, by show z.toNat < 18446744073709551616; omega⟩) h
  exact ⟨rows, ⟨h1, hok⟩, h2, h3⟩
/-- An act: a point loses or gets a value. -/
structure TA where
  d : Bool
  A : Option Addr
  n : Nat
  c : Nat
  p : List Nat
  v : Nat
def tav (r : TA) : List Value := [.bool r.d, .slice r.A r.n r.c, .int .u64 (r.v : Int)]
theorem tav_len (r : TA) : (tav r).length = 3 := rfl
def TA.ok (w : World) (r : TA) : Prop := Pt w r.A r.n r.p ∧ r.n ≤ r.c ∧ r.c ≤ maxLen ∧ r.v < 2 ^ 64
theorem TA.ok.below {w w' : World} {r : TA} (h : r.ok w) (hb : Below w.heap.size w w') : r.ok w' := ⟨h.1.below hb, h.2⟩
/-- A slice of acts. -/
def ActsAt (w : World) (A : Option Addr) (n : Nat) (rows : List TA) : Prop := Rw w 3 A n (rows.flatMap tav) ∧ ∀ r ∈ rows, r.ok w
set_option maxRecDepth 100000 in
open Go.ChangeShapes Go.WideShapes in
theorem open_acts7 {H : Type} {enc : TypeId × Value → H} {w : World} {A : Option Addr} {len cap : Nat} {d : DataW H} {ps : List MemPlace}
    (h : DataW.Trod enc Try.prog w 0 (fun _ => true) true 86 (.slice A len cap) d ps) :
    ∃ rows : List TA, ActsAt w A len rows ∧ len ≤ cap ∧ cap ≤ maxLen := by
  obtain ⟨fuel, h⟩ := h
  obtain ⟨rows, -, hok, h1, h2, h3⟩ := open_elems (sz := 3) tav (fun r => TA.ok w r) tav_len (by omega) Try.underlying86 (by kernel_rfl) (fun n cs d hd => by
    obtain ⟨yb, y0, y1, n', -, hl, gb, g0, g1⟩ := Go.Deep.trod_struct3 Try.underlying94 hd
    have hl2 : cs.length = 3 := hl
    match cs, hl2 with
    | [ub, u0, u1], _ =>
      obtain ⟨b, eb, -⟩ := DataW.trod_bool Try.underlying4 gb
      have eb' : ub = .bool b := by
        rw [show Try.prog.cellsOf 4 = 1 by kernel_rfl] at eb
        simpa using eb
      have g0' : DataW.trod enc Try.prog w 0 (fun _ => true) true n' 30 [u0] = some y0 := by
        rw [show Try.prog.cellsOf 30 = 1 by kernel_rfl] at g0
        simpa using g0
      obtain ⟨z, e1, -, hw⟩ := DataW.trod_int Try.underlying28 g1
      have e1' : u1 = .int .u64 z := by
        rw [show Try.prog.cellsOf 28 = 1 by kernel_rfl] at e1
        simpa using e1
      have hz := wf_u64 hw
      have hz1 : u1 = .int .u64 ((z.toNat : Nat) : Int) := by rw [e1', Int.toNat_of_nonneg hz.1]
      rcases Go.Deep.open_slice Try.underlying30 g0' with ⟨h0, _⟩ | ⟨a, l, c, _, _, _, _, h0, _⟩
      · have h0' : u0 = .slice none 0 0 := by simpa using h0
        exact ⟨⟨b, none, 0, 0, [], z.toNat⟩, by rw [h0', hz1, eb']; rfl, pt_nil w, Nat.le_refl _, Nat.zero_le _, by show z.toNat < 18446744073709551616; omega⟩
      · have h0' : u0 = .slice (some a) l c := by simpa using h0
        rw [h0'] at g0'
        obtain ⟨p, q1, q2, q3⟩ := open_point' g0'
        exact ⟨⟨b, some a, l, c, p, z.toNat⟩, by rw [h0', hz1, eb']; rfl, q1, q2, q3, by show z.toNat < 18446744073709551616; omega⟩) h
  exact ⟨rows, ⟨h1, hok⟩, h2, h3⟩
section
variable {w w' : World} {A : Option Addr} {n : Nat} {rows : List TA}
theorem ActsAt.below (h : ActsAt w A n rows) (hb : Below w.heap.size w w') : ActsAt w' A n rows := ⟨h.1.below hb, fun r hr => (h.2 r hr).below hb⟩
theorem ActsAt.len (h : ActsAt w A n rows) : rows.length = n := by
  have := h.1.1
  rw [flat_length tav_len] at this
  omega
theorem ActsAt.at_ {i : Nat} (h : ActsAt w A n rows) (hi : i < n) :
    ∃ b o r, A = some ⟨b, o, none⟩ ∧ b < w.heap.size ∧ rows[i]? = some r ∧ r.ok w ∧ w.cell? ⟨b, o + i * 3, none⟩ = some (.bool r.d) ∧ w.cell? ⟨b, o + i * 3 + 1, none⟩ = some (.slice r.A r.n r.c) ∧ w.cell? ⟨b, o + i * 3 + 2, none⟩ = some (.int .u64 (r.v : Int)) := by
  obtain ⟨b, o, r, hA, hb, hr, hc⟩ := h.1.elem tav_len hi (by omega)
  exact ⟨b, o, r, hA, hb, hr, h.2 r (List.mem_of_getElem? hr), hc 0 _ rfl, by rw [Nat.add_assoc]; exact hc 1 _ rfl, by rw [Nat.add_assoc]; exact hc 2 _ rfl⟩
end
end Go.Proofs.Ytkknfnjojamgjaa
