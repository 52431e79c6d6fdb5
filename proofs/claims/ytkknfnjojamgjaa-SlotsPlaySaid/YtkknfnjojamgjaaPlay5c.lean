/- pantilelaw05.SlotsPlay: of any K, any acts. -/
import Derived.Test.YtkknfnjojamgjaaPlay5b
set_option linter.unusedSimpArgs false
set_option linter.unusedVariables false
namespace Go.Proofs.Ytkknfnjojamgjaa
open Go.RowKit
set_option maxRecDepth 100000 in
open Go.ChangeShapes Go.WideShapes in
/-- The acts that came in. -/
theorem open_acts {H : Type} {enc : TypeId × Value → H} {w : World} {A : Option Addr} {len cap : Nat} {d : DataW H} {ps : List MemPlace}
    (h : DataW.Trod enc Try.prog w 0 (fun _ => true) true 22 (.slice A len cap) d ps) :
    ∃ rows : List (Bool × Int × Int), len ≤ maxLen ∧ Rw w 3 A len (rows.flatMap actv) := by
  obtain ⟨fuel, h⟩ := h
  obtain ⟨rows, -, -, h1, h2, h3⟩ := open_elems actv (fun _ => True) actv_len (by omega) Try.underlying22 (by kernel_rfl) (fun n cs d hd => by
    obtain ⟨y0, y1, y2, n', -, hl, g0, g1, g2⟩ := Go.Deep.trod_struct3 Try.underlying36 hd
    have hl3 : cs.length = 3 := hl
    match cs, hl3 with
    | [u0, u1, u2], _ =>
      obtain ⟨b, e0, -⟩ := DataW.trod_bool Try.underlying4 g0
      obtain ⟨a, e1, -⟩ := DataW.trod_int Try.underlying3 g1
      obtain ⟨x, e2, -⟩ := DataW.trod_int Try.underlying28 g2
      have e0' : u0 = .bool b := by
        rw [show Try.prog.cellsOf 4 = 1 by kernel_rfl] at e0
        simpa using e0
      have e1' : u1 = .int .i64 a := by
        rw [show Try.prog.cellsOf 3 = 1 by kernel_rfl] at e1
        simpa using e1
      have e2' : u2 = .int .u64 x := by
        rw [show Try.prog.cellsOf 28 = 1 by kernel_rfl] at e2
        simpa using e2
      exact ⟨(b, a, x), by rw [e0', e1', e2']; rfl, trivial⟩) h
  exact ⟨rows, Nat.le_trans h2 h3, h1⟩
theorem slots_play (w : World) (k : Int) (_ : (Lit.int .i64 k).wf = true) (A : Option Addr) (n c : Nat) (acts : List (Bool × Int × Int)) (h : n ≤ maxLen ∧ Rw w 3 A n (acts.flatMap actv)) (addr : Int) (_ : (Lit.int .i64 addr).wf = true) :
    Calls Try.prog 3 #[.int .i64 k, .slice A n c, .int .i64 addr] w fun e w' => e = .returned (.bool true) ∧ Below w.heap.size w w' := by
  by_cases hk : 1 ≤ k ∧ k ≤ 16
  · have := play5 k.toNat A n c acts addr w (by omega) (by omega) h.1 h.2
    rw [Int.toNat_of_nonneg (by omega)] at this
    exact this
  · exact play5_bad k A n c addr w h.1 (by omega)
end Go.Proofs.Ytkknfnjojamgjaa
