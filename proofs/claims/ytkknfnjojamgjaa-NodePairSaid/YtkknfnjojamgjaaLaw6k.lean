/- Entries that came in, opened; pantilelaw06.NodePair, whole. -/
import Derived.Test.YtkknfnjojamgjaaLaw6j
set_option linter.unusedSimpArgs false
set_option linter.unusedVariables false
namespace Go.Proofs.Ytkknfnjojamgjaa
open Go.RowKit
theorem pt_nil (w : World) : Pt w none 0 [] := ⟨rfl, Rw.nil _ _ _, fun x h => by cases h⟩
set_option maxRecDepth 100000 in
open Go.ChangeShapes Go.WideShapes in
theorem open_entries {H : Type} {enc : TypeId × Value → H} {w : World} {A : Option Addr} {len cap : Nat} {d : DataW H} {ps : List MemPlace}
    (h : DataW.Trod enc Try.prog w 0 (fun _ => true) true 49 (.slice A len cap) d ps) :
    ∃ rows : List ER, EntsAt w A len rows ∧ len ≤ cap ∧ cap ≤ maxLen := by
  obtain ⟨fuel, h⟩ := h
  obtain ⟨rows, -, hok, h1, h2, h3⟩ := open_elems (sz := 2) entv (fun r => ER.ok w r) entv_len (by omega) Try.underlying49 (by kernel_rfl) (fun n cs d hd => by
    obtain ⟨y0, y1, n', -, hl, g0, g1⟩ := trod_struct2 Try.underlying59 hd
    have hl2 : cs.length = 2 := hl
    match cs, hl2 with
    | [u0, u1], _ =>
      have g0' : DataW.trod enc Try.prog w 0 (fun _ => true) true n' 30 [u0] = some y0 := by
        rw [show Try.prog.cellsOf 30 = 1 by kernel_rfl] at g0
        simpa using g0
      obtain ⟨z, e1, -, hw⟩ := DataW.trod_int Try.underlying28 g1
      have e1' : u1 = .int .u64 z := by
        rw [show Try.prog.cellsOf 28 = 1 by kernel_rfl] at e1
        simpa using e1
      have hz := wf_u64 hw
      have hz1 : u1 = .int .u64 ((z.toNat : Nat) : Int) := by rw [e1', Int.toNat_of_nonneg hz.1]
      rcases Go.Deep.open_slice Try.underlying30 g0' with ⟨h0, _⟩ | ⟨a, l, c, _, _, _, _, h0, _⟩
      · have h0' : u0 = .slice none 0 0 := by simpa using h0
        exact ⟨⟨none, 0, 0, [], z.toNat⟩, by rw [h0', hz1]; rfl, pt_nil w, Nat.le_refl _, Nat.zero_le _, by show z.toNat < 18446744073709551616; omega⟩
      · have h0' : u0 = .slice (some a) l c := by simpa using h0
        rw [h0'] at g0'
        obtain ⟨p, q1, q2, q3⟩ := open_point' g0'
        exact ⟨⟨some a, l, c, p, z.toNat⟩, by rw [h0', hz1]; rfl, q1, q2, q3, by show z.toNat < 18446744073709551616; omega⟩) h
  exact ⟨rows, ⟨h1, hok⟩, h2, h3⟩
theorem node_pair (A : Option Addr) (n c : Nat) (rows : List ER) (w : World) (h : EntsAt w A n rows ∧ n ≤ c ∧ c ≤ maxLen) (B : Option Addr) (m d : Nat) (q : List Nat) (h' : Pt w B m q ∧ m ≤ d ∧ d ≤ maxLen) :
    Calls Try.prog 5 #[.slice A n c, .slice B m d] w fun e w' => e = .returned (.bool true) ∧ Below w.heap.size w w' := by
  by_cases h3 : 3 < n
  · exact node_pair_far A B n c m d w h3
  · exact node_pair_main A B n c m d rows q w h.1 (by omega) h.2.1 h.2.2 h'.1
end Go.Proofs.Ytkknfnjojamgjaa
