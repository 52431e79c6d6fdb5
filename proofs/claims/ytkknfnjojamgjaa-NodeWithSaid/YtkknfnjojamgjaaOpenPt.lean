/- Points that came in, opened. -/
import Derived.Test.YtkknfnjojamgjaaOpen
import Derived.Test.YtkknfnjojamgjaaProg
set_option linter.unusedSimpArgs false
set_option linter.unusedVariables false
namespace Go.Proofs.Ytkknfnjojamgjaa
open Go.RowKit Go.ChangeShapes Go.WideShapes Go.Deep
theorem u64s_flat (p : List Nat) : p.flatMap (fun (x : Nat) => [Value.int .u64 (x : Int)]) = u64s p := by
  unfold u64s
  induction p with
  | nil => rfl
  | cons x p ih => rw [List.flatMap_cons, ih]; rfl
theorem wf_u64 {z : Int} (h : (Lit.int .u64 z).wf = true) : 0 ≤ z ∧ z < 18446744073709551616 := by
  simp [Lit.wf] at h
  have h1 : IntKind.u64.min = 0 := by decide
  have h2 : IntKind.u64.max = 18446744073709551615 := by decide
  rw [h1, h2] at h
  omega
set_option maxRecDepth 100000 in
theorem open_point' {H : Type} {enc : TypeId × Value → H} {w : World} {spare : Nat → Bool} {held : Bool} {fuel : Nat} {A : Option Addr} {len cap : Nat} {x : DataW H × List MemPlace}
    (h : DataW.trod enc Try.prog w 0 spare held fuel 30 [.slice A len cap] = some x) :
    ∃ p : List Nat, Pt w A len p ∧ len ≤ cap ∧ cap ≤ maxLen := by
  obtain ⟨rows, h0, hok, h1, h2, h3⟩ := open_elems (sz := 1) (fun (x : Nat) => [Value.int .u64 (x : Int)]) (fun x => x < 2 ^ 64) (fun _ => rfl) (by omega) Try.underlying30 (by kernel_rfl) (fun n cs d hd => by
    obtain ⟨z, e, -, hw⟩ := DataW.trod_int Try.underlying28 hd
    have hz := wf_u64 hw
    refine ⟨z.toNat, ?_, by show z.toNat < 18446744073709551616; omega⟩
    rw [e, Int.toNat_of_nonneg hz.1]) h
  rw [u64s_flat] at h1
  exact ⟨rows, ⟨h0, h1, hok⟩, h2, h3⟩
theorem open_point {H : Type} {enc : TypeId × Value → H} {w : World} {A : Option Addr} {len cap : Nat} {d : DataW H} {ps : List MemPlace}
    (h : DataW.Trod enc Try.prog w 0 (fun _ => true) true 30 (.slice A len cap) d ps) :
    ∃ p : List Nat, Pt w A len p ∧ len ≤ cap ∧ cap ≤ maxLen := by
  obtain ⟨fuel, h⟩ := h
  exact open_point' h
end Go.Proofs.Ytkknfnjojamgjaa
