/- All stays but one block. -/
import Derived.Test.YtnopacldaoekiaaKe
set_option linter.unusedSimpArgs false
set_option linter.unusedVariables false
namespace Go.Proofs.Ytnopacldaoekiaa
open Go.RowKit
/-- All is as it was but one block. -/
structure Ex (c : Nat) (w w' : World) : Prop where
  os : w'.os = w.os
  tape : w'.tape = w.tape
  output : w'.output = w.output
  size : w.heap.size ≤ w'.heap.size
  block : ∀ k, k < w.heap.size → k ≠ c → w'.heap[k]? = w.heap[k]?
section
variable {c : Nat} {w a a' : World}
theorem Ex.refl (c : Nat) (w : World) : Ex c w w := ⟨rfl, rfl, rfl, Nat.le_refl _, fun _ _ _ => rfl⟩
theorem Ex.below (h : Ex c w a) (hb : Below a.heap.size a a') : Ex c w a' :=
  ⟨hb.os.trans h.os, hb.tape.trans h.tape, hb.output.trans h.output, Nat.le_trans h.size hb.size, fun k hk hne => (hb.block k (Nat.lt_of_lt_of_le hk h.size)).trans (h.block k hk hne)⟩
theorem Ex.alloc (h : Ex c w a) (o : Obj) : Ex c w (a.alloc o) := h.below ((Below.refl _ _).alloc (Nat.le_refl _) o)
theorem Ex.drew (h : Ex c w a) : Ex c w a.drew := h.below (Below.refl _ _).drew
theorem Ex.set (h : Ex c w a) (i : Nat) (u : Value) : Ex c w (a.setCell ⟨c, i, none⟩ u) := by
  have hs := (Below.refl 0 a).setCell (p := ⟨c, i, none⟩) (Nat.zero_le _) u
  exact ⟨hs.os.trans h.os, hs.tape.trans h.tape, hs.output.trans h.output, Nat.le_trans h.size hs.size, fun k hk hne => (Below.heap_setCell a ⟨c, i, none⟩ u k hne).trans (h.block k hk hne)⟩
theorem Ex.trans (h : Ex c w a) (k : Ex c a a') : Ex c w a' :=
  ⟨k.os.trans h.os, k.tape.trans h.tape, k.output.trans h.output, Nat.le_trans h.size k.size, fun j hj hne => (k.block j (Nat.lt_of_lt_of_le hj h.size) hne).trans (h.block j hj hne)⟩
theorem Ex.to_below {B : Nat} (h : Ex c w a) (hc : B ≤ c) (hB : B ≤ w.heap.size) : Below B w a :=
  ⟨h.os, h.tape, h.output, h.size, fun k hk => h.block k (Nat.lt_of_lt_of_le hk hB) (by omega)⟩
theorem Ex.keep {t tc : TypeId} {cs : Array Value} (h : Ex c w a) (hB : Blk w c tc cs) (hne : t ≠ tc) : Keep t w a := by
  intro b cs' fr hb
  refine (h.block b (heap_lt hb) ?_).trans hb
  rintro rfl
  unfold Blk at hB
  rw [hB] at hb
  injection hb with hb
  injection hb with _ hb
  exact hne hb.symm
theorem Ex.blk {t : TypeId} {g : Nat} {cs : Array Value} (h : Ex c w a) (hB : Blk w g t cs) (hne : g ≠ c) : Blk a g t cs := (h.block g hB.lt hne).trans hB
end
theorem Ex.setNew {c g : Nat} {w a : World} (h : Ex c w a) (hg : w.heap.size ≤ g) (i : Nat) (u : Value) : Ex c w (a.setCell ⟨g, i, none⟩ u) := by
  have hs := (Below.refl 0 a).setCell (p := ⟨g, i, none⟩) (Nat.zero_le _) u
  exact ⟨hs.os.trans h.os, hs.tape.trans h.tape, hs.output.trans h.output, Nat.le_trans h.size hs.size, fun k hk hne => (Below.heap_setCell a ⟨g, i, none⟩ u k (show k ≠ g by omega)).trans (h.block k hk hne)⟩
end Go.Proofs.Ytnopacldaoekiaa
