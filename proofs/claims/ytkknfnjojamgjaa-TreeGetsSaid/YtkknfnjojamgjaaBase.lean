/- Words for memory: blocks, rows of cells, points. No program in sight. -/
import Derived.WalkKit
import Derived.Test.YtkknfnjojamgjaaMath
import Derived.WalkSpells
import Derived.WalkLawsBesides
import Derived.Deep.QuietTactic
import Derived.BigQuiet
import Derived.Outline
import Derived.ScopeJumps
import Derived.Deep.Draws
import Derived.Laws.Rows
import Derived.Laws.OwnMore
import Derived.Deep.DeepFit
namespace Go.Proofs.Ytkknfnjojamgjaa
open Go.RowKit

theorem hide {p : Prop} (h : p) : Hid p := h

theorem boolI {a b : Bool} (h : a = true ↔ b = true) : a = b := Bool.eq_iff_iff.2 h
theorem retB {a b : Bool} (h : a = b) : Ending.returned (.bool a) = .returned (.bool b) := by rw [h]
theorem retI {k : IntKind} {a b : Int} (h : a = b) : Ending.returned (.int k a) = .returned (.int k b) := by rw [h]
theorem retT {a b : Array Value} (h : a = b) : Ending.returned (.tuple a) = .returned (.tuple b) := by rw [h]
theorem vI {k : IntKind} {a b : Int} (h : a = b) : Value.int k a = .int k b := by rw [h]
theorem vB {a b : Bool} (h : a = b) : Value.bool a = .bool b := by rw [h]

theorem still_of {P : Program} {f : FuncId} {args : Array Value} {w : World} {v : Value} (h : Calls P f args w fun e w' => e = .returned v ∧ w = w') : Calls P f args w fun e w' => e = .returned v ∧ w' = w :=
  h.mono fun _ _ ⟨a, b⟩ => ⟨a, b.symm⟩

/-! ### Below -/
theorem below_drewN {B : Nat} {a w : World} (h : Below B a w) (n : Nat) : Below B a (w.drewN n) := ⟨h.os, h.tape, h.output, h.size, h.block⟩
theorem below_alloc {B : Nat} {a w : World} (h : Below B a w) (hB : B ≤ a.heap.size) (o : Obj) : Below B a (w.alloc o) := h.alloc (Nat.le_trans hB h.size) o
theorem below_then {a w w' : World} (h : Below a.heap.size a w) (k : Below w.heap.size w w') : Below a.heap.size a w' := h.trans (k.mono h.size)
theorem bcell {W w1 : World} (hb : Below W.heap.size W w1) : (∀ b o, b < W.heap.size → w1.cell? ⟨b, o, none⟩ = W.cell? ⟨b, o, none⟩) ∧ (∀ b o, b < W.heap.size → w1.frozen? ⟨b, o, none⟩ = W.frozen? ⟨b, o, none⟩) :=
  ⟨fun b o h => hb.cell (p := ⟨b, o, none⟩) h, fun b o h => hb.frozen (p := ⟨b, o, none⟩) h⟩

/-! ### A block that is known whole -/
def Blk (w : World) (g : Nat) (t : TypeId) (cs : Array Value) : Prop := w.heap[g]? = some (.cells cs t (0, 0))
section
variable {w w' : World} {g : Nat} {t : TypeId} {cs : Array Value}
theorem Blk.lt (h : Blk w g t cs) : g < w.heap.size := by
  rcases Nat.lt_or_ge g w.heap.size with hlt | hge
  · exact hlt
  · unfold Blk at h; rw [Array.getElem?_eq_none hge] at h; cases h
theorem Blk.cell (h : Blk w g t cs) (i : Nat) : w.cell? ⟨g, i, none⟩ = cs[i]? := cell_of_row w g i cs t (0, 0) h
theorem Blk.frozen (h : Blk w g t cs) (i : Nat) : w.frozen? ⟨g, i, none⟩ = false := by
  unfold Blk at h
  simp [World.frozen?, h]
theorem Blk.new (w : World) (t : TypeId) (cs : Array Value) : Blk (w.alloc (.cells cs t)) w.heap.size t cs := heap_alloc_new w _
theorem Blk.drewN (h : Blk w g t cs) (n : Nat) : Blk (w.drewN n) g t cs := h
theorem Blk.below (h : Blk w g t cs) (hb : Below w.heap.size w w') : Blk w' g t cs := (hb.block g h.lt).trans h
theorem Blk.belowB {B : Nat} (h : Blk w g t cs) (hb : Below B w w') (hg : g < B) : Blk w' g t cs := (hb.block g hg).trans h
theorem Blk.set_ (h : Blk w g t cs) (b i : Nat) (u : Value) (hne : g ≠ b) : Blk (w.setCell ⟨b, i, none⟩ u) g t cs := (Below.heap_setCell w ⟨b, i, none⟩ u g hne).trans h
theorem Blk.alloc (h : Blk w g t cs) (o : Obj) : Blk (w.alloc o) g t cs := (Below.heap_alloc w o g h.lt).trans h
theorem Blk.alloc_cell {w : World} {b i : Nat} {v : Value} {o : Obj} (h : w.cell? ⟨b, i, none⟩ = some v) : (w.alloc o).cell? ⟨b, i, none⟩ = some v := by
  have hb : b < w.heap.size := by
    rcases Nat.lt_or_ge b w.heap.size with h1 | h1
    · exact h1
    · simp [World.cell?, Array.getElem?_eq_none h1] at h
  exact (World.cell?_alloc_lt w o ⟨b, i, none⟩ hb).trans h
theorem Blk.eq_ {t' : TypeId} {cs' : Array Value} (h : Blk w g t cs) (h' : Blk w g t' cs') : t = t' ∧ cs = cs' := by
  unfold Blk at h h'
  rw [h] at h'
  injection h' with h'
  injection h' with h1 h2
  exact ⟨h2, h1⟩
theorem Blk.ne_ {g' : Nat} {t' : TypeId} {cs' : Array Value} (h : Blk w g t cs) (h' : Blk w g' t' cs') (hne : t ≠ t') : g ≠ g' := by
  rintro rfl
  exact hne (h.eq_ h').1
end

/-! ### A slice that is read: elements of sz cells -/
def Rw (w : World) (sz : Nat) (A : Option Addr) (n : Nat) (vs : List Value) : Prop :=
  vs.length = n * sz ∧ (0 < n → ∃ b o, A = some ⟨b, o, none⟩ ∧ b < w.heap.size ∧ ∀ j u, vs[j]? = some u → w.cell? ⟨b, o + j, none⟩ = some u)
section
variable {w w' : World} {sz n : Nat} {A : Option Addr} {vs : List Value}
theorem Rw.nil (w : World) (sz : Nat) (A : Option Addr) : Rw w sz A 0 [] := ⟨by simp, fun h => absurd h (by omega)⟩
theorem Rw.below (h : Rw w sz A n vs) (hb : Below w.heap.size w w') : Rw w' sz A n vs :=
  ⟨h.1, fun hn => by
    obtain ⟨b, o, rfl, hlt, hc⟩ := h.2 hn
    exact ⟨b, o, rfl, Nat.lt_of_lt_of_le hlt hb.size, fun j u hu => (hb.cell (p := ⟨b, o + j, none⟩) hlt).trans (hc j u hu)⟩⟩
theorem Rw.at_ (h : Rw w sz A n vs) (hn : 0 < n) : ∃ b o, A = some ⟨b, o, none⟩ ∧ b < w.heap.size ∧ ∀ j u, vs[j]? = some u → w.cell? ⟨b, o + j, none⟩ = some u := h.2 hn
theorem Rw.of_own {base : Nat} {e : TypeId} {v : Value} (h : w.ownsRow base e sz v n vs) : ∃ A c, v = .slice A n c ∧ n ≤ c ∧ Rw w sz A n vs := by
  obtain ⟨h1, h2⟩ := h
  rcases h2 with ⟨rfl, rfl⟩ | ⟨g, cap, cur, rfl, _, hh, hnc, _, hcs, ht⟩
  · exact ⟨none, 0, rfl, Nat.le_refl _, h1, fun hn => absurd hn (by omega)⟩
  · refine ⟨_, _, rfl, hnc, h1, fun _ => ⟨g, 0, rfl, Blk.lt (t := e) hh, fun j u hu => ?_⟩⟩
    rw [Nat.zero_add, Blk.cell (t := e) hh]
    rw [← ht, List.getElem?_take] at hu
    split at hu
    · simpa using hu
    · cases hu
theorem Rw.of_blk {g : Nat} {t : TypeId} {cs : Array Value} {k : Nat} (h : Blk w g t cs) (hl : vs.length = n * sz) (hc : ∀ j u, vs[j]? = some u → cs[k + j]? = some u) : Rw w sz (some ⟨g, k, none⟩) n vs :=
  ⟨hl, fun _ => ⟨g, k, rfl, h.lt, fun j u hu => (h.cell _).trans (hc j u hu)⟩⟩
end

/-! ### Points: slices of uint64 -/

def u64s (p : List Nat) : List Value := p.map fun (x : Nat) => Value.int .u64 (x : Int)
def Pt (w : World) (A : Option Addr) (n : Nat) (p : List Nat) : Prop := p.length = n ∧ Rw w 1 A n (u64s p) ∧ ∀ x ∈ p, x < 2 ^ 64
section
variable {w w' : World} {A : Option Addr} {n : Nat} {p : List Nat}
theorem Pt.len (h : Pt w A n p) : p.length = n := h.1
theorem Pt.below (h : Pt w A n p) (hb : Below w.heap.size w w') : Pt w' A n p := ⟨h.1, h.2.1.below hb, h.2.2⟩
theorem Pt.z_ {k : Nat} (h : Pt w A n p) (hk : k < n) : ∃ z, p[k]? = some z ∧ z < 18446744073709551616 := by
  have hk' : k < p.length := by have := h.1; omega
  exact ⟨p[k], List.getElem?_eq_getElem hk', h.2.2 _ (List.getElem_mem hk')⟩
theorem Pt.at_ {k : Nat} (h : Pt w A n p) (hk : k < n) : ∃ b o z, A = some ⟨b, o, none⟩ ∧ b < w.heap.size ∧ p[k]? = some z ∧ z < 18446744073709551616 ∧ w.cell? ⟨b, o + k, none⟩ = some (.int .u64 (z : Int)) := by
  obtain ⟨hl, hr, hb⟩ := h
  obtain ⟨b, o, rfl, hlt, hc⟩ := hr.2 (by omega)
  have hk' : k < p.length := by omega
  exact ⟨b, o, p[k], rfl, hlt, List.getElem?_eq_getElem hk', hb _ (List.getElem_mem hk'), hc k _ (by simp [u64s, hk'])⟩
end
/-! ### A label that is jumped back to -/
def NoExit : Exit → Act → World → Prop := fun _ _ _ => False
theorem jump_mono {P : Program} {c : Code} {l : Nat} {J J' : Act → World → Prop} {Q : Exit → Act → World → Prop} {a : Act} {w : World} (h : c.wp P (Exit.jump l J Q) a w) (hJ : ∀ a w, J a w → J' a w) : c.wp P (Exit.jump l J' Q) a w := by
  refine Code.wp_mono (fun e a w h => ?_) h
  cases e with
  | goto k =>
    exact ⟨h.1, hJ _ _ h.2⟩
  | _ => exact h
theorem wp_scope_goto {P : Program} {Q : Exit → Act → World → Prop} {a : Act} {w : World} {c pre rest : Code} (l : Nat) (J : Act → World → Prop) (μ : Act → World → Nat) (hc : c = pre.seq ((Code.label l).seq rest)) (hf : findLabel pre l = none)
    (first : pre.wp P (Exit.then J NoExit) a w)
    (pass : ∀ a w, J a w → rest.wp P (Exit.jump l (fun a' w' => J a' w' ∧ μ a' w' < μ a w) Q) a w) : (Code.scope c).wp P Q a w := by
  subst hc
  refine wp_scope_jumps l J μ (rest := Code.skip.seq rest) (by simp [findLabel, hf]) ?_ (fun a w h => Go.wp_seq (Go.wp_skip (pass a w h)))
  refine Go.wp_seq (Code.wp_mono (fun e a w h => ?_) first)
  cases e with
  | normal => exact Go.wp_seq (Go.wp_label (jump_mono (pass a w h) fun _ _ h => h.1))
  | _ => exact False.elim h
theorem wp_scope_goto0 {P : Program} {Q : Exit → Act → World → Prop} {a : Act} {w : World} {c rest : Code} (l : Nat) (J : Act → World → Prop) (μ : Act → World → Nat) (hc : c = (Code.label l).seq rest)
    (first : J a w) (pass : ∀ a w, J a w → rest.wp P (Exit.jump l (fun a' w' => J a' w' ∧ μ a' w' < μ a w) Q) a w) : (Code.scope c).wp P Q a w := by
  subst hc
  refine wp_scope_jumps l J μ (rest := Code.skip.seq rest) (by simp [findLabel]) ?_ (fun a w h => Go.wp_seq (Go.wp_skip (pass a w h)))
  exact Go.wp_seq (Go.wp_label (jump_mono (pass a w first) fun _ _ h => h.1))
end Go.Proofs.Ytkknfnjojamgjaa
