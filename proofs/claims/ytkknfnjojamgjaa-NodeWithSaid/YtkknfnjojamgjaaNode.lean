/- Nodes: what a node of the program holds, as a list of entries. -/
import Derived.Test.YtkknfnjojamgjaaSlAllN
import Derived.Test.YtkknfnjojamgjaaZsum
import Derived.Test.YtkknfnjojamgjaaZd
set_option linter.unusedSimpArgs false
set_option linter.unusedVariables false
namespace Go.Proofs.Ytkknfnjojamgjaa
open Go.RowKit
/-- A kid: where it hangs, its block, its level, its prefix, its entries. -/
structure Kid where
  at_ : Nat
  blk : Nat
  lv : Int
  pre : List Nat
  es : List Ent
def kidTh (ks : List Kid) : Th := ks.map fun q => (q.at_, Value.pointer (some ⟨q.blk, 0, none⟩))
def kidEs (ks : List Kid) : List Ent := ks.flatMap (·.es)
/-- The node's block. -/
def nodeCells (lv : Int) (A : Option Addr) (k c : Nat) (v : Nat) (kids : Option Addr) (s : Sum4) : Array Value :=
  #[.int .i64 lv, .slice A k c, .int .u64 (v : Int), .pointer kids, .int .u64 (s.c : Int), .int .u64 (s.s : Int), .int .u64 (s.mn : Int), .int .u64 (s.mx : Int)]
/-- Block g is a node of k coordinates, with level, prefix and entries. -/
inductive NodeOf (w : World) (k : Nat) : Nat → Int → List Nat → List Ent → Prop
  | leaf {g : Nat} {A : Option Addr} {c : Nat} {p : List Nat} {v : Nat} (hv : v < 2 ^ 64) (hp : Pt w A k p) (hc : k ≤ c)
      (hB : Blk w g 139 (nodeCells (-1) A k c v none ⟨1, v, v, v⟩)) : NodeOf w k g (-1) p [(p, v)]
  | fork {g : Nat} {A : Option Addr} {c lv : Nat} {pre : List Nat} {gs : Nat} (ks : List Kid) (hlv : lv < 64) (hp : Pt w A k pre) (hc : k ≤ c)
      (hz : ∀ b, b ≤ lv → addrOf pre b = 0) (hk : ∀ q ∈ ks, NodeOf w k q.blk q.lv q.pre q.es) (hl : ∀ q ∈ ks, q.lv < lv)
      (ha : ∀ q ∈ ks, addrOf q.pre lv = q.at_ ∧ ∀ b, lv < b → addrOf q.pre b = addrOf pre b) (hs : ks.Pairwise fun q r => q.at_ < r.at_) (h2 : 2 ≤ ks.length)
      (hS : SlotsAt_n w gs k (kidTh ks)) (hB : Blk w g 139 (nodeCells lv A k c 0 (some ⟨gs, 0, none⟩) (sumsOf (kidEs ks)))) : NodeOf w k g lv pre (kidEs ks)
theorem NodeOf.stay {w w' : World} {k g : Nat} {lv : Int} {pre : List Nat} {es : List Ent} (h : NodeOf w k g lv pre es) (hb : Below w.heap.size w w') : NodeOf w' k g lv pre es := by
  induction h with
  | leaf hv hp hc hB => exact .leaf hv (hp.below hb) hc (hB.below hb)
  | fork ks hlv hp hc hz hk hl ha hs h2 hS hB ih => exact .fork ks hlv (hp.below hb) hc hz ih hl ha hs h2 (hS.below hb) (hB.below hb)
theorem Pt.zp {w : World} {A : Option Addr} {k : Nat} {p : List Nat} (h : Pt w A k p) : Zp k p := ⟨h.1, h.2.2⟩
/-- What is told of a node's entries. -/
theorem NodeOf.info {w : World} {k g : Nat} {lv : Int} {pre : List Nat} {es : List Ent} (h : NodeOf w k g lv pre es) :
    Zp k pre ∧ es ≠ [] ∧ -1 ≤ lv ∧ lv < 64 ∧ (∀ e ∈ es, Zp k e.1 ∧ e.2 < 2 ^ 64 ∧ ∀ b : Nat, lv < b → addrOf e.1 b = addrOf pre b) ∧ Zsorted es ∧ g < w.heap.size := by
  induction h with
  | leaf hv hp hc hB =>
    refine ⟨hp.zp, by simp, by omega, by omega, fun e he => ?_, List.pairwise_singleton _ _, hB.lt⟩
    rw [List.mem_singleton] at he
    subst he
    exact ⟨hp.zp, hv, fun _ _ => rfl⟩
  | @fork g A c lv pre gs ks hlv hp hc hz hk hl ha hs h2 hS hB ih =>
    refine ⟨hp.zp, ?_, by omega, by omega, fun e he => ?_, ?_, hB.lt⟩
    · obtain ⟨q, qs, rfl⟩ := List.exists_cons_of_length_pos (show 0 < ks.length by omega)
      have := (ih q List.mem_cons_self).2.1
      unfold kidEs
      rw [List.flatMap_cons]
      intro h0
      exact this (List.append_eq_nil_iff.1 h0).1
    · obtain ⟨q, hq, he⟩ := List.mem_flatMap.1 he
      obtain ⟨i1, i2, i3, i4, i5, i6⟩ := ih q hq
      obtain ⟨j1, j2, j3⟩ := i5 e he
      refine ⟨j1, j2, fun b hb => ?_⟩
      rw [j3 b (by have := hl q hq; omega)]
      exact (ha q hq).2 b (by omega)
    · unfold kidEs Zsorted
      rw [List.pairwise_flatMap]
      refine ⟨fun q hq => (ih q hq).2.2.2.2.2.1, ?_⟩
      refine hs.imp_of_mem ?_
      intro q r hq hr hqr e he f hf
      obtain ⟨_, _, _, _, i5, _⟩ := ih q hq
      obtain ⟨_, _, _, _, k5, _⟩ := ih r hr
      refine ⟨lv, fun b hb => ?_, ?_⟩
      · rw [(i5 e he).2.2 b (by have := hl q hq; omega), (k5 f hf).2.2 b (by have := hl r hr; omega), (ha q hq).2 b hb, (ha r hr).2 b hb]
      · rw [(i5 e he).2.2 lv (hl q hq), (k5 f hf).2.2 lv (hl r hr), (ha q hq).1, (ha r hr).1]
        exact hqr
end Go.Proofs.Ytkknfnjojamgjaa
