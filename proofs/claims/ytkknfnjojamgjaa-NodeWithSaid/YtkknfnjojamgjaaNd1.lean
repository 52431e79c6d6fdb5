/- Nodes: what one node tells: K, Level, Prefix, slots, at, Covers. -/
import Derived.Test.YtkknfnjojamgjaaNode
set_option linter.unusedSimpArgs false
set_option linter.unusedVariables false
namespace Go.Proofs.Ytkknfnjojamgjaa
open Go.RowKit
/-- A node's own block. -/
theorem NodeOf.head {w : World} {k g : Nat} {lv : Int} {pre : List Nat} {es : List Ent} (h : NodeOf w k g lv pre es) :
    ∃ A c v kids, Blk w g 139 (nodeCells lv A k c v kids (sumsOf es)) ∧ Pt w A k pre ∧ k ≤ c ∧
      ((kids = none ∧ lv = -1 ∧ es = [(pre, v)]) ∨
       (v = 0 ∧ ∃ (gs : Nat) (m : Nat) (ks : List Kid), kids = some ⟨gs, 0, none⟩ ∧ lv = (m : Int) ∧ m < 64 ∧ es = kidEs ks ∧ SlotsAt_n w gs k (kidTh ks) ∧ 2 ≤ ks.length ∧ (∀ b, b ≤ m → addrOf pre b = 0) ∧ (ks.Pairwise fun q r => q.at_ < r.at_) ∧
        ∀ q ∈ ks, NodeOf w k q.blk q.lv q.pre q.es ∧ q.lv < lv ∧ addrOf q.pre m = q.at_ ∧ ∀ b, m < b → addrOf q.pre b = addrOf pre b)) := by
  cases h with
  | leaf hv hp hc hB =>
    refine ⟨_, _, _, none, ?_, hp, hc, .inl ⟨rfl, rfl, rfl⟩⟩
    rw [sumsOf_one _ _ hv]
    exact hB
  | fork ks hlv hp hc hz hk hl ha hs h2 hS hB =>
    exact ⟨_, _, 0, _, hB, hp, hc, .inr ⟨rfl, _, _, ks, rfl, rfl, hlv, rfl, hS, h2, hz, hs, fun q hq => ⟨hk q hq, hl q hq, ha q hq⟩⟩⟩
set_option maxHeartbeats 1000000 in
set_option maxRecDepth 100000 in
theorem nd_k {w : World} {k g : Nat} {lv : Int} {pre : List Nat} {es : List Ent} (h : NodeOf w k g lv pre es) :
    Calls Try.prog 56 #[.pointer (some ⟨g, 0, none⟩)] w fun e w' => e = .returned (.int .i64 (k : Nat)) ∧ w = w' := by
  obtain ⟨A, c, v, kids, hB, -⟩ := h.head
  have c1 := hB.cell 1
  simp [nodeCells] at c1
  clear hB h
  go_enter Try.func56, Try.ntmps56
  go_wp2
  go_ret
  exact ⟨rfl, rfl⟩
set_option maxHeartbeats 1000000 in
set_option maxRecDepth 100000 in
theorem nd_level {w : World} {k g : Nat} {lv : Int} {pre : List Nat} {es : List Ent} (h : NodeOf w k g lv pre es) :
    Calls Try.prog 42 #[.pointer (some ⟨g, 0, none⟩)] w fun e w' => e = .returned (.int .i64 lv) ∧ w = w' := by
  obtain ⟨A, c, v, kids, hB, -⟩ := h.head
  have c1 := hB.cell 0
  simp [nodeCells] at c1
  clear hB h
  go_enter Try.func42, Try.ntmps42
  go_wp2
  go_ret
  exact ⟨rfl, rfl⟩
set_option maxHeartbeats 1000000 in
set_option maxRecDepth 100000 in
theorem nd_prefix {w : World} {k g : Nat} {lv : Int} {pre : List Nat} {es : List Ent} (h : NodeOf w k g lv pre es) (hk : k ≤ 16) :
    Calls Try.prog 43 #[.pointer (some ⟨g, 0, none⟩)] w fun e w' => ∃ v, e = .returned v ∧ w'.ownsRow w.heap.size 28 1 v k (u64s pre) ∧ Below w.heap.size w w' := by
  obtain ⟨A, c, v, kids, hB, hp, -⟩ := h.head
  have c1 := hB.cell 1
  simp [nodeCells] at c1
  have HC := hide (clone_u64 A k c pre w hp (by omega))
  clear hB h hp
  go_enter Try.func43, Try.ntmps43
  go_wp2_with fail
  refine HC.out.mono ?_
  rintro e w1 ⟨v1, rfl, ho, hb⟩
  have HO := hide ho
  clear ho
  go_wp2
  go_ret
  exact ⟨v1, rfl, HO.out, hb⟩
set_option maxHeartbeats 1000000 in
set_option maxRecDepth 100000 in
theorem nd_slots {w : World} {g : Nat} {lv : Int} {A : Option Addr} {k c v : Nat} {kids : Option Addr} {s : Sum4} (hB : Blk w g 139 (nodeCells lv A k c v kids s)) :
    Calls Try.prog 104 #[.pointer (some ⟨g, 0, none⟩)] w fun e w' => e = .returned (.pointer kids) ∧ w = w' := by
  have c1 := hB.cell 3
  simp [nodeCells] at c1
  clear hB
  go_enter Try.func104, Try.ntmps104
  go_wp2
  go_ret
  exact ⟨rfl, rfl⟩
set_option maxHeartbeats 1000000 in
set_option maxRecDepth 100000 in
theorem nd_at {w : World} {k g : Nat} {lv : Int} {pre : List Nat} {es : List Ent} (h : NodeOf w k g lv pre es) (hk1 : 1 ≤ k) (hk : k ≤ 16) (m : Nat) (hm : m < 64) :
    Calls Try.prog 95 #[.pointer (some ⟨g, 0, none⟩), .int .i64 (m : Nat)] w fun e w' => e = .returned (.int .i64 (addrOf pre m : Nat)) ∧ w = w' := by
  obtain ⟨A, c, v, kids, hB, hp, -⟩ := h.head
  have c1 := hB.cell 1
  simp [nodeCells] at c1
  have HC := hide (zb_addr A k pre c m w hp hk1 hk hm)
  clear hB h hp
  go_enter Try.func95, Try.ntmps95
  go_wp2_with fail
  refine HC.out.mono ?_
  rintro e w1 ⟨rfl, rfl⟩
  go_wp2
  go_ret
  exact ⟨rfl, rfl⟩
set_option maxHeartbeats 1000000 in
set_option maxRecDepth 100000 in
theorem nd_covers {w : World} {k g : Nat} {lv : Int} {pre : List Nat} {es : List Ent} (h : NodeOf w k g lv pre es) (hk1 : 1 ≤ k) (hk : k ≤ 16) {B : Option Addr} {d : Nat} {q : List Nat} (hq : Pt w B k q) :
    Calls Try.prog 40 #[.pointer (some ⟨g, 0, none⟩), .slice B k d] w fun e w' => e = .returned (.bool (decide (part pre q ≤ lv))) ∧ w = w' := by
  obtain ⟨A, c, v, kids, hB, hp, -⟩ := h.head
  have c0 := hB.cell 0
  have c1 := hB.cell 1
  simp [nodeCells] at c0 c1
  have HC := hide (zb_part A B k c d pre q w hp hq hk1 hk)
  clear hB h hp hq
  go_enter Try.func40, Try.ntmps40
  go_wp2_with fail
  refine HC.out.mono ?_
  rintro e w1 ⟨rfl, rfl⟩
  go_wp2
  go_ret
  exact ⟨rfl, rfl⟩
set_option maxHeartbeats 1000000 in
set_option maxRecDepth 100000 in
theorem nd_covers_bad {w : World} {k g : Nat} {lv : Int} {pre : List Nat} {es : List Ent} (h : NodeOf w k g lv pre es) {B : Option Addr} {n d : Nat} (hn : k ≠ n) :
    Calls Try.prog 40 #[.pointer (some ⟨g, 0, none⟩), .slice B n d] w fun e w' => e = .returned (.bool false) ∧ w = w' := by
  obtain ⟨A, c, v, kids, hB, hp, -⟩ := h.head
  have c0 := hB.cell 0
  have c1 := hB.cell 1
  simp [nodeCells] at c0 c1
  have HC := hide (zb_part_bad A B k c n d w (.inr hn))
  clear hB h hp
  go_enter Try.func40, Try.ntmps40
  go_wp2_with fail
  refine HC.out.mono ?_
  rintro e w1 ⟨rfl, rfl⟩
  go_wp2
  go_ret
  exact ⟨rfl, rfl⟩
end Go.Proofs.Ytkknfnjojamgjaa
