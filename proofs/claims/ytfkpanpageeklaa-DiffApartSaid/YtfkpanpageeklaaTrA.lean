/- Trees: what is told of one; up; found; paths: plain laws. -/
import Derived.Test.YtfkpanpageeklaaNdC
import Derived.Test.YtfkpanpageeklaaLaB
set_option linter.unusedSimpArgs false
set_option linter.unusedVariables false
namespace Go.Proofs.Ytfkpanpageeklaa
open Go.RowKit
/-- A tree of k coordinates with a root. -/
def TreeBlk (w : World) (t k : Nat) (root : Option Addr) : Prop := Blk w t 100 #[.int .i64 (k : Int), .pointer root]
/-- A tree with these entries. -/
def TreeOf (w : World) (k t : Nat) (es : List Ent) : Prop :=
  1 ≤ k ∧ k ≤ 16 ∧ ((TreeBlk w t k none ∧ es = []) ∨ ∃ g lv pre, TreeBlk w t k (some ⟨g, 0, none⟩) ∧ NodeOf w k g lv pre es)
theorem TreeOf.stay {w w' : World} {k t : Nat} {es : List Ent} (h : TreeOf w k t es) (hb : Below w.heap.size w w') : TreeOf w' k t es := by
  obtain ⟨h1, h2, h3⟩ := h
  refine ⟨h1, h2, ?_⟩
  rcases h3 with ⟨h3, h4⟩ | ⟨g, lv, pre, h3, h4⟩
  · exact .inl ⟨Blk.below h3 hb, h4⟩
  · exact .inr ⟨g, lv, pre, Blk.below h3 hb, h4.stay hb⟩
set_option maxHeartbeats 1000000 in
set_option maxRecDepth 100000 in
theorem tr_k {w : World} {t k : Nat} {root : Option Addr} (h : TreeBlk w t k root) : Calls Try.prog 49 #[.pointer (some ⟨t, 0, none⟩)] w fun e w' => e = .returned (.int .i64 (k : Int)) ∧ w = w' := by
  have c0 := Blk.cell h 0
  simp at c0
  clear h
  go_enter Try.func49, Try.ntmps49
  go_wp2
  go_ret
  exact ⟨rfl, rfl⟩
set_option maxHeartbeats 1000000 in
set_option maxRecDepth 100000 in
theorem tr_k_nil (w : World) : Calls Try.prog 49 #[.pointer none] w fun e w' => e = .returned (.int .i64 0) ∧ w = w' := by
  go_enter Try.func49, Try.ntmps49
  go_wp2
  go_ret
  exact ⟨rfl, rfl⟩
set_option maxHeartbeats 1000000 in
set_option maxRecDepth 100000 in
theorem tr_root {w : World} {t k : Nat} {root : Option Addr} (h : TreeBlk w t k root) : Calls Try.prog 30 #[.pointer (some ⟨t, 0, none⟩)] w fun e w' => e = .returned (.pointer root) ∧ w = w' := by
  have c1 := Blk.cell h 1
  simp at c1
  clear h
  go_enter Try.func30, Try.ntmps30
  go_wp2
  go_ret
  exact ⟨rfl, rfl⟩
set_option maxHeartbeats 1000000 in
set_option maxRecDepth 100000 in
theorem tr_root_nil (w : World) : Calls Try.prog 30 #[.pointer none] w fun e w' => e = .returned (.pointer none) ∧ w = w' := by
  go_enter Try.func30, Try.ntmps30
  go_wp2
  go_ret
  exact ⟨rfl, rfl⟩
set_option maxHeartbeats 1000000 in
set_option maxRecDepth 100000 in
theorem tr_of_bad (k : Int) (root : Option Addr) (w : World) (h : k < 1 ∨ 16 < k) : Calls Try.prog 41 #[.int .i64 k, .pointer root] w fun e w' => e = .returned (.tuple #[.pointer none, .int .i64 3]) ∧ w = w' := by
  by_cases h1 : k < 1
  · have e1 : decide (k < 1) = true := by simp; omega
    clear h h1
    go_enter Try.func41, Try.ntmps41
    go_wp2
    go_ret2
    exact ⟨rfl, rfl⟩
  · have e1 : decide (k < 1) = false := by simp; omega
    have e2 : decide ((16 : Int) < k) = true := by simp; omega
    clear h h1
    go_enter Try.func41, Try.ntmps41
    go_wp2
    go_ret2
    exact ⟨rfl, rfl⟩
set_option maxHeartbeats 1000000 in
set_option maxRecDepth 100000 in
theorem tr_of_nil (k : Nat) (w : World) (h1 : 1 ≤ k) (h2 : k ≤ 16) : Calls Try.prog 41 #[.int .i64 (k : Int), .pointer none] w fun e w' => e = .returned (.tuple #[.pointer (some ⟨w.heap.size, 0, none⟩), .int .i64 0]) ∧ TreeBlk w' w.heap.size k none ∧ Below w.heap.size w w' := by
  have e1 : decide ((k : Int) < 1) = false := by simp; omega
  have e2 : decide ((16 : Int) < (k : Int)) = false := by simp; omega
  go_enter Try.func41, Try.ntmps41
  go_wp2
  go_ret2
  exact ⟨rfl, Blk.new w _ _, (Below.refl _ _).alloc (Nat.le_refl _) _⟩
set_option maxHeartbeats 1000000 in
set_option maxRecDepth 100000 in
theorem tr_new (k : Nat) (w : World) (h1 : 1 ≤ k) (h2 : k ≤ 16) : Calls Try.prog 22 #[.int .i64 (k : Int)] w fun e w' => e = .returned (.tuple #[.pointer (some ⟨w.heap.size, 0, none⟩), .int .i64 0]) ∧ TreeBlk w' w.heap.size k none ∧ Below w.heap.size w w' := by
  have HO := hide (tr_of_nil k w h1 h2)
  go_enter Try.func22, Try.ntmps22
  go_wp2_with fail
  refine HO.out.mono ?_
  rintro e w1 ⟨rfl, hB, hb⟩
  have HB := hide hB
  clear hB
  go_wp2
  go_ret2
  exact ⟨rfl, HB.out, hb⟩
set_option maxHeartbeats 1000000 in
set_option maxRecDepth 100000 in
theorem tr_new_bad (k : Int) (w : World) (h : k < 1 ∨ 16 < k) : Calls Try.prog 22 #[.int .i64 k] w fun e w' => e = .returned (.tuple #[.pointer none, .int .i64 3]) ∧ w = w' := by
  have HO := hide (tr_of_bad k none w h)
  clear h
  go_enter Try.func22, Try.ntmps22
  go_wp2_with fail
  refine HO.out.mono ?_
  rintro e w1 ⟨rfl, rfl⟩
  go_wp2
  go_ret2
  exact ⟨rfl, rfl⟩
set_option maxHeartbeats 1000000 in
set_option maxRecDepth 100000 in
theorem tr_check_nil (A : Option Addr) (n c : Nat) (w : World) : Calls Try.prog 42 #[.pointer none, .slice A n c] w fun e w' => e = .returned (.int .i64 1) ∧ w = w' := by
  go_enter Try.func42, Try.ntmps42
  go_wp2
  go_ret
  exact ⟨rfl, rfl⟩
set_option maxHeartbeats 1000000 in
set_option maxRecDepth 100000 in
theorem tr_check_dim {w : World} {t k : Nat} {root : Option Addr} (h : TreeBlk w t k root) (A : Option Addr) (n c : Nat) (hn : n ≠ k) : Calls Try.prog 42 #[.pointer (some ⟨t, 0, none⟩), .slice A n c] w fun e w' => e = .returned (.int .i64 2) ∧ w = w' := by
  have c0 := Blk.cell h 0
  simp at c0
  have e1 : ((n : Int) != (k : Int)) = true := by simp; omega
  clear h hn
  go_enter Try.func42, Try.ntmps42
  go_wp2
  go_ret
  exact ⟨rfl, rfl⟩
set_option maxHeartbeats 1000000 in
set_option maxRecDepth 100000 in
theorem tr_check {w : World} {t k : Nat} {root : Option Addr} (h : TreeBlk w t k root) (A : Option Addr) (c : Nat) : Calls Try.prog 42 #[.pointer (some ⟨t, 0, none⟩), .slice A k c] w fun e w' => e = .returned (.int .i64 0) ∧ w = w' := by
  have c0 := Blk.cell h 0
  simp at c0
  clear h
  go_enter Try.func42, Try.ntmps42
  go_wp2
  go_ret
  exact ⟨rfl, rfl⟩
set_option maxHeartbeats 1000000 in
set_option maxRecDepth 100000 in
theorem tr_get_nil (A : Option Addr) (n c : Nat) (w : World) : Calls Try.prog 26 #[.pointer none, .slice A n c] w fun e w' => e = .returned (.tuple #[.int .u64 0, .bool false, .int .i64 1]) ∧ w = w' := by
  go_enter Try.func26, Try.ntmps26
  go_wp2_with fail
  refine (tr_check_nil _ _ _ _).mono ?_
  rintro e w1 ⟨rfl, rfl⟩
  go_wp2
  go_ret3
  exact ⟨rfl, rfl⟩
set_option maxHeartbeats 1000000 in
set_option maxRecDepth 100000 in
theorem tr_put_nil (A : Option Addr) (n c : Nat) (v : Int) (w : World) : Calls Try.prog 23 #[.pointer none, .slice A n c, .int .u64 v] w fun e w' => e = .returned (.tuple #[.pointer none, .int .i64 1]) ∧ w = w' := by
  go_enter Try.func23, Try.ntmps23
  go_wp2_with fail
  refine (tr_check_nil _ _ _ _).mono ?_
  rintro e w1 ⟨rfl, rfl⟩
  go_wp2
  go_ret2
  exact ⟨rfl, rfl⟩
set_option maxHeartbeats 1000000 in
set_option maxRecDepth 100000 in
theorem tr_del_nil (A : Option Addr) (n c : Nat) (w : World) : Calls Try.prog 50 #[.pointer none, .slice A n c] w fun e w' => e = .returned (.tuple #[.pointer none, .int .i64 1]) ∧ w = w' := by
  go_enter Try.func50, Try.ntmps50
  go_wp2_with fail
  refine (tr_check_nil _ _ _ _).mono ?_
  rintro e w1 ⟨rfl, rfl⟩
  go_wp2
  go_ret2
  exact ⟨rfl, rfl⟩
set_option maxHeartbeats 1000000 in
set_option maxRecDepth 100000 in
theorem tr_down {w : World} {k g m : Nat} {pre : List Nat} {ks : List Kid} (h : Fork w k g m pre ks) (hk1 : 1 ≤ k) (hk : k ≤ 16) {A : Option Addr} {c : Nat} {p : List Nat} (hp : Pt w A k p) :
    Calls Try.prog 72 #[.pointer (some ⟨g, 0, none⟩), .slice A k c] w fun e w' => e = .returned ((getTh (kidTh ks) (addrOf p m : Int)).getD (.pointer none)) ∧ Below w.heap.size w w' := by
  have hm : m < 64 := by obtain ⟨_, _, _, h1, _⟩ := h; exact h1
  obtain ⟨A', c', gs, hp', hS, hB⟩ := h.head
  have HL := hide (nd_level h.node)
  have HA := hide (zb_addr A k p c m w hp hk1 hk hm)
  have HK := hide (nd_kid hB hS (addrOf p m : Int))
  have hv : ∃ x, (getTh (kidTh ks) (addrOf p m : Int)).getD (.pointer none) = .pointer x := by
    cases hg : getTh (kidTh ks) (addrOf p m : Int) with
    | none => exact ⟨none, rfl⟩
    | some v =>
      obtain ⟨i, t, h1, h2⟩ := getTh_idx hg
      have ht := List.mem_of_getElem? h1
      have := getTh_some hS.ok ht
      rw [h2, hg] at this
      injection this with this
      obtain ⟨q, hq, rfl⟩ := List.mem_map.1 ht
      exact ⟨_, by rw [this]; rfl⟩
  obtain ⟨x, hx⟩ := hv
  rw [hx] at HK ⊢
  clear h hp hp' hS hB hx
  go_enter Try.func72, Try.ntmps72
  go_wp2_with fail
  refine HL.out.mono ?_
  rintro e w1 ⟨rfl, rfl⟩
  go_wp2_with fail
  refine HA.out.mono ?_
  rintro e w1 ⟨rfl, rfl⟩
  go_wp2_with fail
  refine HK.out.mono ?_
  rintro e w1 ⟨rfl, hb1⟩
  go_wp2
  go_ret
  exact ⟨rfl, hb1⟩
set_option maxHeartbeats 1000000 in
set_option maxRecDepth 100000 in
theorem tr_found_none (A : Option Addr) (c : Nat) (w : World) : Calls Try.prog 44 #[.slice A 0 c] w fun e w' => e = .returned (.tuple #[.agg #[.slice none 0 0, .int .u64 0], .bool false]) ∧ Below w.heap.size w w' := by
  have b1 := (Below.refl w.heap.size w).alloc (Nat.le_refl _) (.cells #[.slice none 0 0, .int .u64 0] 63)
  have hN := Blk.new w 63 #[.slice none 0 0, .int .u64 0]
  have z0 := hN.frozen 0
  have z1 := hN.frozen 1
  have e2 := (hN.set1 (i := 0) (.slice none 0 0)).set1 (i := 1) (.int .u64 0)
  have b2 := ((b1.setCell (p := ⟨w.heap.size, 0, none⟩) (Nat.le_refl _) (.slice none 0 0)).setCell (p := ⟨w.heap.size, 1, none⟩) (Nat.le_refl _) (.int .u64 0))
  have g0 := e2.cell 0
  have g1 := e2.cell 1
  simp at g0 g1
  have HB2 := hide b2
  have HB1 := hide b1
  clear hN e2 b2
  go_enter Try.func44, Try.ntmps44
  go_wp2
  first
    | refine bodyPost_ret (v := .tuple #[.agg #[.slice none 0 0, .int .u64 0], .bool false]) (by simp [results, Try.results44, go_sem, g0, g1]) rfl ⟨rfl, HB2.out⟩
    | refine bodyPost_ret (v := .tuple #[.agg #[.slice none 0 0, .int .u64 0], .bool false]) (by simp [results, Try.results44, go_sem]) rfl ⟨rfl, HB1.out⟩
/-- A fork on a path. -/
structure PF where
  g : Nat
  lv : Nat
  pre : List Nat
  ks : List Kid
/-- What a node tells: its level, prefix, entries. -/
structure NT where
  lv : Int
  pre : List Nat
  es : List Ent
/-- The node that hangs at the path's head, when another one hangs at its end. -/
def upN : List PF → NT → NT
  | [], n => n
  | f :: fs, n => ⟨f.lv, f.pre, kidEs (insK f.ks ⟨addrOf (upN fs n).pre f.lv, 0, (upN fs n).lv, (upN fs n).pre, (upN fs n).es⟩)⟩
def ChainOk : List PF → NT → Prop
  | [], _ => True
  | f :: fs, n => ChainOk fs n ∧ part f.pre (upN fs n).pre ≤ (f.lv : Int) ∧ (upN fs n).lv < (f.lv : Int)
theorem kidEs_blk (ks : List Kid) (a g g' : Nat) (l : Int) (p : List Nat) (es : List Ent) : kidEs (insK ks ⟨a, g, l, p, es⟩) = kidEs (insK ks ⟨a, g', l, p, es⟩) := by
  unfold kidEs insK
  simp
theorem chain_drop : ∀ (fs : List PF) (n : NT) (i : Nat), ChainOk fs n → ChainOk (fs.drop i) n
  | fs, n, 0, h => by simpa using h
  | [], n, i + 1, h => by simpa using h
  | f :: fs, n, i + 1, h => by simpa using chain_drop fs n i h.1
set_option maxHeartbeats 2000000 in
set_option maxRecDepth 100000 in
theorem tr_up {w : World} {t k g0 : Nat} {root : Option Addr} (fs : List PF) (n0 : NT) (A : Option Addr) (m c : Nat) (hT : TreeBlk w t k root) (hk1 : 1 ≤ k) (hk : k ≤ 16) (hA : Rw w 1 A m (ptrs (fs.map (·.g)))) (hm : fs.length = m) (hm100 : m ≤ 1000)
    (hF : ∀ f ∈ fs, Fork w k f.g f.lv f.pre f.ks) (hn : NodeOf w k g0 n0.lv n0.pre n0.es) (hc : ChainOk fs n0) :
    Calls Try.prog 47 #[.pointer (some ⟨t, 0, none⟩), .slice A m c, .pointer (some ⟨g0, 0, none⟩)] w fun e w' => ∃ t' g', e = .returned (.pointer (some ⟨t', 0, none⟩)) ∧ w.heap.size ≤ t' ∧ TreeBlk w' t' k (some ⟨g', 0, none⟩) ∧ NodeOf w' k g' (upN fs n0).lv (upN fs n0).pre (upN fs n0).es ∧ Below w.heap.size w w' := by
  have HT := hide hT
  have HA := hide hA
  have HF := hide hF
  have HN := hide hn
  have HC := hide hc
  have HM := hide hm
  have ew : IntKind.i64.wrap ((m : Int) - 1) = (m : Int) - 1 := by rw [IntKind.wrap_i64]; omega
  clear hT hA hF hn hc hm
  go_enter Try.func47, Try.ntmps47
  go_wp2
  go_loopw [2, 7] (fun x2 x7 wr => ∃ (i gc : Nat), x7 = .int .i64 ((i : Int) - 1) ∧ i ≤ m ∧ x2 = .pointer (some ⟨gc, 0, none⟩) ∧ NodeOf wr k gc (upN (fs.drop i) n0).lv (upN (fs.drop i) n0).pre (upN (fs.drop i) n0).es ∧ Below w.heap.size w wr) (fun _ x _ => (intOf x + 1).toNat)
  case atStart =>
    refine ⟨m, g0, rfl, Nat.le_refl _, rfl, ?_, Below.refl _ _⟩
    rw [List.drop_of_length_le (by have := HM.out; omega)]
    exact HN.out
  case round =>
    obtain ⟨i, gc, rfl, hi, rfl, hN, hb⟩ := hrel
    have HNN := hide hN
    clear hN
    rcases Nat.eq_zero_or_pos i with rfl | hi0
    · have t0 := Blk.cell (Blk.below HT.out hb) 0
      simp at t0
      go_wp2
      go_ret
      refine ⟨_, gc, rfl, hb.size, Blk.new _ _ _, HNN.out.stay ((Below.refl _ _).alloc (Nat.le_refl _) _), below_alloc hb (Nat.le_refl _) _⟩
    · obtain ⟨j, rfl⟩ : ∃ j, i = j + 1 := ⟨i - 1, by omega⟩
      have hjl : j < fs.length := by have := HM.out; omega
      obtain ⟨b, o, rfl, hbl, u, hu, k0⟩ := (HA.out.below hb).one (i := j) (by omega)
      have hfj : fs[j]? = some fs[j] := List.getElem?_eq_getElem hjl
      have hd : fs.drop j = fs[j] :: fs.drop (j + 1) := List.drop_eq_getElem_cons hjl
      generalize fs[j] = f at *
      unfold ptrs at hu
      rw [List.map_map, List.getElem?_map, hfj] at hu
      simp at hu
      rw [← hu] at k0
      have hch := chain_drop fs n0 j HC.out
      rw [hd] at hch
      have hW := nd_with ((HF.out f (List.mem_of_getElem? hfj)).stay hb) HNN.out hk1 hk hch.2.1 hch.2.2
      have HW := hide hW
      have HD := hide hd
      have e0 : ((j + 1 : Nat) : Int) - 1 = (j : Int) := by omega
      rw [e0]
      have ej : (0 : Int) ≤ (j : Int) := by omega
      have ejm : (j : Int) < (m : Int) := by omega
      have ejn : j < m := by omega
      clear hu hfj hd hch hW e0
      go_wp2_with fail
      refine HW.out.mono ?_
      rintro e w2 ⟨gn, rfl, hFn, hgn, hb2⟩
      have HFn := hide hFn
      clear hFn HW
      go_wp2
      go_roundw
      case rel =>
        refine ⟨j, gn, by go_num, by omega, rfl, ?_, below_then hb hb2⟩
        rw [HD.out]
        have := HFn.out.node
        rw [kidEs_blk _ _ _ 0] at this
        exact this
      case measure => simp [intOf]
set_option maxHeartbeats 2000000 in
set_option maxRecDepth 100000 in
/-- found, over what the last node's Entry tells. -/
theorem tr_found_some (A : Option Addr) (n c g : Nat) (gs : List Nat) (w : World) (hA : Rw w 1 A n (ptrs gs)) (hn1 : 1 ≤ n) (hn : n ≤ 1000) (hg : gs[n - 1]? = some g) (k v : Nat) (ok : Bool)
    (hE : ∀ W, Below w.heap.size w W → Calls Try.prog 73 #[.pointer (some ⟨g, 0, none⟩)] W fun e w' => (∃ B d, e = .returned (.tuple #[.agg #[.slice B k d, .int .u64 (v : Int)], .bool ok])) ∧ Below W.heap.size W w') :
    Calls Try.prog 44 #[.slice A n c] w fun e w' => (∃ B d, e = .returned (.tuple #[.agg #[.slice B k d, .int .u64 (v : Int)], .bool ok])) ∧ Below w.heap.size w w' := by
  have b1 := (Below.refl w.heap.size w).alloc (Nat.le_refl _) (.cells #[.slice none 0 0, .int .u64 0] 63)
  have hN := Blk.new w 63 #[.slice none 0 0, .int .u64 0]
  obtain ⟨i, hi⟩ : ∃ i, i = n - 1 := ⟨_, rfl⟩
  rw [← hi] at hg
  obtain ⟨b, o, rfl, hbl, u, hu, k0⟩ := (hA.below b1).one (i := i) (by omega)
  unfold ptrs at hu
  rw [List.getElem?_map, hg] at hu
  simp at hu
  rw [← hu] at k0
  have HE := hide (hE _ b1)
  have HN := hide hN
  have e2 : (n : Int) - 1 = (i : Int) := by omega
  have hin : i < n := by omega
  have hi0 : (0 : Int) ≤ (i : Int) := by omega
  have hi7 : (i : Int) ≤ 70368744177664 := by omega
  have e5 : IntKind.i64.wrap (i : Int) = (i : Int) := by rw [IntKind.wrap_i64]; omega
  have e6 : wrap64 (i : Int) = (i : Int) := by unfold wrap64; omega
  have hin' : (i : Int) < (n : Int) := by omega
  have ne0 : ((n : Int) == 0) = false := by simp; omega
  clear hA hg hu hE hN hi
  go_enter Try.func44, Try.ntmps44
  go_wp2_with fail
  refine HE.out.mono ?_
  rintro e w2 ⟨⟨B, d, rfl⟩, hb2⟩
  have hN2 := HN.out.below hb2
  have z0 := hN2.frozen 0
  have z1 := hN2.frozen 1
  have y0 := hN2.cell 0
  have y1 := hN2.cell 1
  simp at y0 y1
  have c2 := below_then b1 hb2
  have e3 := (hN2.set1 (i := 0) (.slice B k d)).set1 (i := 1) (.int .u64 (v : Int))
  have b3 := ((c2.setCell (p := ⟨w.heap.size, 0, none⟩) (Nat.le_refl _) (.slice B k d)).setCell (p := ⟨w.heap.size, 1, none⟩) (Nat.le_refl _) (.int .u64 (v : Int)))
  have g0 := e3.cell 0
  have g1 := e3.cell 1
  simp at g0 g1
  have HB3 := hide b3
  clear hN2 e3 b3
  go_wp2
  refine bodyPost_ret (v := .tuple #[.agg #[.slice B k d, .int .u64 (v : Int)], .bool ok]) (by simp [results, Try.results44, go_sem, g0, g1]) rfl ⟨⟨B, d, rfl⟩, HB3.out⟩
theorem part_le_iff {k : Nat} {p q : List Nat} (hp : Zp k p) (hq : Zp k q) (m : Int) (hm : -1 ≤ m) : part p q ≤ m ↔ ∀ b : Nat, m < (b : Int) → addrOf p b = addrOf q b := by
  obtain ⟨h1, h2, h3, h4⟩ := part_spec p q (by rw [hp.1, hq.1]) hp.2 hq.2
  constructor
  · intro h b hb
    exact h3 b (by omega)
  · intro h
    rcases Int.lt_or_le m (part p q) with h5 | h5
    · exact absurd (h (part p q).toNat (by omega)) (h4 (by omega))
    · exact h5
/-- What is told of a fork, with no world in sight. -/
structure FK (k : Nat) (f : PF) : Prop where
  lv : f.lv < 64
  pre : Zp k f.pre
  ksz : ∀ q ∈ f.ks, Zp k q.pre
  at_ : ∀ q ∈ f.ks, addrOf q.pre f.lv = q.at_ ∧ ∀ b, f.lv < b → addrOf q.pre b = addrOf f.pre b
  low : ∀ q ∈ f.ks, q.lv < f.lv
  up : ∀ q ∈ f.ks, -1 ≤ q.lv
  es : ∀ q ∈ f.ks, ∀ e ∈ q.es, Zp k e.1 ∧ addrOf e.1 f.lv = q.at_ ∧ ∀ b, f.lv < b → addrOf e.1 b = addrOf f.pre b
  sort : f.ks.Pairwise fun q r => q.at_ < r.at_
  two : 2 ≤ f.ks.length
theorem Fork.fk {w : World} {k : Nat} {f : PF} (h : Fork w k f.g f.lv f.pre f.ks) : FK k f := by
  obtain ⟨A, c, gs, h1, h2, h3, h4, h5, h6, h7, h8, h9, h10, h11⟩ := h
  refine ⟨h1, h2.zp, fun q hq => (h5 q hq).info.1, h7, h6, fun q hq => (h5 q hq).info.2.2.1, fun q hq e he => ?_, h8, h9⟩
  obtain ⟨i1, i2, i3, i4, i5, i6⟩ := (h5 q hq).info
  obtain ⟨j1, j2, j3⟩ := i5 e he
  have hl := h6 q hq
  refine ⟨j1, ?_, fun b hb => ?_⟩
  · rw [j3 f.lv hl, (h7 q hq).1]
  · rw [j3 b (by omega), (h7 q hq).2 b hb]
def PF.nt (f : PF) : NT := ⟨f.lv, f.pre, kidEs f.ks⟩
def kidAt (ks : List Kid) (a : Nat) : Option (Nat × NT) := (ks.find? fun q => decide (q.at_ = a)).map fun q => (q.blk, ⟨q.lv, q.pre, q.es⟩)
def esOf : Option (Nat × NT) → List Ent
  | none => []
  | some x => x.2.es
theorem kidAt_none {ks : List Kid} {a : Nat} (h : kidAt ks a = none) : ∀ q ∈ ks, q.at_ ≠ a := by
  unfold kidAt at h
  rw [Option.map_eq_none_iff, List.find?_eq_none] at h
  intro q hq hqa
  exact h q hq (by simpa using hqa)
theorem kidAt_some {ks : List Kid} {a : Nat} {x : Nat × NT} (h : kidAt ks a = some x) : ∃ q ∈ ks, q.at_ = a ∧ x = (q.blk, ⟨q.lv, q.pre, q.es⟩) := by
  unfold kidAt at h
  obtain ⟨q, hq, rfl⟩ := Option.map_eq_some_iff.1 h
  exact ⟨q, List.mem_of_find?_eq_some hq, by simpa using List.find?_some hq, rfl⟩
/-- The forks on a point's path, and what hangs where they end. -/
def Way (p : List Nat) : List PF → Option (Nat × NT) → Option (Nat × NT) → Prop
  | [], top, bot => top = bot
  | f :: fs, top, bot => top = some (f.g, f.nt) ∧ part f.pre p ≤ (f.lv : Int) ∧ Way p fs (kidAt f.ks (addrOf p f.lv)) bot
theorem Way.snoc {p : List Nat} : ∀ {fs : List PF} {top bot : Option (Nat × NT)} {f : PF}, Way p fs top bot → bot = some (f.g, f.nt) → part f.pre p ≤ (f.lv : Int) → Way p (fs ++ [f]) top (kidAt f.ks (addrOf p f.lv))
  | [], top, bot, f, h, hb, hc => ⟨by rw [show top = bot from h, hb], hc, rfl⟩
  | f' :: fs, top, bot, f, h, hb, hc => ⟨h.1, h.2.1, Way.snoc h.2.2 hb hc⟩
theorem Way.cut {p : List Nat} : ∀ {fs : List PF} {top bot : Option (Nat × NT)} {f : PF}, Way p (fs ++ [f]) top bot → Way p fs top (some (f.g, f.nt)) ∧ part f.pre p ≤ (f.lv : Int) ∧ bot = kidAt f.ks (addrOf p f.lv)
  | [], top, bot, f, h => ⟨h.1, h.2.1, h.2.2.symm⟩
  | f' :: fs, top, bot, f, h => by
    obtain ⟨h1, h2, h3⟩ := h
    obtain ⟨g1, g2, g3⟩ := Way.cut h3
    exact ⟨⟨h1, h2, g1⟩, g2, g3⟩
theorem Way.len {p : List Nat} {k : Nat} : ∀ {fs : List PF} {x : Nat × NT} {bot : Option (Nat × NT)}, (∀ f ∈ fs, FK k f) → -1 ≤ x.2.lv → Way p fs (some x) bot → (fs.length : Int) ≤ x.2.lv + 1
  | [], x, bot, hF, hx, h => by simp; omega
  | f :: fs, x, bot, hF, hx, h => by
    obtain ⟨h1, h2, h3⟩ := h
    injection h1 with h1
    subst h1
    have hf := hF f List.mem_cons_self
    cases hk : kidAt f.ks (addrOf p f.lv) with
    | none =>
      rw [hk] at h3
      cases fs with
      | nil => simp [PF.nt]; omega
      | cons f2 fs => exact absurd h3.1 (by simp)
    | some y =>
      rw [hk] at h3
      obtain ⟨q, hq, -, rfl⟩ := kidAt_some hk
      have := Way.len (fun f hf => hF f (List.mem_cons_of_mem _ hf)) (hf.up q hq) h3
      have := hf.low q hq
      simp [PF.nt] at *
      omega
/-- A point's entries are where its path ends. -/
theorem FK.mem {k : Nat} {f : PF} (h : FK k f) {e : Ent} {a : Nat} (he : addrOf e.1 f.lv = a) : e ∈ kidEs f.ks ↔ e ∈ esOf (kidAt f.ks a) := by
  unfold kidEs
  rw [List.mem_flatMap]
  cases hk : kidAt f.ks a with
  | none =>
    simp only [esOf]
    constructor
    · rintro ⟨q, hq, heq⟩
      exact absurd ((h.es q hq e heq).2.1.symm.trans he) (kidAt_none hk q hq)
    · intro h; cases h
  | some x =>
    obtain ⟨q, hq, hqa, rfl⟩ := kidAt_some hk
    simp only [esOf]
    constructor
    · rintro ⟨r, hr, her⟩
      have hra := (h.es r hr e her).2.1
      have : r = q := by
        have hs := h.sort
        obtain ⟨i, hi, rfl⟩ := List.getElem_of_mem hr
        obtain ⟨j, hj, rfl⟩ := List.getElem_of_mem hq
        rw [List.pairwise_iff_getElem] at hs
        rcases Nat.lt_trichotomy i j with hij | hij | hij
        · have := hs i j hi hj hij
          omega
        · simp [hij]
        · have := hs j i hj hi hij
          omega
      rw [← this]
      exact her
    · intro h2
      exact ⟨q, hq, h2⟩
theorem Way.mem {k : Nat} {p : List Nat} : ∀ {fs : List PF} {top bot : Option (Nat × NT)}, (∀ f ∈ fs, FK k f) → Way p fs top bot → ∀ v, (p, v) ∈ esOf top ↔ (p, v) ∈ esOf bot
  | [], top, bot, hF, h, v => by rw [show top = bot from h]
  | f :: fs, top, bot, hF, h, v => by
    obtain ⟨rfl, h2, h3⟩ := h
    rw [← Way.mem (fun f hf => hF f (List.mem_cons_of_mem _ hf)) h3 v]
    exact (hF f List.mem_cons_self).mem rfl
/-- What fits below the last fork of a path. -/
def FitsAt (p : List Nat) (f : PF) (n : NT) : Prop := part f.pre n.pre ≤ (f.lv : Int) ∧ n.lv < (f.lv : Int) ∧ addrOf n.pre f.lv = addrOf p f.lv
theorem way_up {k : Nat} {p : List Nat} {n : NT} {N : Ent → Prop} (hN : ∀ e, N e → e.1 = p) : ∀ {fs : List PF} {top bot : Option (Nat × NT)}, (∀ f ∈ fs, FK k f) → Way p fs top bot → (∀ f ∈ fs.getLast?, FitsAt p f n) → (∀ e, e ∈ n.es ↔ N e ∨ (e ∈ esOf bot ∧ e.1 ≠ p)) →
    ChainOk fs n ∧ ∀ e, e ∈ (upN fs n).es ↔ N e ∨ (e ∈ esOf top ∧ e.1 ≠ p)
  | [], top, bot, hF, hW, hL, he => ⟨trivial, by rw [show top = bot from hW]; exact he⟩
  | f :: fs, top, bot, hF, hW, hL, he => by
    obtain ⟨rfl, h2, h3⟩ := hW
    have hf := hF f List.mem_cons_self
    have hL2 : ∀ f' ∈ fs.getLast?, FitsAt p f' n := by
      intro f' hf'
      refine hL f' ?_
      cases fs with
      | nil => simp at hf'
      | cons f2 fs => rwa [List.getLast?_cons_cons]
    obtain ⟨i1, i2⟩ := way_up hN (fun f hf => hF f (List.mem_cons_of_mem _ hf)) h3 hL2 he
    have hfit : FitsAt p f (upN fs n) := by
      cases fs with
      | nil => exact hL f (by simp)
      | cons f2 fs =>
        obtain ⟨h4, h5, h6⟩ := h3
        obtain ⟨q, hq, hqa, hx⟩ := kidAt_some h4
        injection hx with hx1 hx2
        have hlow := hf.low q hq
        obtain ⟨a1, a2⟩ := hf.at_ q hq
        have hz := hf.ksz q hq
        simp only [PF.nt, NT.mk.injEq] at hx2
        obtain ⟨x1, x2, x3⟩ := hx2
        refine ⟨?_, ?_, ?_⟩
        · show part f.pre f2.pre ≤ _
          rw [x2]
          exact (part_le_iff hf.pre hz _ (by omega)).2 fun b hb => (a2 b (by omega)).symm
        · show (f2.lv : Int) < _
          rw [x1]; exact hlow
        · show addrOf f2.pre f.lv = _
          rw [x2, a1, hqa]
    refine ⟨⟨i1, hfit.1, hfit.2.1⟩, fun e => ?_⟩
    have ha := hfit.2.2
    have hi := i2 e
    have hun : (upN (f :: fs) n).es = kidEs (insK f.ks ⟨addrOf (upN fs n).pre f.lv, 0, (upN fs n).lv, (upN fs n).pre, (upN fs n).es⟩) := rfl
    rw [hun]
    generalize upN fs n = m at *
    rw [ha]
    have h4 : e ∈ kidEs (insK f.ks ⟨addrOf p f.lv, 0, m.lv, m.pre, m.es⟩) ↔ e ∈ m.es ∨ ∃ r ∈ f.ks, r.at_ ≠ addrOf p f.lv ∧ e ∈ r.es := by
      unfold kidEs
      simp only [List.mem_flatMap, mem_insK_iff]
      constructor
      · rintro ⟨r, rfl | ⟨hr, hra⟩, her⟩
        · exact .inl her
        · exact .inr ⟨r, hr, hra, her⟩
      · rintro (h | ⟨r, hr, hra, her⟩)
        · exact ⟨_, .inl rfl, h⟩
        · exact ⟨r, .inr ⟨hr, hra⟩, her⟩
    rw [h4, hi]
    show _ ↔ N e ∨ (e ∈ kidEs f.ks ∧ e.1 ≠ p)
    constructor
    · rintro ((h | ⟨h, hp⟩) | ⟨r, hr, hra, her⟩)
      · exact .inl h
      · refine .inr ⟨?_, hp⟩
        cases hk : kidAt f.ks (addrOf p f.lv) with
        | none => rw [hk] at h; cases h
        | some x =>
          rw [hk] at h
          obtain ⟨q, hq, hqa, rfl⟩ := kidAt_some hk
          exact List.mem_flatMap.2 ⟨q, hq, h⟩
      · refine .inr ⟨List.mem_flatMap.2 ⟨r, hr, her⟩, fun h => ?_⟩
        have := (hf.es r hr e her).2.1
        rw [h] at this
        exact hra this.symm
    · rintro (h | ⟨h, hp⟩)
      · exact .inl (.inl h)
      · obtain ⟨r, hr, her⟩ := List.mem_flatMap.1 h
        by_cases hra : r.at_ = addrOf p f.lv
        · refine .inl (.inr ⟨?_, hp⟩)
          have := (hf.es r hr e her).2.1
          exact (hf.mem (this.trans hra)).1 h
        · exact .inr ⟨r, hr, hra, her⟩
theorem Way.last {p : List Nat} {fs : List PF} {top bot : Option (Nat × NT)} {f : PF} (h : Way p fs top bot) (hf : f ∈ fs.getLast?) : part f.pre p ≤ (f.lv : Int) ∧ bot = kidAt f.ks (addrOf p f.lv) := by
  obtain ⟨fs0, rfl⟩ := List.getLast?_eq_some_iff.1 hf
  exact (Way.cut h).2
theorem last_mem {fs : List PF} {f : PF} (hf : f ∈ fs.getLast?) : f ∈ fs := by
  obtain ⟨fs0, rfl⟩ := List.getLast?_eq_some_iff.1 hf
  simp
/-- What hangs at the path's end parts from the point below the last fork. -/
theorem FK.below {k : Nat} {p : List Nat} {f : PF} {x : Nat × NT} (h : FK k f) (hp : Zp k p) (hc : part f.pre p ≤ (f.lv : Int)) (hx : kidAt f.ks (addrOf p f.lv) = some x) : part x.2.pre p < (f.lv : Int) ∧ Zp k x.2.pre ∧ FitsAt p f x.2 ∧ ∀ b, f.lv ≤ b → addrOf x.2.pre b = addrOf p b := by
  obtain ⟨q, hq, hqa, rfl⟩ := kidAt_some hx
  obtain ⟨a1, a2⟩ := h.at_ q hq
  have hz := h.ksz q hq
  have hcc := (part_le_iff h.pre hp _ (by omega)).1 hc
  have hall : ∀ b, f.lv ≤ b → addrOf q.pre b = addrOf p b := by
    intro b hb
    rcases Nat.eq_or_lt_of_le hb with rfl | hb
    · rw [a1, hqa]
    · rw [a2 b hb, hcc b (by omega)]
  refine ⟨?_, hz, ⟨?_, h.low q hq, ?_⟩, hall⟩
  · have := (part_le_iff hz hp ((f.lv : Int) - 1) (by omega)).2 fun b hb => hall b (by omega)
    show part q.pre p < _
    omega
  · exact (part_le_iff h.pre hz _ (by omega)).2 fun b hb => (a2 b (by omega)).symm
  · rw [a1, hqa]
theorem put_leaf {k v : Nat} {p : List Nat} (hp : Zp k p) {fs : List PF} {top bot : Option (Nat × NT)} (hF : ∀ f ∈ fs, FK k f) (hW : Way p fs top bot) (hb : ∀ e ∈ esOf bot, e.1 = p) :
    ChainOk fs ⟨-1, p, [(p, v)]⟩ ∧ ∀ e, e ∈ (upN fs ⟨-1, p, [(p, v)]⟩).es ↔ e = (p, v) ∨ (e ∈ esOf top ∧ e.1 ≠ p) := by
  refine way_up (N := fun e => e = (p, v)) (fun e h => by rw [h]) hF hW (fun f hf => ?_) fun e => ?_
  · exact ⟨(hW.last hf).1, by show (-1 : Int) < _; omega, rfl⟩
  · simp only [List.mem_singleton]
    constructor
    · exact .inl
    · rintro (h | ⟨h, h2⟩)
      · exact h
      · exact absurd (hb e h) h2
theorem put_pair {k v m : Nat} {p : List Nat} {g g' : Nat} {nt : NT} (hp : Zp k p) {fs : List PF} {top : Option (Nat × NT)} (hF : ∀ f ∈ fs, FK k f) (hW : Way p fs top (some (g, nt))) (hm : part nt.pre p = (m : Int)) (hl : nt.lv < m) (hz : Zp k nt.pre)
    (hes : ∀ e ∈ nt.es, Zp k e.1 ∧ ∀ b : Nat, nt.lv < b → addrOf e.1 b = addrOf nt.pre b) :
    ChainOk fs ⟨m, cut (m + 1) nt.pre, kidEs (pairK g g' nt.lv (-1) nt.pre p nt.es [(p, v)] m)⟩ ∧ ∀ e, e ∈ (upN fs ⟨m, cut (m + 1) nt.pre, kidEs (pairK g g' nt.lv (-1) nt.pre p nt.es [(p, v)] m)⟩).es ↔ e = (p, v) ∨ (e ∈ esOf top ∧ e.1 ≠ p) := by
  have hne : addrOf nt.pre m ≠ addrOf p m := by
    have := (part_spec nt.pre p (by rw [hz.1, hp.1]) hz.2 hp.2).2.2.2
    rw [hm] at this
    exact this (by omega)
  refine way_up (N := fun e => e = (p, v)) (fun e h => by rw [h]) hF hW (fun f hf => ?_) fun e => ?_
  · obtain ⟨h1, h2⟩ := hW.last hf
    have hf' := hF f (last_mem hf)
    obtain ⟨g1, g2, g3, g4⟩ := hf'.below hp h1 h2.symm
    simp only at g1 g2 g3 g4
    rw [hm] at g1
    have hm2 : m < f.lv := by omega
    refine ⟨?_, by show (m : Int) < _; omega, ?_⟩
    · refine (part_le_iff hf'.pre (zp_cut hz) _ (by omega)).2 fun b hb => ?_
      rw [addr_cut_hi _ (by omega)]
      exact (part_le_iff hf'.pre hz _ (by omega)).1 g3.1 b hb
    · show addrOf (cut (m + 1) nt.pre) f.lv = _
      rw [addr_cut_hi _ (by omega)]
      exact g4 _ (Nat.le_refl _)
  · have h4 : e ∈ kidEs (pairK g g' nt.lv (-1) nt.pre p nt.es [(p, v)] m) ↔ e ∈ nt.es ∨ e = (p, v) := by
      rw [pairK_eq hne]
      unfold kidEs
      split
      · simp [List.flatMap]
      · simp [List.flatMap]
        exact Or.comm
    show e ∈ kidEs (pairK g g' nt.lv (-1) nt.pre p nt.es [(p, v)] m) ↔ _
    rw [h4]
    simp only [esOf]
    constructor
    · rintro (h | h)
      · refine .inr ⟨h, fun he => ?_⟩
        have := (hes e h).2 m hl
        rw [he] at this
        exact hne this.symm
      · exact .inl h
    · rintro (h | h)
      · exact .inr h
      · exact .inl h.1
/-- A fork on the way without one of its kids. -/
theorem del_fork {k : Nat} {p : List Nat} (hp : Zp k p) {fs : List PF} {f : PF} {top bot : Option (Nat × NT)} (hF : ∀ f' ∈ fs, FK k f') (hf : FK k f) (hW : Way p fs top (some (f.g, f.nt))) (hb : ∀ e ∈ esOf (kidAt f.ks (addrOf p f.lv)), e.1 = p) {n : NT}
    (hes : ∀ e, e ∈ n.es ↔ ∃ r ∈ f.ks, r.at_ ≠ addrOf p f.lv ∧ e ∈ r.es) (hpre : Zp k n.pre) (hlv : n.lv ≤ f.lv) (hag : ∀ b, f.lv < b → addrOf n.pre b = addrOf f.pre b) :
    ChainOk fs n ∧ ∀ e, e ∈ (upN fs n).es ↔ (e ∈ esOf top ∧ e.1 ≠ p) := by
  have := way_up (n := n) (N := fun e => False) (fun e h => h.elim) hF hW (fun f' hf' => ?_) fun e => ?_
  · refine ⟨this.1, fun e => ?_⟩
    rw [this.2 e]
    simp
  · obtain ⟨h1, h2⟩ := hW.last hf'
    have hff := hF f' (last_mem hf')
    obtain ⟨g1, g2, g3, g4⟩ := hff.below hp h1 h2.symm
    simp only [PF.nt] at g1 g2 g3 g4
    have hlow : (f.lv : Int) < f'.lv := g3.2.1
    refine ⟨?_, by omega, ?_⟩
    · refine (part_le_iff hff.pre hpre _ (by omega)).2 fun b hb => ?_
      rw [hag b (by omega)]
      exact (part_le_iff hff.pre hf.pre _ (by omega)).1 g3.1 b hb
    · rw [hag _ (by omega)]
      exact g3.2.2
  · rw [hes e]
    simp only [false_or, esOf, PF.nt]
    constructor
    · rintro ⟨r, hr, hra, her⟩
      refine ⟨List.mem_flatMap.2 ⟨r, hr, her⟩, fun h => ?_⟩
      have := (hf.es r hr e her).2.1
      rw [h] at this
      exact hra this.symm
    · rintro ⟨h, hp⟩
      obtain ⟨r, hr, her⟩ := List.mem_flatMap.1 h
      refine ⟨r, hr, fun hra => ?_, her⟩
      have := (hf.es r hr e her).2.1
      exact hp (hb e ((hf.mem (this.trans hra)).1 h))
end Go.Proofs.Ytfkpanpageeklaa
