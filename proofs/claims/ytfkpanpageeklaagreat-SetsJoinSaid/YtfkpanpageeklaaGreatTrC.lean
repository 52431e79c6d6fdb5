/- Trees: Shapes, the document's shapes, Len, Is. -/
import Derived.Test.YtfkpanpageeklaaGreatLaB
import Derived.Test.YtfkpanpageeklaaGreatTrB
set_option linter.unusedSimpArgs false
set_option linter.unusedVariables false
namespace Go.Proofs.YtfkpanpageeklaaGreat
open Go.RowKit
/-- What a shape tells. -/
structure SC where
  lv : Int
  xs : List Int
  pl : List Int
  dn : Bool
  v : Int
structure SR where
  A : Option Addr
  k : Nat
  c : Nat
  C : Option Addr
  m : Nat
  f : Nat
  sc : SC
def shv (r : SR) : List Value := [.int .i64 r.sc.lv, .slice r.A r.k r.c, .slice r.C r.m r.f, .bool r.sc.dn, .int .u64 r.sc.v]
theorem shv_len (r : SR) : (shv r).length = 5 := rfl
theorem info_sh : (Tryz.prog.info? 119).map (fun i => (i.zero, i.size, i.bytes)) = some (some (.agg #[.int .i64 0, .slice none 0 0, .slice none 0 0, .bool false, .int .u64 0]), 5, 72) := by kernel_rfl
/-- A row that stays where rows of other types grow above the base. -/
def Still (base : Nat) (w : World) (e : TypeId) (A : Option Addr) (n : Nat) : Prop := 0 < n → ∃ b o, A = some ⟨b, o, none⟩ ∧ b < w.heap.size ∧ (b < base ∨ ∃ cs fr, w.heap[b]? = some (.cells cs e fr))
theorem Still.below {base : Nat} {w w' : World} {e : TypeId} {A : Option Addr} {n : Nat} (h : Still base w e A n) (hb : Below w.heap.size w w') : Still base w' e A n := by
  intro hn
  obtain ⟨b, o, h1, hl, h2⟩ := h hn
  refine ⟨b, o, h1, Nat.lt_of_lt_of_le hl hb.size, ?_⟩
  rcases h2 with h2 | ⟨cs, fr, h2⟩
  · exact .inl h2
  · exact .inr ⟨cs, fr, (hb.block b hl).trans h2⟩
theorem Still.ty {base : Nat} {w : World} {e : TypeId} {A : Option Addr} {n : Nat} (h : TyRow w e A n) : Still base w e A n := by
  intro hn
  obtain ⟨b, o, cs, fr, h1, h2⟩ := h hn
  exact ⟨b, o, h1, (Array.getElem?_eq_some_iff.1 h2).1, .inr ⟨cs, fr, h2⟩⟩
theorem Still.mono {base base' : Nat} {w : World} {e : TypeId} {A : Option Addr} {n : Nat} (h : Still base w e A n) (hb : base ≤ base') : Still base' w e A n := by
  intro hn
  obtain ⟨b, o, h1, hl, h2⟩ := h hn
  refine ⟨b, o, h1, hl, ?_⟩
  rcases h2 with h2 | h2
  · exact .inl (by omega)
  · exact .inr h2
/-- The block of a row that stays is not the one that grows. -/
theorem Still.ne {base base' : Nat} {w : World} {e t : TypeId} {A : Option Addr} {n m sz : Nat} {v : Value} {xs : List Value} (h : Still base w e A n) (ho : w.ownsRow base' t sz v m xs) (hbb : base ≤ base') (hne : e ≠ t) (hn : 0 < n) :
    ∃ b o, A = some ⟨b, o, none⟩ ∧ b < w.heap.size ∧ some b ≠ v.ownBlock := by
  obtain ⟨b, o, h1, hl, h2⟩ := h hn
  refine ⟨b, o, h1, hl, fun hv => ?_⟩
  rcases ho.2 with ⟨rfl, _⟩ | ⟨g, cap, cur, rfl, hg, hh, _⟩
  · simp [Value.ownBlock] at hv
  · have hgb : b = g := by simpa [Value.ownBlock] using hv
    subst hgb
    rcases h2 with h2 | ⟨cs, fr, h2⟩
    · omega
    · rw [hh] at h2
      injection h2 with h2
      injection h2 with _ h2
      exact hne h2.symm
theorem Still.grown {base base' : Nat} {w w' : World} {e t : TypeId} {A : Option Addr} {n m sz : Nat} {v : Value} {xs : List Value} (h : Still base w e A n) (ho : w.ownsRow base' t sz v m xs) (hbb : base ≤ base') (hne : e ≠ t) (hg : w.grownBy w' v.ownBlock) : Still base w' e A n := by
  intro hn
  obtain ⟨b, o, h1, hl, h3⟩ := h.ne ho hbb hne hn
  obtain ⟨b', o', h1', hl', h2⟩ := h hn
  rw [h1] at h1'
  injection h1' with h1'
  injection h1' with h1' h1''
  subst h1'
  have hblk := hg.block b hl h3
  have hlt : b < w'.heap.size := by
    have h5 : w.heap[b]? = some w.heap[b] := by simp [hl]
    rw [← hblk] at h5
    exact (Array.getElem?_eq_some_iff.1 h5).1
  refine ⟨b, o, h1, hlt, ?_⟩
  rcases h2 with h2 | ⟨cs, fr, h2⟩
  · exact .inl h2
  · exact .inr ⟨cs, fr, hblk.trans h2⟩
theorem Rw.grown_still {base base' : Nat} {w w' : World} {e t : TypeId} {A : Option Addr} {n m sz : Nat} {v : Value} {xs vs : List Value} (hR : Rw w 1 A n vs) (h : Still base w e A n) (ho : w.ownsRow base' t sz v m xs) (hbb : base ≤ base') (hne : e ≠ t) (hg : w.grownBy w' v.ownBlock) : Rw w' 1 A n vs := by
  refine ⟨hR.1, fun hn => ?_⟩
  obtain ⟨b, o, h1, hl, h3⟩ := h.ne ho hbb hne hn
  obtain ⟨b', o', h1', hl', hc⟩ := hR.2 hn
  rw [h1] at h1'
  injection h1' with h1'
  injection h1' with h1' h1''
  subst h1' h1''
  have hblk := hg.block b hl h3
  have hlt : b < w'.heap.size := by
    have h5 : w.heap[b]? = some w.heap[b] := by simp [hl]
    rw [← hblk] at h5
    exact (Array.getElem?_eq_some_iff.1 h5).1
  refine ⟨b, o, h1, hlt, fun j u hu => ?_⟩
  rw [World.cell?_of_block (w := w) (a := ⟨b, o + j, none⟩) hblk]
  exact hc j u hu
def SR.ok (base : Nat) (w : World) (r : SR) : Prop :=
  Rw w 1 r.A r.k (r.sc.xs.map fun z => .int .u64 z) ∧ Rw w 1 r.C r.m (r.sc.pl.map fun z => .int .i64 z) ∧ r.k ≤ 65536 ∧ r.m ≤ 65536 ∧ Still base w 45 r.A r.k ∧ Still base w 3 r.C r.m
theorem SR.ok.below {base : Nat} {w w' : World} {r : SR} (h : r.ok base w) (hb : Below w.heap.size w w') : r.ok base w' :=
  ⟨h.1.below hb, h.2.1.below hb, h.2.2.1, h.2.2.2.1, h.2.2.2.2.1.below hb, h.2.2.2.2.2.below hb⟩
theorem SR.ok.grown {base base' : Nat} {w w' : World} {t : TypeId} {m sz : Nat} {v : Value} {xs : List Value} {r : SR} (h : r.ok base w) (ho : w.ownsRow base' t sz v m xs) (hbb : base ≤ base') (h1 : 45 ≠ t) (h2 : 3 ≠ t) (hg : w.grownBy w' v.ownBlock) : r.ok base w' :=
  ⟨h.1.grown_still h.2.2.2.2.1 ho hbb h1 hg, h.2.1.grown_still h.2.2.2.2.2 ho hbb h2 hg, h.2.2.1, h.2.2.2.1, h.2.2.2.2.1.grown ho hbb h1 hg, h.2.2.2.2.2.grown ho hbb h2 hg⟩
/-- What Shape and Kid answer of one node. -/
structure NodeShape (w : World) (g : Nat) (sc : SC) (gs : List Nat) : Prop where
  len : gs.length ≤ 65536
  pl : sc.pl.length = gs.length
  shape : ∀ W, Below w.heap.size w W → Calls Tryz.prog 63 #[.pointer (some ⟨g, 0, none⟩)] W fun e w' => ∃ A k c C f, e = .returned (.agg #[.int .i64 sc.lv, .slice A k c, .slice C gs.length f, .bool sc.dn, .int .u64 sc.v]) ∧ k ≤ 16 ∧
    Rw w' 1 A k (sc.xs.map fun z => .int .u64 z) ∧ Rw w' 1 C gs.length (sc.pl.map fun z => .int .i64 z) ∧ TyRow w' 45 A k ∧ TyRow w' 3 C gs.length ∧ Below W.heap.size W w'
  kid : ∀ (i g' : Nat), gs[i]? = some g' → ∃ a, sc.pl[i]? = some a ∧ ∀ W, Below w.heap.size w W → Calls Tryz.prog 64 #[.pointer (some ⟨g, 0, none⟩), .int .i64 a] W fun e w' => e = .returned (.pointer (some ⟨g', 0, none⟩)) ∧ Below W.heap.size W w'
theorem NodeShape.stay {w w' : World} {g : Nat} {sc : SC} {gs : List Nat} (h : NodeShape w g sc gs) (hb : Below w.heap.size w w') : NodeShape w' g sc gs :=
  ⟨h.len, h.pl, fun W hW => h.shape W (below_then hb hW), fun i g' hi => by
    obtain ⟨a, h1, h2⟩ := h.kid i g' hi
    exact ⟨a, h1, fun W hW => h2 W (below_then hb hW)⟩⟩
/-- The shapes of a node and of all below it, each ahead of its kids'. -/
inductive SN (w : World) : Nat → List SC → Prop
  | mk {g : Nat} {sc : SC} {gs : List Nat} {Ls : List (List SC)} (hs : NodeShape w g sc gs) (hl : gs.length = Ls.length) (hk : ∀ (i g' : Nat) (L : List SC), gs[i]? = some g' → Ls[i]? = some L → SN w g' L) : SN w g (sc :: Ls.flatten)
theorem shape_leaf {w : World} {k g : Nat} {A : Option Addr} {c v : Nat} {p : List Nat} (hp : Pt w A k p) (hk : k ≤ 16) (hB : Blk w g 140 (nodeCells (-1) A k c v none ⟨1, v, v, v⟩)) : NodeShape w g ⟨-1, p.map fun (x : Nat) => (x : Int), [], false, (v : Int)⟩ [] := by
  refine ⟨by simp, rfl, fun W hW => ?_, fun i g' hi => by simp at hi⟩
  refine (nd_shape_leaf_t (hB.below hW) (hp.below hW) hk).mono fun e w' ⟨B, d, h1, h2, h3, h4⟩ => ⟨B, k, d, none, 0, h1, hk, ?_, Rw.nil _ _ _, h4, fun h => (by cases h), h3⟩
  rw [u64s_int] at h2
  exact h2
theorem shape_fork {w : World} {k g m : Nat} {pre : List Nat} {ks : List Kid} (hF : Fork w k g m pre ks) (hk : k ≤ 16) : NodeShape w g ⟨(m : Int), pre.map fun (x : Nat) => (x : Int), ks.map fun q => (q.at_ : Int), denseB k ks.length, 0⟩ (ks.map (·.blk)) := by
  obtain ⟨A, c, gs, hp, hS, hB⟩ := hF.head
  have hkl : ks.length ≤ 65536 := by
    have h1 := len_le_of_ok hS.ok
    have h2 := pow16 hS.2.1
    simp [kidTh] at h1
    omega
  refine ⟨by simpa using hkl, by simp, fun W hW => ?_, fun i g' hi => ?_⟩
  · refine (nd_shape_fork_t (hB.below hW) (hp.below hW) hk (hS.below hW)).mono fun e w' ⟨B, d, C, f, h1, h2, h3, h4, h5, h6⟩ => ⟨B, k, d, C, f, ?_, hk, ?_, ?_, h5, ?_, h4⟩
    · rw [h1]; simp
    · rw [u64s_int] at h2
      exact h2
    · rw [places_int] at h3
      rw [List.length_map]
      exact h3
    · rw [List.length_map]
      exact h6
  · rw [List.getElem?_map] at hi
    obtain ⟨q, hq, rfl⟩ := Option.map_eq_some_iff.1 hi
    refine ⟨(q.at_ : Int), by simp [hq], fun W hW => ?_⟩
    have hth : getTh (kidTh ks) (q.at_ : Int) = some (.pointer (some ⟨q.blk, 0, none⟩)) :=
      getTh_some hS.ok (t := (q.at_, .pointer (some ⟨q.blk, 0, none⟩))) (List.mem_map.2 ⟨q, List.mem_of_getElem? hq, rfl⟩)
    have := nd_kid (hB.below hW) (hS.below hW) (q.at_ : Int)
    rw [hth] at this
    exact this
theorem SN.stay {w w' : World} {g : Nat} {L : List SC} (h : SN w g L) (hb : Below w.heap.size w w') : SN w' g L := by
  induction h with
  | mk hs hl hk ih => exact .mk (hs.stay hb) hl fun i g' L h1 h2 => ih i g' L h1 h2
theorem SN.ne {w : World} {g : Nat} {L : List SC} (h : SN w g L) : 0 < L.length := by
  cases h with
  | mk hs hl hk => simp
theorem own_pop {w : World} {base : Nat} {e : TypeId} {A : Option Addr} {n cap : Nat} {xs : List Value} {x : Value} (h : w.ownsRow base e 1 (.slice A (n + 1) cap) (n + 1) (xs ++ [x])) : w.ownsRow base e 1 (.slice A n cap) n xs := by
  have hl := h.1
  rcases h.2 with ⟨h0, _⟩ | ⟨g, cap', cur, hv, _⟩
  · cases h0
  · injection hv with h1 h2 h3
    subst h1
    exact ownsRow_pop (size := 1) (by simpa using hl) h
theorem sn_count {w : World} : ∀ (stk : List (Nat × List SC)), (∀ s ∈ stk, SN w s.1 s.2) → stk.length ≤ (stk.map (·.2)).flatten.length
  | [], _ => by simp
  | s :: stk, h => by
    have := sn_count stk fun s hs => h s (List.mem_cons_of_mem _ hs)
    have := (h s List.mem_cons_self).ne
    simp only [List.map_cons, List.flatten_cons, List.length_append, List.length_cons]
    omega
theorem own_lt_new {w : World} {base : Nat} {e : TypeId} {sz n g : Nat} {v : Value} {xs : List Value} (h : w.ownsRow base e sz v n xs) (hg : w.heap.size ≤ g) : some g ≠ v.ownBlock := by
  intro hv
  have := (h.lt g hv.symm).2
  omega
theorem idx1 {j n : Nat} (hn : n = j + 1) (hj : j ≤ 65536) : (n : Int) - 1 = (j : Int) ∧ j < n ∧ (0 : Int) ≤ (j : Int) ∧ (j : Int) ≤ 70368744177664 ∧ (j : Int) < (n : Int) ∧ (0 : Int) < (n : Int) ∧ IntKind.i64.wrap (j : Int) = (j : Int) ∧ wrap64 (j : Int) = (j : Int) :=
  ⟨by omega, by omega, by omega, by omega, by omega, by omega, by rw [IntKind.wrap_i64]; omega, by unfold wrap64; omega⟩
theorem wrap_m1 {m : Nat} (hm : m ≤ 65536) : IntKind.i64.wrap ((m : Int) - 1) = (m : Int) - 1 := by rw [IntKind.wrap_i64]; omega
/-- What Shapes answers. -/
def ShapesOut (base : Nat) (w : World) (L : List SC) (e : Ending) (w' : World) : Prop :=
  ∃ (A : Option Addr) (d : Nat) (srs : List SR), e = .returned (.slice A srs.length d) ∧ w'.ownsRow w.heap.size 119 5 (.slice A srs.length d) srs.length (srs.flatMap shv) ∧ (∀ r ∈ srs, SR.ok base w' r) ∧ srs.map (·.sc) = L ∧ Below w.heap.size w w'
set_option maxHeartbeats 1000000 in
set_option maxRecDepth 100000 in
theorem tr_shapes_none {w : World} {t : Option Addr} (hR : Calls Tryz.prog 39 #[.pointer t] w fun e w' => e = .returned (.pointer none) ∧ w = w') :
    Calls Tryz.prog 37 #[.pointer t] w fun e w' => e = .returned (.slice none 0 0) ∧ Below w.heap.size w w' := by
  have HR := hide hR
  clear hR
  go_enter Tryz.func37, Tryz.ntmps37
  go_wp2_with fail
  refine HR.out.mono ?_
  rintro e w1 ⟨rfl, rfl⟩
  have hb1 := (Below.refl w.heap.size w).alloc (Nat.le_refl _) (.cells #[.pointer none] 76)
  have HB1 := hide hb1
  clear hb1
  go_wp2
  go_loop [3, 4] (fun x3 x4 => x3 = .slice none 0 0 ∧ ∃ n, n ≤ 1 ∧ x4 = .slice (some ⟨w.heap.size, 0, none⟩) n 1) (fun _ x => sliceLen x)
  case atStart => exact ⟨rfl, 1, by omega, rfl⟩
  case round =>
    obtain ⟨rfl, n, hn, rfl⟩ := hrel
    rcases Nat.eq_zero_or_pos n with rfl | hn0
    · go_wp2
      go_ret
      exact ⟨rfl, HB1.out⟩
    · obtain rfl : n = 1 := by omega
      have r2s := fun W => run_slice_to (P := Tryz.prog) (w := W) Tryz.underlying103 (sz := 1) Tryz.sizeOf76 (some ⟨w.heap.size, 0, none⟩) 1 1 0 (by omega)
      simp only [Int.cast_ofNat_Int] at r2s
      go_wp2
      go_round
      case rel => exact ⟨rfl, 0, by omega, rfl⟩
      case measure => simp [sliceLen]
set_option maxHeartbeats 4000000 in
set_option maxRecDepth 100000 in
theorem tr_shapes {w : World} {t k g : Nat} {L : List SC} (hT : TreeBlk w t k (some ⟨g, 0, none⟩)) (hS : SN w g L) (hL : L.length ≤ 65536) :
    Calls Tryz.prog 37 #[.pointer (some ⟨t, 0, none⟩)] w (ShapesOut w.heap.size w L) := by
  have HR := hide (tr_root hT)
  have HSN := hide hS
  clear hT hS
  go_enter Tryz.func37, Tryz.ntmps37
  go_wp2_with fail
  refine HR.out.mono ?_
  rintro e w1 ⟨rfl, rfl⟩
  have HB1 := hide ((Below.refl w.heap.size w).alloc (Nat.le_refl _) (.cells #[.pointer (some ⟨g, 0, none⟩)] 76))
  have HO1 := hide (World.ownsRow_lit (base := w.heap.size) (e := 76) (size := 1) w #[.pointer (some ⟨g, 0, none⟩)] 1 (Nat.le_refl _) (by unfold maxLen; omega) rfl)
  go_wp2
  go_loopw [3, 4] (fun x3 x4 wr => ∃ (srs : List SR) (stk : List (Nat × List SC)) (A3 : Option Addr) (d3 : Nat) (A4 : Option Addr) (d4 : Nat), x3 = .slice A3 srs.length d3 ∧ x4 = .slice A4 stk.length d4 ∧ wr.ownsRow w.heap.size 119 5 (.slice A3 srs.length d3) srs.length (srs.flatMap shv) ∧
    wr.ownsRow w.heap.size 76 1 (.slice A4 stk.length d4) stk.length (ptrs (stk.reverse.map (·.1))) ∧ (∀ r ∈ srs, SR.ok w.heap.size wr r) ∧ (∀ s ∈ stk, SN w s.1 s.2) ∧ srs.map (·.sc) ++ (stk.map (·.2)).flatten = L ∧ Below w.heap.size w wr) (fun x3 _ _ => L.length - sliceLen x3)
  case atStart =>
    refine ⟨[], [(g, L)], none, 0, some ⟨w.heap.size, 0, none⟩, 1, rfl, rfl, World.ownsRow_nil _ _ _ _, ?_, fun r hr => (by cases hr), fun s hs => ?_, by simp, HB1.out⟩
    · simpa [ptrs] using HO1.out
    · rw [List.mem_singleton.1 hs]; exact HSN.out
  case round =>
    obtain ⟨srs, stk, A3, d3, A4, d4, rfl, rfl, hO3, hO4, hOK, hSN, hLL, hb⟩ := hrel
    have hcnt := sn_count stk hSN
    have hlen := congrArg List.length hLL
    rw [List.length_append, List.length_map] at hlen
    have HOK := hide hOK
    have HLL := hide hLL
    have HO3 := hide hO3
    have HB := hide hb
    rename World => wr
    cases stk with
    | nil =>
      clear hO3 hO4 hOK hSN hLL hb hcnt hlen
      simp only [List.length_nil]
      go_wp2
      go_ret
      refine ⟨A3, d3, srs, rfl, HO3.out, HOK.out, ?_, HB.out⟩
      have := HLL.out
      simpa using this
    | cons s stk =>
      obtain ⟨gq, Lq⟩ := s
      have hSq := hSN _ List.mem_cons_self
      have HSN' := hide (fun s hs => hSN s (List.mem_cons_of_mem _ hs))
      have hlq := hSq.ne
      generalize hLq' : Lq = Lq' at hSq
      cases hSq with
      | @mk _ sc gs Ls hs hl hk =>
        subst hLq'
        have HNS := hide hs
        have HLE := hide hl
        have HKI := hide hk
        have hxs : ptrs (((gq, sc :: Ls.flatten) :: stk).reverse.map (·.1)) = ptrs (stk.reverse.map (·.1)) ++ [.pointer (some ⟨gq, 0, none⟩)] := by simp [ptrs]
        rw [hxs] at hO4
        simp only [List.length_cons] at hO4 hcnt hlen ⊢
        simp only [List.map_cons, List.flatten_cons, List.length_append] at hlen hcnt
        have HO4 := hide (own_pop hO4)
        obtain ⟨hcap, hR4⟩ := own_rw hO4
        obtain ⟨b4, o4, rfl, hbl4, u, hu, k0⟩ := hR4.one (i := stk.length) (by omega)
        have hu2 : u = .pointer (some ⟨gq, 0, none⟩) := by
          have : (ptrs (stk.reverse.map (·.1)) ++ [Value.pointer (some ⟨gq, 0, none⟩)])[stk.length]? = some (.pointer (some ⟨gq, 0, none⟩)) := by simp [ptrs]
          rw [this] at hu
          injection hu with hu
          exact hu.symm
        rw [hu2] at k0
        have HSL : Hid (srs.length < L.length) := hide (by omega)
        have hs65 : stk.length ≤ 65536 := by omega
        have hsr65 : srs.length ≤ 65536 := by omega
        have hm65 : gs.length ≤ 65536 := hs.len
        obtain ⟨n, hn⟩ : ∃ n, n = stk.length + 1 := ⟨_, rfl⟩
        obtain ⟨j, hj⟩ : ∃ j, j = stk.length := ⟨_, rfl⟩
        obtain ⟨sl, hsl⟩ : ∃ sl, sl = srs.length := ⟨_, rfl⟩
        obtain ⟨m, hm⟩ : ∃ m, m = gs.length := ⟨_, rfl⟩
        have HSH := hide (hs.shape wr hb)
        rw [← hm] at HSH hm65
        rw [← hj] at k0 HO4 hs65
        rw [← hn] at hcap ⊢
        rw [← hsl] at HO3 hsr65 ⊢
        have HN := hide hn
        have HJ := hide hj
        have HSLE := hide hsl
        have HM := hide hm
        have hjd4 : j ≤ d4 := by omega
        have hj65 : j ≤ 65536 := by omega
        obtain ⟨e2, hin, hi0, hi7, hin', hn0, e5, e6⟩ := idx1 (j := j) (n := n) (by rw [hn, hj]) hj65
        have r2s := fun W => run_slice_to (P := Tryz.prog) (w := W) Tryz.underlying103 (sz := 1) Tryz.sizeOf76 (some ⟨b4, o4, none⟩) n d4 j hjd4
        clear hO3 hO4 hOK hSN hLL hb hlen hcnt hs hl hk hxs hR4 hu hu2 hlq hn hj hsl hm
        go_wp2_with fail
        refine HSH.out.mono ?_
        rintro e w2 ⟨A, kk, c, C, f, rfl, hkk, hRA, hRC, hTA, hTC, hb2⟩
        have hc2 := below_then HB.out hb2
        have hN := Blk.new w2 119 #[.int .i64 sc.lv, .slice A kk c, .slice C m f, .bool sc.dn, .int .u64 sc.v]
        have hal := (Below.refl w2.heap.size w2).alloc (Nat.le_refl _) (.cells #[.int .i64 sc.lv, .slice A kk c, .slice C m f, .bool sc.dn, .int .u64 sc.v] 119)
        clear HSH k0 r2s
        go_upto_region 8 with fail
        generalize w2.alloc (.cells #[.int .i64 sc.lv, .slice A kk c, .slice C m f, .bool sc.dn, .int .u64 sc.v] 119) = w3 at *
        have t0 := hN.cell 0
        have t1 := hN.cell 1
        have t2 := hN.cell 2
        have t3 := hN.cell 3
        have t4 := hN.cell 4
        simp at t0 t1 t2 t3 t4
        have HNB := hide hN
        have hc3 := below_then hc2 hal
        have HO33 := hide (own_below (own_below HO3.out hb2) hal)
        have HO43 := hide (own_below (own_below HO4.out hb2) hal)
        have hrOK : ∀ r ∈ srs ++ [(⟨A, kk, c, C, m, f, sc⟩ : SR)], SR.ok w.heap.size w3 r := by
          intro r hr
          rcases List.mem_append.1 hr with hr | hr
          · exact ((HOK.out r hr).below hb2).below hal
          · rw [List.mem_singleton] at hr
            subst hr
            exact ⟨hRA.below hal, hRC.below hal, by show kk ≤ _; omega, hm65, Still.ty (hTA.below hal), Still.ty (hTC.below hal)⟩
        have HROK := hide hrOK
        have HRC := hide (hRC.below hal)
        have HSC := hide (Still.ty (base := w.heap.size) (hTC.below hal))
        have HNE : Hid (some w2.heap.size ≠ (Value.slice A3 sl d3).ownBlock) := hide (own_lt_new (own_below HO3.out hb2) (Nat.le_refl _))
        have HG6 : Hid (w.heap.size ≤ w2.heap.size) := hide hc2.size
        have HC3 := hide hc3
        clear hrOK hRA hRC hTA hTC hal hc2 hc3 hb2 hN
        have hb4 := below_alloc HC3.out (Nat.le_refl _) (.cells #[.int .i64 sc.lv, .slice A kk c, .slice C m f, .bool sc.dn, .int .u64 sc.v] 119)
        have hal4 := (Below.refl w3.heap.size w3).alloc (Nat.le_refl _) (.cells #[.int .i64 sc.lv, .slice A kk c, .slice C m f, .bool sc.dn, .int .u64 sc.v] 119)
        go_wp2_with (first
          | (at_builtin
             refine app_b _ rfl (.tmp 29) (.tmp 31) _ rfl w.heap.size 119 _ 5 72 Tryz.underlying73 info_sh rfl (by omega) _ sl _ rfl (own_below HO33.out hal4) (some ⟨w3.heap.size, 0, none⟩) 1 1 [.int .i64 sc.lv, .slice A kk c, .slice C m f, .bool sc.dn, .int .u64 sc.v] rfl w hb4 (Nat.le_refl _) (Rw.new1 w3 119 #[.int .i64 sc.lv, .slice A kk c, .slice C m f, .bool sc.dn, .int .u64 sc.v] rfl) ?h2 (by unfold maxLen; omega) (by omega) ?_
             case h2 =>
               intro u hu
               simp only [List.mem_cons, List.not_mem_nil, or_false] at hu
               rcases hu with rfl | rfl | rfl | rfl | rfl <;> rfl
             intro v5 w5 ho5 hb5 hg5
             obtain ⟨A5, d5, rfl, -, -⟩ := Rw.of_own ho5
             have HO5 := hide ho5
             have HB5 := hide hb5
             have hoq := own_below HO33.out hal4
             have HO45 := hide (own_grown (own_below HO43.out hal4) hoq (by decide) hg5)
             have HROK5 := hide (fun r hr => ((HROK.out r hr).below hal4).grown hoq (Nat.le_refl _) (by decide) (by decide) hg5)
             have HRC5 := hide ((HRC.out.below hal4).grown_still (HSC.out.below hal4) hoq (Nat.le_refl _) (by decide) hg5)
             have HSC5 := hide ((HSC.out.below hal4).grown hoq (Nat.le_refl _) (by decide) hg5)
             have hN5 : Blk w5 w2.heap.size 119 #[.int .i64 sc.lv, .slice A kk c, .slice C m f, .bool sc.dn, .int .u64 sc.v] := by
               have h1 := HNB.out.below hal4
               exact (hg5.block _ h1.lt HNE.out).trans h1
             have HN5 := hide hN5
             have y2 := hN5.cell 2
             simp at y2
             clear ho5 hb5 hg5 hoq hN5 t0 t1 t2 t3 t4)
          | fail)
        have ew := wrap_m1 hm65
        clear e5 e6
        clear hb4 hal4 HNB HO33 HO43 HROK HRC HSC HC3 HO3 HO4 HB y2
        go_loopw [4, 7] (fun x4 x7 wq => ∃ (i : Nat) (A6 : Option Addr) (d6 n6 : Nat), x7 = .int .i64 ((i : Int) - 1) ∧ i ≤ m ∧ n6 = j + (m - i) ∧ x4 = .slice A6 n6 d6 ∧ wq.ownsRow w.heap.size 76 1 (.slice A6 n6 d6) n6 (ptrs (stk.reverse.map (·.1)) ++ ptrs ((gs.drop i).reverse)) ∧
          wq.ownsRow w.heap.size 119 5 (.slice A5 (sl + 1) d5) (sl + 1) (srs.flatMap shv ++ [.int .i64 sc.lv, .slice A kk c, .slice C m f, .bool sc.dn, .int .u64 sc.v]) ∧ (∀ r ∈ srs ++ [(⟨A, kk, c, C, m, f, sc⟩ : SR)], SR.ok w.heap.size wq r) ∧
          Blk wq w2.heap.size 119 #[.int .i64 sc.lv, .slice A kk c, .slice C m f, .bool sc.dn, .int .u64 sc.v] ∧ Rw wq 1 C m (sc.pl.map fun z => .int .i64 z) ∧ Still w.heap.size wq 3 C m ∧ Below w.heap.size w wq) (fun _ x _ => (intOf x + 1).toNat)
        case atStart =>
          refine ⟨m, some ⟨b4, o4, none⟩, d4, j, rfl, Nat.le_refl _, by omega, rfl, ?_, HO5.out, HROK5.out, HN5.out, HRC5.out, HSC5.out, HB5.out⟩
          rw [List.drop_of_length_le (by rw [← HM.out]; exact Nat.le_refl _)]
          have := HO45.out
          simpa [ptrs] using this
        case round =>
          obtain ⟨i, A6, d6, n6, rfl, hi, hn6, rfl, hO6, hS6, hOK6, hN6, hR6, hT6, hb6⟩ := hrel
          rename World => wz
          rcases Nat.eq_zero_or_pos i with rfl | hi0
          · have HH := hide (And.intro hO6 (And.intro hS6 (And.intro hOK6 hb6)))
            clear hO6 hS6 hOK6 hN6 hR6 hT6 hb6
            go_wp2
            go_roundw
            case rel =>
              obtain ⟨hO6, hS6, hOK6, hb6⟩ := HH.out
              have hzl : (gs.zip Ls).length = m := by rw [List.length_zip, ← HLE.out, Nat.min_self, ← HM.out]
              have hz1 : (gs.zip Ls).map (·.1) = gs := List.map_fst_zip (by rw [HLE.out]; exact Nat.le_refl _)
              have hz2 : (gs.zip Ls).map (·.2) = Ls := List.map_snd_zip (by rw [HLE.out]; exact Nat.le_refl _)
              refine ⟨srs ++ [⟨A, kk, c, C, m, f, sc⟩], gs.zip Ls ++ stk, A5, d5, A6, d6, ?_, ?_, ?_, ?_, hOK6, ?_, ?_, hb6⟩
              · rw [List.length_append, ← HSLE.out]; rfl
              · rw [List.length_append, hzl, ← HJ.out, hn6]; congr 1; omega
              · rw [List.length_append, ← HSLE.out, List.flatMap_append]
                simpa [shv] using hS6
              · rw [List.length_append, hzl, ← HJ.out, show m + j = n6 by omega, List.reverse_append, List.map_append, List.map_reverse (l := gs.zip Ls), hz1]
                rw [List.drop_zero] at hO6
                simpa [ptrs] using hO6
              · intro s hs
                rcases List.mem_append.1 hs with hs | hs
                · obtain ⟨g', L'⟩ := s
                  obtain ⟨q, hq1, hq2⟩ := List.getElem_of_mem hs
                  rw [List.getElem_zip] at hq2
                  rw [List.length_zip] at hq1
                  injection hq2 with h1 h2
                  refine HKI.out q g' L' ?_ ?_
                  · rw [← h1]; exact List.getElem?_eq_getElem (by omega)
                  · rw [← h2]; exact List.getElem?_eq_getElem (by omega)
                · exact HSN'.out s hs
              · have := HLL.out
                rw [List.map_append, List.map_append, List.flatten_append, hz2]
                simpa using this
            case measure =>
              have := HSL.out
              have := HSLE.out
              simp [sliceLen]
              omega
          · obtain ⟨i', rfl⟩ : ∃ i', i = i' + 1 := ⟨i - 1, by omega⟩
            have hig : i' < gs.length := by rw [← HM.out]; omega
            have hgi : gs[i']? = some gs[i'] := List.getElem?_eq_getElem hig
            have hdr : gs.drop i' = gs[i'] :: gs.drop (i' + 1) := List.drop_eq_getElem_cons hig
            generalize gs[i'] = g' at hgi hdr
            obtain ⟨a, ha, hKid⟩ := HNS.out.kid i' g' hgi
            have HK := hide (hKid wz hb6)
            obtain ⟨bC, oC, rfl, hblC, u, hu, kC⟩ := hR6.one (i := i') (by omega)
            rw [List.getElem?_map, ha] at hu
            simp at hu
            rw [← hu] at kC
            have z2 := hN6.cell 2
            simp at z2
            have HO6 := hide hO6
            have HS6 := hide hS6
            have HOK6 := hide hOK6
            have HN6 := hide hN6
            have HR6 := hide hR6
            have HT6 := hide hT6
            have HB6 := hide hb6
            have HDR := hide hdr
            have e0 : ((i' + 1 : Nat) : Int) - 1 = (i' : Int) := by omega
            rw [e0]
            have ei : (0 : Int) ≤ (i' : Int) := by omega
            have eim : (i' : Int) < (m : Int) := by omega
            have ein : i' < m := by omega
            have HN6E := hide hn6
            have hn665 : n6 ≤ 200000 := by omega
            clear hO6 hS6 hOK6 hN6 hR6 hT6 hb6 hdr hu ha hKid hgi hig e0 hn6
            go_wp2_with fail
            refine HK.out.mono ?_
            rintro e w7 ⟨rfl, hb7⟩
            have hb8 := below_alloc (below_then HB6.out hb7) (Nat.le_refl _) (.cells #[.pointer (some ⟨g', 0, none⟩)] 76)
            have hal8 := below_alloc hb7 (Nat.le_refl _) (.cells #[.pointer (some ⟨g', 0, none⟩)] 76)
            go_wp2_with (first
              | (at_builtin
                 refine app_b _ rfl (.tmp 41) (.tmp 49) _ rfl w.heap.size 76 _ 1 8 Tryz.underlying103 info_n rfl (by omega) _ n6 _ rfl (own_below HO6.out hal8) (some ⟨w7.heap.size, 0, none⟩) 1 1 [.pointer (some ⟨g', 0, none⟩)] rfl w hb8 (Nat.le_refl _) (Rw.new1 w7 76 #[.pointer (some ⟨g', 0, none⟩)] rfl) ?h2 (by unfold maxLen; omega) (by omega) ?_
                 case h2 =>
                   intro u hu
                   rw [List.mem_singleton] at hu
                   rw [hu]
                   rfl
                 intro v9 w9 ho9 hb9 hg9
                 obtain ⟨A9, d9, rfl, -, -⟩ := Rw.of_own ho9
                 have HO9 := hide ho9
                 have HB9 := hide hb9
                 have hoq := own_below HO6.out hal8
                 have HS9 := hide (own_grown (own_below HS6.out hal8) hoq (by decide) hg9)
                 have HOK9 := hide (fun r hr => ((HOK6.out r hr).below hal8).grown hoq (Nat.le_refl _) (by decide) (by decide) hg9)
                 have HR9 := hide ((HR6.out.below hal8).grown_still (HT6.out.below hal8) hoq (Nat.le_refl _) (by decide) hg9)
                 have HT9 := hide ((HT6.out.below hal8).grown hoq (Nat.le_refl _) (by decide) hg9)
                 have HN9 := hide ((HN6.out.below hal8).grown hoq (by decide) hg9)
                 clear ho9 hb9 hg9 hoq z2 kC)
              | fail)
            go_roundw
            case rel =>
              refine ⟨i', A9, d9, n6 + 1, by go_num, by omega, by have := HN6E.out; omega, rfl, ?_, HS9.out, HOK9.out, HN9.out, HR9.out, HT9.out, HB9.out⟩
              have := HO9.out
              rw [HDR.out, List.reverse_cons, ptrs_snoc, ← List.append_assoc]
              exact this
            case measure => simp [intOf]
/-- The document's shapes of these entries. -/
def RefSh (k : Nat) (es : List Ent) (L : List SC) : Prop :=
  ∀ (w0 W : World) (B : Option Addr) (n m : Nat) (rows : List ER), Below w0.heap.size w0 W → EntsAt w0 B n rows → n ≤ m → n ≤ 65536 → (∀ r ∈ rows, r.n = k) → ents rows = es →
    Calls Tryz.prog 38 #[.slice B n m] W (ShapesOut w0.heap.size W L)
theorem lit_shape (w : World) (base : Nat) (r : SR) (hb : base ≤ w.heap.size) : (w.alloc (.cells #[.int .i64 r.sc.lv, .slice r.A r.k r.c, .slice r.C r.m r.f, .bool r.sc.dn, .int .u64 r.sc.v] 119)).ownsRow base 119 5 (.slice (some ⟨w.heap.size, 0, none⟩) 1 1) 1 (shv r) :=
  World.ownsRow_lit (base := base) (e := 119) (size := 5) w #[.int .i64 r.sc.lv, .slice r.A r.k r.c, .slice r.C r.m r.f, .bool r.sc.dn, .int .u64 r.sc.v] 1 hb (by unfold maxLen; omega) rfl
theorem still_old {base : Nat} {w : World} {e : TypeId} {A : Option Addr} {n : Nat} {vs : List Value} (h : Rw w 1 A n vs) (hb : w.heap.size ≤ base) : Still base w e A n := by
  intro hn
  obtain ⟨b, o, h1, h2, _⟩ := h.2 hn
  exact ⟨b, o, h1, h2, .inl (by omega)⟩
set_option maxHeartbeats 2000000 in
set_option maxRecDepth 100000 in
theorem refsh_nil (k : Nat) : RefSh k [] [] := by
  intro w0 W B n m rows hb hE hnm hn hk hes
  obtain rfl : rows = [] := by unfold ents at hes; simpa using hes
  obtain rfl : n = 0 := by have := hE.len; simpa using this.symm
  clear hE hk hes hb
  go_enter Tryz.func38, Tryz.ntmps38
  go_wp2
  go_ret
  exact ⟨none, 0, [], rfl, World.ownsRow_nil _ _ _ _, fun r hr => (by cases hr), rfl, Below.refl _ _⟩
set_option maxHeartbeats 2000000 in
set_option maxRecDepth 100000 in
theorem refsh_leaf {k v : Nat} {p : List Nat} (hk : k ≤ 16) : RefSh k [(p, v)] [⟨-1, p.map fun (x : Nat) => (x : Int), [], false, (v : Int)⟩] := by
  intro w0 W B n m rows hb hE hnm hn hkk hes
  obtain ⟨r, rfl⟩ : ∃ r, rows = [r] := by
    have : rows.length = 1 := by
      have := congrArg List.length hes
      unfold ents at this
      simpa using this
    match rows, this with
    | [r], _ => exact ⟨r, rfl⟩
  obtain ⟨hrp, hrv⟩ : r.p = p ∧ r.v = v := by
    unfold ents ER.e at hes
    simp at hes
    exact hes
  obtain rfl : n = 1 := by have := hE.len; simpa using this.symm
  have hok := hE.2 r List.mem_cons_self
  have hrk := hkk r List.mem_cons_self
  have HS := hide (ref_shape1 B m r W (hE.below hb))
  have HOK := hide hok
  have HB := hide hb
  have HK := hide hrk
  have HP := hide hrp
  have HV := hide hrv
  clear hE hkk hes hok hrk hb hrp hrv
  go_enter Tryz.func38, Tryz.ntmps38
  go_wp2_with fail
  refine HS.out.mono ?_
  rintro e w1 ⟨rfl, hb1⟩
  have HB1 := hide hb1
  clear hb1 HS
  go_wp2
  go_ret
  have hal := below_alloc HB1.out (Nat.le_refl _) (.cells #[.int .i64 (-1), .slice r.A r.n r.c, .slice none 0 0, .bool false, .int .u64 (r.v : Int)] 119)
  refine ⟨_, _, [(⟨r.A, r.n, r.c, none, 0, 0, ⟨-1, p.map fun (x : Nat) => (x : Int), [], false, (v : Int)⟩⟩ : SR)], rfl, ?_, fun s hs => ?_, rfl, hal⟩
  · have := lit_shape w1 W.heap.size (⟨r.A, r.n, r.c, none, 0, 0, ⟨-1, p.map fun (x : Nat) => (x : Int), [], false, (v : Int)⟩⟩ : SR) HB1.out.size
    rw [← HV.out] at this ⊢
    exact this
  · rw [List.mem_singleton] at hs
    subst hs
    have h0 := HOK.out.1.2.1
    have h1 := (h0.below HB.out).below hal
    have h2 : Still w0.heap.size w0 45 r.A r.n := still_old h0 (Nat.le_refl _)
    refine ⟨?_, Rw.nil _ _ _, by show r.n ≤ _; rw [HK.out]; omega, Nat.zero_le _, (h2.below HB.out).below hal, fun h => (by cases h)⟩
    rw [u64s_int, HP.out] at h1
    exact h1
set_option maxHeartbeats 4000000 in
set_option maxRecDepth 100000 in
theorem refsh_fork {w w0 W : World} {k g lv n : Nat} {pre : List Nat} {ks : List Kid} {B : Option Addr} {m : Nat} {G : List (List ER)} (hF : Fork w k g lv pre ks) (hk1 : 1 ≤ k) (hk : k ≤ 16) (hb0 : Below w0.heap.size w0 W) (hE : EntsAt w0 B n G.flatten) (hnm : n ≤ m) (hn : n ≤ 65536) (hkk : ∀ r ∈ G.flatten, r.n = k)
    (hG : ForkG k lv pre ks G) (Ls : List (List SC)) (hls : Ls.length = ks.length) (hL : Ls.flatten.length ≤ 200000) (ih : ∀ (i : Nat) (q : Kid) (L : List SC), ks[i]? = some q → Ls[i]? = some L → RefSh k q.es L) :
    Calls Tryz.prog 38 #[.slice B n m] W (ShapesOut w0.heap.size W (⟨(lv : Int), pre.map fun (x : Nat) => (x : Int), ks.map fun q => (q.at_ : Int), denseB k ks.length, 0⟩ :: Ls.flatten)) := by
  have hEW := hE.below hb0
  obtain ⟨r0, s0, hr0, hs0, hpart, hcut, hn2⟩ := hG.part_ hF hE hkk
  have hlv : lv < 64 := by obtain ⟨_, _, _, h1, _⟩ := hF; exact h1
  have hLv : ∀ X, Below W.heap.size W X → Calls Tryz.prog 99 #[.slice B n m] X fun e w' => e = .returned (.int .i64 (lv : Nat)) ∧ Below X.heap.size X w' := fun X hX => by
    have := ref_level B n m k G.flatten r0 s0 X (hEW.below hX) hr0 hs0 (hkk r0 (List.mem_of_getElem? hr0)) (hkk s0 (List.mem_of_getElem? hs0)) (by omega) (by omega) (by omega)
    rwa [hpart] at this
  have hkl : ks.length ≤ 65536 := by
    obtain ⟨A, c, gs, hp, hS, hB⟩ := hF.head
    have h1 := len_le_of_ok hS.ok
    have h2 := pow16 hS.2.1
    simp [kidTh] at h1
    omega
  have hgl : G.length ≤ 65536 := by rw [hG.len]; exact hkl
  have HRS := hide (ref_shape_t B n m k lv G r0 W hEW hnm hkk hk1 hk hn hn2 hlv hG.parts hr0 hLv)
  have HKI := hide (fun (X : World) (hX : Below W.heap.size W X) => ref_kids B n m k lv G X (hEW.below hX) hnm hkk (by omega) hn (by omega) hlv hG.parts (fun Y hY => hLv Y (below_then hX hY)))
  have HE := hide hE
  have HB0 := hide hb0
  have HCUT := hide hcut
  have HG := hide hG
  have HKK := hide hkk
  have HIH := hide ih
  have HNM := hide hnm
  have HLS := hide hls
  have HLL := hide hL
  have HPI := hide (placesG_int hG)
  have HGN := hide hG.len
  have en0 : ((n : Int) == 0) = false := by simp; omega
  have en1 : ((n : Int) == 1) = false := by simp; omega
  obtain ⟨gl, hgle⟩ : ∃ gl, gl = G.length := ⟨_, rfl⟩
  have HGE := hide hgle
  rw [← hgle] at HRS HKI hgl
  clear hF hb0 hE hkk hG hls hL ih hEW hr0 hs0 hpart hcut hLv hnm hgle
  go_enter Tryz.func38, Tryz.ntmps38
  go_wp2_with fail
  refine HRS.out.mono ?_
  rintro e w1 ⟨A1, d1, C1, f1, rfl, hRA, hRC, hb1, hTA, hTC⟩
  obtain ⟨sc, hsc⟩ : ∃ sc : SC, sc = ⟨(lv : Int), pre.map fun (x : Nat) => (x : Int), ks.map fun q => (q.at_ : Int), denseB k ks.length, 0⟩ := ⟨_, rfl⟩
  have HSC := hide hsc
  rw [HCUT.out, u64s_int] at hRA
  rw [HPI.out] at hRC
  have hal := below_alloc hb1 (Nat.le_refl _) (.cells #[.int .i64 (lv : Int), .slice A1 k d1, .slice C1 gl f1, .bool (denseB k gl), .int .u64 0] 119)
  have ha1 := (Below.refl w1.heap.size w1).alloc (Nat.le_refl _) (.cells #[.int .i64 (lv : Int), .slice A1 k d1, .slice C1 gl f1, .bool (denseB k gl), .int .u64 0] 119)
  have hO2 : (w1.alloc (.cells #[.int .i64 (lv : Int), .slice A1 k d1, .slice C1 gl f1, .bool (denseB k gl), .int .u64 0] 119)).ownsRow W.heap.size 119 5 (.slice (some ⟨w1.heap.size, 0, none⟩) 1 1) 1 (shv ⟨A1, k, d1, C1, gl, f1, sc⟩) := by
    have := lit_shape w1 W.heap.size (⟨A1, k, d1, C1, gl, f1, sc⟩ : SR) hb1.size
    rw [hsc] at this ⊢
    simp only at this
    rw [← HGN.out, ← HGE.out] at this ⊢
    exact this
  have hok2 : SR.ok w0.heap.size (w1.alloc (.cells #[.int .i64 (lv : Int), .slice A1 k d1, .slice C1 gl f1, .bool (denseB k gl), .int .u64 0] 119)) (⟨A1, k, d1, C1, gl, f1, sc⟩ : SR) := by
    rw [hsc]
    refine ⟨hRA.below ha1, ?_, by show k ≤ _; omega, hgl, Still.ty (hTA.below ha1), Still.ty (hTC.below ha1)⟩
    have := hRC.below ha1
    simpa [Function.comp_def] using this
  have HO2 := hide hO2
  have HOK2 := hide hok2
  have HAL := hide hal
  have HKD := hide (HKI.out _ hal)
  clear hsc hRA hRC hb1 hTA hTC hal ha1 hO2 hok2 HRS HKI
  go_wp2_with fail
  refine HKD.out.mono ?_
  rintro e w3 ⟨C, f, rfl, hoC, hb3⟩
  have HO3 := hide (own_below HO2.out hb3)
  have HOK3 := hide (HOK2.out.below hb3)
  have HOC := hide hoC
  have HB3 := hide (below_then HAL.out hb3)
  have HCB : Hid (W.heap.size ≤ (w1.alloc (.cells #[.int .i64 (lv : Int), .slice A1 k d1, .slice C1 gl f1, .bool (denseB k gl), .int .u64 0] 119)).heap.size) := hide HAL.out.size
  generalize (w1.alloc (.cells #[.int .i64 (lv : Int), .slice A1 k d1, .slice C1 gl f1, .bool (denseB k gl), .int .u64 0] 119)).heap.size = cb at hoC HOC HCB
  generalize w1.heap.size = bs at *
  clear hoC hb3 HO2 HOK2 HAL HKD
  go_wp2
  go_loopw [3, 5] (fun x3 x5 wr => ∃ (j : Nat) (srs : List SR) (A3 : Option Addr) (d3 sl : Nat), x5 = .int .i64 (j : Int) ∧ j ≤ gl ∧ x3 = .slice A3 sl d3 ∧ sl = srs.length ∧ wr.ownsRow W.heap.size 119 5 (.slice A3 sl d3) sl (srs.flatMap shv) ∧ (∀ r ∈ srs, SR.ok w0.heap.size wr r) ∧ srs.map (·.sc) = sc :: (Ls.take j).flatten ∧
    wr.ownsRow cb 26 1 (.slice C gl f) gl (segvs B m G gl) ∧ Below W.heap.size W wr) (fun _ x _ => gl - (intOf x).toNat)
  case atStart =>
    refine ⟨0, [⟨A1, k, d1, C1, gl, f1, sc⟩], some ⟨bs, 0, none⟩, 1, 1, rfl, Nat.zero_le _, rfl, rfl, ?_, fun r hr => ?_, by simp, HOC.out, HB3.out⟩
    · simpa using HO3.out
    · rw [List.mem_singleton.1 hr]; exact HOK3.out
  case round =>
    obtain ⟨j, srs, A3, d3, sl, rfl, hj, rfl, hsl, hO, hOK, hSC, hOC, hb⟩ := hrel
    have HSL := hide hsl
    have HO := hide hO
    have HOK := hide hOK
    have HSCS := hide hSC
    have HOCC := hide hOC
    have HB := hide hb
    rename World => wz
    by_cases hjn : j < gl
    · obtain ⟨gg, hg⟩ : ∃ gg, G[j]? = some gg := ⟨G[j]'(by have := HGE.out; omega), List.getElem?_eq_getElem _⟩
      obtain ⟨q, hq⟩ : ∃ q, ks[j]? = some q := ⟨ks[j]'(by have := HGE.out; have := HGN.out; omega), List.getElem?_eq_getElem _⟩
      obtain ⟨L, hLj⟩ : ∃ L, Ls[j]? = some L := ⟨Ls[j]'(by have := HGE.out; have := HGN.out; have := HLS.out; omega), List.getElem?_eq_getElem _⟩
      obtain ⟨s1, s2, s3⟩ := HE.out.seg HNM.out hg
      obtain ⟨b5, o5, hCe, hbl5, u, hu, k5⟩ := (own_rw hOC).2.one hjn
      have hu2 : u = .slice (cutA B m 2 (fl G j)) gg.length (m - fl G j) := by
        unfold segvs at hu
        rw [List.getElem?_map, List.getElem?_range hjn] at hu
        simp at hu
        rw [← hu, s1]
      rw [hu2] at k5
      have hge := HG.out.es j gg q hg hq
      have hgn : gg.length ≤ 65536 := by
        have := fl_le hg
        rw [HE.out.len] at this
        omega
      have hlt : (Ls.take j).flatten.length + L.length ≤ 200000 := by
        have h1 := HLL.out
        have h2 : Ls.flatten.length = ((Ls.take j).flatten ++ L ++ (Ls.drop (j + 1)).flatten).length := by
          have hjl := (List.getElem?_eq_some_iff.1 hLj).1
          have hjv := (List.getElem?_eq_some_iff.1 hLj).2
          conv => lhs; rw [← List.take_append_drop j Ls, List.drop_eq_getElem_cons hjl, hjv]
          simp
        rw [h2] at h1
        simp only [List.length_append] at h1
        omega
      have hsn : sl = 1 + (Ls.take j).flatten.length := by
        have := congrArg List.length hSC
        rw [List.length_map, List.length_cons] at this
        omega
      have hsl2 : sl + L.length ≤ 200001 := by omega
      have HCI := hide (HIH.out j q L hq hLj w0 wz (cutA B m 2 (fl G j)) gg.length (m - fl G j) gg (below_then HB0.out hb) s2 s3 hgn (fun r hr => HKK.out r (List.mem_flatten.2 ⟨gg, List.mem_of_getElem? hg, hr⟩)) hge)
      have HLJ := hide hLj
      have HSZ : Hid (W.heap.size ≤ wz.heap.size) := hide hb.size
      have HS2 := hide hsl2
      have hjn' : (j : Int) < (gl : Int) := by omega
      have hj0 : (0 : Int) ≤ (j : Int) := by omega
      subst hCe
      generalize cutA B m 2 (fl G j) = cA at *
      generalize m - fl G j = cg at *
      generalize gg.length = gn at *
      clear hO hOK hSC hOC hb hsl hg hq hLj s1 s2 s3 hu hu2 hge hgn hlt hsn hsl2
      go_wp2_with fail
      refine HCI.out.mono ?_
      rintro e w7 ⟨A7, d7, sr7, rfl, ho7, hok7, hsc7, hb7⟩
      have hlen7 : sr7.length = L.length := by rw [← hsc7, List.length_map]
      obtain ⟨l7, hl7⟩ : ∃ l7, l7 = sr7.length := ⟨_, rfl⟩
      rw [← hl7] at ho7 hlen7 ⊢
      have hsum : sl + l7 ≤ 200001 := by rw [hlen7]; exact HS2.out
      have hR7 := (own_rw ho7).2
      have HO7 := hide ho7
      have HOK7 := hide hok7
      have HSC7 := hide hsc7
      have HL7 := hide hl7
      have HB7 := hide hb7
      have HR7 := hide hR7
      have hbW : Below W.heap.size W w7 := below_then HB.out hb7
      have HBW := hide hbW
      clear ho7 hok7 hsc7 hb7 hlen7 hl7 hR7 hbW k5 HCI
      go_wp2_with (first
        | (at_builtin
           refine app_b _ rfl (.tmp 24) (.tmp 29) _ rfl W.heap.size 119 _ 5 72 Tryz.underlying73 info_sh rfl (by omega) _ sl _ rfl (own_below HO.out HB7.out) A7 l7 d7 (sr7.flatMap shv) rfl W HBW.out (Nat.le_refl _) HR7.out ?h2 (by unfold maxLen; omega) (by omega) ?_
           case h2 =>
             intro u hu
             obtain ⟨r, _, hu⟩ := List.mem_flatMap.1 hu
             unfold shv at hu
             simp only [List.mem_cons, List.not_mem_nil, or_false] at hu
             rcases hu with rfl | rfl | rfl | rfl | rfl <;> rfl
           intro v9 w9 ho9 hb9 hg9
           obtain ⟨A9, d9, rfl, -, -⟩ := Rw.of_own ho9
           have hoq := own_below HO.out HB7.out
           have HO9 := hide ho9
           have HB9 := hide hb9
           have HOC9 := hide (own_grown (own_below HOCC.out HB7.out) hoq (by decide) hg9)
           have HOKA := hide (fun r hr => ((HOK.out r hr).below HB7.out).grown hoq HB0.out.size (by decide) (by decide) hg9)
           have HOKB := hide (fun r hr => (HOK7.out r hr).grown hoq HB0.out.size (by decide) (by decide) hg9)
           clear ho9 hb9 hg9 hoq)
        | fail)
      go_roundw
      case rel =>
        refine ⟨j + 1, srs ++ sr7, A9, d9, sl + l7, by go_num, by omega, rfl, ?_, ?_, fun r hr => ?_, ?_, HOC9.out, HB9.out⟩
        · rw [List.length_append, ← HSL.out, ← HL7.out]
        · rw [List.flatMap_append]; exact HO9.out
        · rcases List.mem_append.1 hr with hr | hr
          · exact HOKA.out r hr
          · exact HOKB.out r hr
        · rw [List.map_append, HSCS.out, HSC7.out, List.take_add_one, HLJ.out]
          simp
      case measure => simp [intOf]; omega
    · have hj' : j = gl := by omega
      have e9 : decide ((j : Int) < (gl : Int)) = false := by simp; omega
      have HJ := hide hj'
      clear hO hOK hSC hOC hb hsl
      go_wp2
      go_ret
      have hsl := HSL.out
      refine ⟨A3, d3, srs, by rw [← hsl]; rfl, by rw [← hsl]; exact HO.out, HOK.out, ?_, HB.out⟩
      rw [HSCS.out, HSC.out, HJ.out, List.take_of_length_le (by have := HGE.out; have := HGN.out; have := HLS.out; omega)]
/-- Entries in runs of one address. -/
def grp (m : Nat) : List Ent → List (List Ent)
  | [] => []
  | e :: l => match grp m l with
    | [] => [[e]]
    | [] :: gs => [e] :: gs
    | (f :: g) :: gs => if addrOf e.1 m = addrOf f.1 m then (e :: f :: g) :: gs else [e] :: (f :: g) :: gs
/-- The levels of a list's shapes. -/
def lvsN : Nat → List Ent → List Int
  | 0, _ => []
  | n + 1, es => match es with
    | [] => []
    | [_] => [-1]
    | e :: f :: l => part e.1 ((e :: f :: l).getLast (by simp)).1 :: (grp (part e.1 ((e :: f :: l).getLast (by simp)).1).toNat (e :: f :: l)).flatMap (lvsN n)
theorem grp_cons (m : Nat) (e : Ent) (l : List Ent) : grp m (e :: l) = match grp m l with
    | [] => [[e]]
    | [] :: gs => [e] :: gs
    | (f :: g) :: gs => if addrOf e.1 m = addrOf f.1 m then (e :: f :: g) :: gs else [e] :: (f :: g) :: gs := rfl
theorem grp_head (m : Nat) (f : Ent) (l : List Ent) : ∃ g gs, grp m (f :: l) = (f :: g) :: gs := by
  rw [grp_cons]
  cases grp m l with
  | nil => exact ⟨_, _, rfl⟩
  | cons x gs =>
    cases x with
    | nil => exact ⟨_, _, rfl⟩
    | cons y g =>
      by_cases h : addrOf f.1 m = addrOf y.1 m
      · simp only [h, if_true]; exact ⟨_, _, rfl⟩
      · simp only [h, if_false]; exact ⟨_, _, rfl⟩
theorem grp_run {m a : Nat} : ∀ (g : List Ent) (l : List Ent), g ≠ [] → (∀ e ∈ g, addrOf e.1 m = a) → (∀ f, l.head? = some f → addrOf f.1 m ≠ a) → grp m (g ++ l) = g :: grp m l
  | [], l, h, _, _ => absurd rfl h
  | [e], l, _, hg, hl => by
    show grp m (e :: l) = [e] :: grp m l
    rw [grp_cons]
    cases l with
    | nil => rfl
    | cons f l =>
      have hne : addrOf e.1 m ≠ addrOf f.1 m := by
        have h1 := hg e List.mem_cons_self
        have h2 := hl f rfl
        omega
      obtain ⟨g, gs, h3⟩ := grp_head m f l
      rw [h3]
      simp only [hne, if_false]
  | e :: f :: g, l, _, hg, hl => by
    have ih := grp_run (m := m) (a := a) (f :: g) l (by simp) (fun x hx => hg x (List.mem_cons_of_mem _ hx)) hl
    show grp m (e :: ((f :: g) ++ l)) = _
    rw [grp_cons, ih]
    have h1 := hg e List.mem_cons_self
    have h2 := hg f (by simp)
    simp only [h1, h2, if_true]
theorem grp_flat {m : Nat} : ∀ (Gs : List (List Ent)), (∀ g ∈ Gs, g ≠ []) → (∀ g ∈ Gs, ∀ e ∈ g, ∀ f ∈ g, addrOf e.1 m = addrOf f.1 m) → Gs.Pairwise (fun g h => ∀ e ∈ g, ∀ f ∈ h, addrOf e.1 m ≠ addrOf f.1 m) → grp m Gs.flatten = Gs
  | [], _, _, _ => rfl
  | g :: Gs, h1, h2, h3 => by
    have ih := grp_flat (m := m) Gs (fun g hg => h1 g (List.mem_cons_of_mem _ hg)) (fun g hg => h2 g (List.mem_cons_of_mem _ hg)) (List.pairwise_cons.1 h3).2
    obtain ⟨e, t, rfl⟩ := List.exists_cons_of_ne_nil (h1 g List.mem_cons_self)
    rw [List.flatten_cons, grp_run (a := addrOf e.1 m) (e :: t) Gs.flatten (by simp) (fun x hx => h2 _ List.mem_cons_self x hx e List.mem_cons_self) ?_, ih]
    intro f hf heq
    cases Gs with
    | nil => simp at hf
    | cons g' Gs =>
      obtain ⟨e', t', rfl⟩ := List.exists_cons_of_ne_nil (h1 g' (by simp))
      simp at hf
      subst hf
      exact (List.pairwise_cons.1 h3).1 _ List.mem_cons_self e List.mem_cons_self e' List.mem_cons_self heq.symm
/-- The first and the last entry of a fork part at its level; its kids' entries are the runs. -/
theorem FK.runs {k : Nat} {f : PF} (h : FK k f) (hne : ∀ q ∈ f.ks, q.es ≠ []) : (∀ (e g : Ent) (l : List Ent) (hl : kidEs f.ks = e :: g :: l), part e.1 ((e :: g :: l).getLast (by simp)).1 = (f.lv : Int)) ∧ grp f.lv (kidEs f.ks) = f.ks.map (·.es) := by
  have hk : kidEs f.ks = (f.ks.map (·.es)).flatten := by unfold kidEs; rw [List.flatMap_def]
  constructor
  · intro e g l hl
    have h2 := h.two
    have hs := h.sort
    have h0 := h
    obtain ⟨q, ks', hks⟩ : ∃ q ks', f.ks = q :: ks' := List.exists_cons_of_length_pos (by omega)
    have hlen : ks' ≠ [] := by
      intro h3
      rw [hks, h3] at h2
      simp at h2
    obtain ⟨r, hr⟩ : ∃ r, r = ks'.getLast hlen := ⟨_, rfl⟩
    have hrm : r ∈ ks' := by rw [hr]; exact List.getLast_mem hlen
    have hqr : q.at_ < r.at_ := by
      rw [hks] at hs
      exact (List.pairwise_cons.1 hs).1 r hrm
    have hqne := hne q (by rw [hks]; exact List.mem_cons_self)
    have hrne := hne r (by rw [hks]; exact List.mem_cons_of_mem _ hrm)
    have he : e ∈ q.es := by
      obtain ⟨x, t, hx⟩ := List.exists_cons_of_ne_nil hqne
      have h4 := hl
      rw [hks] at h4
      unfold kidEs at h4
      rw [List.flatMap_cons, hx] at h4
      injection h4 with h4 _
      rw [hx, ← h4]
      exact List.mem_cons_self
    have hz : ((e :: g :: l).getLast (by simp)) ∈ r.es := by
      have h5 : kidEs f.ks ≠ [] := by rw [hl]; simp
      have h6 : (e :: g :: l).getLast (by simp) = (kidEs f.ks).getLast h5 := by simp only [hl]
      rw [h6]
      have h7 : kidEs f.ks = kidEs (q :: ks'.dropLast) ++ r.es := by
        have h8 : f.ks = (q :: ks'.dropLast) ++ [r] := by rw [hks, List.cons_append, hr, List.dropLast_concat_getLast]
        conv => lhs; rw [h8]
        unfold kidEs
        rw [List.flatMap_append]
        simp
      have h9 : (kidEs f.ks).getLast h5 = r.es.getLast hrne := by
        simp only [h7]
        rw [List.getLast_append_of_ne_nil _ hrne]
      rw [h9]
      exact List.getLast_mem hrne
    obtain ⟨a1, a2, a3⟩ := h.es q (by rw [hks]; exact List.mem_cons_self) e he
    obtain ⟨b1, b2, b3⟩ := h.es r (by rw [hks]; exact List.mem_cons_of_mem _ hrm) _ hz
    exact part_unique a1 b1 (fun b hb => by rw [a3 b hb, b3 b hb]) (by rw [a2, b2]; omega)
  · rw [hk]
    refine grp_flat _ (fun g hg => ?_) (fun g hg e he f' hf' => ?_) ?_
    · obtain ⟨q, hq, rfl⟩ := List.mem_map.1 hg
      exact hne q hq
    · obtain ⟨q, hq, rfl⟩ := List.mem_map.1 hg
      rw [(h.es q hq e he).2.1, (h.es q hq f' hf').2.1]
    · rw [List.pairwise_map]
      refine h.sort.imp_of_mem ?_
      intro q r hq hr hqr e he f' hf'
      rw [(h.es q hq e he).2.1, (h.es r hr f' hf').2.1]
      omega
/-- What is told of a node's shapes. -/
def ShapesAre (w : World) (k g : Nat) (es : List Ent) (L : List SC) : Prop :=
  SN w g L ∧ RefSh k es L ∧ L.length + 1 ≤ 2 * es.length ∧ ∀ n, es.length ≤ n → L.map (·.lv) = lvsN n es
theorem pick_all {α β : Type} {P : α → β → Prop} : ∀ (l : List α), (∀ a ∈ l, ∃ b, P a b) → ∃ bs : List β, bs.length = l.length ∧ ∀ (i : Nat) (a : α) (b : β), l[i]? = some a → bs[i]? = some b → P a b
  | [], _ => ⟨[], rfl, fun i a b h => by simp at h⟩
  | a :: l, h => by
    obtain ⟨b, hb⟩ := h a List.mem_cons_self
    obtain ⟨bs, h1, h2⟩ := pick_all l fun a ha => h a (List.mem_cons_of_mem _ ha)
    refine ⟨b :: bs, by simp [h1], fun i x y hx hy => ?_⟩
    cases i with
    | zero => simp at hx hy; rw [← hx, ← hy]; exact hb
    | succ i => exact h2 i x y (by simpa using hx) (by simpa using hy)
theorem kid_count : ∀ (ks : List Kid), (∀ q ∈ ks, q.es ≠ []) → ks.length ≤ (kidEs ks).length
  | [], _ => by simp
  | q :: ks, h => by
    have h1 := kid_count ks fun q hq => h q (List.mem_cons_of_mem _ hq)
    have h2 := List.length_pos_iff.2 (h q List.mem_cons_self)
    unfold kidEs at h1 ⊢
    rw [List.flatMap_cons, List.length_append, List.length_cons]
    omega
theorem sum_len : ∀ (ks : List Kid) (Ls : List (List SC)), Ls.length = ks.length → (∀ (i : Nat) (q : Kid) (L : List SC), ks[i]? = some q → Ls[i]? = some L → L.length + 1 ≤ 2 * q.es.length) → Ls.flatten.length + ks.length ≤ 2 * (kidEs ks).length
  | [], [], _, _ => by simp
  | [], _ :: _, h, _ => by simp at h
  | _ :: _, [], h, _ => by simp at h
  | q :: ks, L :: Ls, h, hk => by
    have h1 := sum_len ks Ls (by simpa using h) fun i q' L' h1 h2 => hk (i + 1) q' L' (by simpa using h1) (by simpa using h2)
    have h2 := hk 0 q L rfl rfl
    unfold kidEs at h1 ⊢
    simp only [List.flatten_cons, List.flatMap_cons, List.length_append, List.length_cons]
    omega
theorem lv_flat : ∀ (ks : List Kid) (Ls : List (List SC)) (n : Nat), Ls.length = ks.length → (∀ (i : Nat) (q : Kid) (L : List SC), ks[i]? = some q → Ls[i]? = some L → L.map (·.lv) = lvsN n q.es) → Ls.flatten.map (·.lv) = (ks.map (·.es)).flatMap (lvsN n)
  | [], [], _, _, _ => by simp
  | [], _ :: _, _, h, _ => by simp at h
  | _ :: _, [], _, h, _ => by simp at h
  | q :: ks, L :: Ls, n, h, hk => by
    have h1 := lv_flat ks Ls n (by simpa using h) fun i q' L' h1 h2 => hk (i + 1) q' L' (by simpa using h1) (by simpa using h2)
    have h2 := hk 0 q L rfl rfl
    rw [List.flatten_cons, List.map_append, h2, h1, List.map_cons, List.flatMap_cons]
theorem shapes_are {w : World} {k g : Nat} {lv : Int} {pre : List Nat} {es : List Ent} (h : NodeOf w k g lv pre es) (hk1 : 1 ≤ k) (hk : k ≤ 16) (hes : es.length ≤ 65536) : ∃ L, ShapesAre w k g es L := by
  induction h with
  | @leaf g A c p v hv hp hc hB =>
    refine ⟨_, .mk (gs := []) (Ls := []) (shape_leaf hp hk hB) rfl (fun i g' L h => by simp at h), refsh_leaf hk, by simp, fun n hn => ?_⟩
    obtain ⟨n, rfl⟩ : ∃ n', n = n' + 1 := ⟨n - 1, by simp at hn; omega⟩
    rfl
  | @fork g A c lv pre gs ks hlv hp hc hz hkid hl ha hs h2 hS hB ih =>
    have hF : Fork w k g lv pre ks := ⟨A, c, gs, hlv, hp, hc, hz, hkid, hl, ha, hs, h2, hS, hB⟩
    have hle : ∀ q ∈ ks, q.es.length ≤ (kidEs ks).length := by
      intro q hq
      obtain ⟨l1, l2, rfl⟩ := List.append_of_mem hq
      unfold kidEs
      rw [List.flatMap_append, List.flatMap_cons]
      simp only [List.length_append]
      omega
    obtain ⟨Ls, h3, h4⟩ := pick_all (P := fun q L => ShapesAre w k q.blk q.es L) ks fun q hq => ih q hq (Nat.le_trans (hle q hq) hes)
    have hne : ∀ q ∈ ks, q.es ≠ [] := fun q hq => (hkid q hq).info.2.1
    have hsum := sum_len ks Ls h3 fun i q L h5 h6 => (h4 i q L h5 h6).2.2.1
    have hfk : FK k ⟨g, lv, pre, ks⟩ := Fork.fk (f := ⟨g, lv, pre, ks⟩) hF
    obtain ⟨r1, r2⟩ := hfk.runs hne
    simp only at r1 r2
    refine ⟨⟨(lv : Int), pre.map fun (x : Nat) => (x : Int), ks.map fun q => (q.at_ : Int), denseB k ks.length, 0⟩ :: Ls.flatten, .mk (gs := ks.map (·.blk)) (shape_fork hF hk) (by simp [h3]) (fun i g' L h5 h6 => ?_), ?_, ?_, fun n hn => ?_⟩
    · rw [List.getElem?_map] at h5
      obtain ⟨q, hq, rfl⟩ := Option.map_eq_some_iff.1 h5
      exact (h4 i q L hq h6).1
    · intro w0 W B n m rows hb0 hE hnm hn hkk hents
      obtain ⟨G, rfl, hG⟩ := forkG hF hents
      exact refsh_fork hF hk1 hk hb0 hE hnm hn hkk hG Ls h3 (by omega) fun i q L h5 h6 => (h4 i q L h5 h6).2.1
    · rw [List.length_cons]
      omega
    · have hge2 : 2 ≤ (kidEs ks).length := Nat.le_trans h2 (kid_count ks hne)
      obtain ⟨n, rfl⟩ : ∃ n', n = n' + 1 := ⟨n - 1, by omega⟩
      obtain ⟨e, e', l, hel⟩ : ∃ e e' l, kidEs ks = e :: e' :: l := by
        match hh : kidEs ks, hge2 with
        | [], h => simp at h
        | [_], h => simp at h
        | e :: e' :: l, _ => exact ⟨e, e', l, rfl⟩
      have hpt := r1 e e' l hel
      rw [hel]
      unfold lvsN
      simp only
      rw [hpt, Int.toNat_natCast, ← hel, r2, List.map_cons]
      congr 1
      refine lv_flat ks Ls n h3 fun i q L h5 h6 => (h4 i q L h5 h6).2.2.2 n ?_
      have hq := List.mem_of_getElem? h5
      have : q.es.length < (kidEs ks).length := by
        obtain ⟨l1, l2, hll⟩ := List.append_of_mem hq
        have hh2 := h2
        rw [hll] at hh2
        have hl12 : l1 ≠ [] ∨ l2 ≠ [] := by
          cases l1 with
          | nil =>
            cases l2 with
            | nil => simp at hh2
            | cons => exact .inr (by simp)
          | cons => exact .inl (by simp)
        have hpos : ∀ l : List Kid, (∀ q ∈ l, q ∈ ks) → l ≠ [] → 0 < (kidEs l).length := by
          intro l hl hlne
          obtain ⟨q, t, rfl⟩ := List.exists_cons_of_ne_nil hlne
          have := List.length_pos_iff.2 (hne q (hl q List.mem_cons_self))
          unfold kidEs
          rw [List.flatMap_cons, List.length_append]
          omega
        have hsz : (kidEs ks).length = (kidEs l1).length + (q.es.length + (kidEs l2).length) := by
          rw [hll]
          unfold kidEs
          rw [List.flatMap_append, List.flatMap_cons]
          simp only [List.length_append]
        rcases hl12 with h | h
        · have := hpos l1 (fun q' hq' => by rw [hll]; simp [hq']) h
          omega
        · have := hpos l2 (fun q' hq' => by rw [hll]; simp [hq']) h
          omega
      omega
theorem sr_len {b : Nat} {w : World} {r : SR} (h : r.ok b w) : r.sc.xs.length = r.k ∧ r.sc.pl.length = r.m := by
  have h1 := h.1.1
  have h2 := h.2.1.1
  simp at h1 h2
  exact ⟨h1, h2⟩
set_option maxHeartbeats 4000000 in
set_option maxRecDepth 100000 in
theorem same_shapes {w : World} {A B : Option Addr} {n c d ba bb : Nat} {ra rb : List SR} (hA : Rw w 5 A n (ra.flatMap shv)) (hB : Rw w 5 B n (rb.flatMap shv)) (hoa : ∀ r ∈ ra, SR.ok ba w r) (hob : ∀ r ∈ rb, SR.ok bb w r) (hsc : ra.map (·.sc) = rb.map (·.sc)) (hn : n ≤ 200000) :
    Calls Tryz.prog 36 #[.slice A n c, .slice B n d] w fun e w' => e = .returned (.bool true) ∧ Below w.heap.size w w' := by
  have HA := hide hA
  have HB := hide hB
  have HOA := hide hoa
  have HOB := hide hob
  have HSC := hide hsc
  clear hA hB hoa hob hsc
  go_enter Tryz.func36, Tryz.ntmps36
  go_wp2
  go_loopw [5] (fun x5 wr => ∃ (j : Nat), x5 = .int .i64 (j : Int) ∧ j ≤ n ∧ Below w.heap.size w wr) (fun x _ => n - (intOf x).toNat)
  case atStart => exact ⟨0, rfl, Nat.zero_le _, Below.refl _ _⟩
  case round =>
    obtain ⟨j, rfl, hj, hb⟩ := hrel
    have HBL := hide hb
    rename World => wz
    by_cases hjn : j < n
    · obtain ⟨b1, o1, r, rfl, hb1, hr, hc1⟩ := (HA.out.below hb).elem shv_len hjn (by omega)
      obtain ⟨b2, o2, s, rfl, hb2, hs, hc2⟩ := (HB.out.below hb).elem shv_len hjn (by omega)
      have hok1 := (HOA.out r (List.mem_of_getElem? hr)).below hb
      have hok2 := (HOB.out s (List.mem_of_getElem? hs)).below hb
      have hrs : r.sc = s.sc := by
        have h1 : (ra.map (·.sc))[j]? = some r.sc := by rw [List.getElem?_map, hr]; rfl
        rw [HSC.out, List.getElem?_map, hs] at h1
        simp at h1
        exact h1.symm
      obtain ⟨l1, l2⟩ := sr_len hok1
      obtain ⟨l3, l4⟩ := sr_len hok2
      obtain ⟨A1, k1, c1, C1, m1, f1, sc1⟩ := r
      obtain ⟨A2, k2, c2, C2, m2, f2, sc2⟩ := s
      simp only at hrs l1 l2 l3 l4
      subst hrs
      obtain rfl : k1 = k2 := by omega
      obtain rfl : m1 = m2 := by omega
      obtain ⟨lv, xs, pl, dn, v⟩ := sc1
      have x0 : wz.cell? ⟨b1, o1 + j * 5, none⟩ = some (.int .i64 lv) := hc1 0 _ rfl
      have x1 : wz.cell? ⟨b1, o1 + j * 5 + 1, none⟩ = some (.slice A1 k1 c1) := by rw [Nat.add_assoc]; exact hc1 1 _ rfl
      have x2 : wz.cell? ⟨b1, o1 + j * 5 + 2, none⟩ = some (.slice C1 m1 f1) := by rw [Nat.add_assoc]; exact hc1 2 _ rfl
      have x3 : wz.cell? ⟨b1, o1 + j * 5 + 3, none⟩ = some (.bool dn) := by rw [Nat.add_assoc]; exact hc1 3 _ rfl
      have x4 : wz.cell? ⟨b1, o1 + j * 5 + 4, none⟩ = some (.int .u64 v) := by rw [Nat.add_assoc]; exact hc1 4 _ rfl
      have y0 : wz.cell? ⟨b2, o2 + j * 5, none⟩ = some (.int .i64 lv) := hc2 0 _ rfl
      have y1 : wz.cell? ⟨b2, o2 + j * 5 + 1, none⟩ = some (.slice A2 k1 c2) := by rw [Nat.add_assoc]; exact hc2 1 _ rfl
      have y2 : wz.cell? ⟨b2, o2 + j * 5 + 2, none⟩ = some (.slice C2 m1 f2) := by rw [Nat.add_assoc]; exact hc2 2 _ rfl
      have y3 : wz.cell? ⟨b2, o2 + j * 5 + 3, none⟩ = some (.bool dn) := by rw [Nat.add_assoc]; exact hc2 3 _ rfl
      have y4 : wz.cell? ⟨b2, o2 + j * 5 + 4, none⟩ = some (.int .u64 v) := by rw [Nat.add_assoc]; exact hc2 4 _ rfl
      have HSS := hide (fun (W : World) (hW : Below wz.heap.size wz W) => same_shape A1 A2 C1 C2 k1 c1 c2 m1 f1 f2 lv dn v xs pl W (hok1.1.below hW) (hok2.1.below hW) (hok1.2.1.below hW) (hok2.2.1.below hW) (by have := hok1.2.2.1; simp only at this; omega) (by have := hok1.2.2.2.1; simp only at this; omega))
      clear hr hs hc1 hc2 hok1 hok2 l1 l2 l3 l4 hb
      go_wp2_with fail
      go_region_held3 (fun w' => w'.cell? ⟨b1, o1 + j * 5, none⟩ = some (.int .i64 lv) ∧ w'.cell? ⟨b1, o1 + j * 5 + 1, none⟩ = some (.slice A1 k1 c1) ∧ w'.cell? ⟨b1, o1 + j * 5 + 2, none⟩ = some (.slice C1 m1 f1) ∧ w'.cell? ⟨b1, o1 + j * 5 + 3, none⟩ = some (.bool dn) ∧ w'.cell? ⟨b1, o1 + j * 5 + 4, none⟩ = some (.int .u64 v) ∧ w'.cell? ⟨b2, o2 + j * 5, none⟩ = some (.int .i64 lv) ∧ w'.cell? ⟨b2, o2 + j * 5 + 1, none⟩ = some (.slice A2 k1 c2) ∧ w'.cell? ⟨b2, o2 + j * 5 + 2, none⟩ = some (.slice C2 m1 f2) ∧ w'.cell? ⟨b2, o2 + j * 5 + 3, none⟩ = some (.bool dn) ∧ w'.cell? ⟨b2, o2 + j * 5 + 4, none⟩ = some (.int .u64 v))
        (first
          | go_keep
          | exact hk5)
        (first
          | (go_at_call 62
             refine (HSS.out wz.drew (Below.refl _ wz).drew).mono ?_
             rintro e w5 ⟨rfl, hb5⟩
             have hd5 : Below wz.heap.size wz w5 := (Below.refl _ wz).drew.trans hb5
             have hk5 := And.intro ((hd5.cell (p := ⟨b1, o1 + j * 5, none⟩) hb1).trans x0) (And.intro ((hd5.cell (p := ⟨b1, o1 + j * 5 + 1, none⟩) hb1).trans x1) (And.intro ((hd5.cell (p := ⟨b1, o1 + j * 5 + 2, none⟩) hb1).trans x2) (And.intro ((hd5.cell (p := ⟨b1, o1 + j * 5 + 3, none⟩) hb1).trans x3) (And.intro ((hd5.cell (p := ⟨b1, o1 + j * 5 + 4, none⟩) hb1).trans x4) (And.intro ((hd5.cell (p := ⟨b2, o2 + j * 5, none⟩) hb2).trans y0) (And.intro ((hd5.cell (p := ⟨b2, o2 + j * 5 + 1, none⟩) hb2).trans y1) (And.intro ((hd5.cell (p := ⟨b2, o2 + j * 5 + 2, none⟩) hb2).trans y2) (And.intro ((hd5.cell (p := ⟨b2, o2 + j * 5 + 3, none⟩) hb2).trans y3) (((hd5.cell (p := ⟨b2, o2 + j * 5 + 4, none⟩) hb2).trans y4))))))))))))
      go_wp2
      go_roundw
      case rel => exact ⟨j + 1, by go_num, by omega, below_then HBL.out hd5⟩
      case measure => simp [intOf]; omega
    · have hj' : ¬ j < n := hjn
      have e9 : decide ((j : Int) < (n : Int)) = false := by simp; omega
      go_wp2
      go_ret
      exact ⟨rfl, hb⟩
theorem sums_fld0 (x0 x1 x2 x3 : Value) (w : World) : (Instr.field 100 (.agg #[x0, x1, x2, x3]) 0).run Tryz.prog w = .ok x0 w := by kernel_rfl
set_option maxHeartbeats 1000000 in
set_option maxRecDepth 100000 in
theorem tr_len_of {w : World} {t : Option Addr} {root : Option Addr} {c s mn mx : Nat} (hR : Calls Tryz.prog 39 #[.pointer t] w fun e w' => e = .returned (.pointer root) ∧ w = w')
    (hS : Calls Tryz.prog 53 #[.pointer root] w fun e w' => e = .returned (Sum4.val ⟨c, s, mn, mx⟩) ∧ Below w.heap.size w w') (hc : c ≤ 65536) :
    Calls Tryz.prog 31 #[.pointer t] w fun e w' => e = .returned (.int .i64 (c : Int)) ∧ Below w.heap.size w w' := by
  have HR := hide hR
  have HS := hide hS
  have q0 := sums_fld0 (.int .u64 (c : Int)) (.int .u64 (s : Int)) (.int .u64 (mn : Int)) (.int .u64 (mx : Int))
  have ew : IntKind.i64.wrap (c : Int) = (c : Int) := by rw [IntKind.wrap_i64]; omega
  have ew2 : wrap64 (c : Int) = (c : Int) := by unfold wrap64; omega
  clear hR hS
  unfold Sum4.val at HS
  go_enter Tryz.func31, Tryz.ntmps31
  go_wp2_with fail
  refine HR.out.mono ?_
  rintro e w1 ⟨rfl, rfl⟩
  go_wp2_with fail
  refine HS.out.mono ?_
  rintro e w1 ⟨rfl, hb1⟩
  have HB := hide hb1
  clear hb1
  go_wp2
  go_ret
  exact ⟨rfl, HB.out⟩
theorem tr_len {w : World} {k t : Nat} {es : List Ent} (h : TreeOf w k t es) (hes : es.length ≤ 65536) : Calls Tryz.prog 31 #[.pointer (some ⟨t, 0, none⟩)] w fun e w' => e = .returned (.int .i64 (es.length : Nat)) ∧ Below w.heap.size w w' := by
  obtain ⟨h1, h2, ⟨hT, rfl⟩ | ⟨g, lv, pre, hT, hN⟩⟩ := h
  · exact tr_len_of (c := 0) (s := 0) (mn := 0) (mx := 0) (tr_root hT) (nd_sums_nil w) (by omega)
  · obtain ⟨A, c, v, kids, hB, -⟩ := hN.head
    have hS := nd_sums hB
    have hl : es.length % 2 ^ 64 = es.length := Nat.mod_eq_of_lt (by omega)
    have he : sumsOf es = ⟨es.length, (es.map (·.2)).sum % 2 ^ 64, minL (es.map (·.2)), maxL (es.map (·.2))⟩ := by unfold sumsOf; rw [hl]
    rw [he] at hS
    exact tr_len_of (tr_root hT) hS hes
theorem tr_len_nil (w : World) : Calls Tryz.prog 31 #[.pointer none] w fun e w' => e = .returned (.int .i64 0) ∧ Below w.heap.size w w' :=
  tr_len_of (c := 0) (s := 0) (mn := 0) (mx := 0) (tr_root_nil w) (nd_sums_nil w) (by omega)
/-- A tree's shapes are the document's. -/
theorem tr_shapes_any {w : World} {k t : Nat} {es : List Ent} (h : TreeOf w k t es) (hes : es.length ≤ 30000) :
    ∃ L, (∀ W, Below w.heap.size w W → Calls Tryz.prog 37 #[.pointer (some ⟨t, 0, none⟩)] W (ShapesOut W.heap.size W L)) ∧ RefSh k es L ∧ L.length ≤ 60000 ∧ ∀ n, es.length ≤ n → L.map (·.lv) = lvsN n es := by
  obtain ⟨h1, h2, ⟨hT, rfl⟩ | ⟨g, lv, pre, hT, hN⟩⟩ := h
  · refine ⟨[], fun W hW => (tr_shapes_none (tr_root (Blk.below hT hW))).mono fun e w' ⟨h1, h2⟩ => ?_, refsh_nil k, by simp, fun n hn => ?_⟩
    · exact ⟨none, 0, [], h1, World.ownsRow_nil _ _ _ _, fun r hr => (by cases hr), rfl, h2⟩
    · cases n <;> rfl
  · obtain ⟨L, hL1, hL2, hL3, hL4⟩ := shapes_are hN h1 h2 (by omega)
    exact ⟨L, fun W hW => tr_shapes (Blk.below hT hW) (hL1.stay hW) (by omega), hL2, by omega, hL4⟩
set_option maxHeartbeats 2000000 in
set_option maxRecDepth 100000 in
theorem is_tree {w : World} {k t : Nat} {es : List Ent} (hT : TreeOf w k t es) {A : Option Addr} {n c : Nat} {rows : List ER} (hE : EntsAt w A n rows) (hnc : n ≤ c) (hn : n ≤ 30000) (hkk : ∀ r ∈ rows, r.n = k) (hes : ents rows = es) :
    Calls Tryz.prog 11 #[.pointer (some ⟨t, 0, none⟩), .int .i64 (k : Int), .slice A n c] w fun e w' => e = .returned (.bool true) ∧ Below w.heap.size w w' := by
  have hl : es.length = n := by rw [← hes, ← hE.len]; unfold ents; simp
  obtain ⟨L, hS, hRS, hLL, -⟩ := tr_shapes_any hT (by omega)
  obtain ⟨root, hTB⟩ : ∃ root, TreeBlk w t k root := by
    obtain ⟨_, _, ⟨h, _⟩ | ⟨g, _, _, h, _⟩⟩ := hT
    · exact ⟨_, h⟩
    · exact ⟨_, h⟩
  have HK := hide (tr_k hTB)
  have HLen := hide (tr_len hT (by omega))
  have HT := hide hT
  have HS := hide hS
  have HRS := hide hRS
  have HE := hide hE
  have HKK := hide hkk
  have HES := hide hes
  have HL := hide hl
  rw [hl] at HLen
  clear hT hS hRS hE hkk hes hTB
  go_enter Tryz.func11, Tryz.ntmps11
  go_wp2_with fail
  refine HK.out.mono ?_
  rintro e w1 ⟨rfl, rfl⟩
  go_wp2_with fail
  refine HLen.out.mono ?_
  rintro e w2 ⟨rfl, hb2⟩
  have HB2 := hide hb2
  have HS2 := hide (HS.out w2 hb2)
  clear hb2
  go_wp2_with fail
  refine HS2.out.mono ?_
  rintro e w3 ⟨A3, d3, s3, rfl, ho3, hk3, hsc3, hb3⟩
  have hc3 := below_then HB2.out hb3
  have HC3 := hide hc3
  have HR3 := hide (own_rw ho3).2
  have HK3 := hide hk3
  have HSC3 := hide hsc3
  have hs3l : s3.length = L.length := by rw [← hsc3, List.length_map]
  have HCR := hide (HRS.out w w3 A n c rows hc3 HE.out hnc (by omega) HKK.out HES.out)
  clear ho3 hk3 hsc3 hb3 hc3 HS2
  go_wp2_with fail
  refine HCR.out.mono ?_
  rintro e w4 ⟨A4, d4, s4, rfl, ho4, hk4, hsc4, hb4⟩
  have hs4l : s4.length = L.length := by rw [← hsc4, List.length_map]
  have HR4 := (own_rw ho4).2
  rw [hs4l] at HR4 ⊢
  have hr3 := HR3.out.below hb4
  rw [hs3l] at hr3
  have HSS := hide (same_shapes (c := d3) (d := d4) hr3 HR4 (fun r hr => (HK3.out r hr).below hb4) hk4 (HSC3.out.trans hsc4.symm) (by omega))
  have HB4 := hide (below_then HC3.out hb4)
  clear hs3l hs4l HR3 HR4 hr3 HK3 HSC3 HCR ho4 hk4 hsc4 hb4
  generalize L.length = ll at *
  go_wp2_with fail
  refine HSS.out.mono ?_
  rintro e w5 ⟨rfl, hb5⟩
  have hc5 := below_then HB4.out hb5
  have HC5 := hide hc5
  obtain ⟨hk1, hk2, ⟨hTn, he0⟩ | ⟨g, lv, pre, hTs, hN⟩⟩ := HT.out
  · obtain rfl : n = 0 := by rw [← HL.out, he0]; rfl
    have HRT := hide (tr_root (Blk.below hTn hc5))
    clear hTn hb5 hc5 HSS
    go_wp2_with fail
    refine HRT.out.mono ?_
    rintro e w6 ⟨rfl, rfl⟩
    go_wp2
    go_ret
    exact ⟨rfl, HC5.out⟩
  · have hn0 : n ≠ 0 := by
      intro h0
      have := hN.info.2.1
      rw [← List.length_pos_iff] at this
      have := HL.out
      omega
    have en0 : ((n : Int) == 0) = false := by simp; omega
    have HRT := hide (tr_root (Blk.below hTs hc5))
    have hIs := is_node hN hk1 hk2 w5 A c rows hc5
    rw [HE.out.len] at hIs
    have HIS := hide (hIs (HE.out.below hc5) hnc (by omega) HKK.out HES.out)
    clear hTs hN hb5 hc5 HSS hn0 hIs
    go_wp2_with fail
    refine HRT.out.mono ?_
    rintro e w6 ⟨rfl, rfl⟩
    go_wp2_with fail
    refine HIS.out.mono ?_
    rintro e w6 ⟨rfl, hb6⟩
    have HB6 := hide (below_then HC5.out hb6)
    clear hb6
    go_wp2
    go_ret
    exact ⟨rfl, HB6.out⟩
end Go.Proofs.YtfkpanpageeklaaGreat
