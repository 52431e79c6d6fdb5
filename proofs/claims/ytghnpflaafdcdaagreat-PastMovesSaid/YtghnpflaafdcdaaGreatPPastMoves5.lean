/- PastMoves: contracts and plain laws that the statement leans on (TrC TrD PsA PsB PsC PlW). No condition. -/
import Derived.Test.YtghnpflaafdcdaaGreatPPastMoves4
set_option linter.unusedSimpArgs false
set_option linter.unusedVariables false
namespace Go.Proofs.YtghnpflaafdcdaaGreat
open Go.RowKit
/-- What a shape tells. -/
structure SC where
  lv : Int
  xs : List Int
  pl : List Int
  dn : Bool
  v : Int
structure SR where
  A : Option Addr
  k : Nat
  c : Nat
  C : Option Addr
  m : Nat
  f : Nat
  sc : SC
def shv (r : SR) : List Value := [.int .i64 r.sc.lv, .slice r.A r.k r.c, .slice r.C r.m r.f, .bool r.sc.dn, .int .u64 r.sc.v]
theorem shv_len (r : SR) : (shv r).length = 5 := rfl
theorem info_sh : (Tryz.prog.info? 118).map (fun i => (i.zero, i.size, i.bytes)) = some (some (.agg #[.int .i64 0, .slice none 0 0, .slice none 0 0, .bool false, .int .u64 0]), 5, 72) := by kernel_rfl
/-- A row that stays where rows of other types grow above the base. -/
def Still (base : Nat) (w : World) (e : TypeId) (A : Option Addr) (n : Nat) : Prop := 0 < n → ∃ b o, A = some ⟨b, o, none⟩ ∧ b < w.heap.size ∧ (b < base ∨ ∃ cs fr, w.heap[b]? = some (.cells cs e fr))
theorem Still.below {base : Nat} {w w' : World} {e : TypeId} {A : Option Addr} {n : Nat} (h : Still base w e A n) (hb : Below w.heap.size w w') : Still base w' e A n := by
  intro hn
  obtain ⟨b, o, h1, hl, h2⟩ := h hn
  refine ⟨b, o, h1, Nat.lt_of_lt_of_le hl hb.size, ?_⟩
  rcases h2 with h2 | ⟨cs, fr, h2⟩
  · exact .inl h2
  · exact .inr ⟨cs, fr, (hb.block b hl).trans h2⟩
theorem Still.ty {base : Nat} {w : World} {e : TypeId} {A : Option Addr} {n : Nat} (h : TyRow w e A n) : Still base w e A n := by
  intro hn
  obtain ⟨b, o, cs, fr, h1, h2⟩ := h hn
  exact ⟨b, o, h1, (Array.getElem?_eq_some_iff.1 h2).1, .inr ⟨cs, fr, h2⟩⟩
theorem Still.mono {base base' : Nat} {w : World} {e : TypeId} {A : Option Addr} {n : Nat} (h : Still base w e A n) (hb : base ≤ base') : Still base' w e A n := by
  intro hn
  obtain ⟨b, o, h1, hl, h2⟩ := h hn
  refine ⟨b, o, h1, hl, ?_⟩
  rcases h2 with h2 | h2
  · exact .inl (by omega)
  · exact .inr h2
/-- The block of a row that stays is not the one that grows. -/
theorem Still.ne {base base' : Nat} {w : World} {e t : TypeId} {A : Option Addr} {n m sz : Nat} {v : Value} {xs : List Value} (h : Still base w e A n) (ho : w.ownsRow base' t sz v m xs) (hbb : base ≤ base') (hne : e ≠ t) (hn : 0 < n) :
    ∃ b o, A = some ⟨b, o, none⟩ ∧ b < w.heap.size ∧ some b ≠ v.ownBlock := by
  obtain ⟨b, o, h1, hl, h2⟩ := h hn
  refine ⟨b, o, h1, hl, fun hv => ?_⟩
  rcases ho.2 with ⟨rfl, _⟩ | ⟨g, cap, cur, rfl, hg, hh, _⟩
  · simp [Value.ownBlock] at hv
  · have hgb : b = g := by simpa [Value.ownBlock] using hv
    subst hgb
    rcases h2 with h2 | ⟨cs, fr, h2⟩
    · omega
    · rw [hh] at h2
      injection h2 with h2
      injection h2 with _ h2
      exact hne h2.symm
theorem Still.grown {base base' : Nat} {w w' : World} {e t : TypeId} {A : Option Addr} {n m sz : Nat} {v : Value} {xs : List Value} (h : Still base w e A n) (ho : w.ownsRow base' t sz v m xs) (hbb : base ≤ base') (hne : e ≠ t) (hg : w.grownBy w' v.ownBlock) : Still base w' e A n := by
  intro hn
  obtain ⟨b, o, h1, hl, h3⟩ := h.ne ho hbb hne hn
  obtain ⟨b', o', h1', hl', h2⟩ := h hn
  rw [h1] at h1'
  injection h1' with h1'
  injection h1' with h1' h1''
  subst h1'
  have hblk := hg.block b hl h3
  have hlt : b < w'.heap.size := by
    have h5 : w.heap[b]? = some w.heap[b] := by simp [hl]
    rw [← hblk] at h5
    exact (Array.getElem?_eq_some_iff.1 h5).1
  refine ⟨b, o, h1, hlt, ?_⟩
  rcases h2 with h2 | ⟨cs, fr, h2⟩
  · exact .inl h2
  · exact .inr ⟨cs, fr, hblk.trans h2⟩
theorem Rw.grown_still {base base' : Nat} {w w' : World} {e t : TypeId} {A : Option Addr} {n m sz : Nat} {v : Value} {xs vs : List Value} (hR : Rw w 1 A n vs) (h : Still base w e A n) (ho : w.ownsRow base' t sz v m xs) (hbb : base ≤ base') (hne : e ≠ t) (hg : w.grownBy w' v.ownBlock) : Rw w' 1 A n vs := by
  refine ⟨hR.1, fun hn => ?_⟩
  obtain ⟨b, o, h1, hl, h3⟩ := h.ne ho hbb hne hn
  obtain ⟨b', o', h1', hl', hc⟩ := hR.2 hn
  rw [h1] at h1'
  injection h1' with h1'
  injection h1' with h1' h1''
  subst h1' h1''
  have hblk := hg.block b hl h3
  have hlt : b < w'.heap.size := by
    have h5 : w.heap[b]? = some w.heap[b] := by simp [hl]
    rw [← hblk] at h5
    exact (Array.getElem?_eq_some_iff.1 h5).1
  refine ⟨b, o, h1, hlt, fun j u hu => ?_⟩
  rw [World.cell?_of_block (w := w) (a := ⟨b, o + j, none⟩) hblk]
  exact hc j u hu
def SR.ok (base : Nat) (w : World) (r : SR) : Prop :=
  Rw w 1 r.A r.k (r.sc.xs.map fun z => .int .u64 z) ∧ Rw w 1 r.C r.m (r.sc.pl.map fun z => .int .i64 z) ∧ r.k ≤ 65536 ∧ r.m ≤ 65536 ∧ Still base w 36 r.A r.k ∧ Still base w 3 r.C r.m
theorem SR.ok.below {base : Nat} {w w' : World} {r : SR} (h : r.ok base w) (hb : Below w.heap.size w w') : r.ok base w' :=
  ⟨h.1.below hb, h.2.1.below hb, h.2.2.1, h.2.2.2.1, h.2.2.2.2.1.below hb, h.2.2.2.2.2.below hb⟩
theorem SR.ok.grown {base base' : Nat} {w w' : World} {t : TypeId} {m sz : Nat} {v : Value} {xs : List Value} {r : SR} (h : r.ok base w) (ho : w.ownsRow base' t sz v m xs) (hbb : base ≤ base') (h1 : 36 ≠ t) (h2 : 3 ≠ t) (hg : w.grownBy w' v.ownBlock) : r.ok base w' :=
  ⟨h.1.grown_still h.2.2.2.2.1 ho hbb h1 hg, h.2.1.grown_still h.2.2.2.2.2 ho hbb h2 hg, h.2.2.1, h.2.2.2.1, h.2.2.2.2.1.grown ho hbb h1 hg, h.2.2.2.2.2.grown ho hbb h2 hg⟩
/-- What Shape and Kid answer of one node. -/
structure NodeShape (w : World) (g : Nat) (sc : SC) (gs : List Nat) : Prop where
  len : gs.length ≤ 65536
  pl : sc.pl.length = gs.length
  shape : ∀ W, Below w.heap.size w W → Calls Tryz.prog 58 #[.pointer (some ⟨g, 0, none⟩)] W fun e w' => ∃ A k c C f, e = .returned (.agg #[.int .i64 sc.lv, .slice A k c, .slice C gs.length f, .bool sc.dn, .int .u64 sc.v]) ∧ k ≤ 16 ∧
    Rw w' 1 A k (sc.xs.map fun z => .int .u64 z) ∧ Rw w' 1 C gs.length (sc.pl.map fun z => .int .i64 z) ∧ TyRow w' 36 A k ∧ TyRow w' 3 C gs.length ∧ Below W.heap.size W w'
  kid : ∀ (i g' : Nat), gs[i]? = some g' → ∃ a, sc.pl[i]? = some a ∧ ∀ W, Below w.heap.size w W → Calls Tryz.prog 59 #[.pointer (some ⟨g, 0, none⟩), .int .i64 a] W fun e w' => e = .returned (.pointer (some ⟨g', 0, none⟩)) ∧ Below W.heap.size W w'
theorem NodeShape.stay {w w' : World} {g : Nat} {sc : SC} {gs : List Nat} (h : NodeShape w g sc gs) (hb : Below w.heap.size w w') : NodeShape w' g sc gs :=
  ⟨h.len, h.pl, fun W hW => h.shape W (below_then hb hW), fun i g' hi => by
    obtain ⟨a, h1, h2⟩ := h.kid i g' hi
    exact ⟨a, h1, fun W hW => h2 W (below_then hb hW)⟩⟩
/-- The shapes of a node and of all below it, each ahead of its kids'. -/
inductive SN (w : World) : Nat → List SC → Prop
  | mk {g : Nat} {sc : SC} {gs : List Nat} {Ls : List (List SC)} (hs : NodeShape w g sc gs) (hl : gs.length = Ls.length) (hk : ∀ (i g' : Nat) (L : List SC), gs[i]? = some g' → Ls[i]? = some L → SN w g' L) : SN w g (sc :: Ls.flatten)
theorem shape_leaf {w : World} {k g : Nat} {A : Option Addr} {c v : Nat} {p : List Nat} (hp : Pt w A k p) (hk : k ≤ 16) (hB : Blk w g 114 (nodeCells (-1) A k c v none ⟨1, v, v, v⟩)) : NodeShape w g ⟨-1, p.map fun (x : Nat) => (x : Int), [], false, (v : Int)⟩ [] := by
  refine ⟨by simp, rfl, fun W hW => ?_, fun i g' hi => by simp at hi⟩
  refine (nd_shape_leaf_t (hB.below hW) (hp.below hW) hk).mono fun e w' ⟨B, d, h1, h2, h3, h4⟩ => ⟨B, k, d, none, 0, h1, hk, ?_, Rw.nil _ _ _, h4, fun h => (by cases h), h3⟩
  rw [u64s_int] at h2
  exact h2
theorem shape_fork {w : World} {k g m : Nat} {pre : List Nat} {ks : List Kid} (hF : Fork w k g m pre ks) (hk : k ≤ 16) : NodeShape w g ⟨(m : Int), pre.map fun (x : Nat) => (x : Int), ks.map fun q => (q.at_ : Int), denseB k ks.length, 0⟩ (ks.map (·.blk)) := by
  obtain ⟨A, c, gs, hp, hS, hB⟩ := hF.head
  have hkl : ks.length ≤ 65536 := by
    have h1 := len_le_of_ok hS.ok
    have h2 := pow16 hS.2.1
    simp [kidTh] at h1
    omega
  refine ⟨by simpa using hkl, by simp, fun W hW => ?_, fun i g' hi => ?_⟩
  · refine (nd_shape_fork_t (hB.below hW) (hp.below hW) hk (hS.below hW)).mono fun e w' ⟨B, d, C, f, h1, h2, h3, h4, h5, h6⟩ => ⟨B, k, d, C, f, ?_, hk, ?_, ?_, h5, ?_, h4⟩
    · rw [h1]; simp
    · rw [u64s_int] at h2
      exact h2
    · rw [places_int] at h3
      rw [List.length_map]
      exact h3
    · rw [List.length_map]
      exact h6
  · rw [List.getElem?_map] at hi
    obtain ⟨q, hq, rfl⟩ := Option.map_eq_some_iff.1 hi
    refine ⟨(q.at_ : Int), by simp [hq], fun W hW => ?_⟩
    have hth : getTh (kidTh ks) (q.at_ : Int) = some (.pointer (some ⟨q.blk, 0, none⟩)) :=
      getTh_some hS.ok (t := (q.at_, .pointer (some ⟨q.blk, 0, none⟩))) (List.mem_map.2 ⟨q, List.mem_of_getElem? hq, rfl⟩)
    have := nd_kid (hB.below hW) (hS.below hW) (q.at_ : Int)
    rw [hth] at this
    exact this
theorem SN.stay {w w' : World} {g : Nat} {L : List SC} (h : SN w g L) (hb : Below w.heap.size w w') : SN w' g L := by
  induction h with
  | mk hs hl hk ih => exact .mk (hs.stay hb) hl fun i g' L h1 h2 => ih i g' L h1 h2
theorem SN.ne {w : World} {g : Nat} {L : List SC} (h : SN w g L) : 0 < L.length := by
  cases h with
  | mk hs hl hk => simp
theorem own_pop {w : World} {base : Nat} {e : TypeId} {A : Option Addr} {n cap : Nat} {xs : List Value} {x : Value} (h : w.ownsRow base e 1 (.slice A (n + 1) cap) (n + 1) (xs ++ [x])) : w.ownsRow base e 1 (.slice A n cap) n xs := by
  have hl := h.1
  rcases h.2 with ⟨h0, _⟩ | ⟨g, cap', cur, hv, _⟩
  · cases h0
  · injection hv with h1 h2 h3
    subst h1
    exact ownsRow_pop (size := 1) (by simpa using hl) h
theorem sn_count {w : World} : ∀ (stk : List (Nat × List SC)), (∀ s ∈ stk, SN w s.1 s.2) → stk.length ≤ (stk.map (·.2)).flatten.length
  | [], _ => by simp
  | s :: stk, h => by
    have := sn_count stk fun s hs => h s (List.mem_cons_of_mem _ hs)
    have := (h s List.mem_cons_self).ne
    simp only [List.map_cons, List.flatten_cons, List.length_append, List.length_cons]
    omega
theorem own_lt_new {w : World} {base : Nat} {e : TypeId} {sz n g : Nat} {v : Value} {xs : List Value} (h : w.ownsRow base e sz v n xs) (hg : w.heap.size ≤ g) : some g ≠ v.ownBlock := by
  intro hv
  have := (h.lt g hv.symm).2
  omega
theorem idx1 {j n : Nat} (hn : n = j + 1) (hj : j ≤ 65536) : (n : Int) - 1 = (j : Int) ∧ j < n ∧ (0 : Int) ≤ (j : Int) ∧ (j : Int) ≤ 70368744177664 ∧ (j : Int) < (n : Int) ∧ (0 : Int) < (n : Int) ∧ IntKind.i64.wrap (j : Int) = (j : Int) ∧ wrap64 (j : Int) = (j : Int) :=
  ⟨by omega, by omega, by omega, by omega, by omega, by omega, by rw [IntKind.wrap_i64]; omega, by unfold wrap64; omega⟩
theorem wrap_m1 {m : Nat} (hm : m ≤ 65536) : IntKind.i64.wrap ((m : Int) - 1) = (m : Int) - 1 := by rw [IntKind.wrap_i64]; omega
/-- What Shapes answers. -/
def ShapesOut (base : Nat) (w : World) (L : List SC) (e : Ending) (w' : World) : Prop :=
  ∃ (A : Option Addr) (d : Nat) (srs : List SR), e = .returned (.slice A srs.length d) ∧ w'.ownsRow w.heap.size 118 5 (.slice A srs.length d) srs.length (srs.flatMap shv) ∧ (∀ r ∈ srs, SR.ok base w' r) ∧ srs.map (·.sc) = L ∧ Below w.heap.size w w'
set_option maxHeartbeats 1000000 in
set_option maxRecDepth 100000 in
theorem tr_shapes_none {w : World} {t : Option Addr} (hR : Calls Tryz.prog 37 #[.pointer t] w fun e w' => e = .returned (.pointer none) ∧ w = w') :
    Calls Tryz.prog 40 #[.pointer t] w fun e w' => e = .returned (.slice none 0 0) ∧ Below w.heap.size w w' := by
  have HR := hide hR
  clear hR
  go_enter Tryz.func40, Tryz.ntmps40
  go_wp2_with fail
  refine HR.out.mono ?_
  rintro e w1 ⟨rfl, rfl⟩
  have hb1 := (Below.refl w.heap.size w).alloc (Nat.le_refl _) (.cells #[.pointer none] 82)
  have HB1 := hide hb1
  clear hb1
  go_wp2
  go_loop [3, 4] (fun x3 x4 => x3 = .slice none 0 0 ∧ ∃ n, n ≤ 1 ∧ x4 = .slice (some ⟨w.heap.size, 0, none⟩) n 1) (fun _ x => sliceLen x)
  case atStart => exact ⟨rfl, 1, by omega, rfl⟩
  case round =>
    obtain ⟨rfl, n, hn, rfl⟩ := hrel
    rcases Nat.eq_zero_or_pos n with rfl | hn0
    · go_wp2
      go_ret
      exact ⟨rfl, HB1.out⟩
    · obtain rfl : n = 1 := by omega
      have r2s := fun W => run_slice_to (P := Tryz.prog) (w := W) Tryz.underlying91 (sz := 1) Tryz.sizeOf82 (some ⟨w.heap.size, 0, none⟩) 1 1 0 (by omega)
      simp only [Int.cast_ofNat_Int] at r2s
      go_wp2
      go_round
      case rel => exact ⟨rfl, 0, by omega, rfl⟩
      case measure => simp [sliceLen]
set_option maxHeartbeats 4000000 in
set_option maxRecDepth 100000 in
theorem tr_shapes {w : World} {t k g : Nat} {L : List SC} (hT : TreeBlk w t k (some ⟨g, 0, none⟩)) (hS : SN w g L) (hL : L.length ≤ 65536) :
    Calls Tryz.prog 40 #[.pointer (some ⟨t, 0, none⟩)] w (ShapesOut w.heap.size w L) := by
  have HR := hide (tr_root hT)
  have HSN := hide hS
  clear hT hS
  go_enter Tryz.func40, Tryz.ntmps40
  go_wp2_with fail
  refine HR.out.mono ?_
  rintro e w1 ⟨rfl, rfl⟩
  have HB1 := hide ((Below.refl w.heap.size w).alloc (Nat.le_refl _) (.cells #[.pointer (some ⟨g, 0, none⟩)] 82))
  have HO1 := hide (World.ownsRow_lit (base := w.heap.size) (e := 82) (size := 1) w #[.pointer (some ⟨g, 0, none⟩)] 1 (Nat.le_refl _) (by unfold maxLen; omega) rfl)
  go_wp2
  go_loopw [3, 4] (fun x3 x4 wr => ∃ (srs : List SR) (stk : List (Nat × List SC)) (A3 : Option Addr) (d3 : Nat) (A4 : Option Addr) (d4 : Nat), x3 = .slice A3 srs.length d3 ∧ x4 = .slice A4 stk.length d4 ∧ wr.ownsRow w.heap.size 118 5 (.slice A3 srs.length d3) srs.length (srs.flatMap shv) ∧
    wr.ownsRow w.heap.size 82 1 (.slice A4 stk.length d4) stk.length (ptrs (stk.reverse.map (·.1))) ∧ (∀ r ∈ srs, SR.ok w.heap.size wr r) ∧ (∀ s ∈ stk, SN w s.1 s.2) ∧ srs.map (·.sc) ++ (stk.map (·.2)).flatten = L ∧ Below w.heap.size w wr) (fun x3 _ _ => L.length - sliceLen x3)
  case atStart =>
    refine ⟨[], [(g, L)], none, 0, some ⟨w.heap.size, 0, none⟩, 1, rfl, rfl, World.ownsRow_nil _ _ _ _, ?_, fun r hr => (by cases hr), fun s hs => ?_, by simp, HB1.out⟩
    · simpa [ptrs] using HO1.out
    · rw [List.mem_singleton.1 hs]; exact HSN.out
  case round =>
    obtain ⟨srs, stk, A3, d3, A4, d4, rfl, rfl, hO3, hO4, hOK, hSN, hLL, hb⟩ := hrel
    have hcnt := sn_count stk hSN
    have hlen := congrArg List.length hLL
    rw [List.length_append, List.length_map] at hlen
    have HOK := hide hOK
    have HLL := hide hLL
    have HO3 := hide hO3
    have HB := hide hb
    rename World => wr
    cases stk with
    | nil =>
      clear hO3 hO4 hOK hSN hLL hb hcnt hlen
      simp only [List.length_nil]
      go_wp2
      go_ret
      refine ⟨A3, d3, srs, rfl, HO3.out, HOK.out, ?_, HB.out⟩
      have := HLL.out
      simpa using this
    | cons s stk =>
      obtain ⟨gq, Lq⟩ := s
      have hSq := hSN _ List.mem_cons_self
      have HSN' := hide (fun s hs => hSN s (List.mem_cons_of_mem _ hs))
      have hlq := hSq.ne
      generalize hLq' : Lq = Lq' at hSq
      cases hSq with
      | @mk _ sc gs Ls hs hl hk =>
        subst hLq'
        have HNS := hide hs
        have HLE := hide hl
        have HKI := hide hk
        have hxs : ptrs (((gq, sc :: Ls.flatten) :: stk).reverse.map (·.1)) = ptrs (stk.reverse.map (·.1)) ++ [.pointer (some ⟨gq, 0, none⟩)] := by simp [ptrs]
        rw [hxs] at hO4
        simp only [List.length_cons] at hO4 hcnt hlen ⊢
        simp only [List.map_cons, List.flatten_cons, List.length_append] at hlen hcnt
        have HO4 := hide (own_pop hO4)
        obtain ⟨hcap, hR4⟩ := own_rw hO4
        obtain ⟨b4, o4, rfl, hbl4, u, hu, k0⟩ := hR4.one (i := stk.length) (by omega)
        have hu2 : u = .pointer (some ⟨gq, 0, none⟩) := by
          have : (ptrs (stk.reverse.map (·.1)) ++ [Value.pointer (some ⟨gq, 0, none⟩)])[stk.length]? = some (.pointer (some ⟨gq, 0, none⟩)) := by simp [ptrs]
          rw [this] at hu
          injection hu with hu
          exact hu.symm
        rw [hu2] at k0
        have HSL : Hid (srs.length < L.length) := hide (by omega)
        have hs65 : stk.length ≤ 65536 := by omega
        have hsr65 : srs.length ≤ 65536 := by omega
        have hm65 : gs.length ≤ 65536 := hs.len
        obtain ⟨n, hn⟩ : ∃ n, n = stk.length + 1 := ⟨_, rfl⟩
        obtain ⟨j, hj⟩ : ∃ j, j = stk.length := ⟨_, rfl⟩
        obtain ⟨sl, hsl⟩ : ∃ sl, sl = srs.length := ⟨_, rfl⟩
        obtain ⟨m, hm⟩ : ∃ m, m = gs.length := ⟨_, rfl⟩
        have HSH := hide (hs.shape wr hb)
        rw [← hm] at HSH hm65
        rw [← hj] at k0 HO4 hs65
        rw [← hn] at hcap ⊢
        rw [← hsl] at HO3 hsr65 ⊢
        have HN := hide hn
        have HJ := hide hj
        have HSLE := hide hsl
        have HM := hide hm
        have hjd4 : j ≤ d4 := by omega
        have hj65 : j ≤ 65536 := by omega
        obtain ⟨e2, hin, hi0, hi7, hin', hn0, e5, e6⟩ := idx1 (j := j) (n := n) (by rw [hn, hj]) hj65
        have r2s := fun W => run_slice_to (P := Tryz.prog) (w := W) Tryz.underlying91 (sz := 1) Tryz.sizeOf82 (some ⟨b4, o4, none⟩) n d4 j hjd4
        clear hO3 hO4 hOK hSN hLL hb hlen hcnt hs hl hk hxs hR4 hu hu2 hlq hn hj hsl hm
        go_wp2_with fail
        refine HSH.out.mono ?_
        rintro e w2 ⟨A, kk, c, C, f, rfl, hkk, hRA, hRC, hTA, hTC, hb2⟩
        have hc2 := below_then HB.out hb2
        have hN := Blk.new w2 118 #[.int .i64 sc.lv, .slice A kk c, .slice C m f, .bool sc.dn, .int .u64 sc.v]
        have hal := (Below.refl w2.heap.size w2).alloc (Nat.le_refl _) (.cells #[.int .i64 sc.lv, .slice A kk c, .slice C m f, .bool sc.dn, .int .u64 sc.v] 118)
        clear HSH k0 r2s
        go_upto_region 8 with fail
        generalize w2.alloc (.cells #[.int .i64 sc.lv, .slice A kk c, .slice C m f, .bool sc.dn, .int .u64 sc.v] 118) = w3 at *
        have t0 := hN.cell 0
        have t1 := hN.cell 1
        have t2 := hN.cell 2
        have t3 := hN.cell 3
        have t4 := hN.cell 4
        simp at t0 t1 t2 t3 t4
        have HNB := hide hN
        have hc3 := below_then hc2 hal
        have HO33 := hide (own_below (own_below HO3.out hb2) hal)
        have HO43 := hide (own_below (own_below HO4.out hb2) hal)
        have hrOK : ∀ r ∈ srs ++ [(⟨A, kk, c, C, m, f, sc⟩ : SR)], SR.ok w.heap.size w3 r := by
          intro r hr
          rcases List.mem_append.1 hr with hr | hr
          · exact ((HOK.out r hr).below hb2).below hal
          · rw [List.mem_singleton] at hr
            subst hr
            exact ⟨hRA.below hal, hRC.below hal, by show kk ≤ _; omega, hm65, Still.ty (hTA.below hal), Still.ty (hTC.below hal)⟩
        have HROK := hide hrOK
        have HRC := hide (hRC.below hal)
        have HSC := hide (Still.ty (base := w.heap.size) (hTC.below hal))
        have HNE : Hid (some w2.heap.size ≠ (Value.slice A3 sl d3).ownBlock) := hide (own_lt_new (own_below HO3.out hb2) (Nat.le_refl _))
        have HG6 : Hid (w.heap.size ≤ w2.heap.size) := hide hc2.size
        have HC3 := hide hc3
        clear hrOK hRA hRC hTA hTC hal hc2 hc3 hb2 hN
        have hb4 := below_alloc HC3.out (Nat.le_refl _) (.cells #[.int .i64 sc.lv, .slice A kk c, .slice C m f, .bool sc.dn, .int .u64 sc.v] 118)
        have hal4 := (Below.refl w3.heap.size w3).alloc (Nat.le_refl _) (.cells #[.int .i64 sc.lv, .slice A kk c, .slice C m f, .bool sc.dn, .int .u64 sc.v] 118)
        go_wp2_with (first
          | (at_builtin
             refine app_b _ rfl (.tmp 29) (.tmp 31) _ rfl w.heap.size 118 _ 5 72 Tryz.underlying86 info_sh rfl (by omega) _ sl _ rfl (own_below HO33.out hal4) (some ⟨w3.heap.size, 0, none⟩) 1 1 [.int .i64 sc.lv, .slice A kk c, .slice C m f, .bool sc.dn, .int .u64 sc.v] rfl w hb4 (Nat.le_refl _) (Rw.new1 w3 118 #[.int .i64 sc.lv, .slice A kk c, .slice C m f, .bool sc.dn, .int .u64 sc.v] rfl) ?h2 (by unfold maxLen; omega) (by omega) ?_
             case h2 =>
               intro u hu
               simp only [List.mem_cons, List.not_mem_nil, or_false] at hu
               rcases hu with rfl | rfl | rfl | rfl | rfl <;> rfl
             intro v5 w5 ho5 hb5 hg5
             obtain ⟨A5, d5, rfl, -, -⟩ := Rw.of_own ho5
             have HO5 := hide ho5
             have HB5 := hide hb5
             have hoq := own_below HO33.out hal4
             have HO45 := hide (own_grown (own_below HO43.out hal4) hoq (by decide) hg5)
             have HROK5 := hide (fun r hr => ((HROK.out r hr).below hal4).grown hoq (Nat.le_refl _) (by decide) (by decide) hg5)
             have HRC5 := hide ((HRC.out.below hal4).grown_still (HSC.out.below hal4) hoq (Nat.le_refl _) (by decide) hg5)
             have HSC5 := hide ((HSC.out.below hal4).grown hoq (Nat.le_refl _) (by decide) hg5)
             have hN5 : Blk w5 w2.heap.size 118 #[.int .i64 sc.lv, .slice A kk c, .slice C m f, .bool sc.dn, .int .u64 sc.v] := by
               have h1 := HNB.out.below hal4
               exact (hg5.block _ h1.lt HNE.out).trans h1
             have HN5 := hide hN5
             have y2 := hN5.cell 2
             simp at y2
             clear ho5 hb5 hg5 hoq hN5 t0 t1 t2 t3 t4)
          | fail)
        have ew := wrap_m1 hm65
        clear e5 e6
        clear hb4 hal4 HNB HO33 HO43 HROK HRC HSC HC3 HO3 HO4 HB y2
        go_loopw [4, 7] (fun x4 x7 wq => ∃ (i : Nat) (A6 : Option Addr) (d6 n6 : Nat), x7 = .int .i64 ((i : Int) - 1) ∧ i ≤ m ∧ n6 = j + (m - i) ∧ x4 = .slice A6 n6 d6 ∧ wq.ownsRow w.heap.size 82 1 (.slice A6 n6 d6) n6 (ptrs (stk.reverse.map (·.1)) ++ ptrs ((gs.drop i).reverse)) ∧
          wq.ownsRow w.heap.size 118 5 (.slice A5 (sl + 1) d5) (sl + 1) (srs.flatMap shv ++ [.int .i64 sc.lv, .slice A kk c, .slice C m f, .bool sc.dn, .int .u64 sc.v]) ∧ (∀ r ∈ srs ++ [(⟨A, kk, c, C, m, f, sc⟩ : SR)], SR.ok w.heap.size wq r) ∧
          Blk wq w2.heap.size 118 #[.int .i64 sc.lv, .slice A kk c, .slice C m f, .bool sc.dn, .int .u64 sc.v] ∧ Rw wq 1 C m (sc.pl.map fun z => .int .i64 z) ∧ Still w.heap.size wq 3 C m ∧ Below w.heap.size w wq) (fun _ x _ => (intOf x + 1).toNat)
        case atStart =>
          refine ⟨m, some ⟨b4, o4, none⟩, d4, j, rfl, Nat.le_refl _, by omega, rfl, ?_, HO5.out, HROK5.out, HN5.out, HRC5.out, HSC5.out, HB5.out⟩
          rw [List.drop_of_length_le (by rw [← HM.out]; exact Nat.le_refl _)]
          have := HO45.out
          simpa [ptrs] using this
        case round =>
          obtain ⟨i, A6, d6, n6, rfl, hi, hn6, rfl, hO6, hS6, hOK6, hN6, hR6, hT6, hb6⟩ := hrel
          rename World => wz
          rcases Nat.eq_zero_or_pos i with rfl | hi0
          · have HH := hide (And.intro hO6 (And.intro hS6 (And.intro hOK6 hb6)))
            clear hO6 hS6 hOK6 hN6 hR6 hT6 hb6
            go_wp2
            go_roundw
            case rel =>
              obtain ⟨hO6, hS6, hOK6, hb6⟩ := HH.out
              have hzl : (gs.zip Ls).length = m := by rw [List.length_zip, ← HLE.out, Nat.min_self, ← HM.out]
              have hz1 : (gs.zip Ls).map (·.1) = gs := List.map_fst_zip (by rw [HLE.out]; exact Nat.le_refl _)
              have hz2 : (gs.zip Ls).map (·.2) = Ls := List.map_snd_zip (by rw [HLE.out]; exact Nat.le_refl _)
              refine ⟨srs ++ [⟨A, kk, c, C, m, f, sc⟩], gs.zip Ls ++ stk, A5, d5, A6, d6, ?_, ?_, ?_, ?_, hOK6, ?_, ?_, hb6⟩
              · rw [List.length_append, ← HSLE.out]; rfl
              · rw [List.length_append, hzl, ← HJ.out, hn6]; congr 1; omega
              · rw [List.length_append, ← HSLE.out, List.flatMap_append]
                simpa [shv] using hS6
              · rw [List.length_append, hzl, ← HJ.out, show m + j = n6 by omega, List.reverse_append, List.map_append, List.map_reverse (l := gs.zip Ls), hz1]
                rw [List.drop_zero] at hO6
                simpa [ptrs] using hO6
              · intro s hs
                rcases List.mem_append.1 hs with hs | hs
                · obtain ⟨g', L'⟩ := s
                  obtain ⟨q, hq1, hq2⟩ := List.getElem_of_mem hs
                  rw [List.getElem_zip] at hq2
                  rw [List.length_zip] at hq1
                  injection hq2 with h1 h2
                  refine HKI.out q g' L' ?_ ?_
                  · rw [← h1]; exact List.getElem?_eq_getElem (by omega)
                  · rw [← h2]; exact List.getElem?_eq_getElem (by omega)
                · exact HSN'.out s hs
              · have := HLL.out
                rw [List.map_append, List.map_append, List.flatten_append, hz2]
                simpa using this
            case measure =>
              have := HSL.out
              have := HSLE.out
              simp [sliceLen]
              omega
          · obtain ⟨i', rfl⟩ : ∃ i', i = i' + 1 := ⟨i - 1, by omega⟩
            have hig : i' < gs.length := by rw [← HM.out]; omega
            have hgi : gs[i']? = some gs[i'] := List.getElem?_eq_getElem hig
            have hdr : gs.drop i' = gs[i'] :: gs.drop (i' + 1) := List.drop_eq_getElem_cons hig
            generalize gs[i'] = g' at hgi hdr
            obtain ⟨a, ha, hKid⟩ := HNS.out.kid i' g' hgi
            have HK := hide (hKid wz hb6)
            obtain ⟨bC, oC, rfl, hblC, u, hu, kC⟩ := hR6.one (i := i') (by omega)
            rw [List.getElem?_map, ha] at hu
            simp at hu
            rw [← hu] at kC
            have z2 := hN6.cell 2
            simp at z2
            have HO6 := hide hO6
            have HS6 := hide hS6
            have HOK6 := hide hOK6
            have HN6 := hide hN6
            have HR6 := hide hR6
            have HT6 := hide hT6
            have HB6 := hide hb6
            have HDR := hide hdr
            have e0 : ((i' + 1 : Nat) : Int) - 1 = (i' : Int) := by omega
            rw [e0]
            have ei : (0 : Int) ≤ (i' : Int) := by omega
            have eim : (i' : Int) < (m : Int) := by omega
            have ein : i' < m := by omega
            have HN6E := hide hn6
            have hn665 : n6 ≤ 200000 := by omega
            clear hO6 hS6 hOK6 hN6 hR6 hT6 hb6 hdr hu ha hKid hgi hig e0 hn6
            go_wp2_with fail
            refine HK.out.mono ?_
            rintro e w7 ⟨rfl, hb7⟩
            have hb8 := below_alloc (below_then HB6.out hb7) (Nat.le_refl _) (.cells #[.pointer (some ⟨g', 0, none⟩)] 82)
            have hal8 := below_alloc hb7 (Nat.le_refl _) (.cells #[.pointer (some ⟨g', 0, none⟩)] 82)
            go_wp2_with (first
              | (at_builtin
                 refine app_b _ rfl (.tmp 41) (.tmp 49) _ rfl w.heap.size 82 _ 1 8 Tryz.underlying91 info_n rfl (by omega) _ n6 _ rfl (own_below HO6.out hal8) (some ⟨w7.heap.size, 0, none⟩) 1 1 [.pointer (some ⟨g', 0, none⟩)] rfl w hb8 (Nat.le_refl _) (Rw.new1 w7 82 #[.pointer (some ⟨g', 0, none⟩)] rfl) ?h2 (by unfold maxLen; omega) (by omega) ?_
                 case h2 =>
                   intro u hu
                   rw [List.mem_singleton] at hu
                   rw [hu]
                   rfl
                 intro v9 w9 ho9 hb9 hg9
                 obtain ⟨A9, d9, rfl, -, -⟩ := Rw.of_own ho9
                 have HO9 := hide ho9
                 have HB9 := hide hb9
                 have hoq := own_below HO6.out hal8
                 have HS9 := hide (own_grown (own_below HS6.out hal8) hoq (by decide) hg9)
                 have HOK9 := hide (fun r hr => ((HOK6.out r hr).below hal8).grown hoq (Nat.le_refl _) (by decide) (by decide) hg9)
                 have HR9 := hide ((HR6.out.below hal8).grown_still (HT6.out.below hal8) hoq (Nat.le_refl _) (by decide) hg9)
                 have HT9 := hide ((HT6.out.below hal8).grown hoq (Nat.le_refl _) (by decide) hg9)
                 have HN9 := hide ((HN6.out.below hal8).grown hoq (by decide) hg9)
                 clear ho9 hb9 hg9 hoq z2 kC)
              | fail)
            go_roundw
            case rel =>
              refine ⟨i', A9, d9, n6 + 1, by go_num, by omega, by have := HN6E.out; omega, rfl, ?_, HS9.out, HOK9.out, HN9.out, HR9.out, HT9.out, HB9.out⟩
              have := HO9.out
              rw [HDR.out, List.reverse_cons, ptrs_snoc, ← List.append_assoc]
              exact this
            case measure => simp [intOf]
/-- The document's shapes of these entries. -/
def RefSh (k : Nat) (es : List Ent) (L : List SC) : Prop :=
  ∀ (w0 W : World) (B : Option Addr) (n m : Nat) (rows : List ER), Below w0.heap.size w0 W → EntsAt w0 B n rows → n ≤ m → n ≤ 65536 → (∀ r ∈ rows, r.n = k) → ents rows = es →
    Calls Tryz.prog 41 #[.slice B n m] W (ShapesOut w0.heap.size W L)
theorem lit_shape (w : World) (base : Nat) (r : SR) (hb : base ≤ w.heap.size) : (w.alloc (.cells #[.int .i64 r.sc.lv, .slice r.A r.k r.c, .slice r.C r.m r.f, .bool r.sc.dn, .int .u64 r.sc.v] 118)).ownsRow base 118 5 (.slice (some ⟨w.heap.size, 0, none⟩) 1 1) 1 (shv r) :=
  World.ownsRow_lit (base := base) (e := 118) (size := 5) w #[.int .i64 r.sc.lv, .slice r.A r.k r.c, .slice r.C r.m r.f, .bool r.sc.dn, .int .u64 r.sc.v] 1 hb (by unfold maxLen; omega) rfl
theorem still_old {base : Nat} {w : World} {e : TypeId} {A : Option Addr} {n : Nat} {vs : List Value} (h : Rw w 1 A n vs) (hb : w.heap.size ≤ base) : Still base w e A n := by
  intro hn
  obtain ⟨b, o, h1, h2, _⟩ := h.2 hn
  exact ⟨b, o, h1, h2, .inl (by omega)⟩
set_option maxHeartbeats 2000000 in
set_option maxRecDepth 100000 in
theorem refsh_nil (k : Nat) : RefSh k [] [] := by
  intro w0 W B n m rows hb hE hnm hn hk hes
  obtain rfl : rows = [] := by unfold ents at hes; simpa using hes
  obtain rfl : n = 0 := by have := hE.len; simpa using this.symm
  clear hE hk hes hb
  go_enter Tryz.func41, Tryz.ntmps41
  go_wp2
  go_ret
  exact ⟨none, 0, [], rfl, World.ownsRow_nil _ _ _ _, fun r hr => (by cases hr), rfl, Below.refl _ _⟩
set_option maxHeartbeats 2000000 in
set_option maxRecDepth 100000 in
theorem refsh_leaf {k v : Nat} {p : List Nat} (hk : k ≤ 16) : RefSh k [(p, v)] [⟨-1, p.map fun (x : Nat) => (x : Int), [], false, (v : Int)⟩] := by
  intro w0 W B n m rows hb hE hnm hn hkk hes
  obtain ⟨r, rfl⟩ : ∃ r, rows = [r] := by
    have : rows.length = 1 := by
      have := congrArg List.length hes
      unfold ents at this
      simpa using this
    match rows, this with
    | [r], _ => exact ⟨r, rfl⟩
  obtain ⟨hrp, hrv⟩ : r.p = p ∧ r.v = v := by
    unfold ents ER.e at hes
    simp at hes
    exact hes
  obtain rfl : n = 1 := by have := hE.len; simpa using this.symm
  have hok := hE.2 r List.mem_cons_self
  have hrk := hkk r List.mem_cons_self
  have HS := hide (ref_shape1 B m r W (hE.below hb))
  have HOK := hide hok
  have HB := hide hb
  have HK := hide hrk
  have HP := hide hrp
  have HV := hide hrv
  clear hE hkk hes hok hrk hb hrp hrv
  go_enter Tryz.func41, Tryz.ntmps41
  go_wp2_with fail
  refine HS.out.mono ?_
  rintro e w1 ⟨rfl, hb1⟩
  have HB1 := hide hb1
  clear hb1 HS
  go_wp2
  go_ret
  have hal := below_alloc HB1.out (Nat.le_refl _) (.cells #[.int .i64 (-1), .slice r.A r.n r.c, .slice none 0 0, .bool false, .int .u64 (r.v : Int)] 118)
  refine ⟨_, _, [(⟨r.A, r.n, r.c, none, 0, 0, ⟨-1, p.map fun (x : Nat) => (x : Int), [], false, (v : Int)⟩⟩ : SR)], rfl, ?_, fun s hs => ?_, rfl, hal⟩
  · have := lit_shape w1 W.heap.size (⟨r.A, r.n, r.c, none, 0, 0, ⟨-1, p.map fun (x : Nat) => (x : Int), [], false, (v : Int)⟩⟩ : SR) HB1.out.size
    rw [← HV.out] at this ⊢
    exact this
  · rw [List.mem_singleton] at hs
    subst hs
    have h0 := HOK.out.1.2.1
    have h1 := (h0.below HB.out).below hal
    have h2 : Still w0.heap.size w0 36 r.A r.n := still_old h0 (Nat.le_refl _)
    refine ⟨?_, Rw.nil _ _ _, by show r.n ≤ _; rw [HK.out]; omega, Nat.zero_le _, (h2.below HB.out).below hal, fun h => (by cases h)⟩
    rw [u64s_int, HP.out] at h1
    exact h1
set_option maxHeartbeats 4000000 in
set_option maxRecDepth 100000 in
theorem refsh_fork {w w0 W : World} {k g lv n : Nat} {pre : List Nat} {ks : List Kid} {B : Option Addr} {m : Nat} {G : List (List ER)} (hF : Fork w k g lv pre ks) (hk1 : 1 ≤ k) (hk : k ≤ 16) (hb0 : Below w0.heap.size w0 W) (hE : EntsAt w0 B n G.flatten) (hnm : n ≤ m) (hn : n ≤ 65536) (hkk : ∀ r ∈ G.flatten, r.n = k)
    (hG : ForkG k lv pre ks G) (Ls : List (List SC)) (hls : Ls.length = ks.length) (hL : Ls.flatten.length ≤ 200000) (ih : ∀ (i : Nat) (q : Kid) (L : List SC), ks[i]? = some q → Ls[i]? = some L → RefSh k q.es L) :
    Calls Tryz.prog 41 #[.slice B n m] W (ShapesOut w0.heap.size W (⟨(lv : Int), pre.map fun (x : Nat) => (x : Int), ks.map fun q => (q.at_ : Int), denseB k ks.length, 0⟩ :: Ls.flatten)) := by
  have hEW := hE.below hb0
  obtain ⟨r0, s0, hr0, hs0, hpart, hcut, hn2⟩ := hG.part_ hF hE hkk
  have hlv : lv < 64 := by obtain ⟨_, _, _, h1, _⟩ := hF; exact h1
  have hLv : ∀ X, Below W.heap.size W X → Calls Tryz.prog 94 #[.slice B n m] X fun e w' => e = .returned (.int .i64 (lv : Nat)) ∧ Below X.heap.size X w' := fun X hX => by
    have := ref_level B n m k G.flatten r0 s0 X (hEW.below hX) hr0 hs0 (hkk r0 (List.mem_of_getElem? hr0)) (hkk s0 (List.mem_of_getElem? hs0)) (by omega) (by omega) (by omega)
    rwa [hpart] at this
  have hkl : ks.length ≤ 65536 := by
    obtain ⟨A, c, gs, hp, hS, hB⟩ := hF.head
    have h1 := len_le_of_ok hS.ok
    have h2 := pow16 hS.2.1
    simp [kidTh] at h1
    omega
  have hgl : G.length ≤ 65536 := by rw [hG.len]; exact hkl
  have HRS := hide (ref_shape_t B n m k lv G r0 W hEW hnm hkk hk1 hk hn hn2 hlv hG.parts hr0 hLv)
  have HKI := hide (fun (X : World) (hX : Below W.heap.size W X) => ref_kids B n m k lv G X (hEW.below hX) hnm hkk (by omega) hn (by omega) hlv hG.parts (fun Y hY => hLv Y (below_then hX hY)))
  have HE := hide hE
  have HB0 := hide hb0
  have HCUT := hide hcut
  have HG := hide hG
  have HKK := hide hkk
  have HIH := hide ih
  have HNM := hide hnm
  have HLS := hide hls
  have HLL := hide hL
  have HPI := hide (placesG_int hG)
  have HGN := hide hG.len
  have en0 : ((n : Int) == 0) = false := by simp; omega
  have en1 : ((n : Int) == 1) = false := by simp; omega
  obtain ⟨gl, hgle⟩ : ∃ gl, gl = G.length := ⟨_, rfl⟩
  have HGE := hide hgle
  rw [← hgle] at HRS HKI hgl
  clear hF hb0 hE hkk hG hls hL ih hEW hr0 hs0 hpart hcut hLv hnm hgle
  go_enter Tryz.func41, Tryz.ntmps41
  go_wp2_with fail
  refine HRS.out.mono ?_
  rintro e w1 ⟨A1, d1, C1, f1, rfl, hRA, hRC, hb1, hTA, hTC⟩
  obtain ⟨sc, hsc⟩ : ∃ sc : SC, sc = ⟨(lv : Int), pre.map fun (x : Nat) => (x : Int), ks.map fun q => (q.at_ : Int), denseB k ks.length, 0⟩ := ⟨_, rfl⟩
  have HSC := hide hsc
  rw [HCUT.out, u64s_int] at hRA
  rw [HPI.out] at hRC
  have hal := below_alloc hb1 (Nat.le_refl _) (.cells #[.int .i64 (lv : Int), .slice A1 k d1, .slice C1 gl f1, .bool (denseB k gl), .int .u64 0] 118)
  have ha1 := (Below.refl w1.heap.size w1).alloc (Nat.le_refl _) (.cells #[.int .i64 (lv : Int), .slice A1 k d1, .slice C1 gl f1, .bool (denseB k gl), .int .u64 0] 118)
  have hO2 : (w1.alloc (.cells #[.int .i64 (lv : Int), .slice A1 k d1, .slice C1 gl f1, .bool (denseB k gl), .int .u64 0] 118)).ownsRow W.heap.size 118 5 (.slice (some ⟨w1.heap.size, 0, none⟩) 1 1) 1 (shv ⟨A1, k, d1, C1, gl, f1, sc⟩) := by
    have := lit_shape w1 W.heap.size (⟨A1, k, d1, C1, gl, f1, sc⟩ : SR) hb1.size
    rw [hsc] at this ⊢
    simp only at this
    rw [← HGN.out, ← HGE.out] at this ⊢
    exact this
  have hok2 : SR.ok w0.heap.size (w1.alloc (.cells #[.int .i64 (lv : Int), .slice A1 k d1, .slice C1 gl f1, .bool (denseB k gl), .int .u64 0] 118)) (⟨A1, k, d1, C1, gl, f1, sc⟩ : SR) := by
    rw [hsc]
    refine ⟨hRA.below ha1, ?_, by show k ≤ _; omega, hgl, Still.ty (hTA.below ha1), Still.ty (hTC.below ha1)⟩
    have := hRC.below ha1
    simpa [Function.comp_def] using this
  have HO2 := hide hO2
  have HOK2 := hide hok2
  have HAL := hide hal
  have HKD := hide (HKI.out _ hal)
  clear hsc hRA hRC hb1 hTA hTC hal ha1 hO2 hok2 HRS HKI
  go_wp2_with fail
  refine HKD.out.mono ?_
  rintro e w3 ⟨C, f, rfl, hoC, hb3⟩
  have HO3 := hide (own_below HO2.out hb3)
  have HOK3 := hide (HOK2.out.below hb3)
  have HOC := hide hoC
  have HB3 := hide (below_then HAL.out hb3)
  have HCB : Hid (W.heap.size ≤ (w1.alloc (.cells #[.int .i64 (lv : Int), .slice A1 k d1, .slice C1 gl f1, .bool (denseB k gl), .int .u64 0] 118)).heap.size) := hide HAL.out.size
  generalize (w1.alloc (.cells #[.int .i64 (lv : Int), .slice A1 k d1, .slice C1 gl f1, .bool (denseB k gl), .int .u64 0] 118)).heap.size = cb at hoC HOC HCB
  generalize w1.heap.size = bs at *
  clear hoC hb3 HO2 HOK2 HAL HKD
  go_wp2
  go_loopw [3, 5] (fun x3 x5 wr => ∃ (j : Nat) (srs : List SR) (A3 : Option Addr) (d3 sl : Nat), x5 = .int .i64 (j : Int) ∧ j ≤ gl ∧ x3 = .slice A3 sl d3 ∧ sl = srs.length ∧ wr.ownsRow W.heap.size 118 5 (.slice A3 sl d3) sl (srs.flatMap shv) ∧ (∀ r ∈ srs, SR.ok w0.heap.size wr r) ∧ srs.map (·.sc) = sc :: (Ls.take j).flatten ∧
    wr.ownsRow cb 32 1 (.slice C gl f) gl (segvs B m G gl) ∧ Below W.heap.size W wr) (fun _ x _ => gl - (intOf x).toNat)
  case atStart =>
    refine ⟨0, [⟨A1, k, d1, C1, gl, f1, sc⟩], some ⟨bs, 0, none⟩, 1, 1, rfl, Nat.zero_le _, rfl, rfl, ?_, fun r hr => ?_, by simp, HOC.out, HB3.out⟩
    · simpa using HO3.out
    · rw [List.mem_singleton.1 hr]; exact HOK3.out
  case round =>
    obtain ⟨j, srs, A3, d3, sl, rfl, hj, rfl, hsl, hO, hOK, hSC, hOC, hb⟩ := hrel
    have HSL := hide hsl
    have HO := hide hO
    have HOK := hide hOK
    have HSCS := hide hSC
    have HOCC := hide hOC
    have HB := hide hb
    rename World => wz
    by_cases hjn : j < gl
    · obtain ⟨gg, hg⟩ : ∃ gg, G[j]? = some gg := ⟨G[j]'(by have := HGE.out; omega), List.getElem?_eq_getElem _⟩
      obtain ⟨q, hq⟩ : ∃ q, ks[j]? = some q := ⟨ks[j]'(by have := HGE.out; have := HGN.out; omega), List.getElem?_eq_getElem _⟩
      obtain ⟨L, hLj⟩ : ∃ L, Ls[j]? = some L := ⟨Ls[j]'(by have := HGE.out; have := HGN.out; have := HLS.out; omega), List.getElem?_eq_getElem _⟩
      obtain ⟨s1, s2, s3⟩ := HE.out.seg HNM.out hg
      obtain ⟨b5, o5, hCe, hbl5, u, hu, k5⟩ := (own_rw hOC).2.one hjn
      have hu2 : u = .slice (cutA B m 2 (fl G j)) gg.length (m - fl G j) := by
        unfold segvs at hu
        rw [List.getElem?_map, List.getElem?_range hjn] at hu
        simp at hu
        rw [← hu, s1]
      rw [hu2] at k5
      have hge := HG.out.es j gg q hg hq
      have hgn : gg.length ≤ 65536 := by
        have := fl_le hg
        rw [HE.out.len] at this
        omega
      have hlt : (Ls.take j).flatten.length + L.length ≤ 200000 := by
        have h1 := HLL.out
        have h2 : Ls.flatten.length = ((Ls.take j).flatten ++ L ++ (Ls.drop (j + 1)).flatten).length := by
          have hjl := (List.getElem?_eq_some_iff.1 hLj).1
          have hjv := (List.getElem?_eq_some_iff.1 hLj).2
          conv => lhs; rw [← List.take_append_drop j Ls, List.drop_eq_getElem_cons hjl, hjv]
          simp
        rw [h2] at h1
        simp only [List.length_append] at h1
        omega
      have hsn : sl = 1 + (Ls.take j).flatten.length := by
        have := congrArg List.length hSC
        rw [List.length_map, List.length_cons] at this
        omega
      have hsl2 : sl + L.length ≤ 200001 := by omega
      have HCI := hide (HIH.out j q L hq hLj w0 wz (cutA B m 2 (fl G j)) gg.length (m - fl G j) gg (below_then HB0.out hb) s2 s3 hgn (fun r hr => HKK.out r (List.mem_flatten.2 ⟨gg, List.mem_of_getElem? hg, hr⟩)) hge)
      have HLJ := hide hLj
      have HSZ : Hid (W.heap.size ≤ wz.heap.size) := hide hb.size
      have HS2 := hide hsl2
      have hjn' : (j : Int) < (gl : Int) := by omega
      have hj0 : (0 : Int) ≤ (j : Int) := by omega
      subst hCe
      generalize cutA B m 2 (fl G j) = cA at *
      generalize m - fl G j = cg at *
      generalize gg.length = gn at *
      clear hO hOK hSC hOC hb hsl hg hq hLj s1 s2 s3 hu hu2 hge hgn hlt hsn hsl2
      go_wp2_with fail
      refine HCI.out.mono ?_
      rintro e w7 ⟨A7, d7, sr7, rfl, ho7, hok7, hsc7, hb7⟩
      have hlen7 : sr7.length = L.length := by rw [← hsc7, List.length_map]
      obtain ⟨l7, hl7⟩ : ∃ l7, l7 = sr7.length := ⟨_, rfl⟩
      rw [← hl7] at ho7 hlen7 ⊢
      have hsum : sl + l7 ≤ 200001 := by rw [hlen7]; exact HS2.out
      have hR7 := (own_rw ho7).2
      have HO7 := hide ho7
      have HOK7 := hide hok7
      have HSC7 := hide hsc7
      have HL7 := hide hl7
      have HB7 := hide hb7
      have HR7 := hide hR7
      have hbW : Below W.heap.size W w7 := below_then HB.out hb7
      have HBW := hide hbW
      clear ho7 hok7 hsc7 hb7 hlen7 hl7 hR7 hbW k5 HCI
      go_wp2_with (first
        | (at_builtin
           refine app_b _ rfl (.tmp 24) (.tmp 29) _ rfl W.heap.size 118 _ 5 72 Tryz.underlying86 info_sh rfl (by omega) _ sl _ rfl (own_below HO.out HB7.out) A7 l7 d7 (sr7.flatMap shv) rfl W HBW.out (Nat.le_refl _) HR7.out ?h2 (by unfold maxLen; omega) (by omega) ?_
           case h2 =>
             intro u hu
             obtain ⟨r, _, hu⟩ := List.mem_flatMap.1 hu
             unfold shv at hu
             simp only [List.mem_cons, List.not_mem_nil, or_false] at hu
             rcases hu with rfl | rfl | rfl | rfl | rfl <;> rfl
           intro v9 w9 ho9 hb9 hg9
           obtain ⟨A9, d9, rfl, -, -⟩ := Rw.of_own ho9
           have hoq := own_below HO.out HB7.out
           have HO9 := hide ho9
           have HB9 := hide hb9
           have HOC9 := hide (own_grown (own_below HOCC.out HB7.out) hoq (by decide) hg9)
           have HOKA := hide (fun r hr => ((HOK.out r hr).below HB7.out).grown hoq HB0.out.size (by decide) (by decide) hg9)
           have HOKB := hide (fun r hr => (HOK7.out r hr).grown hoq HB0.out.size (by decide) (by decide) hg9)
           clear ho9 hb9 hg9 hoq)
        | fail)
      go_roundw
      case rel =>
        refine ⟨j + 1, srs ++ sr7, A9, d9, sl + l7, by go_num, by omega, rfl, ?_, ?_, fun r hr => ?_, ?_, HOC9.out, HB9.out⟩
        · rw [List.length_append, ← HSL.out, ← HL7.out]
        · rw [List.flatMap_append]; exact HO9.out
        · rcases List.mem_append.1 hr with hr | hr
          · exact HOKA.out r hr
          · exact HOKB.out r hr
        · rw [List.map_append, HSCS.out, HSC7.out, List.take_add_one, HLJ.out]
          simp
      case measure => simp [intOf]; omega
    · have hj' : j = gl := by omega
      have e9 : decide ((j : Int) < (gl : Int)) = false := by simp; omega
      have HJ := hide hj'
      clear hO hOK hSC hOC hb hsl
      go_wp2
      go_ret
      have hsl := HSL.out
      refine ⟨A3, d3, srs, by rw [← hsl]; rfl, by rw [← hsl]; exact HO.out, HOK.out, ?_, HB.out⟩
      rw [HSCS.out, HSC.out, HJ.out, List.take_of_length_le (by have := HGE.out; have := HGN.out; have := HLS.out; omega)]
/-- Entries in runs of one address. -/
def grp (m : Nat) : List Ent → List (List Ent)
  | [] => []
  | e :: l => match grp m l with
    | [] => [[e]]
    | [] :: gs => [e] :: gs
    | (f :: g) :: gs => if addrOf e.1 m = addrOf f.1 m then (e :: f :: g) :: gs else [e] :: (f :: g) :: gs
/-- The levels of a list's shapes. -/
def lvsN : Nat → List Ent → List Int
  | 0, _ => []
  | n + 1, es => match es with
    | [] => []
    | [_] => [-1]
    | e :: f :: l => part e.1 ((e :: f :: l).getLast (by simp)).1 :: (grp (part e.1 ((e :: f :: l).getLast (by simp)).1).toNat (e :: f :: l)).flatMap (lvsN n)
theorem grp_cons (m : Nat) (e : Ent) (l : List Ent) : grp m (e :: l) = match grp m l with
    | [] => [[e]]
    | [] :: gs => [e] :: gs
    | (f :: g) :: gs => if addrOf e.1 m = addrOf f.1 m then (e :: f :: g) :: gs else [e] :: (f :: g) :: gs := rfl
theorem grp_head (m : Nat) (f : Ent) (l : List Ent) : ∃ g gs, grp m (f :: l) = (f :: g) :: gs := by
  rw [grp_cons]
  cases grp m l with
  | nil => exact ⟨_, _, rfl⟩
  | cons x gs =>
    cases x with
    | nil => exact ⟨_, _, rfl⟩
    | cons y g =>
      by_cases h : addrOf f.1 m = addrOf y.1 m
      · simp only [h, if_true]; exact ⟨_, _, rfl⟩
      · simp only [h, if_false]; exact ⟨_, _, rfl⟩
theorem grp_run {m a : Nat} : ∀ (g : List Ent) (l : List Ent), g ≠ [] → (∀ e ∈ g, addrOf e.1 m = a) → (∀ f, l.head? = some f → addrOf f.1 m ≠ a) → grp m (g ++ l) = g :: grp m l
  | [], l, h, _, _ => absurd rfl h
  | [e], l, _, hg, hl => by
    show grp m (e :: l) = [e] :: grp m l
    rw [grp_cons]
    cases l with
    | nil => rfl
    | cons f l =>
      have hne : addrOf e.1 m ≠ addrOf f.1 m := by
        have h1 := hg e List.mem_cons_self
        have h2 := hl f rfl
        omega
      obtain ⟨g, gs, h3⟩ := grp_head m f l
      rw [h3]
      simp only [hne, if_false]
  | e :: f :: g, l, _, hg, hl => by
    have ih := grp_run (m := m) (a := a) (f :: g) l (by simp) (fun x hx => hg x (List.mem_cons_of_mem _ hx)) hl
    show grp m (e :: ((f :: g) ++ l)) = _
    rw [grp_cons, ih]
    have h1 := hg e List.mem_cons_self
    have h2 := hg f (by simp)
    simp only [h1, h2, if_true]
theorem grp_flat {m : Nat} : ∀ (Gs : List (List Ent)), (∀ g ∈ Gs, g ≠ []) → (∀ g ∈ Gs, ∀ e ∈ g, ∀ f ∈ g, addrOf e.1 m = addrOf f.1 m) → Gs.Pairwise (fun g h => ∀ e ∈ g, ∀ f ∈ h, addrOf e.1 m ≠ addrOf f.1 m) → grp m Gs.flatten = Gs
  | [], _, _, _ => rfl
  | g :: Gs, h1, h2, h3 => by
    have ih := grp_flat (m := m) Gs (fun g hg => h1 g (List.mem_cons_of_mem _ hg)) (fun g hg => h2 g (List.mem_cons_of_mem _ hg)) (List.pairwise_cons.1 h3).2
    obtain ⟨e, t, rfl⟩ := List.exists_cons_of_ne_nil (h1 g List.mem_cons_self)
    rw [List.flatten_cons, grp_run (a := addrOf e.1 m) (e :: t) Gs.flatten (by simp) (fun x hx => h2 _ List.mem_cons_self x hx e List.mem_cons_self) ?_, ih]
    intro f hf heq
    cases Gs with
    | nil => simp at hf
    | cons g' Gs =>
      obtain ⟨e', t', rfl⟩ := List.exists_cons_of_ne_nil (h1 g' (by simp))
      simp at hf
      subst hf
      exact (List.pairwise_cons.1 h3).1 _ List.mem_cons_self e List.mem_cons_self e' List.mem_cons_self heq.symm
/-- The first and the last entry of a fork part at its level; its kids' entries are the runs. -/
theorem FK.runs {k : Nat} {f : PF} (h : FK k f) (hne : ∀ q ∈ f.ks, q.es ≠ []) : (∀ (e g : Ent) (l : List Ent) (hl : kidEs f.ks = e :: g :: l), part e.1 ((e :: g :: l).getLast (by simp)).1 = (f.lv : Int)) ∧ grp f.lv (kidEs f.ks) = f.ks.map (·.es) := by
  have hk : kidEs f.ks = (f.ks.map (·.es)).flatten := by unfold kidEs; rw [List.flatMap_def]
  constructor
  · intro e g l hl
    have h2 := h.two
    have hs := h.sort
    have h0 := h
    obtain ⟨q, ks', hks⟩ : ∃ q ks', f.ks = q :: ks' := List.exists_cons_of_length_pos (by omega)
    have hlen : ks' ≠ [] := by
      intro h3
      rw [hks, h3] at h2
      simp at h2
    obtain ⟨r, hr⟩ : ∃ r, r = ks'.getLast hlen := ⟨_, rfl⟩
    have hrm : r ∈ ks' := by rw [hr]; exact List.getLast_mem hlen
    have hqr : q.at_ < r.at_ := by
      rw [hks] at hs
      exact (List.pairwise_cons.1 hs).1 r hrm
    have hqne := hne q (by rw [hks]; exact List.mem_cons_self)
    have hrne := hne r (by rw [hks]; exact List.mem_cons_of_mem _ hrm)
    have he : e ∈ q.es := by
      obtain ⟨x, t, hx⟩ := List.exists_cons_of_ne_nil hqne
      have h4 := hl
      rw [hks] at h4
      unfold kidEs at h4
      rw [List.flatMap_cons, hx] at h4
      injection h4 with h4 _
      rw [hx, ← h4]
      exact List.mem_cons_self
    have hz : ((e :: g :: l).getLast (by simp)) ∈ r.es := by
      have h5 : kidEs f.ks ≠ [] := by rw [hl]; simp
      have h6 : (e :: g :: l).getLast (by simp) = (kidEs f.ks).getLast h5 := by simp only [hl]
      rw [h6]
      have h7 : kidEs f.ks = kidEs (q :: ks'.dropLast) ++ r.es := by
        have h8 : f.ks = (q :: ks'.dropLast) ++ [r] := by rw [hks, List.cons_append, hr, List.dropLast_concat_getLast]
        conv => lhs; rw [h8]
        unfold kidEs
        rw [List.flatMap_append]
        simp
      have h9 : (kidEs f.ks).getLast h5 = r.es.getLast hrne := by
        simp only [h7]
        rw [List.getLast_append_of_ne_nil _ hrne]
      rw [h9]
      exact List.getLast_mem hrne
    obtain ⟨a1, a2, a3⟩ := h.es q (by rw [hks]; exact List.mem_cons_self) e he
    obtain ⟨b1, b2, b3⟩ := h.es r (by rw [hks]; exact List.mem_cons_of_mem _ hrm) _ hz
    exact part_unique a1 b1 (fun b hb => by rw [a3 b hb, b3 b hb]) (by rw [a2, b2]; omega)
  · rw [hk]
    refine grp_flat _ (fun g hg => ?_) (fun g hg e he f' hf' => ?_) ?_
    · obtain ⟨q, hq, rfl⟩ := List.mem_map.1 hg
      exact hne q hq
    · obtain ⟨q, hq, rfl⟩ := List.mem_map.1 hg
      rw [(h.es q hq e he).2.1, (h.es q hq f' hf').2.1]
    · rw [List.pairwise_map]
      refine h.sort.imp_of_mem ?_
      intro q r hq hr hqr e he f' hf'
      rw [(h.es q hq e he).2.1, (h.es r hr f' hf').2.1]
      omega
/-- What is told of a node's shapes. -/
def ShapesAre (w : World) (k g : Nat) (es : List Ent) (L : List SC) : Prop :=
  SN w g L ∧ RefSh k es L ∧ L.length + 1 ≤ 2 * es.length ∧ ∀ n, es.length ≤ n → L.map (·.lv) = lvsN n es
theorem pick_all {α β : Type} {P : α → β → Prop} : ∀ (l : List α), (∀ a ∈ l, ∃ b, P a b) → ∃ bs : List β, bs.length = l.length ∧ ∀ (i : Nat) (a : α) (b : β), l[i]? = some a → bs[i]? = some b → P a b
  | [], _ => ⟨[], rfl, fun i a b h => by simp at h⟩
  | a :: l, h => by
    obtain ⟨b, hb⟩ := h a List.mem_cons_self
    obtain ⟨bs, h1, h2⟩ := pick_all l fun a ha => h a (List.mem_cons_of_mem _ ha)
    refine ⟨b :: bs, by simp [h1], fun i x y hx hy => ?_⟩
    cases i with
    | zero => simp at hx hy; rw [← hx, ← hy]; exact hb
    | succ i => exact h2 i x y (by simpa using hx) (by simpa using hy)
theorem kid_count : ∀ (ks : List Kid), (∀ q ∈ ks, q.es ≠ []) → ks.length ≤ (kidEs ks).length
  | [], _ => by simp
  | q :: ks, h => by
    have h1 := kid_count ks fun q hq => h q (List.mem_cons_of_mem _ hq)
    have h2 := List.length_pos_iff.2 (h q List.mem_cons_self)
    unfold kidEs at h1 ⊢
    rw [List.flatMap_cons, List.length_append, List.length_cons]
    omega
theorem sum_len : ∀ (ks : List Kid) (Ls : List (List SC)), Ls.length = ks.length → (∀ (i : Nat) (q : Kid) (L : List SC), ks[i]? = some q → Ls[i]? = some L → L.length + 1 ≤ 2 * q.es.length) → Ls.flatten.length + ks.length ≤ 2 * (kidEs ks).length
  | [], [], _, _ => by simp
  | [], _ :: _, h, _ => by simp at h
  | _ :: _, [], h, _ => by simp at h
  | q :: ks, L :: Ls, h, hk => by
    have h1 := sum_len ks Ls (by simpa using h) fun i q' L' h1 h2 => hk (i + 1) q' L' (by simpa using h1) (by simpa using h2)
    have h2 := hk 0 q L rfl rfl
    unfold kidEs at h1 ⊢
    simp only [List.flatten_cons, List.flatMap_cons, List.length_append, List.length_cons]
    omega
theorem lv_flat : ∀ (ks : List Kid) (Ls : List (List SC)) (n : Nat), Ls.length = ks.length → (∀ (i : Nat) (q : Kid) (L : List SC), ks[i]? = some q → Ls[i]? = some L → L.map (·.lv) = lvsN n q.es) → Ls.flatten.map (·.lv) = (ks.map (·.es)).flatMap (lvsN n)
  | [], [], _, _, _ => by simp
  | [], _ :: _, _, h, _ => by simp at h
  | _ :: _, [], _, h, _ => by simp at h
  | q :: ks, L :: Ls, n, h, hk => by
    have h1 := lv_flat ks Ls n (by simpa using h) fun i q' L' h1 h2 => hk (i + 1) q' L' (by simpa using h1) (by simpa using h2)
    have h2 := hk 0 q L rfl rfl
    rw [List.flatten_cons, List.map_append, h2, h1, List.map_cons, List.flatMap_cons]
theorem shapes_are {w : World} {k g : Nat} {lv : Int} {pre : List Nat} {es : List Ent} (h : NodeOf w k g lv pre es) (hk1 : 1 ≤ k) (hk : k ≤ 16) (hes : es.length ≤ 65536) : ∃ L, ShapesAre w k g es L := by
  induction h with
  | @leaf g A c p v hv hp hc hB =>
    refine ⟨_, .mk (gs := []) (Ls := []) (shape_leaf hp hk hB) rfl (fun i g' L h => by simp at h), refsh_leaf hk, by simp, fun n hn => ?_⟩
    obtain ⟨n, rfl⟩ : ∃ n', n = n' + 1 := ⟨n - 1, by simp at hn; omega⟩
    rfl
  | @fork g A c lv pre gs ks hlv hp hc hz hkid hl ha hs h2 hS hB ih =>
    have hF : Fork w k g lv pre ks := ⟨A, c, gs, hlv, hp, hc, hz, hkid, hl, ha, hs, h2, hS, hB⟩
    have hle : ∀ q ∈ ks, q.es.length ≤ (kidEs ks).length := by
      intro q hq
      obtain ⟨l1, l2, rfl⟩ := List.append_of_mem hq
      unfold kidEs
      rw [List.flatMap_append, List.flatMap_cons]
      simp only [List.length_append]
      omega
    obtain ⟨Ls, h3, h4⟩ := pick_all (P := fun q L => ShapesAre w k q.blk q.es L) ks fun q hq => ih q hq (Nat.le_trans (hle q hq) hes)
    have hne : ∀ q ∈ ks, q.es ≠ [] := fun q hq => (hkid q hq).info.2.1
    have hsum := sum_len ks Ls h3 fun i q L h5 h6 => (h4 i q L h5 h6).2.2.1
    have hfk : FK k ⟨g, lv, pre, ks⟩ := Fork.fk (f := ⟨g, lv, pre, ks⟩) hF
    obtain ⟨r1, r2⟩ := hfk.runs hne
    simp only at r1 r2
    refine ⟨⟨(lv : Int), pre.map fun (x : Nat) => (x : Int), ks.map fun q => (q.at_ : Int), denseB k ks.length, 0⟩ :: Ls.flatten, .mk (gs := ks.map (·.blk)) (shape_fork hF hk) (by simp [h3]) (fun i g' L h5 h6 => ?_), ?_, ?_, fun n hn => ?_⟩
    · rw [List.getElem?_map] at h5
      obtain ⟨q, hq, rfl⟩ := Option.map_eq_some_iff.1 h5
      exact (h4 i q L hq h6).1
    · intro w0 W B n m rows hb0 hE hnm hn hkk hents
      obtain ⟨G, rfl, hG⟩ := forkG hF hents
      exact refsh_fork hF hk1 hk hb0 hE hnm hn hkk hG Ls h3 (by omega) fun i q L h5 h6 => (h4 i q L h5 h6).2.1
    · rw [List.length_cons]
      omega
    · have hge2 : 2 ≤ (kidEs ks).length := Nat.le_trans h2 (kid_count ks hne)
      obtain ⟨n, rfl⟩ : ∃ n', n = n' + 1 := ⟨n - 1, by omega⟩
      obtain ⟨e, e', l, hel⟩ : ∃ e e' l, kidEs ks = e :: e' :: l := by
        match hh : kidEs ks, hge2 with
        | [], h => simp at h
        | [_], h => simp at h
        | e :: e' :: l, _ => exact ⟨e, e', l, rfl⟩
      have hpt := r1 e e' l hel
      rw [hel]
      unfold lvsN
      simp only
      rw [hpt, Int.toNat_natCast, ← hel, r2, List.map_cons]
      congr 1
      refine lv_flat ks Ls n h3 fun i q L h5 h6 => (h4 i q L h5 h6).2.2.2 n ?_
      have hq := List.mem_of_getElem? h5
      have : q.es.length < (kidEs ks).length := by
        obtain ⟨l1, l2, hll⟩ := List.append_of_mem hq
        have hh2 := h2
        rw [hll] at hh2
        have hl12 : l1 ≠ [] ∨ l2 ≠ [] := by
          cases l1 with
          | nil =>
            cases l2 with
            | nil => simp at hh2
            | cons => exact .inr (by simp)
          | cons => exact .inl (by simp)
        have hpos : ∀ l : List Kid, (∀ q ∈ l, q ∈ ks) → l ≠ [] → 0 < (kidEs l).length := by
          intro l hl hlne
          obtain ⟨q, t, rfl⟩ := List.exists_cons_of_ne_nil hlne
          have := List.length_pos_iff.2 (hne q (hl q List.mem_cons_self))
          unfold kidEs
          rw [List.flatMap_cons, List.length_append]
          omega
        have hsz : (kidEs ks).length = (kidEs l1).length + (q.es.length + (kidEs l2).length) := by
          rw [hll]
          unfold kidEs
          rw [List.flatMap_append, List.flatMap_cons]
          simp only [List.length_append]
        rcases hl12 with h | h
        · have := hpos l1 (fun q' hq' => by rw [hll]; simp [hq']) h
          omega
        · have := hpos l2 (fun q' hq' => by rw [hll]; simp [hq']) h
          omega
      omega
theorem sr_len {b : Nat} {w : World} {r : SR} (h : r.ok b w) : r.sc.xs.length = r.k ∧ r.sc.pl.length = r.m := by
  have h1 := h.1.1
  have h2 := h.2.1.1
  simp at h1 h2
  exact ⟨h1, h2⟩
set_option maxHeartbeats 4000000 in
set_option maxRecDepth 100000 in
theorem same_shapes {w : World} {A B : Option Addr} {n c d ba bb : Nat} {ra rb : List SR} (hA : Rw w 5 A n (ra.flatMap shv)) (hB : Rw w 5 B n (rb.flatMap shv)) (hoa : ∀ r ∈ ra, SR.ok ba w r) (hob : ∀ r ∈ rb, SR.ok bb w r) (hsc : ra.map (·.sc) = rb.map (·.sc)) (hn : n ≤ 200000) :
    Calls Tryz.prog 39 #[.slice A n c, .slice B n d] w fun e w' => e = .returned (.bool true) ∧ Below w.heap.size w w' := by
  have HA := hide hA
  have HB := hide hB
  have HOA := hide hoa
  have HOB := hide hob
  have HSC := hide hsc
  clear hA hB hoa hob hsc
  go_enter Tryz.func39, Tryz.ntmps39
  go_wp2
  go_loopw [5] (fun x5 wr => ∃ (j : Nat), x5 = .int .i64 (j : Int) ∧ j ≤ n ∧ Below w.heap.size w wr) (fun x _ => n - (intOf x).toNat)
  case atStart => exact ⟨0, rfl, Nat.zero_le _, Below.refl _ _⟩
  case round =>
    obtain ⟨j, rfl, hj, hb⟩ := hrel
    have HBL := hide hb
    rename World => wz
    by_cases hjn : j < n
    · obtain ⟨b1, o1, r, rfl, hb1, hr, hc1⟩ := (HA.out.below hb).elem shv_len hjn (by omega)
      obtain ⟨b2, o2, s, rfl, hb2, hs, hc2⟩ := (HB.out.below hb).elem shv_len hjn (by omega)
      have hok1 := (HOA.out r (List.mem_of_getElem? hr)).below hb
      have hok2 := (HOB.out s (List.mem_of_getElem? hs)).below hb
      have hrs : r.sc = s.sc := by
        have h1 : (ra.map (·.sc))[j]? = some r.sc := by rw [List.getElem?_map, hr]; rfl
        rw [HSC.out, List.getElem?_map, hs] at h1
        simp at h1
        exact h1.symm
      obtain ⟨l1, l2⟩ := sr_len hok1
      obtain ⟨l3, l4⟩ := sr_len hok2
      obtain ⟨A1, k1, c1, C1, m1, f1, sc1⟩ := r
      obtain ⟨A2, k2, c2, C2, m2, f2, sc2⟩ := s
      simp only at hrs l1 l2 l3 l4
      subst hrs
      obtain rfl : k1 = k2 := by omega
      obtain rfl : m1 = m2 := by omega
      obtain ⟨lv, xs, pl, dn, v⟩ := sc1
      have x0 : wz.cell? ⟨b1, o1 + j * 5, none⟩ = some (.int .i64 lv) := hc1 0 _ rfl
      have x1 : wz.cell? ⟨b1, o1 + j * 5 + 1, none⟩ = some (.slice A1 k1 c1) := by rw [Nat.add_assoc]; exact hc1 1 _ rfl
      have x2 : wz.cell? ⟨b1, o1 + j * 5 + 2, none⟩ = some (.slice C1 m1 f1) := by rw [Nat.add_assoc]; exact hc1 2 _ rfl
      have x3 : wz.cell? ⟨b1, o1 + j * 5 + 3, none⟩ = some (.bool dn) := by rw [Nat.add_assoc]; exact hc1 3 _ rfl
      have x4 : wz.cell? ⟨b1, o1 + j * 5 + 4, none⟩ = some (.int .u64 v) := by rw [Nat.add_assoc]; exact hc1 4 _ rfl
      have y0 : wz.cell? ⟨b2, o2 + j * 5, none⟩ = some (.int .i64 lv) := hc2 0 _ rfl
      have y1 : wz.cell? ⟨b2, o2 + j * 5 + 1, none⟩ = some (.slice A2 k1 c2) := by rw [Nat.add_assoc]; exact hc2 1 _ rfl
      have y2 : wz.cell? ⟨b2, o2 + j * 5 + 2, none⟩ = some (.slice C2 m1 f2) := by rw [Nat.add_assoc]; exact hc2 2 _ rfl
      have y3 : wz.cell? ⟨b2, o2 + j * 5 + 3, none⟩ = some (.bool dn) := by rw [Nat.add_assoc]; exact hc2 3 _ rfl
      have y4 : wz.cell? ⟨b2, o2 + j * 5 + 4, none⟩ = some (.int .u64 v) := by rw [Nat.add_assoc]; exact hc2 4 _ rfl
      have HSS := hide (fun (W : World) (hW : Below wz.heap.size wz W) => same_shape A1 A2 C1 C2 k1 c1 c2 m1 f1 f2 lv dn v xs pl W (hok1.1.below hW) (hok2.1.below hW) (hok1.2.1.below hW) (hok2.2.1.below hW) (by have := hok1.2.2.1; simp only at this; omega) (by have := hok1.2.2.2.1; simp only at this; omega))
      clear hr hs hc1 hc2 hok1 hok2 l1 l2 l3 l4 hb
      go_wp2_with fail
      go_region_held3 (fun w' => w'.cell? ⟨b1, o1 + j * 5, none⟩ = some (.int .i64 lv) ∧ w'.cell? ⟨b1, o1 + j * 5 + 1, none⟩ = some (.slice A1 k1 c1) ∧ w'.cell? ⟨b1, o1 + j * 5 + 2, none⟩ = some (.slice C1 m1 f1) ∧ w'.cell? ⟨b1, o1 + j * 5 + 3, none⟩ = some (.bool dn) ∧ w'.cell? ⟨b1, o1 + j * 5 + 4, none⟩ = some (.int .u64 v) ∧ w'.cell? ⟨b2, o2 + j * 5, none⟩ = some (.int .i64 lv) ∧ w'.cell? ⟨b2, o2 + j * 5 + 1, none⟩ = some (.slice A2 k1 c2) ∧ w'.cell? ⟨b2, o2 + j * 5 + 2, none⟩ = some (.slice C2 m1 f2) ∧ w'.cell? ⟨b2, o2 + j * 5 + 3, none⟩ = some (.bool dn) ∧ w'.cell? ⟨b2, o2 + j * 5 + 4, none⟩ = some (.int .u64 v))
        (first
          | go_keep
          | exact hk5)
        (first
          | (go_at_call 57
             refine (HSS.out wz.drew (Below.refl _ wz).drew).mono ?_
             rintro e w5 ⟨rfl, hb5⟩
             have hd5 : Below wz.heap.size wz w5 := (Below.refl _ wz).drew.trans hb5
             have hk5 := And.intro ((hd5.cell (p := ⟨b1, o1 + j * 5, none⟩) hb1).trans x0) (And.intro ((hd5.cell (p := ⟨b1, o1 + j * 5 + 1, none⟩) hb1).trans x1) (And.intro ((hd5.cell (p := ⟨b1, o1 + j * 5 + 2, none⟩) hb1).trans x2) (And.intro ((hd5.cell (p := ⟨b1, o1 + j * 5 + 3, none⟩) hb1).trans x3) (And.intro ((hd5.cell (p := ⟨b1, o1 + j * 5 + 4, none⟩) hb1).trans x4) (And.intro ((hd5.cell (p := ⟨b2, o2 + j * 5, none⟩) hb2).trans y0) (And.intro ((hd5.cell (p := ⟨b2, o2 + j * 5 + 1, none⟩) hb2).trans y1) (And.intro ((hd5.cell (p := ⟨b2, o2 + j * 5 + 2, none⟩) hb2).trans y2) (And.intro ((hd5.cell (p := ⟨b2, o2 + j * 5 + 3, none⟩) hb2).trans y3) (((hd5.cell (p := ⟨b2, o2 + j * 5 + 4, none⟩) hb2).trans y4))))))))))))
      go_wp2
      go_roundw
      case rel => exact ⟨j + 1, by go_num, by omega, below_then HBL.out hd5⟩
      case measure => simp [intOf]; omega
    · have hj' : ¬ j < n := hjn
      have e9 : decide ((j : Int) < (n : Int)) = false := by simp; omega
      go_wp2
      go_ret
      exact ⟨rfl, hb⟩
theorem sums_fld0 (x0 x1 x2 x3 : Value) (w : World) : (Instr.field 81 (.agg #[x0, x1, x2, x3]) 0).run Tryz.prog w = .ok x0 w := by kernel_rfl
set_option maxHeartbeats 1000000 in
set_option maxRecDepth 100000 in
theorem tr_len_of {w : World} {t : Option Addr} {root : Option Addr} {c s mn mx : Nat} (hR : Calls Tryz.prog 37 #[.pointer t] w fun e w' => e = .returned (.pointer root) ∧ w = w')
    (hS : Calls Tryz.prog 38 #[.pointer root] w fun e w' => e = .returned (Sum4.val ⟨c, s, mn, mx⟩) ∧ Below w.heap.size w w') (hc : c ≤ 65536) :
    Calls Tryz.prog 22 #[.pointer t] w fun e w' => e = .returned (.int .i64 (c : Int)) ∧ Below w.heap.size w w' := by
  have HR := hide hR
  have HS := hide hS
  have q0 := sums_fld0 (.int .u64 (c : Int)) (.int .u64 (s : Int)) (.int .u64 (mn : Int)) (.int .u64 (mx : Int))
  have ew : IntKind.i64.wrap (c : Int) = (c : Int) := by rw [IntKind.wrap_i64]; omega
  have ew2 : wrap64 (c : Int) = (c : Int) := by unfold wrap64; omega
  clear hR hS
  unfold Sum4.val at HS
  go_enter Tryz.func22, Tryz.ntmps22
  go_wp2_with fail
  refine HR.out.mono ?_
  rintro e w1 ⟨rfl, rfl⟩
  go_wp2_with fail
  refine HS.out.mono ?_
  rintro e w1 ⟨rfl, hb1⟩
  have HB := hide hb1
  clear hb1
  go_wp2
  go_ret
  exact ⟨rfl, HB.out⟩
theorem tr_len {w : World} {k t : Nat} {es : List Ent} (h : TreeOf w k t es) (hes : es.length ≤ 65536) : Calls Tryz.prog 22 #[.pointer (some ⟨t, 0, none⟩)] w fun e w' => e = .returned (.int .i64 (es.length : Nat)) ∧ Below w.heap.size w w' := by
  obtain ⟨h1, h2, ⟨hT, rfl⟩ | ⟨g, lv, pre, hT, hN⟩⟩ := h
  · exact tr_len_of (c := 0) (s := 0) (mn := 0) (mx := 0) (tr_root hT) (nd_sums_nil w) (by omega)
  · obtain ⟨A, c, v, kids, hB, -⟩ := hN.head
    have hS := nd_sums hB
    have hl : es.length % 2 ^ 64 = es.length := Nat.mod_eq_of_lt (by omega)
    have he : sumsOf es = ⟨es.length, (es.map (·.2)).sum % 2 ^ 64, minL (es.map (·.2)), maxL (es.map (·.2))⟩ := by unfold sumsOf; rw [hl]
    rw [he] at hS
    exact tr_len_of (tr_root hT) hS hes
/-- A tree's shapes are the document's. -/
theorem tr_shapes_any {w : World} {k t : Nat} {es : List Ent} (h : TreeOf w k t es) (hes : es.length ≤ 30000) :
    ∃ L, (∀ W, Below w.heap.size w W → Calls Tryz.prog 40 #[.pointer (some ⟨t, 0, none⟩)] W (ShapesOut W.heap.size W L)) ∧ RefSh k es L ∧ L.length ≤ 60000 ∧ ∀ n, es.length ≤ n → L.map (·.lv) = lvsN n es := by
  obtain ⟨h1, h2, ⟨hT, rfl⟩ | ⟨g, lv, pre, hT, hN⟩⟩ := h
  · refine ⟨[], fun W hW => (tr_shapes_none (tr_root (Blk.below hT hW))).mono fun e w' ⟨h1, h2⟩ => ?_, refsh_nil k, by simp, fun n hn => ?_⟩
    · exact ⟨none, 0, [], h1, World.ownsRow_nil _ _ _ _, fun r hr => (by cases hr), rfl, h2⟩
    · cases n <;> rfl
  · obtain ⟨L, hL1, hL2, hL3, hL4⟩ := shapes_are hN h1 h2 (by omega)
    exact ⟨L, fun W hW => tr_shapes (Blk.below hT hW) (hL1.stay hW) (by omega), hL2, by omega, hL4⟩
set_option maxHeartbeats 2000000 in
set_option maxRecDepth 100000 in
theorem is_tree {w : World} {k t : Nat} {es : List Ent} (hT : TreeOf w k t es) {A : Option Addr} {n c : Nat} {rows : List ER} (hE : EntsAt w A n rows) (hnc : n ≤ c) (hn : n ≤ 30000) (hkk : ∀ r ∈ rows, r.n = k) (hes : ents rows = es) :
    Calls Tryz.prog 23 #[.pointer (some ⟨t, 0, none⟩), .int .i64 (k : Int), .slice A n c] w fun e w' => e = .returned (.bool true) ∧ Below w.heap.size w w' := by
  have hl : es.length = n := by rw [← hes, ← hE.len]; unfold ents; simp
  obtain ⟨L, hS, hRS, hLL, -⟩ := tr_shapes_any hT (by omega)
  obtain ⟨root, hTB⟩ : ∃ root, TreeBlk w t k root := by
    obtain ⟨_, _, ⟨h, _⟩ | ⟨g, _, _, h, _⟩⟩ := hT
    · exact ⟨_, h⟩
    · exact ⟨_, h⟩
  have HK := hide (tr_k hTB)
  have HLen := hide (tr_len hT (by omega))
  have HT := hide hT
  have HS := hide hS
  have HRS := hide hRS
  have HE := hide hE
  have HKK := hide hkk
  have HES := hide hes
  have HL := hide hl
  rw [hl] at HLen
  clear hT hS hRS hE hkk hes hTB
  go_enter Tryz.func23, Tryz.ntmps23
  go_wp2_with fail
  refine HK.out.mono ?_
  rintro e w1 ⟨rfl, rfl⟩
  go_wp2_with fail
  refine HLen.out.mono ?_
  rintro e w2 ⟨rfl, hb2⟩
  have HB2 := hide hb2
  have HS2 := hide (HS.out w2 hb2)
  clear hb2
  go_wp2_with fail
  refine HS2.out.mono ?_
  rintro e w3 ⟨A3, d3, s3, rfl, ho3, hk3, hsc3, hb3⟩
  have hc3 := below_then HB2.out hb3
  have HC3 := hide hc3
  have HR3 := hide (own_rw ho3).2
  have HK3 := hide hk3
  have HSC3 := hide hsc3
  have hs3l : s3.length = L.length := by rw [← hsc3, List.length_map]
  have HCR := hide (HRS.out w w3 A n c rows hc3 HE.out hnc (by omega) HKK.out HES.out)
  clear ho3 hk3 hsc3 hb3 hc3 HS2
  go_wp2_with fail
  refine HCR.out.mono ?_
  rintro e w4 ⟨A4, d4, s4, rfl, ho4, hk4, hsc4, hb4⟩
  have hs4l : s4.length = L.length := by rw [← hsc4, List.length_map]
  have HR4 := (own_rw ho4).2
  rw [hs4l] at HR4 ⊢
  have hr3 := HR3.out.below hb4
  rw [hs3l] at hr3
  have HSS := hide (same_shapes (c := d3) (d := d4) hr3 HR4 (fun r hr => (HK3.out r hr).below hb4) hk4 (HSC3.out.trans hsc4.symm) (by omega))
  have HB4 := hide (below_then HC3.out hb4)
  clear hs3l hs4l HR3 HR4 hr3 HK3 HSC3 HCR ho4 hk4 hsc4 hb4
  generalize L.length = ll at *
  go_wp2_with fail
  refine HSS.out.mono ?_
  rintro e w5 ⟨rfl, hb5⟩
  have hc5 := below_then HB4.out hb5
  have HC5 := hide hc5
  obtain ⟨hk1, hk2, ⟨hTn, he0⟩ | ⟨g, lv, pre, hTs, hN⟩⟩ := HT.out
  · obtain rfl : n = 0 := by rw [← HL.out, he0]; rfl
    have HRT := hide (tr_root (Blk.below hTn hc5))
    clear hTn hb5 hc5 HSS
    go_wp2_with fail
    refine HRT.out.mono ?_
    rintro e w6 ⟨rfl, rfl⟩
    go_wp2
    go_ret
    exact ⟨rfl, HC5.out⟩
  · have hn0 : n ≠ 0 := by
      intro h0
      have := hN.info.2.1
      rw [← List.length_pos_iff] at this
      have := HL.out
      omega
    have en0 : ((n : Int) == 0) = false := by simp; omega
    have HRT := hide (tr_root (Blk.below hTs hc5))
    have hIs := is_node hN hk1 hk2 w5 A c rows hc5
    rw [HE.out.len] at hIs
    have HIS := hide (hIs (HE.out.below hc5) hnc (by omega) HKK.out HES.out)
    clear hTs hN hb5 hc5 HSS hn0 hIs
    go_wp2_with fail
    refine HRT.out.mono ?_
    rintro e w6 ⟨rfl, rfl⟩
    go_wp2_with fail
    refine HIS.out.mono ?_
    rintro e w6 ⟨rfl, hb6⟩
    have HB6 := hide (below_then HC5.out hb6)
    clear hb6
    go_wp2
    go_ret
    exact ⟨rfl, HB6.out⟩
end Go.Proofs.YtghnpflaafdcdaaGreat
set_option linter.unusedSimpArgs false
set_option linter.unusedVariables false
namespace Go.Proofs.YtghnpflaafdcdaaGreat
open Go.RowKit
/-- A tree and the list of its entries. -/
def Now (w : World) (k t : Nat) (A : Option Addr) (n c : Nat) : Prop := ∃ rows es, TreeOf w k t es ∧ EntsAt w A n rows ∧ n ≤ c ∧ SortR k rows ∧ (∀ r ∈ rows, r.n = k) ∧ ents rows = es
theorem Now.stay {w w' : World} {k t : Nat} {A : Option Addr} {n c : Nat} (h : Now w k t A n c) (hb : Below w.heap.size w w') : Now w' k t A n c := by
  obtain ⟨rows, es, h1, h2, h3, h4, h5, h6⟩ := h
  exact ⟨rows, es, h1.stay hb, h2.below hb, h3, h4, h5, h6⟩
theorem TreeOf.sorted {w : World} {k t : Nat} {es : List Ent} (h : TreeOf w k t es) : Zsorted es ∧ ∀ e ∈ es, Zp k e.1 ∧ e.2 < 2 ^ 64 := by
  obtain ⟨h1, h2, ⟨_, rfl⟩ | ⟨g, lv, pre, _, hN⟩⟩ := h
  · exact ⟨List.Pairwise.nil, fun e he => (by cases he)⟩
  · obtain ⟨i1, i2, i3, i4, i5, i6, i7⟩ := hN.info
    exact ⟨i6, fun e he => ⟨(i5 e he).1, (i5 e he).2.1⟩⟩
theorem mem_ents {rows : List ER} {e : Ent} : e ∈ ents rows ↔ ∃ r ∈ rows, (r.p, r.v) = e := by
  unfold ents ER.e
  rw [List.mem_map]
theorem now_new {w : World} {k t : Nat} {A : Option Addr} {c : Nat} (hk1 : 1 ≤ k) (hk : k ≤ 16) (hT : TreeBlk w t k none) : Now w k t A 0 c :=
  ⟨[], [], ⟨hk1, hk, .inl ⟨hT, rfl⟩⟩, ⟨Rw.nil _ _ _, fun r hr => (by cases hr)⟩, Nat.zero_le _, SortR.nil k, fun r hr => (by cases hr), rfl⟩
theorem now_del {w : World} {k t : Nat} {A : Option Addr} {n c : Nat} {rows : List ER} {es es' : List Ent} {p : List Nat} (hS : SortR k rows) (hkk : ∀ r ∈ rows, r.n = k) (hes : ents rows = es) (hp : Zp k p) (hT : TreeOf w k t es') (hm : ∀ x, x ∈ es' ↔ x ∈ es ∧ x.1 ≠ p) (hE : EntsAt w A n (delR rows p)) (hnc : n ≤ c) : Now w k t A n c := by
  obtain ⟨s1, s2⟩ := del_spec hS hp
  refine ⟨delR rows p, es', hT, hE, hnc, s1, fun r hr => hkk r (mem_delR hr), sorted_ext s1.ents hT.sorted.1 fun e => ?_⟩
  rw [hm, ← hes, mem_ents, mem_ents]
  constructor
  · rintro ⟨r, hr, rfl⟩
    obtain ⟨h1, h2⟩ := (s2 r).1 hr
    exact ⟨⟨r, h1, rfl⟩, h2⟩
  · rintro ⟨⟨r, hr, rfl⟩, h⟩
    exact ⟨r, (s2 r).2 ⟨hr, h⟩, rfl⟩
theorem now_put {w : World} {k t : Nat} {A : Option Addr} {n c : Nat} {rows : List ER} {es es' : List Ent} {q : ER} (hS : SortR k rows) (hkk : ∀ r ∈ rows, r.n = k) (hes : ents rows = es) (hp : Zp k q.p) (hqn : q.n = k) (hT : TreeOf w k t es') (hm : ∀ x, x ∈ es' ↔ x = (q.p, q.v) ∨ (x ∈ es ∧ x.1 ≠ q.p)) (hE : EntsAt w A n (putR rows q)) (hnc : n ≤ c) : Now w k t A n c := by
  obtain ⟨s1, s2⟩ := put_spec hS hp
  refine ⟨putR rows q, es', hT, hE, hnc, s1, fun r hr => ?_, sorted_ext s1.ents hT.sorted.1 fun e => ?_⟩
  · rcases mem_putR hr with rfl | hr
    · exact hqn
    · exact hkk r hr
  · rw [hm, ← hes, mem_ents, mem_ents]
    constructor
    · rintro ⟨r, hr, rfl⟩
      rcases (s2 r).1 hr with rfl | ⟨h1, h2⟩
      · exact .inl rfl
      · exact .inr ⟨⟨r, h1, rfl⟩, h2⟩
    · rintro (rfl | ⟨⟨r, hr, rfl⟩, h⟩)
      · exact ⟨q, (s2 q).2 (.inl rfl), rfl⟩
      · exact ⟨r, (s2 r).2 (.inr ⟨hr, h⟩), rfl⟩
theorem has_iff {k : Nat} {rows : List ER} {es : List Ent} {p : List Nat} (hS : SortR k rows) (hes : ents rows = es) (hp : Zp k p) : hasR rows p = true ↔ ∃ v, (p, v) ∈ es := by
  rw [(has_spec hS hp).2, ← hes]
  constructor
  · rintro ⟨r, hr, rfl⟩
    exact ⟨r.v, mem_ents.2 ⟨r, hr, rfl⟩⟩
  · rintro ⟨v, hv⟩
    obtain ⟨r, hr, he⟩ := mem_ents.1 hv
    injection he with he _
    exact ⟨r, hr, he⟩
theorem has_val {k : Nat} {rows : List ER} {es : List Ent} {p : List Nat} {r : ER} (hS : SortR k rows) (hes : ents rows = es) (hp : Zp k p) (hh : hasR rows p = true) (hr : rows[plR rows p]? = some r) : (p, r.v) ∈ es := by
  obtain ⟨s, hs, he⟩ := (has_spec hS hp).1.1 hh
  rw [hr] at hs
  injection hs with hs
  subst hs
  rw [← hes]
  exact mem_ents.2 ⟨r, List.mem_of_getElem? hr, by rw [he]⟩
theorem uniq_val {es : List Ent} (h : Zsorted es) {p : List Nat} {v v' : Nat} (h1 : (p, v) ∈ es) (h2 : (p, v') ∈ es) : v = v' := by
  induction es with
  | nil => cases h1
  | cons e es ih =>
    obtain ⟨a, b⟩ := List.pairwise_cons.1 h
    rcases List.mem_cons.1 h1 with h1' | h1'
    · rcases List.mem_cons.1 h2 with h2' | h2'
      · rw [← h1'] at h2'
        injection h2' with _ h3
        exact h3.symm
      · have := a _ h2'
        rw [← h1'] at this
        exact absurd this (zlt_irrefl p)
    · rcases List.mem_cons.1 h2 with h2' | h2'
      · have := a _ h1'
        rw [← h2'] at this
        exact absurd this (zlt_irrefl p)
      · exact ih b h1' h2'
theorem tree_info : ∃ j, Tryz.prog.info? 101 = some j ∧ j.size ≠ 0 := by
  have h : (Tryz.prog.info? 101).map (fun j => j.size) = some 2 := by kernel_rfl
  obtain ⟨j, hj, h8⟩ := Option.map_eq_some_iff.1 h
  exact ⟨j, hj, by omega⟩
theorem tptr_same (a : Addr) (w : World) : (binOp .eql 24 (.pointer (some a)) (.pointer (some a))).run Tryz.prog w = .ok (.bool true) w := by
  obtain ⟨j, hj, _⟩ := tree_info
  exact run_eql_ptr_same w a Tryz.underlying24 hj
theorem tptr_other {w : World} {a b : Nat} {ca cb : Array Value} {ta tb : TypeId} (hne : a ≠ b) (ha : Blk w a ta ca) (hb : Blk w b tb cb) : (binOp .eql 24 (.pointer (some ⟨a, 0, none⟩)) (.pointer (some ⟨b, 0, none⟩))).run Tryz.prog w = .ok (.bool false) w := by
  obtain ⟨j, hj, h0⟩ := tree_info
  exact run_eql_ptr_other w Tryz.underlying24 hj h0 (fun h => hne (by injection h)) ha hb
theorem TreeOf.blk {w : World} {k t : Nat} {es : List Ent} (h : TreeOf w k t es) : ∃ root, TreeBlk w t k root := by
  obtain ⟨_, _, ⟨h, _⟩ | ⟨g, _, _, h, _⟩⟩ := h
  · exact ⟨_, h⟩
  · exact ⟨_, h⟩
/-- What Done answers. -/
def DoneOut (w : World) (k n : Nat) (e : Ending) (w' : World) : Prop :=
  ∃ (t' : Nat) (A' : Option Addr) (n' c' : Nat), e = .returned (.tuple #[.pointer (some ⟨t', 0, none⟩), .slice A' n' c', .bool true]) ∧ Now w' k t' A' n' c' ∧ n' ≤ n + 1 ∧ Below w.heap.size w w'
set_option maxHeartbeats 4000000 in
set_option maxRecDepth 100000 in
theorem done_del {w : World} {k t n c : Nat} {A : Option Addr} (hN : Now w k t A n c) (hn : n ≤ 1000) {RA : Option Addr} {Rn Rc v : Nat} {p : List Nat} (hp : Pt w RA Rn p) (hc : Rn ≤ Rc) (hm : Rc ≤ maxLen) (hv : v < 2 ^ 64) :
    Calls Tryz.prog 7 #[.pointer (some ⟨t, 0, none⟩), .slice A n c, .agg #[.bool true, .slice RA Rn Rc, .int .u64 (v : Int)]] w (DoneOut w k n) := by
  obtain ⟨rows, es, hT, hE, hnc, hS, hkk, hes⟩ := hN
  obtain ⟨root, hTB⟩ := hT.blk
  have b1 := (Below.refl w.heap.size w).alloc (Nat.le_refl _) (.cells #[.bool true, .slice RA Rn Rc, .int .u64 (v : Int)] 38)
  have hA := Blk.new w 38 #[.bool true, .slice RA Rn Rc, .int .u64 (v : Int)]
  have HB1 := hide b1
  have HTB := hide hTB
  have HT := hide hT
  have HE := hide hE
  have HS := hide hS
  have HKK := hide hkk
  have HES := hide hes
  have HP := hide hp
  have HNC := hide hnc
  clear hT hE hS hkk hes hTB hp b1 hnc
  go_enter Tryz.func7, Tryz.ntmps7
  go_upto_region 1 with fail
  generalize w.alloc (.cells #[.bool true, .slice RA Rn Rc, .int .u64 (v : Int)] 38) = w1 at *
  have HK := hide (tr_k (Blk.below HTB.out HB1.out))
  have y0 := hA.cell 0
  have y1 := hA.cell 1
  have y2 := hA.cell 2
  simp at y0 y1 y2
  have HA := hide hA
  clear hA
  go_wp2_with fail
  refine HK.out.mono ?_
  rintro e w2 ⟨rfl, rfl⟩
  by_cases hRk : Rn = k
  · subst hRk
    have HZ := hide HP.out.zp
    have HD := hide (tr_del (c := Rc) (HT.out.stay HB1.out) (HP.out.below HB1.out))
    have hk16 : Rn ≤ 16 := HT.out.2.1
    clear HK
    go_wp2_with fail
    refine HD.out.mono ?_
    rintro e w2 ⟨⟨rfl, hno⟩ | ⟨t', es', v', rfl, hT', hin, hmem⟩, hb2⟩
    · have c2 := below_then HB1.out hb2
      have HC2 := hide c2
      have hA2 := HA.out.below hb2
      have y0 := hA2.cell 0
      have y1 := hA2.cell 1
      have y2 := hA2.cell 2
      simp at y0 y1 y2
      have HG := hide (ref_get A RA n c Rn Rc rows p w2 (HE.out.below c2) HKK.out (HP.out.below c2) (by omega) (by omega))
      have HNO := hide hno
      clear hA2 c2 hb2 HD hno
      go_wp2_with fail
      refine HG.out.mono ?_
      rintro e w3 ⟨⟨v3, ok, rfl, hok, h0, h1⟩, rfl⟩
      have hokf : ok = false := by
        rw [hok]
        cases hh : hasR rows p with
        | false => rfl
        | true =>
          obtain ⟨v, hv⟩ := (has_iff HS.out HES.out HZ.out).1 hh
          exact absurd hv (HNO.out v)
      subst hokf
      clear hok h0 h1 HG
      go_wp2
      go_ret3
      exact ⟨t, A, n, c, rfl, ⟨rows, es, HT.out.stay HC2.out, HE.out.below HC2.out, HNC.out, HS.out, HKK.out, HES.out⟩, by omega, HC2.out⟩
    · have c2 := below_then HB1.out hb2
      have HC2 := hide c2
      have hA2 := HA.out.below hb2
      have y0 := hA2.cell 0
      have y1 := hA2.cell 1
      have y2 := hA2.cell 2
      simp at y0 y1 y2
      have HG := hide (ref_get A RA n c Rn Rc rows p w2 (HE.out.below c2) HKK.out (HP.out.below c2) (by omega) (by omega))
      have HRD := hide (ref_del A RA n c Rn Rc rows p w2 (HE.out.below c2) HNC.out HKK.out (HP.out.below c2) (by omega) (by omega))
      have HIN := hide hin
      have HMEM := hide hmem
      have HT' := hide hT'
      clear hA2 c2 hb2 HD hin hmem hT'
      go_wp2_with fail
      refine HG.out.mono ?_
      rintro e w3 ⟨⟨v3, ok, rfl, hok, h0, h1⟩, rfl⟩
      have hokf : ok = true := by
        rw [hok]
        exact (has_iff HS.out HES.out HZ.out).2 ⟨v', HIN.out⟩
      subst hokf
      clear hok h0 h1 HG
      go_wp2_with fail
      refine HRD.out.mono ?_
      rintro e w4 ⟨A', n', c', rfl, hE', hnc', hn', hb4⟩
      have HH := hide (And.intro hE' (And.intro hnc' (And.intro hn' hb4)))
      clear hE' hnc' hn' hb4 HRD
      go_wp2
      go_ret3
      obtain ⟨hE', hnc', hn', hb4⟩ := HH.out
      exact ⟨t', A', n', c', rfl, now_del HS.out HKK.out HES.out HZ.out (HT'.out.stay hb4) HMEM.out hE' hnc', by omega, below_then HC2.out hb4⟩
  · have HD := hide (tr_del_dim (Blk.below HTB.out HB1.out) RA Rn Rc hRk)
    have e1 : ((Rn : Int) != (k : Int)) = true := by simp; omega
    clear HK hRk
    go_wp2_with fail
    refine HD.out.mono ?_
    rintro e w2 ⟨rfl, rfl⟩
    go_wp2
    go_ret3
    exact ⟨t, A, n, c, rfl, ⟨rows, es, HT.out.stay HB1.out, HE.out.below HB1.out, HNC.out, HS.out, HKK.out, HES.out⟩, by omega, HB1.out⟩
theorem tptr_run {w : World} {a b : Nat} {ca cb : Array Value} {ta tb : TypeId} (ha : Blk w a ta ca) (hb : Blk w b tb cb) : (binOp .eql 24 (.pointer (some ⟨a, 0, none⟩)) (.pointer (some ⟨b, 0, none⟩))).run Tryz.prog w = .ok (.bool (decide (a = b))) w := by
  by_cases h : a = b
  · subst h
    rw [tptr_same]
    simp
  · rw [tptr_other h ha hb]
    simp [h]
set_option maxHeartbeats 4000000 in
set_option maxRecDepth 100000 in
theorem done_put {w : World} {k t n c : Nat} {A : Option Addr} (hN : Now w k t A n c) (hn : n ≤ 1000) {RA : Option Addr} {Rn Rc v : Nat} {p : List Nat} (hp : Pt w RA Rn p) (hc : Rn ≤ Rc) (hm : Rc ≤ maxLen) (hv : v < 2 ^ 64) :
    Calls Tryz.prog 7 #[.pointer (some ⟨t, 0, none⟩), .slice A n c, .agg #[.bool false, .slice RA Rn Rc, .int .u64 (v : Int)]] w (DoneOut w k n) := by
  obtain ⟨rows, es, hT, hE, hnc, hS, hkk, hes⟩ := hN
  obtain ⟨root, hTB⟩ := hT.blk
  have b1 := (Below.refl w.heap.size w).alloc (Nat.le_refl _) (.cells #[.bool false, .slice RA Rn Rc, .int .u64 (v : Int)] 38)
  have hA := Blk.new w 38 #[.bool false, .slice RA Rn Rc, .int .u64 (v : Int)]
  have HB1 := hide b1
  have HTB := hide hTB
  have HT := hide hT
  have HE := hide hE
  have HS := hide hS
  have HKK := hide hkk
  have HES := hide hes
  have HP := hide hp
  have HNC := hide hnc
  have HSO := hide hT.sorted.1
  clear hT hE hS hkk hes hTB hp b1 hnc
  go_enter Tryz.func7, Tryz.ntmps7
  go_upto_region 1 with fail
  generalize w.alloc (.cells #[.bool false, .slice RA Rn Rc, .int .u64 (v : Int)] 38) = w1 at *
  have HK := hide (tr_k (Blk.below HTB.out HB1.out))
  have y0 := hA.cell 0
  have y1 := hA.cell 1
  have y2 := hA.cell 2
  simp at y0 y1 y2
  have HA := hide hA
  clear hA
  go_wp2_with fail
  refine HK.out.mono ?_
  rintro e w2 ⟨rfl, rfl⟩
  by_cases hRk : Rn = k
  · subst hRk
    have HZ := hide HP.out.zp
    have HD := hide (tr_put (c := Rc) (HT.out.stay HB1.out) (HP.out.below HB1.out) hv)
    have hk16 : Rn ≤ 16 := HT.out.2.1
    clear HK
    go_wp2_with fail
    refine HD.out.mono ?_
    rintro e w2 ⟨t', es', rfl, hT', hmem, htt, hb2⟩
    have c2 := below_then HB1.out hb2
    have HC2 := hide c2
    have hA2 := HA.out.below hb2
    have y0 := hA2.cell 0
    have y1 := hA2.cell 1
    have y2 := hA2.cell 2
    simp at y0 y1 y2
    have hal : w.heap.size < w2.heap.size := hA2.lt
    have HG := hide (ref_get A RA n c Rn Rc rows p w2 (HE.out.below c2) HKK.out (HP.out.below c2) (by omega) (by omega))
    have HRP := hide (ref_put A RA n c Rn Rc v rows p w2.drew ((HE.out.below c2).below (Below.refl _ w2).drew) HNC.out HKK.out ((HP.out.below c2).below (Below.refl _ w2).drew) hc hm (by omega) (by omega) hv)
    have HMEM := hide hmem
    have HT' := hide hT'
    have HTT := hide htt
    obtain ⟨root', hTB'⟩ := hT'.blk
    have HQ := hide (fun (W : World) (hW : Below w2.heap.size w2 W) => tptr_run (Blk.below hTB' hW) (Blk.below (Blk.below HTB.out c2) hW))
    clear hA2 c2 hb2 HD hmem hT' htt hTB'
    go_wp2_with fail
    refine HG.out.mono ?_
    rintro e w3 ⟨⟨v3, ok, rfl, hok, h0, h1⟩, rfl⟩
    clear HG
    cases ok with
    | false =>
      have hne : t' ≠ t := fun h => by
        have h2 := (has_iff HS.out HES.out HZ.out).2 ⟨v, HTT.out.1 h⟩
        rw [← hok] at h2
        cases h2
      clear h1
      have hq0 := HQ.out w2 (Below.refl _ _)
      rw [show decide (t' = t) = false by simp [hne]] at hq0
      have HQB := hide (fun W hW => by have := HQ.out W hW; rw [show decide (t' = t) = false by simp [hne]] at this; exact this)
      have hk0 := And.intro (show w2.drew.cell? ⟨w.heap.size, 1, none⟩ = _ from y1) (And.intro (show w2.drew.cell? ⟨w.heap.size, 2, none⟩ = _ from y2) (HQB.out w2.drew (Below.refl _ _).drew))
      clear HQ hok hne
      go_wp2_with fail
      refine wp_region_held_drew (S := (fun w' => w'.cell? ⟨w.heap.size, 1, none⟩ = some (.slice RA Rn Rc) ∧ w'.cell? ⟨w.heap.size, 2, none⟩ = some (.int .u64 (v : Int)) ∧ (binOp .eql 24 (.pointer (some ⟨t', 0, none⟩)) (.pointer (some ⟨t, 0, none⟩))).run Tryz.prog w' = .ok (.bool false) w')) (by kernel_rfl) hk0 (fun hHeld => ?_)
      refine wpAnyH_take (i := 0) (oi := { dst := some 99, op := _, type := _, pos := _, after := _, guard := _ }) (v := ?_) rfl (by kernel_rfl) (by kernel_rfl) (by kernel_rfl) (fun _ _ _ h => h) (Or.inl ⟨by rfl, ?_⟩) (by assumption) ?_
      rotate_left 1
      · intro wS hSw
        try dsimp only at hSw
        go_simp
        all_goals with_reducible rfl
      try simp only [Act.put, List.setIfInBounds_toArray, List.set_cons_zero, List.set_cons_succ]
      refine wpAnyH_take (i := 1) (oi := { dst := some 100, op := _, type := _, pos := _, after := _, guard := _ }) (v := ?_) rfl (by kernel_rfl) (by kernel_rfl) (by kernel_rfl) (fun _ _ _ h => h) (Or.inl ⟨by rfl, ?_⟩) (by assumption) ?_
      rotate_left 1
      · intro wS hSw
        try dsimp only at hSw
        go_simp
        all_goals with_reducible rfl
      try simp only [Act.put, List.setIfInBounds_toArray, List.set_cons_zero, List.set_cons_succ]
      refine wpAnyH_take (i := 2) (oi := { dst := some 101, op := _, type := _, pos := _, after := _, guard := _ }) (v := ?_) rfl (by kernel_rfl) (by kernel_rfl) (by kernel_rfl) (fun _ _ _ h => h) (Or.inl ⟨by rfl, ?_⟩) (by assumption) ?_
      rotate_left 1
      · intro wS hSw
        try dsimp only at hSw
        go_simp
        all_goals with_reducible rfl
      try simp only [Act.put, List.setIfInBounds_toArray, List.set_cons_zero, List.set_cons_succ]
      refine wpAnyH_take (i := 3) (oi := { dst := some 102, op := _, type := _, pos := _, after := _, guard := _ }) (v := ?_) rfl (by kernel_rfl) (by kernel_rfl) (by kernel_rfl) (fun _ _ _ h => h) (Or.inl ⟨by rfl, ?_⟩) (by assumption) ?_
      rotate_left 1
      · intro wS hSw
        try dsimp only at hSw
        go_simp
        all_goals with_reducible rfl
      try simp only [Act.put, List.setIfInBounds_toArray, List.set_cons_zero, List.set_cons_succ]
      refine wpAnyH_take (i := 4) (oi := { dst := some 103, op := _, type := _, pos := _, after := _, guard := _ }) (v := ?_) rfl (by kernel_rfl) (by kernel_rfl) (by kernel_rfl) (fun _ _ _ h => h) (Or.inl ⟨by rfl, ?_⟩) (by assumption) ?_
      rotate_left 1
      · intro wS hSw
        try dsimp only at hSw
        go_simp
        all_goals with_reducible rfl
      try simp only [Act.put, List.setIfInBounds_toArray, List.set_cons_zero, List.set_cons_succ]
      refine wpAnyH_take (i := 5) (oi := { dst := some 104, op := _, type := _, pos := _, after := _, guard := _ }) (v := ?_) rfl (by kernel_rfl) (by kernel_rfl) (by kernel_rfl) (fun _ _ _ h => h) (Or.inl ⟨by rfl, ?_⟩) (by assumption) ?_
      rotate_left 1
      · intro wS hSw
        try dsimp only at hSw
        go_simp
        all_goals with_reducible rfl
      try simp only [Act.put, List.setIfInBounds_toArray, List.set_cons_zero, List.set_cons_succ]
      refine wpAnyH_take (i := 7) (oi := { dst := some 106, op := _, type := _, pos := _, after := _, guard := _ }) (v := ?_) rfl (by kernel_rfl) (by kernel_rfl) (by kernel_rfl) (fun _ _ _ h => h) (Or.inl ⟨by rfl, ?_⟩) (by assumption) ?_
      rotate_left 1
      · intro wS hSw
        try dsimp only at hSw
        go_simp
        all_goals with_reducible rfl
      try simp only [Act.put, List.setIfInBounds_toArray, List.set_cons_zero, List.set_cons_succ]
      refine wpAnyH_take (i := 8) (oi := { dst := some 107, op := _, type := _, pos := _, after := _, guard := _ }) (v := ?_) rfl (by kernel_rfl) (by kernel_rfl) (by kernel_rfl) (fun _ _ _ h => h) (Or.inl ⟨by rfl, ?_⟩) (by assumption) ?_
      rotate_left 1
      · intro wS hSw
        try dsimp only at hSw
        go_simp
        all_goals with_reducible rfl
      try simp only [Act.put, List.setIfInBounds_toArray, List.set_cons_zero, List.set_cons_succ]
      refine wpAnyH_ready (rs := [6]) (by kernel_rfl) (by simp) ?_
      refine AllReadyH.cons (o := { dst := some 105, op := _, type := _, pos := _, after := _, guard := _ }) rfl (fun K hK => ?_) ?_
      · go_simp
        go_at_call 30
        refine HRP.out.mono ?_
        rintro e w5 ⟨A', n', c', rfl, hE', hnc', hn', hb5⟩
        have hd5 : Below w2.heap.size w2 w5 := (Below.refl _ w2).drew.trans hb5
        have HH := hide (And.intro hE' (And.intro hnc' (And.intro hn' hd5)))
        have hk5 := And.intro ((hd5.cell (p := ⟨w.heap.size, 1, none⟩) hal).trans y1) (And.intro ((hd5.cell (p := ⟨w.heap.size, 2, none⟩) hal).trans y2) (HQB.out w5 hd5))
        clear hE' hnc' hn' hb5
        try go_wp2_with fail
        refine hK.out _ _ ?_ (fun hHeld => ?_)
        · exact hk5
        clear hK K
        try simp only [Act.put, List.setIfInBounds_toArray, List.set_cons_zero, List.set_cons_succ]
        refine wpAnyH_take (i := 9) (oi := { dst := some 108, op := _, type := _, pos := _, after := _, guard := _ }) (v := ?_) rfl (by kernel_rfl) (by kernel_rfl) (by kernel_rfl) (fun _ _ _ h => h) (Or.inl ⟨by rfl, ?_⟩) (by assumption) ?_
        rotate_left 1
        · intro wS hSw
          try dsimp only at hSw
          go_simp
          all_goals with_reducible rfl
        try simp only [Act.put, List.setIfInBounds_toArray, List.set_cons_zero, List.set_cons_succ]
        refine wpAnyH_take (i := 10) (oi := { dst := some 109, op := _, type := _, pos := _, after := _, guard := _ }) (v := ?_) rfl (by kernel_rfl) (by kernel_rfl) (by kernel_rfl) (fun _ _ _ h => h) (Or.inl ⟨by rfl, ?_⟩) (by assumption) ?_
        rotate_left 1
        · intro wS hSw
          try dsimp only at hSw
          go_simp
          all_goals with_reducible rfl
        try simp only [Act.put, List.setIfInBounds_toArray, List.set_cons_zero, List.set_cons_succ]
        refine wpAnyH_take (i := 11) (oi := { dst := some 110, op := _, type := _, pos := _, after := _, guard := _ }) (v := ?_) rfl (by kernel_rfl) (by kernel_rfl) (by kernel_rfl) (fun _ _ _ h => h) (Or.inl ⟨by rfl, ?_⟩) (by assumption) ?_
        rotate_left 1
        · intro wS hSw
          try dsimp only at hSw
          go_simp
          all_goals with_reducible rfl
        try simp only [Act.put, List.setIfInBounds_toArray, List.set_cons_zero, List.set_cons_succ]
        refine wpAnyH_take (i := 12) (oi := { dst := some 111, op := _, type := _, pos := _, after := _, guard := _ }) (v := ?_) rfl (by kernel_rfl) (by kernel_rfl) (by kernel_rfl) (fun _ _ _ h => h) (Or.inl ⟨by rfl, ?_⟩) (by assumption) ?_
        rotate_left 1
        · intro wS hSw
          try dsimp only at hSw
          go_simp
          all_goals with_reducible rfl
        try simp only [Act.put, List.setIfInBounds_toArray, List.set_cons_zero, List.set_cons_succ]
        refine wpAnyH_take (i := 13) (oi := { dst := some 112, op := _, type := _, pos := _, after := _, guard := _ }) (v := ?_) rfl (by kernel_rfl) (by kernel_rfl) (by kernel_rfl) (fun _ _ _ h => h) (Or.inl ⟨by rfl, ?_⟩) (by assumption) ?_
        rotate_left 1
        · intro wS hSw
          try dsimp only at hSw
          go_simp
          all_goals with_reducible rfl
        try simp only [Act.put, List.setIfInBounds_toArray, List.set_cons_zero, List.set_cons_succ]
        refine wpAnyH_take (i := 14) (oi := { dst := some 113, op := _, type := _, pos := _, after := _, guard := _ }) (v := ?_) rfl (by kernel_rfl) (by kernel_rfl) (by kernel_rfl) (fun _ _ _ h => h) (Or.inl ⟨by rfl, ?_⟩) (by assumption) ?_
        rotate_left 1
        · intro wS hSw
          try dsimp only at hSw
          go_simp
          all_goals with_reducible rfl
        try simp only [Act.put, List.setIfInBounds_toArray, List.set_cons_zero, List.set_cons_succ]
        refine wpAnyH_take (i := 15) (oi := { dst := some 114, op := _, type := _, pos := _, after := _, guard := _ }) (v := ?_) rfl (by kernel_rfl) (by kernel_rfl) (by kernel_rfl) (fun _ _ _ h => h) (Or.inl ⟨by rfl, ?_⟩) (by assumption) ?_
        rotate_left 1
        · intro wS hSw
          try dsimp only at hSw
          go_simp
          all_goals with_reducible rfl
        try simp only [Act.put, List.setIfInBounds_toArray, List.set_cons_zero, List.set_cons_succ]
        refine wpAnyH_take (i := 16) (oi := { dst := some 115, op := _, type := _, pos := _, after := _, guard := _ }) (v := undef) rfl (by kernel_rfl) (by kernel_rfl) (by kernel_rfl) (fun _ _ _ h => h) (Or.inr ⟨by rfl, rfl⟩) (by assumption) ?_
        try simp only [Act.put, List.setIfInBounds_toArray, List.set_cons_zero, List.set_cons_succ]
        refine wpAnyH_take (i := 17) (oi := { dst := some 116, op := _, type := _, pos := _, after := _, guard := _ }) (v := undef) rfl (by kernel_rfl) (by kernel_rfl) (by kernel_rfl) (fun _ _ _ h => h) (Or.inr ⟨by rfl, rfl⟩) (by assumption) ?_
        try simp only [Act.put, List.setIfInBounds_toArray, List.set_cons_zero, List.set_cons_succ]
        refine wpAnyH_take (i := 18) (oi := { dst := some 117, op := _, type := _, pos := _, after := _, guard := _ }) (v := undef) rfl (by kernel_rfl) (by kernel_rfl) (by kernel_rfl) (fun _ _ _ h => h) (Or.inr ⟨by rfl, rfl⟩) (by assumption) ?_
        try simp only [Act.put, List.setIfInBounds_toArray, List.set_cons_zero, List.set_cons_succ]
        refine wpAnyH_take (i := 19) (oi := { dst := some 118, op := _, type := _, pos := _, after := _, guard := _ }) (v := undef) rfl (by kernel_rfl) (by kernel_rfl) (by kernel_rfl) (fun _ _ _ h => h) (Or.inr ⟨by rfl, rfl⟩) (by assumption) ?_
        try simp only [Act.put, List.setIfInBounds_toArray, List.set_cons_zero, List.set_cons_succ]
        refine wpAnyH_take (i := 20) (oi := { dst := some 119, op := _, type := _, pos := _, after := _, guard := _ }) (v := ?_) rfl (by kernel_rfl) (by kernel_rfl) (by kernel_rfl) (fun _ _ _ h => h) (Or.inl ⟨by rfl, ?_⟩) (by assumption) ?_
        rotate_left 1
        · intro wS hSw
          try dsimp only at hSw
          go_simp
          all_goals with_reducible rfl
        try simp only [Act.put, List.setIfInBounds_toArray, List.set_cons_zero, List.set_cons_succ]
        refine wpAnyH_take (i := 21) (oi := { dst := some 120, op := _, type := _, pos := _, after := _, guard := _ }) (v := ?_) rfl (by kernel_rfl) (by kernel_rfl) (by kernel_rfl) (fun _ _ _ h => h) (Or.inl ⟨by rfl, ?_⟩) (by assumption) ?_
        rotate_left 1
        · intro wS hSw
          try dsimp only at hSw
          go_simp
          all_goals with_reducible rfl
        try simp only [Act.put, List.setIfInBounds_toArray, List.set_cons_zero, List.set_cons_succ]
        refine wpAnyH_take (i := 22) (oi := { dst := some 121, op := _, type := _, pos := _, after := _, guard := _ }) (v := ?_) rfl (by kernel_rfl) (by kernel_rfl) (by kernel_rfl) (fun _ _ _ h => h) (Or.inl ⟨by rfl, ?_⟩) (by assumption) ?_
        rotate_left 1
        · intro wS hSw
          try dsimp only at hSw
          go_simp
          all_goals with_reducible rfl
        try simp only [Act.put, List.setIfInBounds_toArray, List.set_cons_zero, List.set_cons_succ]
        refine wpAnyH_take (i := 23) (oi := { dst := some 122, op := _, type := _, pos := _, after := _, guard := _ }) (v := ?_) rfl (by kernel_rfl) (by kernel_rfl) (by kernel_rfl) (fun _ _ _ h => h) (Or.inl ⟨by rfl, ?_⟩) (by assumption) ?_
        rotate_left 1
        · intro wS hSw
          try dsimp only at hSw
          go_simp
          all_goals with_reducible rfl
        try simp only [Act.put, List.setIfInBounds_toArray, List.set_cons_zero, List.set_cons_succ]
        refine wpAnyH_take (i := 24) (oi := { dst := some 123, op := _, type := _, pos := _, after := _, guard := _ }) (v := ?_) rfl (by kernel_rfl) (by kernel_rfl) (by kernel_rfl) (fun _ _ _ h => h) (Or.inl ⟨by rfl, ?_⟩) (by assumption) ?_
        rotate_left 1
        · intro wS hSw
          try dsimp only at hSw
          go_simp
          all_goals with_reducible rfl
        try simp only [Act.put, List.setIfInBounds_toArray, List.set_cons_zero, List.set_cons_succ]
        refine wpAnyH_take (i := 25) (oi := { dst := some 124, op := _, type := _, pos := _, after := _, guard := _ }) (v := ?_) rfl (by kernel_rfl) (by kernel_rfl) (by kernel_rfl) (fun _ _ _ h => h) (Or.inl ⟨by rfl, ?_⟩) (by assumption) ?_
        rotate_left 1
        · intro wS hSw
          try dsimp only at hSw
          go_simp
          all_goals with_reducible rfl
        try simp only [Act.put, List.setIfInBounds_toArray, List.set_cons_zero, List.set_cons_succ]
        refine wpAnyH_take (i := 26) (oi := { dst := some 6, op := _, type := _, pos := _, after := _, guard := _ }) (v := ?_) rfl (by kernel_rfl) (by kernel_rfl) (by kernel_rfl) (fun _ _ _ h => h) (Or.inl ⟨by rfl, ?_⟩) (by assumption) ?_
        rotate_left 1
        · intro wS hSw
          try dsimp only at hSw
          go_simp
          all_goals with_reducible rfl
        try simp only [Act.put, List.setIfInBounds_toArray, List.set_cons_zero, List.set_cons_succ]
        refine wpAnyH_take (i := 27) (oi := { dst := some 7, op := _, type := _, pos := _, after := _, guard := _ }) (v := ?_) rfl (by kernel_rfl) (by kernel_rfl) (by kernel_rfl) (fun _ _ _ h => h) (Or.inl ⟨by rfl, ?_⟩) (by assumption) ?_
        rotate_left 1
        · intro wS hSw
          try dsimp only at hSw
          go_simp
          all_goals with_reducible rfl
        try simp only [Act.put, List.setIfInBounds_toArray, List.set_cons_zero, List.set_cons_succ]
        refine wpAnyH_take (i := 28) (oi := { dst := some 8, op := _, type := _, pos := _, after := _, guard := _ }) (v := ?_) rfl (by kernel_rfl) (by kernel_rfl) (by kernel_rfl) (fun _ _ _ h => h) (Or.inl ⟨by rfl, ?_⟩) (by assumption) ?_
        rotate_left 1
        · intro wS hSw
          try dsimp only at hSw
          go_simp
          all_goals with_reducible rfl
        try simp only [Act.put, List.setIfInBounds_toArray, List.set_cons_zero, List.set_cons_succ]
        refine wpAnyH_done (by kernel_rfl) ?_ _
        go_wp2
        go_ret3
        obtain ⟨hE', hnc', hn', hb4⟩ := HH.out
        exact ⟨t', A', n', c', rfl, now_put HS.out HKK.out HES.out HZ.out rfl (HT'.out.stay hb4) HMEM.out hE' hnc', by omega, below_then HC2.out hb4⟩
      · exact AllReadyH.nil
    | true =>
      obtain ⟨r, hr, hrv⟩ := h1 rfl
      have hin := has_val HS.out HES.out HZ.out hok.symm hr
      rw [hrv] at hin
      by_cases hvv : v3 = v
      · subst hvv
        have htt : t' = t := HTT.out.2 hin
        clear h1 h0 hr hrv hin
        have hq0 := HQ.out w2 (Below.refl _ _)
        rw [show decide (t' = t) = true by simp [htt]] at hq0
        have HQB := hide (fun W hW => by have := HQ.out W hW; rw [show decide (t' = t) = true by simp [htt]] at this; exact this)
        have hk0 := And.intro (show w2.drew.cell? ⟨w.heap.size, 1, none⟩ = _ from y1) (And.intro (show w2.drew.cell? ⟨w.heap.size, 2, none⟩ = _ from y2) (HQB.out w2.drew (Below.refl _ _).drew))
        clear HQ hok
        clear htt
        go_wp2_with fail
        first
          | go_region_held3 (fun w' => w'.cell? ⟨w.heap.size, 1, none⟩ = some (.slice RA Rn Rc) ∧ w'.cell? ⟨w.heap.size, 2, none⟩ = some (.int .u64 (v3 : Int)) ∧ (binOp .eql 24 (.pointer (some ⟨t', 0, none⟩)) (.pointer (some ⟨t, 0, none⟩))).run Tryz.prog w' = .ok (.bool true) w')
              (first
                | go_keep
                | exact hk5
                | exact hk0)
              (first
                | (go_at_call 30
                   refine HRP.out.mono ?_
                   rintro e w5 ⟨A', n', c', rfl, hE', hnc', hn', hb5⟩
                   have hd5 : Below w2.heap.size w2 w5 := (Below.refl _ w2).drew.trans hb5
                   have HH := hide (And.intro hE' (And.intro hnc' (And.intro hn' hd5)))
                   have hk5 := And.intro ((hd5.cell (p := ⟨w.heap.size, 1, none⟩) hal).trans y1) (And.intro ((hd5.cell (p := ⟨w.heap.size, 2, none⟩) hal).trans y2) (HQB.out w5 hd5))
                   clear hE' hnc' hn' hb5))
          | fail
        all_goals
          go_wp2
          go_ret3
          obtain ⟨hE', hnc', hn', hb4⟩ := HH.out
          exact ⟨t', A', n', c', rfl, now_put HS.out HKK.out HES.out HZ.out rfl (HT'.out.stay hb4) HMEM.out hE' hnc', by omega, below_then HC2.out hb4⟩
      · have hne : t' ≠ t := fun h => hvv (uniq_val HSO.out hin (HTT.out.1 h))
        have ev : ((v3 : Int) == (v : Int)) = false := by simp; omega
        clear h1 hr hrv hin hvv
        have hq0 := HQ.out w2 (Below.refl _ _)
        rw [show decide (t' = t) = false by simp [hne]] at hq0
        have HQB := hide (fun W hW => by have := HQ.out W hW; rw [show decide (t' = t) = false by simp [hne]] at this; exact this)
        have hk0 := And.intro (show w2.drew.cell? ⟨w.heap.size, 1, none⟩ = _ from y1) (And.intro (show w2.drew.cell? ⟨w.heap.size, 2, none⟩ = _ from y2) (HQB.out w2.drew (Below.refl _ _).drew))
        clear HQ hok
        clear hne
        go_wp2_with fail
        first
          | go_region_held3 (fun w' => w'.cell? ⟨w.heap.size, 1, none⟩ = some (.slice RA Rn Rc) ∧ w'.cell? ⟨w.heap.size, 2, none⟩ = some (.int .u64 (v : Int)) ∧ (binOp .eql 24 (.pointer (some ⟨t', 0, none⟩)) (.pointer (some ⟨t, 0, none⟩))).run Tryz.prog w' = .ok (.bool false) w')
              (first
                | go_keep
                | exact hk5
                | exact hk0)
              (first
                | (go_at_call 30
                   refine HRP.out.mono ?_
                   rintro e w5 ⟨A', n', c', rfl, hE', hnc', hn', hb5⟩
                   have hd5 : Below w2.heap.size w2 w5 := (Below.refl _ w2).drew.trans hb5
                   have HH := hide (And.intro hE' (And.intro hnc' (And.intro hn' hd5)))
                   have hk5 := And.intro ((hd5.cell (p := ⟨w.heap.size, 1, none⟩) hal).trans y1) (And.intro ((hd5.cell (p := ⟨w.heap.size, 2, none⟩) hal).trans y2) (HQB.out w5 hd5))
                   clear hE' hnc' hn' hb5))
          | fail
        all_goals
          go_wp2
          go_ret3
          obtain ⟨hE', hnc', hn', hb4⟩ := HH.out
          exact ⟨t', A', n', c', rfl, now_put HS.out HKK.out HES.out HZ.out rfl (HT'.out.stay hb4) HMEM.out hE' hnc', by omega, below_then HC2.out hb4⟩
  · have HD := hide (tr_put_dim (Blk.below HTB.out HB1.out) RA Rn Rc (v : Int) hRk)
    have e1 : ((Rn : Int) != (k : Int)) = true := by simp; omega
    clear HK hRk
    go_wp2_with fail
    refine HD.out.mono ?_
    rintro e w2 ⟨rfl, rfl⟩
    go_wp2
    go_ret3
    exact ⟨t, A, n, c, rfl, ⟨rows, es, HT.out.stay HB1.out, HE.out.below HB1.out, HNC.out, HS.out, HKK.out, HES.out⟩, by omega, HB1.out⟩
theorem done7 {w : World} {k t n c : Nat} {A : Option Addr} (hN : Now w k t A n c) (hn : n ≤ 1000) {r : TA} (hr : r.ok w) :
    Calls Tryz.prog 7 #[.pointer (some ⟨t, 0, none⟩), .slice A n c, .agg #[.bool r.d, .slice r.A r.n r.c, .int .u64 (r.v : Int)]] w (DoneOut w k n) := by
  obtain ⟨d, RA, Rn, Rc, p, v⟩ := r
  obtain ⟨h1, h2, h3, h4⟩ := hr
  cases d with
  | true => exact done_del hN hn h1 h2 h3 h4
  | false => exact done_put hN hn h1 h2 h3 h4
end Go.Proofs.YtghnpflaafdcdaaGreat
set_option linter.unusedSimpArgs false
set_option linter.unusedVariables false
namespace Go.Proofs.YtghnpflaafdcdaaGreat
open Go.RowKit
theorem Rw.ex {w w' : World} {p n sz : Nat} {A : Option Addr} {vs : List Value} (h : Rw w sz A n vs) (hx : Ex p w w') (hne : 0 < n → ∀ o, (∀ (j : Nat) u, vs[j]? = some u → w.cell? ⟨p, o + j, none⟩ = some u) → False) : Rw w' sz A n vs := by
  refine ⟨h.1, fun hn => ?_⟩
  obtain ⟨b, o, h1, hl, hc⟩ := h.2 hn
  have hb : b ≠ p := by
    rintro rfl
    exact hne hn o hc
  refine ⟨b, o, h1, Nat.lt_of_lt_of_le hl hx.size, fun j u hu => ?_⟩
  rw [World.cell?_of_block (w := w) (a := ⟨b, o + j, none⟩) (hx.block b hl hb)]
  exact hc j u hu
/-- A past's own block. -/
def PastBlk (w : World) (p : Nat) : Prop := ∃ A n c a, Blk w p 64 #[.slice A n c, .int .i64 a]
section
variable {w w' : World} {p k : Nat}
theorem Pt.ex {A : Option Addr} {z : List Nat} (h : Pt w A k z) (hP : PastBlk w p) (hx : Ex p w w') : Pt w' A k z := by
  obtain ⟨tA, tn, tc, a, hB⟩ := hP
  refine ⟨h.1, h.2.1.ex hx fun hn o hc => ?_, h.2.2⟩
  have h1 := h.1
  cases z with
  | nil => simp at h1; omega
  | cons y ys =>
    have h2 := hc 0 (.int .u64 (y : Int)) (by simp [u64s])
    rw [hB.cell] at h2
    rcases o with _ | _ | o <;> simp at h2
theorem SlotsAt_n.ex {g : Nat} {L : Th} (h : SlotsAt_n w g k L) (hP : PastBlk w p) (hx : Ex p w w') : SlotsAt_n w' g k L := by
  obtain ⟨tA, tn, tc, a, hB⟩ := hP
  obtain ⟨h1, h2, h3, h4, A, m, c, h5, h6, h7⟩ := h
  refine ⟨h1, h2, h3, h4, A, m, c, hx.blk h5 (h5.ne_ hB (by decide)), h6.ex hx fun hn o hc => ?_, h7⟩
  have hl := h6.1
  have hg : (clv (cellsOf (.pointer none) k L))[2]? = some (clv (cellsOf (.pointer none) k L))[2] := List.getElem?_eq_getElem (by omega)
  have h8 := hc 2 _ hg
  rw [hB.cell] at h8
  simp at h8
theorem NodeOf.ex {g : Nat} {lv : Int} {pre : List Nat} {es : List Ent} (h : NodeOf w k g lv pre es) (hP : PastBlk w p) (hx : Ex p w w') : NodeOf w' k g lv pre es := by
  induction h with
  | leaf hv hp hc hB =>
    obtain ⟨tA, tn, tc, a, hB'⟩ := id hP
    exact .leaf hv (hp.ex hP hx) hc (hx.blk hB (hB.ne_ hB' (by decide)))
  | fork ks hlv hp hc hz hk hl ha hs h2 hS hB ih =>
    obtain ⟨tA, tn, tc, a, hB'⟩ := id hP
    exact .fork ks hlv (hp.ex hP hx) hc hz ih hl ha hs h2 (hS.ex hP hx) (hx.blk hB (hB.ne_ hB' (by decide)))
theorem TreeOf.ex {t : Nat} {es : List Ent} (h : TreeOf w k t es) (hP : PastBlk w p) (hx : Ex p w w') : TreeOf w' k t es := by
  obtain ⟨h1, h2, h3⟩ := h
  obtain ⟨tA, tn, tc, a, hB'⟩ := id hP
  refine ⟨h1, h2, ?_⟩
  rcases h3 with ⟨h3, h4⟩ | ⟨g, lv, pre, h3, h4⟩
  · exact .inl ⟨hx.blk h3 (Blk.ne_ h3 hB' (by decide)), h4⟩
  · exact .inr ⟨g, lv, pre, hx.blk h3 (Blk.ne_ h3 hB' (by decide)), h4.ex hP hx⟩
end
/-- A row of a type, in a block of one's own from B on. -/
def OwnTy (B : Nat) (w : World) (e : TypeId) (A : Option Addr) (n : Nat) : Prop := 0 < n → ∃ b o cs, A = some ⟨b, o, none⟩ ∧ B ≤ b ∧ Blk w b e cs
section
variable {B n : Nat} {w w' : World} {e : TypeId} {A : Option Addr}
theorem OwnTy.ty (h : OwnTy B w e A n) : TyRow w e A n := by
  intro hn
  obtain ⟨b, o, cs, h1, -, h2⟩ := h hn
  exact ⟨b, o, cs, (0, 0), h1, h2⟩
theorem OwnTy.below (h : OwnTy B w e A n) (hb : Below w.heap.size w w') : OwnTy B w' e A n := by
  intro hn
  obtain ⟨b, o, cs, h1, h2, h3⟩ := h hn
  exact ⟨b, o, cs, h1, h2, h3.below hb⟩
theorem OwnTy.keep (h : OwnTy B w e A n) (hk : Keep e w w') : OwnTy B w' e A n := by
  intro hn
  obtain ⟨b, o, cs, h1, h2, h3⟩ := h hn
  exact ⟨b, o, cs, h1, h2, h3.keep hk⟩
theorem OwnTy.lower (h : OwnTy B w e A n) {B' : Nat} (hB : B' ≤ B) : OwnTy B' w e A n := by
  intro hn
  obtain ⟨b, o, cs, h1, h2, h3⟩ := h hn
  exact ⟨b, o, cs, h1, Nat.le_trans hB h2, h3⟩
theorem OwnTy.of_own {sz c : Nat} {xs : List Value} (h : w.ownsRow B e sz (.slice A n c) n xs) : OwnTy B w e A n := by
  intro hn
  rcases h.2 with ⟨_, h0⟩ | ⟨g, cap, cur, hv, h1, h2, _⟩
  · omega
  · injection hv with h3 h4 h5
    exact ⟨g, 0, cur, h3, h1, h2⟩
end
/-- A past's trees, and where it stands; its row lies from block B on. -/
def PastAt (B : Nat) (w : World) (p : Nat) (ts : List Nat) (a : Nat) : Prop :=
  a < ts.length ∧ ts.length ≤ 51 ∧ ∃ A c, Blk w p 64 #[.slice A ts.length c, .int .i64 (a : Int)] ∧ ts.length ≤ c ∧ c ≤ maxLen ∧ OwnTy B w 24 A ts.length ∧ Rw w 1 A ts.length (ptrs ts)
section
variable {B : Nat} {w w' : World} {p k a : Nat} {ts : List Nat}
theorem PastAt.blk (h : PastAt B w p ts a) : PastBlk w p := by
  obtain ⟨h1, h2, A, c, h3, -⟩ := h
  exact ⟨A, _, c, _, h3⟩
theorem PastAt.below (h : PastAt B w p ts a) (hb : Below w.heap.size w w') : PastAt B w' p ts a := by
  obtain ⟨h1, h2, A, c, h3, h4, h5, h6, h7⟩ := h
  exact ⟨h1, h2, A, c, h3.below hb, h4, h5, h6.below hb, h7.below hb⟩
theorem PastAt.lower (h : PastAt B w p ts a) {B' : Nat} (hB : B' ≤ B) : PastAt B' w p ts a := by
  obtain ⟨h1, h2, A, c, h3, h4, h5, h6, h7⟩ := h
  exact ⟨h1, h2, A, c, h3, h4, h5, h6.lower hB, h7⟩
end
end Go.Proofs.YtghnpflaafdcdaaGreat
set_option linter.unusedSimpArgs false
set_option linter.unusedVariables false
namespace Go.Proofs.YtghnpflaafdcdaaGreat
open Go.RowKit
theorem info_t : (Tryz.prog.info? 24).map (fun i => (i.zero, i.size, i.bytes)) = some (some (.pointer none), 1, 8) := by kernel_rfl
theorem ptr_eq_t (a b : Nat) (w : World) {ca cb : Array Value} {ta tb : TypeId} (ha : Blk w a ta ca) (hb : Blk w b tb cb) : (binOp .eql 24 (.pointer (some ⟨a, 0, none⟩)) (.pointer (some ⟨b, 0, none⟩))).run Tryz.prog w = .ok (.bool (decide (a = b))) w := by
  have h : (Tryz.prog.info? 101).map (fun j => j.size) = some 2 := by kernel_rfl
  obtain ⟨j, hj, h8⟩ := Option.map_eq_some_iff.1 h
  by_cases hab : a = b
  · subst hab
    rw [decide_eq_true rfl]
    exact run_eql_ptr_same w ⟨a, 0, none⟩ Tryz.underlying24 hj
  · rw [decide_eq_false hab]
    exact run_eql_ptr_other w Tryz.underlying24 hj (by omega) (fun h => hab (by injection h)) ha hb
set_option maxHeartbeats 4000000 in
set_option maxRecDepth 100000 in
theorem ps_new (w : World) (t : Nat) : Calls Tryz.prog 6 #[.pointer (some ⟨t, 0, none⟩)] w fun e w' => (∃ p, e = .returned (.tuple #[.pointer (some ⟨p, 0, none⟩), .int .i64 0]) ∧ w.heap.size ≤ p ∧ PastAt w.heap.size w' p [t] 0) ∧ Below w.heap.size w w' := by
  have b1 := (Below.refl w.heap.size w).alloc (Nat.le_refl _) (.cells #[.pointer (some ⟨t, 0, none⟩)] 24)
  have hN1 := Blk.new w 24 #[.pointer (some ⟨t, 0, none⟩)]
  have hR1 := Rw.new1 w 24 #[.pointer (some ⟨t, 0, none⟩)] (sz := 1) rfl
  generalize hw1 : w.alloc (.cells #[.pointer (some ⟨t, 0, none⟩)] 24) = w1 at *
  have s1 : w1.heap.size = w.heap.size + 1 := by rw [← hw1]; simp
  have b2 := below_alloc b1 (Nat.le_refl _) (.cells #[.slice (some ⟨w.heap.size, 0, none⟩) 1 1, .int .i64 0] 64)
  have q2 := (Below.refl w1.heap.size w1).alloc (Nat.le_refl _) (.cells #[.slice (some ⟨w.heap.size, 0, none⟩) 1 1, .int .i64 0] 64)
  have hN2 := Blk.new w1 64 #[.slice (some ⟨w.heap.size, 0, none⟩) 1 1, .int .i64 0]
  have hF := (show PastAt w.heap.size (w1.alloc (.cells #[.slice (some ⟨w.heap.size, 0, none⟩) 1 1, .int .i64 0] 64)) w1.heap.size [t] 0 from ⟨by simp, by simp, some ⟨w.heap.size, 0, none⟩, 1, hN2, by simp, by simp [maxLen], fun _ => ⟨w.heap.size, 0, _, rfl, Nat.le_refl _, hN1.below q2⟩, hR1.below q2⟩)
  rw [s1] at hF
  have HF := hide hF
  have HB := hide b2
  have HS := hide (show w.heap.size ≤ w.heap.size + 1 by omega)
  clear b1 hN1 hR1 b2 q2 hN2 hF s1
  subst hw1
  go_enter Tryz.func6, Tryz.ntmps6
  go_wp2
  go_ret2
  exact ⟨⟨_, rfl, HS.out, HF.out⟩, HB.out⟩
set_option maxHeartbeats 4000000 in
set_option maxRecDepth 100000 in
theorem ps_now {B : Nat} {w : World} {p a t : Nat} {ts : List Nat} (h : PastAt B w p ts a) (ht : ts[a]? = some t) : Calls Tryz.prog 8 #[.pointer (some ⟨p, 0, none⟩)] w fun e w' => e = .returned (.pointer (some ⟨t, 0, none⟩)) ∧ Below w.heap.size w w' := by
  obtain ⟨h1, h2, A, c, hB, h4, h5, h6, h7⟩ := h
  have y0 := hB.cell 0
  have y1 := hB.cell 1
  simp at y0 y1
  obtain ⟨b, o, rfl, hbl, u, hu, hc⟩ := h7.one h1
  obtain rfl : u = .pointer (some ⟨t, 0, none⟩) := by
    unfold ptrs at hu
    rw [List.getElem?_map, ht] at hu
    simpa using hu.symm
  have hi0 : (0 : Int) ≤ (a : Int) := by omega
  have hi1 : (a : Int) < (ts.length : Int) := by omega
  have hd := (Below.refl w.heap.size w).drew
  clear hB h6 h7 hu ht
  go_enter Tryz.func8, Tryz.ntmps8
  go_wp2_with fail
  go_region_held3 (fun w' => w'.cell? ⟨p, 0, none⟩ = some (.slice (some ⟨b, o, none⟩) ts.length c) ∧ w'.cell? ⟨p, 1, none⟩ = some (.int .i64 (a : Int)) ∧ w'.cell? ⟨b, o + a, none⟩ = some (.pointer (some ⟨t, 0, none⟩)))
    (go_keep)
    (fail)
  go_wp2
  go_ret
  exact ⟨rfl, hd⟩
set_option maxHeartbeats 4000000 in
set_option maxRecDepth 100000 in
theorem ps_len {B : Nat} {w : World} {p a : Nat} {ts : List Nat} (h : PastAt B w p ts a) : Calls Tryz.prog 21 #[.pointer (some ⟨p, 0, none⟩)] w fun e w' => e = .returned (.tuple #[.int .i64 (a : Int), .int .i64 ((ts.length : Int) - 1 - (a : Int))]) ∧ Below w.heap.size w w' := by
  obtain ⟨h1, h2, A, c, hB, h4, h5, h6, h7⟩ := h
  have y0 := hB.cell 0
  have y1 := hB.cell 1
  simp at y0 y1
  have hi0 : (0 : Int) ≤ (a : Int) := by omega
  have hi1 : (a : Int) < (ts.length : Int) := by omega
  have hi2 : (ts.length : Int) ≤ 51 := by omega
  have e1 : IntKind.i64.wrap ((ts.length : Int) - 1) = (ts.length : Int) - 1 := wrap_i64_sm (by omega) (by omega)
  have e2 : IntKind.i64.wrap ((ts.length : Int) - 1 - (a : Int)) = (ts.length : Int) - 1 - (a : Int) := wrap_i64_sm (by omega) (by omega)
  have hd := (Below.refl w.heap.size w).drew
  clear hB h6 h7
  go_enter Tryz.func21, Tryz.ntmps21
  go_wp2_with fail
  go_region_held3 (fun w' => w'.cell? ⟨p, 0, none⟩ = some (.slice A ts.length c) ∧ w'.cell? ⟨p, 1, none⟩ = some (.int .i64 (a : Int)))
    (go_keep)
    (fail)
  go_wp2
  go_ret2
  exact ⟨rfl, hd⟩
set_option maxHeartbeats 4000000 in
set_option maxRecDepth 100000 in
theorem ps_check {B : Nat} {w : World} {p a t t0 k k0 : Nat} {ts : List Nat} {root root0 : Option Addr} (h : PastAt B w p ts a) (ht : ts[a]? = some t0) (hT : TreeBlk w t k root) (hT0 : TreeBlk w t0 k0 root0) (hk : k ≤ 16) (hk0 : k0 ≤ 16) : Calls Tryz.prog 31 #[.pointer (some ⟨p, 0, none⟩), .pointer (some ⟨t, 0, none⟩)] w fun e w' => e = .returned (.int .i64 (if k = k0 then 0 else 2)) ∧ Below w.heap.size w w' := by
  have HN := hide (ps_now h ht)
  have HK := hide (tr_k hT)
  have HT0 := hide hT0
  clear h ht hT hT0
  go_enter Tryz.func31, Tryz.ntmps31
  go_wp2_with fail
  refine HK.out.mono ?_
  rintro e w1 ⟨rfl, rfl⟩
  go_wp2_with fail
  refine HN.out.mono ?_
  rintro e w1 ⟨rfl, hb1⟩
  have HK0 := hide (tr_k (Blk.below HT0.out hb1))
  have HB := hide hb1
  clear hb1
  go_wp2_with fail
  refine HK0.out.mono ?_
  rintro e w2 ⟨rfl, rfl⟩
  by_cases hkk : k = k0
  · subst hkk
    have e1 : ((k : Int) != (k : Int)) = false := by simp
    go_wp2
    go_ret
    exact ⟨by simp, HB.out⟩
  · have e1 : ((k : Int) != (k0 : Int)) = true := by simp; omega
    go_wp2
    go_ret
    exact ⟨by simp [hkk], HB.out⟩
set_option maxHeartbeats 4000000 in
set_option maxRecDepth 100000 in
theorem ps_jump_arg {B : Nat} {w : World} {p a : Nat} {ts : List Nat} {n : Int} (h : PastAt B w p ts a) (hn : n < -(a : Int) ∨ (ts.length : Int) - 1 - (a : Int) < n) : Calls Tryz.prog 17 #[.pointer (some ⟨p, 0, none⟩), .int .i64 n] w fun e w' => e = .returned (.int .i64 3) ∧ Below w.heap.size w w' := by
  have HL := hide (ps_len h)
  have h1 := h.1
  have h2 := h.2.1
  clear h
  go_enter Tryz.func17, Tryz.ntmps17
  go_wp2_with fail
  refine HL.out.mono ?_
  rintro e w1 ⟨rfl, hb⟩
  have HB := hide hb
  clear hb
  by_cases hl : n < -(a : Int)
  · have e1 : decide (n < -(a : Int)) = true := by simpa using hl
    clear hn
    go_wp2
    go_ret
    exact ⟨rfl, HB.out⟩
  · have e1 : decide (n < -(a : Int)) = false := by simpa using hl
    have e2 : decide ((ts.length : Int) - 1 - (a : Int) < n) = true := by simp; omega
    clear hn
    go_wp2
    go_ret
    exact ⟨rfl, HB.out⟩
set_option maxHeartbeats 4000000 in
set_option maxRecDepth 100000 in
theorem ps_jump {B : Nat} {w : World} {p a : Nat} {ts : List Nat} {n : Int} (h : PastAt B w p ts a) (h0 : -(a : Int) ≤ n) (h9 : n ≤ (ts.length : Int) - 1 - (a : Int)) : Calls Tryz.prog 17 #[.pointer (some ⟨p, 0, none⟩), .int .i64 n] w fun e w' => e = .returned (.int .i64 0) ∧ PastAt B w' p ts ((a : Int) + n).toNat ∧ Ex p w w' := by
  have HL := hide (ps_len h)
  have h1 := h.1
  have h2 := h.2.1
  have HP := hide h
  clear h
  go_enter Tryz.func17, Tryz.ntmps17
  go_wp2_with fail
  refine HL.out.mono ?_
  rintro e w1 ⟨rfl, hb⟩
  obtain ⟨h1, h2, A, c, hB, h4, h5, h6, h7⟩ := HP.out.below hb
  have y1 := hB.cell 1
  have z1 := hB.frozen 1
  simp at y1
  have hx : Ex p w (w1.setCell ⟨p, 1, none⟩ (.int .i64 ((a : Int) + n))) := ((Ex.refl p w).below hb).set 1 _
  have hB' := hB.set1 (i := 1) (.int .i64 ((a : Int) + n))
  have hq : Ex p w1 (w1.setCell ⟨p, 1, none⟩ (.int .i64 ((a : Int) + n))) := (Ex.refl p w1).set 1 _
  have HF := hide (show PastAt B (w1.setCell ⟨p, 1, none⟩ (.int .i64 ((a : Int) + n))) p ts ((a : Int) + n).toNat ∧ Ex p w (w1.setCell ⟨p, 1, none⟩ (.int .i64 ((a : Int) + n))) from
    ⟨⟨by omega, h2, A, c, by rw [show ((((a : Int) + n).toNat : Nat) : Int) = (a : Int) + n by omega]; simpa using hB', h4, h5, h6.keep (hq.keep hB (by decide)), h7.keep h6.ty (hq.keep hB (by decide))⟩, hx⟩)
  have e1 : decide (n < -(a : Int)) = false := by simp; omega
  have e2 : decide ((ts.length : Int) - 1 - (a : Int) < n) = false := by simp; omega
  clear hb hB h6 h7 hx hB' hq
  go_wp2
  go_ret
  exact ⟨rfl, HF.out⟩
set_option maxHeartbeats 4000000 in
set_option maxRecDepth 100000 in
theorem ps_undo_no {B : Nat} {w : World} {p a : Nat} {ts : List Nat} (h : PastAt B w p ts a) (hn : a = 0) : Calls Tryz.prog 13 #[.pointer (some ⟨p, 0, none⟩)] w fun e w' => e = .returned (.bool false) ∧ Below w.heap.size w w' := by
  have HJ := hide (ps_jump_arg (n := -1) h (by have := h.1; omega))
  clear h hn
  go_enter Tryz.func13, Tryz.ntmps13
  go_wp2_with fail
  refine HJ.out.mono ?_
  rintro e w1 ⟨rfl, hb⟩
  have HB := hide hb
  clear hb
  go_wp2
  go_ret
  exact ⟨rfl, HB.out⟩
set_option maxHeartbeats 4000000 in
set_option maxRecDepth 100000 in
theorem ps_undo {B : Nat} {w : World} {p a : Nat} {ts : List Nat} (h : PastAt B w p ts a) (hn : 0 < a) : Calls Tryz.prog 13 #[.pointer (some ⟨p, 0, none⟩)] w fun e w' => e = .returned (.bool true) ∧ PastAt B w' p ts (a - 1) ∧ Ex p w w' := by
  have HJ := hide (ps_jump (n := -1) h (by have := h.1; omega) (by have := h.1; omega))
  have h1 := h.1
  clear h
  go_enter Tryz.func13, Tryz.ntmps13
  go_wp2_with fail
  refine HJ.out.mono ?_
  rintro e w1 ⟨rfl, hp, hx⟩
  rw [show ((a : Int) + (-1)).toNat = (a - 1) by omega] at hp
  have HP := hide hp
  have HX := hide hx
  clear hp hx
  go_wp2
  go_ret
  exact ⟨rfl, HP.out, HX.out⟩
set_option maxHeartbeats 4000000 in
set_option maxRecDepth 100000 in
theorem ps_redo_no {B : Nat} {w : World} {p a : Nat} {ts : List Nat} (h : PastAt B w p ts a) (hn : ts.length ≤ a + 1) : Calls Tryz.prog 15 #[.pointer (some ⟨p, 0, none⟩)] w fun e w' => e = .returned (.bool false) ∧ Below w.heap.size w w' := by
  have HJ := hide (ps_jump_arg (n := 1) h (by have := h.1; omega))
  clear h hn
  go_enter Tryz.func15, Tryz.ntmps15
  go_wp2_with fail
  refine HJ.out.mono ?_
  rintro e w1 ⟨rfl, hb⟩
  have HB := hide hb
  clear hb
  go_wp2
  go_ret
  exact ⟨rfl, HB.out⟩
set_option maxHeartbeats 4000000 in
set_option maxRecDepth 100000 in
theorem ps_redo {B : Nat} {w : World} {p a : Nat} {ts : List Nat} (h : PastAt B w p ts a) (hn : a + 1 < ts.length) : Calls Tryz.prog 15 #[.pointer (some ⟨p, 0, none⟩)] w fun e w' => e = .returned (.bool true) ∧ PastAt B w' p ts (a + 1) ∧ Ex p w w' := by
  have HJ := hide (ps_jump (n := 1) h (by have := h.1; omega) (by have := h.1; omega))
  have h1 := h.1
  clear h
  go_enter Tryz.func15, Tryz.ntmps15
  go_wp2_with fail
  refine HJ.out.mono ?_
  rintro e w1 ⟨rfl, hp, hx⟩
  rw [show ((a : Int) + 1).toNat = (a + 1) by omega] at hp
  have HP := hide hp
  have HX := hide hx
  clear hp hx
  go_wp2
  go_ret
  exact ⟨rfl, HP.out, HX.out⟩
end Go.Proofs.YtghnpflaafdcdaaGreat
set_option linter.unusedSimpArgs false
set_option linter.unusedVariables false
namespace Go.Proofs.YtghnpflaafdcdaaGreat
open Go.RowKit
section
variable {P : Program}
/-- append where there is no room, as one step of a region that draws. -/
theorem step_grow (w : World) {ops : Array Oper} {o : Oper} {a : Act} {K : Act → World → Prop} {Q : Exit → Act → World → Prop} {E : Prop} (hgd : o.guard = none) (s x : Operand) (t : TypeId)
    (ho : o.op = .call { callee := .builtin .append, args := #[s, x], argTypes := #[t, t] })
    (e : TypeId) (z : Value) (size bytes : Nat) (ht : P.underlying t = some (.slice e)) (hinfo : (P.info? e).map (fun i => (i.zero, i.size, i.bytes)) = some (some z, size, bytes)) (hzs : z.cells.size = size) (hsz : 0 < size)
    (b : Addr) (n cap : Nat) (olds : List Value) (hs : a.eval s = .slice (some b) n cap) (hlo : olds.length = n * size) (holds : ∀ (j : Nat) u, olds[j]? = some u → w.cell? (b.add j) = some u)
    (ad : Addr) (m c : Nat) (news : List Value) (hx : a.eval x = .slice (some ad) m c) (hl : news.length = m * size) (hnews : ∀ (j : Nat) u, news[j]? = some u → w.cell? (ad.add j) = some u)
    (hg : cap < n + m) (h63 : n + m ≤ maxLen) (hbytes : (n + m) * bytes ≤ 140737488355328)
    (h : ∀ v' w', w'.ownsRow w.heap.size e size v' (n + m) (olds ++ news) → w.grownBy w' none → K (a.put o.dst v') w') :
    if Region.wanted o (yielded ops a.tmps) = true then Oper.wp P o a w K Q else E := by
  have hw : Region.wanted o (yielded ops a.tmps) = true := by simp [Region.wanted, hgd]
  rw [if_pos hw]
  obtain ⟨i, hi, hz, hsize, hby⟩ := info_parts hinfo
  obtain ⟨v', w', hrun, r1, r2⟩ := run_append_arg_grows (P := P) w t o.type e i z size bytes ht hi hz hsize hby hzs hsz b n cap olds hlo holds ad m c news hl hnews hg h63 hbytes
  unfold Oper.wp
  simp [execOp, ho, resolve, invoke, builtin, hs, hx, hrun, Result.andThen]
  exact h _ _ r1 r2
end
theorem ptrs_one (gs : List Nat) : ∀ u ∈ ptrs gs, u.oneCell' = true := by
  intro u hu
  simp only [ptrs, List.mem_map] at hu
  obtain ⟨x, _, rfl⟩ := hu
  rfl
set_option maxHeartbeats 400000 in
set_option maxRecDepth 100000 in
theorem clone_t (ad : Addr) (n c : Nat) (gs : List Nat) (w : World) (hp : Rw w 1 (some ad) n (ptrs gs)) (hn : n ≤ 1000000) :
    Calls Tryz.prog 32 #[.slice (some ad) n c] w fun e w' => ∃ v, e = .returned v ∧ w'.ownsRow w.heap.size 24 1 v n (ptrs gs) ∧ Below w.heap.size w w' := by
  have h0 := Lib.run_eql_slice_nil (P := Tryz.prog) w 62 24 (some ad) n c 0 0 Tryz.underlying62
  simp only [Option.isNone] at h0
  have hw : Below w.heap.size w (w.alloc (.cells #[] 24)) := (Below.refl _ _).alloc (Nat.le_refl _) _
  have hr := hp.below hw
  go_enter Tryz.func32, Tryz.ntmps32
  go_wp2_with (at_builtin
               refine app_b _ rfl (.tmp 5) (.tmp 6) _ rfl w.heap.size 24 _ 1 8 Tryz.underlying62 info_t rfl (by omega) _ 0 [] rfl (own_empty w _ 1) (some ad) n c (ptrs gs) rfl w hw (Nat.le_refl _) hr (ptrs_one gs) ?c1 ?c2 ?_
               case c1 => simp only [maxLen]; omega
               case c2 => omega
               intro v' w' ho hb hg)
  go_ret
  exact ⟨_, rfl, by simpa using ho, hb⟩
/-- No more than fifty behind the present. -/
def clip {α : Type} (l : List α) : List α := l.drop (l.length - 51)
theorem clip_len {α : Type} (l : List α) : (clip l).length = min l.length 51 := by
  unfold clip
  rw [List.length_drop]
  omega
theorem clip_map {α β : Type} (f : α → β) (l : List α) : clip (l.map f) = (clip l).map f := by
  unfold clip
  rw [List.length_map, List.map_drop]
set_option maxHeartbeats 4000000 in
set_option maxRecDepth 100000 in
theorem ps_do_same {B : Nat} {w : World} {p a t k : Nat} {ts : List Nat} {root : Option Addr} (h : PastAt B w p ts a) (ht : ts[a]? = some t) (hT : TreeBlk w t k root) (hk : k ≤ 16) : Calls Tryz.prog 10 #[.pointer (some ⟨p, 0, none⟩), .pointer (some ⟨t, 0, none⟩)] w fun e w' => e = .returned (.int .i64 0) ∧ Below w.heap.size w w' := by
  have hc := ps_check h ht hT hT hk hk
  rw [if_pos rfl] at hc
  have HC := hide hc
  have HP := hide h
  have HT := hide hT
  have HTT := hide ht
  clear h ht hT hc
  go_enter Tryz.func10, Tryz.ntmps10
  go_wp2_with fail
  refine HC.out.mono ?_
  rintro e w1 ⟨rfl, hb⟩
  have HN := hide (ps_now (HP.out.below hb) HTT.out)
  have HB := hide hb
  clear hb
  go_wp2_with fail
  refine HN.out.mono ?_
  rintro e w2 ⟨rfl, hb2⟩
  have hT2 := Blk.below HT.out (below_then HB.out hb2)
  have e1 := ptr_eq_t t t w2 hT2 hT2
  rw [decide_eq_true rfl] at e1
  have HB2 := hide (below_then HB.out hb2)
  clear hb2 hT2
  go_wp2
  go_ret
  exact ⟨rfl, HB2.out⟩
set_option maxHeartbeats 16000000 in
set_option maxRecDepth 100000 in
theorem ps_do {B : Nat} {w : World} {p a t t0 k : Nat} {ts : List Nat} {root root0 : Option Addr} (h : PastAt B w p ts a) (ht : ts[a]? = some t0) (hT : TreeBlk w t k root) (hT0 : TreeBlk w t0 k root0) (hk : k ≤ 16) (hne : t ≠ t0) (hBw : B ≤ w.heap.size) : Calls Tryz.prog 10 #[.pointer (some ⟨p, 0, none⟩), .pointer (some ⟨t, 0, none⟩)] w fun e w' => e = .returned (.int .i64 0) ∧ PastAt B w' p (clip (ts.take (a + 1) ++ [t])) ((clip (ts.take (a + 1) ++ [t])).length - 1) ∧ Ex p w w' := by
  have hc := ps_check h ht hT hT0 hk hk
  rw [if_pos rfl] at hc
  have HC := hide hc
  have HP := hide h
  have HT := hide hT
  have HT0 := hide hT0
  have HTT := hide ht
  have HBw := hide hBw
  clear h ht hT hT0 hc hBw
  go_enter Tryz.func10, Tryz.ntmps10
  go_wp2_with fail
  refine HC.out.mono ?_
  rintro e w1 ⟨rfl, hb⟩
  have HN := hide (ps_now (HP.out.below hb) HTT.out)
  have HB := hide hb
  clear hb
  go_wp2_with fail
  refine HN.out.mono ?_
  rintro e w2 ⟨rfl, hb2⟩
  have hT2 := Blk.below HT.out (below_then HB.out hb2)
  have hT02 := Blk.below HT0.out (below_then HB.out hb2)
  have e1 := ptr_eq_t t t0 w2 hT2 hT02
  rw [decide_eq_false hne] at e1
  have HB2 := hide (below_then HB.out hb2)
  clear hb2 hT2 hT02
  obtain ⟨h1, h2, A, c, hB, h4, h5, h6, h7⟩ := HP.out.below HB2.out
  obtain ⟨b, o, rfl, hbl, hcs⟩ := h7.2 (by omega)
  have y0 := hB.cell 0
  have y1 := hB.cell 1
  have z0 := hB.frozen 0
  have z1 := hB.frozen 1
  simp at y0 y1
  have hpl := hB.lt
  have hi0 : (0 : Int) ≤ (a : Int) := by omega
  have hi1 : (0 : Int) ≤ (a : Int) + 1 := by omega
  have hi2 : (a : Int) + 1 ≤ (c : Int) := by omega
  have hi3 : (a : Int) ≤ 60 := by omega
  have i1 : IntKind.i64.wrap ((a : Int) + 1) = (a : Int) + 1 := wrap_i64_sm (by omega) (by omega)
  have HB3 := hide hB
  have HCS := hide hcs
  clear hB h6 h7 hcs
  have htk : (ptrs (ts.take (a + 1))).length = (a + 1) * 1 := by
    unfold ptrs
    rw [List.length_map, List.length_take]
    omega
  have HTK := hide htk
  have hb8 : Below w2.heap.size w2 (w2.alloc (.cells #[.pointer (some ⟨t, 0, none⟩)] 24)).drew := ((Below.refl _ _).alloc (Nat.le_refl _) _).drew
  have HB8 := hide hb8
  have HC8 := hide (show ∀ (j : Nat) u, (ptrs (ts.take (a + 1)))[j]? = some u → (w2.alloc (.cells #[.pointer (some ⟨t, 0, none⟩)] 24)).drew.cell? ((⟨b, o, none⟩ : Addr).add j) = some u from fun j u hu => by
    rw [Addr.add_lit]
    refine (hb8.cell (p := ⟨b, o + j, none⟩) hbl).trans (HCS.out j u ?_)
    have hj : j < a + 1 := by
      have := (List.getElem?_eq_some_iff.1 hu).1
      omega
    unfold ptrs at hu ⊢
    rw [List.map_take, List.getElem?_take_of_lt hj] at hu
    exact hu)
  have HN8 := hide (show ∀ (j : Nat) u, [Value.pointer (some ⟨t, 0, none⟩)][j]? = some u → (w2.alloc (.cells #[.pointer (some ⟨t, 0, none⟩)] 24)).drew.cell? ((⟨w2.heap.size, 0, none⟩ : Addr).add j) = some u from fun j u hu => by
    rw [Addr.add_lit]
    have := (Blk.new w2 24 #[.pointer (some ⟨t, 0, none⟩)]).cell (0 + j)
    rcases j with _ | j
    · exact this.trans (by simpa using hu)
    · simp at hu)
  clear htk hb8
  go_wp2_with fail
  go_cut [5] from 18 to 38 (fun s5 W => s5 = .int .i64 0 ∧ ∃ g cap, Blk W p 64 #[.slice (some ⟨g, 0, none⟩) (a + 1 + 1) cap, .int .i64 (a : Int)] ∧ W.ownsRow w2.heap.size 24 1 (.slice (some ⟨g, 0, none⟩) (a + 1 + 1) cap) (a + 1 + 1) (ptrs (ts.take (a + 1)) ++ [.pointer (some ⟨t, 0, none⟩)]) ∧ Ex p w2 W)
  case first =>
    go_region_law (first
      | (refine step_grow _ (by rfl) (.tmp 33) (.tmp 35) _ (by rfl) 24 _ 1 8 Tryz.underlying62 info_t rfl (by omega) ⟨b, o, none⟩ (a + 1) (a + 1) (ptrs (ts.take (a + 1))) (by rfl) HTK.out HC8.out ⟨w2.heap.size, 0, none⟩ 1 1 [.pointer (some ⟨t, 0, none⟩)] (by rfl) (by rfl) HN8.out (by omega) (by unfold maxLen; omega) (by omega) ?_
         intro v3 w3 ho3 hg3
         have hb3 := HB8.out.grown hg3 HB8.out.size (by simp)
         obtain ⟨g3, cap3, hv3, hgs3, hgc3⟩ := ho3.form (by omega)
         subst hv3
         have hB4 := HB3.out.below hb3
         have y0 := hB4.cell 0
         have z0 := hB4.frozen 0
         simp at y0))
    all_goals
      go_wp2_with fail
      go_meet
    all_goals
      refine ⟨rfl, g3, cap3, by simpa using hB4.set1 (i := 0) (.slice (some ⟨g3, 0, none⟩) (a + 1 + 1) cap3), own_set_ty (own_lower ho3 (by simp)) hB4 (by decide), ?_⟩
      exact ((Ex.refl p w2).below hb3).set 0 _
  case rest =>
    obtain ⟨rfl, g, cap, hB, ho, hx⟩ := hcut
    rename World => wz
    have hl := ho.1
    obtain ⟨hnc, hcm⟩ : a + 1 + 1 ≤ cap ∧ cap ≤ maxLen := by
      rcases ho.2 with ⟨h0, _⟩ | ⟨g', cap', cur, h0, _, _, hq1, hq2, _⟩
      · injection h0 with h0
        cases h0
      · injection h0 with h0 _ h0c
        omega
    have hrw := (own_rw ho).2
    have y0 := hB.cell 0
    have y1 := hB.cell 1
    have z0 := hB.frozen 0
    have z1 := hB.frozen 1
    simp at y0 y1
    have HBZ := hide hB
    have HXZ := hide hx
    have HRW := hide hrw
    clear hB ho hx hrw
    have hL : ptrs (ts.take (a + 1)) ++ [.pointer (some ⟨t, 0, none⟩)] = ptrs (ts.take (a + 1) ++ [t]) := by simp [ptrs]
    have hLl : (ts.take (a + 1) ++ [t]).length = a + 1 + 1 := by simp; omega
    have hcl := clip_len (ts.take (a + 1) ++ [t])
    rw [hLl] at hcl
    have hrw2 := HRW.out
    rw [hL] at hrw2
    have hclip : clip (ts.take (a + 1) ++ [t]) = (ts.take (a + 1) ++ [t]).drop (a + 1 + 1 - 51) := by
      unfold clip
      rw [hLl]
    obtain ⟨L, hLdef⟩ : ∃ L, L = ts.take (a + 1) ++ [t] := ⟨_, rfl⟩
    rw [← hLdef] at hcl hrw2 hclip hLl
    have HLDEF := hide hLdef
    clear hLdef
    have hptr : ptrs (clip L) = (ptrs L).drop ((a + 1 + 1 - 51) * 1) := by
      rw [hclip, Nat.mul_one]
      unfold ptrs
      rw [List.map_drop]
    have hrw3 := hrw2.drop_ (i := a + 1 + 1 - 51) (by omega)
    rw [← hptr, Nat.mul_one] at hrw3
    have HCLEN := hide hcl
    have HRW3 := hide hrw3
    clear hrw2 hrw3 hptr hclip hcl hL hLl HRW
    go_wp2_with fail
    go_cut [5] from 39 to 55 (fun s5 W => s5 = .int .i64 0 ∧ ∃ g cap, Blk W p 64 #[.slice (some ⟨g, 0, none⟩) (min (a + 1 + 1) 51) cap, .int .i64 (a : Int)] ∧ W.ownsRow w2.heap.size 24 1 (.slice (some ⟨g, 0, none⟩) (min (a + 1 + 1) 51) cap) (min (a + 1 + 1) 51) (ptrs (clip L)) ∧ Ex p w2 W)
    case first =>
      rcases Nat.lt_or_ge 49 a with ha | ha
      · obtain rfl : a = 50 := by omega
        simp only [show 50 + 1 + 1 = 52 from rfl, show 52 - 51 = 1 from rfl, show min 52 51 = 51 from rfl] at *
        have i5 : max (IntKind.i64.wrap (IntKind.i64.wrap 51 - 50)) 0 = 1 := by decide
        have i6 : ¬ cap = 1 := by omega
        have HCL := hide (clone_t ⟨g, 1, none⟩ 51 (cap - 1) (clip L) wz.drew (HRW3.out.below (Below.refl _ _).drew) (by omega))
        go_region_with (first
          | (go_at_call 32
             refine HCL.out.mono ?_
             rintro e w5 ⟨v5, rfl, ho5, hb5⟩
             have hb5' : Below wz.heap.size wz w5 := (Below.refl _ wz).drew.trans hb5
             have hB5 := HBZ.out.below hb5'
             have y0 := hB5.cell 0
             have z0 := hB5.frozen 0
             simp at y0
             obtain ⟨g5, cap5, hv5, hgs5, hgc5⟩ := ho5.form (by omega)
             subst hv5))
        all_goals
          go_wp2_with fail
          go_meet
        all_goals
          refine ⟨rfl, g5, cap5, by simpa using hB5.set1 (i := 0) (.slice (some ⟨g5, 0, none⟩) 51 cap5), own_set_ty (own_lower ho5 (by have := HXZ.out.size; simpa using this)) hB5 (by decide), ?_⟩
          exact (HXZ.out.below hb5').set 0 _
      · have hmin : min (a + 1 + 1) 51 = a + 1 + 1 := by omega
        have hlo : a + 1 + 1 - 51 = 0 := by omega
        have i4 : IntKind.i64.wrap ((a : Int) + 1 + 1 - 1) = (a : Int) + 1 := by
          rw [IntKind.wrap_i64]
          omega
        have i5 : IntKind.i64.wrap ((a : Int) + 1 - 50) = (a : Int) + 1 - 50 := by
          rw [IntKind.wrap_i64]
          omega
        have i6 : max ((a : Int) + 1 - 50) 0 = 0 := by omega
        have i7 : (0 : Int) ≤ (a : Int) + 1 + 1 := by omega
        rw [hlo] at HRW3
        have HCL := hide (clone_t ⟨g, 0, none⟩ (a + 1 + 1) cap (clip L) wz.drew (HRW3.out.below (Below.refl _ _).drew) (by omega))
        go_region_with (first
          | (go_at_call 32
             refine HCL.out.mono ?_
             rintro e w5 ⟨v5, rfl, ho5, hb5⟩
             have hb5' : Below wz.heap.size wz w5 := (Below.refl _ wz).drew.trans hb5
             have hB5 := HBZ.out.below hb5'
             have y0 := hB5.cell 0
             have z0 := hB5.frozen 0
             simp at y0
             obtain ⟨g5, cap5, hv5, hgs5, hgc5⟩ := ho5.form (by omega)
             subst hv5))
        all_goals
          go_wp2_with fail
          go_meet
        all_goals
          rw [hmin]
          refine ⟨rfl, g5, cap5, by simpa using hB5.set1 (i := 0) (.slice (some ⟨g5, 0, none⟩) (a + 1 + 1) cap5), own_set_ty (own_lower ho5 (by have := HXZ.out.size; simpa using this)) hB5 (by decide), ?_⟩
          exact (HXZ.out.below hb5').set 0 _
    case rest =>
      obtain ⟨rfl, g6, cap6, hB6, ho6, hx6⟩ := hcut
      rename World => wy
      obtain rfl := HLDEF.out
      have hcap6 : min (a + 1 + 1) 51 ≤ cap6 ∧ cap6 ≤ maxLen := by
        rcases ho6.2 with ⟨h0, _⟩ | ⟨g', cap', cur, h0, _, _, hq1, hq2, _⟩
        · injection h0 with h0
          cases h0
        · injection h0 with h0 _ h0c
          omega
      have y0 := hB6.cell 0
      have y1 := hB6.cell 1
      have z1 := hB6.frozen 1
      simp at y0 y1
      have hNp : ∃ N : Nat, min (a + 1 + 1) 51 = N ∧ 1 ≤ N ∧ N ≤ 51 := ⟨_, rfl, by omega, by omega⟩
      obtain ⟨N, hN, hN1, hN51⟩ := hNp
      rw [hN] at hB6 ho6 hcap6 y0 HCLEN
      have i5 : IntKind.i64.wrap ((N : Int) - 1) = (N : Int) - 1 := wrap_i64_sm (by omega) (by omega)
      have hB7 := hB6.set1 (i := 1) (.int .i64 ((N : Int) - 1))
      have ho7 := own_set_ty (i := 1) (u := .int .i64 ((N : Int) - 1)) ho6 hB6 (by decide)
      have HF := hide (show PastAt B (wy.setCell ⟨p, 1, none⟩ (.int .i64 ((N : Int) - 1))) p (clip (ts.take (a + 1) ++ [t])) ((clip (ts.take (a + 1) ++ [t])).length - 1) ∧ Ex p w (wy.setCell ⟨p, 1, none⟩ (.int .i64 ((N : Int) - 1))) from
        ⟨⟨by have := HCLEN.out; omega, by have := HCLEN.out; omega, some ⟨g6, 0, none⟩, cap6, by rw [HCLEN.out, show ((N - 1 : Nat) : Int) = (N : Int) - 1 by omega]; simpa using hB7, by rw [HCLEN.out]; exact hcap6.1, hcap6.2, by rw [HCLEN.out]; exact (OwnTy.of_own ho7).lower (Nat.le_trans HBw.out HB2.out.size), by rw [HCLEN.out]; exact (own_rw ho7).2⟩, (((Ex.refl p w).below HB2.out).trans hx6).set 1 _⟩)
      clear hB6 ho6 hx6 hB7 ho7 hN
      go_wp2
      go_ret
      exact ⟨rfl, HF.out⟩
end Go.Proofs.YtghnpflaafdcdaaGreat
set_option linter.unusedSimpArgs false
set_option linter.unusedVariables false
namespace Go.Proofs.YtghnpflaafdcdaaGreat
open Go.RowKit
/-! ### A fork's kids, ahead of a point and behind it -/
section
variable {k : Nat} {p : List Nat} {f : PF}
theorem FK.agree (h : FK k f) (hp : Zp k p) (hc : part f.pre p ≤ (f.lv : Int)) : ∀ b : Nat, f.lv < b → addrOf f.pre b = addrOf p b := by
  intro b hb
  exact (part_le_iff h.pre hp f.lv (by omega)).1 hc b (by omega)
theorem FK.kid_lt (h : FK k f) (hp : Zp k p) (hc : part f.pre p ≤ (f.lv : Int)) {q : Kid} (hq : q ∈ f.ks) (hlt : q.at_ < addrOf p f.lv) : ∀ e ∈ q.es, Zlt e.1 p := by
  intro e he
  obtain ⟨h1, h2, h3⟩ := h.es q hq e he
  exact ⟨f.lv, fun b hb => (h3 b hb).trans (h.agree hp hc b hb), by rw [h2]; exact hlt⟩
theorem FK.kid_gt (h : FK k f) (hp : Zp k p) (hc : part f.pre p ≤ (f.lv : Int)) {q : Kid} (hq : q ∈ f.ks) (hlt : addrOf p f.lv < q.at_) : ∀ e ∈ q.es, Zlt p e.1 := by
  intro e he
  obtain ⟨h1, h2, h3⟩ := h.es q hq e he
  exact ⟨f.lv, fun b hb => ((h3 b hb).trans (h.agree hp hc b hb)).symm, by rw [h2]; exact hlt⟩
end
/-! ### Places among the kids -/
theorem kidAt_of {ks : List Kid} (hs : ks.Pairwise fun q r => q.at_ < r.at_) {j : Nat} {q : Kid} (h : ks[j]? = some q) : kidAt ks q.at_ = some (q.blk, ⟨q.lv, q.pre, q.es⟩) := by
  have hm := List.mem_of_getElem? h
  cases hk : kidAt ks q.at_ with
  | none => exact absurd rfl (kidAt_none hk q hm)
  | some x =>
    obtain ⟨r, hr, hra, rfl⟩ := kidAt_some hk
    obtain ⟨i, hi⟩ := List.getElem?_of_mem hr
    have : i = j := by
      rcases Nat.lt_trichotomy i j with h1 | h1 | h1
      · have := kids_lt hs hi h h1; omega
      · exact h1
      · have := kids_lt hs h hi h1; omega
    subst this
    rw [hi] at h
    injection h with h
    rw [h]
theorem kidAt_no {ks : List Kid} {a : Nat} (h : ∀ (i : Nat) (q : Kid), ks[i]? = some q → q.at_ ≠ a) : kidAt ks a = none := by
  cases hk : kidAt ks a with
  | none => rfl
  | some x =>
    obtain ⟨r, hr, hra, rfl⟩ := kidAt_some hk
    obtain ⟨i, hi⟩ := List.getElem?_of_mem hr
    exact absurd hra (h i r hi)
theorem kidEs_append (a b : List Kid) : kidEs (a ++ b) = kidEs a ++ kidEs b := by unfold kidEs; exact List.flatMap_append
theorem kidEs_cons (q : Kid) (b : List Kid) : kidEs (q :: b) = q.es ++ kidEs b := by unfold kidEs; exact List.flatMap_cons
theorem mem_kidEs {ks : List Kid} {e : Ent} : e ∈ kidEs ks ↔ ∃ q ∈ ks, e ∈ q.es := by unfold kidEs; exact List.mem_flatMap
theorem kidEs_at {ks : List Kid} {j : Nat} {q : Kid} (h : ks[j]? = some q) : kidEs ks = kidEs (ks.take j) ++ (q.es ++ kidEs (ks.drop (j + 1))) := by
  conv => lhs; rw [th_split h]
  rw [kidEs_append, kidEs_cons]
/-! ### What stands around a point in a list in z-order -/
/-- A list in two: what is not behind a point; what is. -/
structure Cut3 (p : List Nat) (es A B : List Ent) : Prop where
  eq : es = A ++ B
  lo : ∀ e ∈ A, ¬ Zlt p e.1
  hi : ∀ e ∈ B, Zlt p e.1
/-- A list in three: what is ahead of a point, what may be either, what is behind it. -/
structure Mid (p : List Nat) (es A es' B : List Ent) : Prop where
  eq : es = A ++ (es' ++ B)
  lo : ∀ e ∈ A, Zlt e.1 p
  hi : ∀ e ∈ B, Zlt p e.1
section
variable {k : Nat} {p : List Nat} {es A es' B : List Ent}
theorem Mid.start (p : List Nat) (es : List Ent) : Mid p es [] es [] := ⟨by simp, fun e h => (by cases h), fun e h => (by cases h)⟩
theorem Mid.kid (h : Mid p es A es' B) {f : PF} (hf : FK k f) (hp : Zp k p) (hc : part f.pre p ≤ (f.lv : Int)) (he : es' = kidEs f.ks) {j : Nat} {q : Kid} (hq : f.ks[j]? = some q) (hlo : ∀ r ∈ f.ks.take j, r.at_ < addrOf p f.lv) (hhi : ∀ r ∈ f.ks.drop (j + 1), addrOf p f.lv < r.at_) :
    Mid p es (A ++ kidEs (f.ks.take j)) q.es (kidEs (f.ks.drop (j + 1)) ++ B) := by
  subst he
  refine ⟨?_, fun e h' => ?_, fun e h' => ?_⟩
  · rw [h.eq, kidEs_at hq]
    simp only [List.append_assoc]
  · rcases List.mem_append.1 h' with h' | h'
    · exact h.lo e h'
    · obtain ⟨r, hr, he⟩ := mem_kidEs.1 h'
      exact hf.kid_lt hp hc (List.mem_of_mem_take hr) (hlo r hr) e he
  · rcases List.mem_append.1 h' with h' | h'
    · obtain ⟨r, hr, he⟩ := mem_kidEs.1 h'
      exact hf.kid_gt hp hc (List.mem_of_mem_drop hr) (hhi r hr) e he
    · exact h.hi e h'
theorem Mid.lt (h : Mid p es A es' B) (hl : ∀ e ∈ es', Zlt e.1 p) : Mid p es (A ++ es') [] B := by
  refine ⟨by rw [h.eq]; simp, fun e h' => ?_, h.hi⟩
  rcases List.mem_append.1 h' with h' | h'
  · exact h.lo e h'
  · exact hl e h'
end
end Go.Proofs.YtghnpflaafdcdaaGreat
