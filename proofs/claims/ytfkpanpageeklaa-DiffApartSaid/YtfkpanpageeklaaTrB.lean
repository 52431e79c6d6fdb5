/- Trees: path, Get, Put, Del. -/
import Derived.Test.YtfkpanpageeklaaTrA
set_option linter.unusedSimpArgs false
set_option linter.unusedVariables false
namespace Go.Proofs.Ytfkpanpageeklaa
open Go.RowKit
theorem wp_scope_goto2 {P : Program} {Q : Exit → Act → World → Prop} {a : Act} {w : World} {c p1 p2 rest : Code} (l : Nat) (J : Act → World → Prop) (μ : Act → World → Nat) (hc : c = p1.seq (p2.seq ((Code.label l).seq rest))) (hf1 : findLabel p1 l = none) (hf2 : findLabel p2 l = none)
    (first : p1.wp P (Exit.then (p2.wp P (Exit.then J NoExit)) NoExit) a w)
    (pass : ∀ a w, J a w → rest.wp P (Exit.jump l (fun a' w' => J a' w' ∧ μ a' w' < μ a w) Q) a w) : (Code.scope c).wp P Q a w := by
  subst hc
  refine wp_scope_jumps l J μ (rest := Code.skip.seq rest) (by simp [findLabel, hf1, hf2]) ?_ (fun a w h => Go.wp_seq (Go.wp_skip (pass a w h)))
  refine Go.wp_seq (Code.wp_mono (fun e a w h => ?_) first)
  cases e with
  | normal =>
    refine Go.wp_seq (Code.wp_mono (fun e a w h => ?_) h)
    cases e with
    | normal => exact Go.wp_seq (Go.wp_label (jump_mono (pass a w h) fun _ _ h => h.1))
    | _ => exact False.elim h
  | _ => exact False.elim h
def sliceLen : Value → Nat
  | .slice _ n _ => n
  | _ => 0
def ptrOf (x : Option (Nat × NT)) : Value := .pointer (x.map fun y => ⟨y.1, 0, none⟩)
/-- How a path may end: the nodes on it, and what hangs below. -/
inductive PathEnd (w : World) (k : Nat) (p : List Nat) (fs : List PF) : Option (Nat × NT) → List Nat → Option (Nat × NT) → Prop
  | none : PathEnd w k p fs none (fs.map (·.g)) none
  | leaf (g v : Nat) (hn : NodeOf w k g (-1) p [(p, v)]) : PathEnd w k p fs (some (g, ⟨-1, p, [(p, v)]⟩)) (fs.map (·.g) ++ [g]) none
  | miss (x : Nat × NT) (hn : NodeOf w k x.1 x.2.lv x.2.pre x.2.es) (hm : x.2.lv < part x.2.pre p) : PathEnd w k p fs (some x) (fs.map (·.g)) (some x)
def TopOk (w : World) (k : Nat) (top : Option (Nat × NT)) : Prop := ∀ x, top = some x → NodeOf w k x.1 x.2.lv x.2.pre x.2.es
theorem kid_ptr {w : World} {k g m : Nat} {pre : List Nat} {ks : List Kid} (h : Fork w k g m pre ks) (a : Nat) : (getTh (kidTh ks) (a : Int)).getD (.pointer none) = ptrOf (kidAt ks a) := by
  obtain ⟨A, c, gs, hp, hS, hB⟩ := h.head
  cases hk : kidAt ks a with
  | none =>
    rw [getTh_none]
    · rfl
    · intro t ht
      obtain ⟨q, hq, rfl⟩ := List.mem_map.1 ht
      have := kidAt_none hk q hq
      simp only
      omega
  | some x =>
    obtain ⟨q, hq, rfl, rfl⟩ := kidAt_some hk
    have := getTh_some hS.ok (t := (q.at_, .pointer (some ⟨q.blk, 0, none⟩))) (List.mem_map.2 ⟨q, hq, rfl⟩)
    simp only at this
    rw [this]
    rfl
theorem kid_top {w : World} {k g m : Nat} {pre : List Nat} {ks : List Kid} (h : Fork w k g m pre ks) (a : Nat) : TopOk w k (kidAt ks a) := by
  intro x hx
  obtain ⟨q, hq, -, rfl⟩ := kidAt_some hx
  obtain ⟨A, c, gs, h1, h2, h3, h4, h5, h6, h7, h8, h9, h10, h11⟩ := h
  exact h5 q hq
theorem ptrs_snoc (gs : List Nat) (g : Nat) : ptrs (gs ++ [g]) = ptrs gs ++ [.pointer (some ⟨g, 0, none⟩)] := by simp [ptrs]
set_option maxHeartbeats 4000000 in
set_option maxRecDepth 100000 in
theorem tr_path {w : World} {t k : Nat} {top : Option (Nat × NT)} (hT : TreeBlk w t k (top.map fun y => ⟨y.1, 0, none⟩)) (hn : TopOk w k top) (hk1 : 1 ≤ k) (hk : k ≤ 16) {A : Option Addr} {c : Nat} {p : List Nat} (hp : Pt w A k p) :
    Calls Try.prog 43 #[.pointer (some ⟨t, 0, none⟩), .slice A k c] w fun e w' => ∃ (fs : List PF) (bot : Option (Nat × NT)) (gs : List Nat) (below : Option (Nat × NT)) (B : Option Addr) (d : Nat), Way p fs top bot ∧ (∀ f ∈ fs, Fork w k f.g f.lv f.pre f.ks) ∧ fs.length ≤ 64 ∧ PathEnd w k p fs bot gs below ∧ e = .returned (.tuple #[.slice B gs.length d, ptrOf below]) ∧ w'.ownsRow w.heap.size 60 1 (.slice B gs.length d) gs.length (ptrs gs) ∧ Below w.heap.size w w' := by
  have c1 := Blk.cell hT 1
  simp at c1
  have HP := hide hp
  have HTN := hide hn
  have hlen : ∀ (fs : List PF) (bot : Option (Nat × NT)), (∀ f ∈ fs, Fork w k f.g f.lv f.pre f.ks) → Way p fs top bot → fs.length ≤ 64 := by
    intro fs bot hF hW
    cases fs with
    | nil => simp
    | cons f fs =>
      have h0 := hW.1
      rw [h0] at hW
      have hi := (hn _ h0).info
      have := Way.len (fun f hf => (hF f hf).fk) hi.2.2.1 hW
      have := hi.2.2.2.1
      omega
  have HLEN := hide hlen
  clear hT hp hn hlen
  go_enter Try.func43, Try.ntmps43
  go_wp2
  refine wp_scope_goto2 0 (fun a' wr => ∃ (fs : List PF) (bot : Option (Nat × NT)) (B : Option Addr) (d : Nat) (u2 u3 u8 u9 u10 u11 u12 u13 u14 u15 u16 u17 u18 u19 u20 u21 u22 u23 u24 u25 u26 u27 u28 : Value), a' = { tmps := #[.pointer (some ⟨t, 0, none⟩), .slice A k c, u2, u3, .slice none 0 0, .pointer none, .slice B fs.length d, ptrOf bot, u8, u9, u10, u11, u12, u13, u14, u15, u16, u17, u18, u19, u20, u21, u22, u23, u24, u25, u26, u27, u28], defers := [] } ∧ Way p fs top bot ∧ (∀ f ∈ fs, Fork w k f.g f.lv f.pre f.ks) ∧ TopOk w k bot ∧ wr.ownsRow w.heap.size 60 1 (.slice B fs.length d) fs.length (ptrs (fs.map (·.g))) ∧ Below w.heap.size w wr) (fun a' _ => 65 - sliceLen (a'.tmps.getD 6 undef)) (by rfl) (by rfl) (by rfl) ?_ ?_
  · go_wp2
    exact ⟨[], top, none, 0, _, _, _, _, _, _, _, _, _, _, _, _, _, _, _, _, _, _, _, _, _, _, _, rfl, rfl, fun f hf => (by cases hf), HTN.out, World.ownsRow_nil _ _ _ _, Below.refl _ _⟩
  · rintro a' wr ⟨fs, bot, B, d, u2, u3, u8, u9, u10, u11, u12, u13, u14, u15, u16, u17, u18, u19, u20, u21, u22, u23, u24, u25, u26, u27, u28, rfl, hW, hF, hN, hO, hb⟩
    have HW := hide hW
    have HF := hide hF
    have HO := hide hO
    have HB := hide hb
    have hfl : fs.length ≤ 64 := HLEN.out fs bot hF hW
    cases bot with
    | none =>
      clear hW hF hN hO hb
      unfold ptrOf
      simp only [Option.map_none]
      go_wp2_with fail
      refine (nd_covers_nil _ _ _ _).mono ?_
      rintro e w1 ⟨rfl, rfl⟩
      go_wp2
      simp only [Exit.jump]
      go_ret2
      refine ⟨fs, none, _, _, B, d, HW.out, HF.out, hfl, .none, by simp [ptrOf], by simpa using HO.out, HB.out⟩
    | some x =>
      have hNx := hN x rfl
      have HX := hide hNx
      have HC := hide (nd_covers (d := c) (hNx.stay hb) hk1 hk (HP.out.below hb))
      clear hW hF hN hO hb
      unfold ptrOf
      simp only [Option.map_some]
      by_cases hcv : part x.2.pre p ≤ x.2.lv
      · rw [show decide (part x.2.pre p ≤ x.2.lv) = true by simpa using hcv] at HC
        rcases hNx.cases' with ⟨A', c', v, hlv, hes, hv, hP', hc', hB'⟩ | ⟨m, ks, hlv, hes, hFk⟩
        · have HL := hide (nd_level (HX.out.stay HB.out))
          rw [hlv] at HL
          have hpe : x.2.pre = p := part_neg hP'.zp HP.out.zp (by omega)
          have hx : x = (x.1, ⟨-1, p, [(p, v)]⟩) := by
            obtain ⟨g, ⟨l, pr, es⟩⟩ := x
            simp only at hlv hes hpe
            rw [hlv, hes, hpe]
          have HXE := hide hx
          clear hNx hcv hlv hes hv hP' hc' hB' hpe hx
          go_wp2_with fail
          refine HC.out.mono ?_
          rintro e w1 ⟨rfl, rfl⟩
          have hb4 := below_alloc HB.out (Nat.le_refl _) (.cells #[.pointer (some ⟨x.1, 0, none⟩)] 60)
          go_wp2_with (first
            | (at_builtin
               refine app_b _ rfl (.tmp 18) (.tmp 20) _ rfl w.heap.size 60 _ 1 8 Try.underlying82 info_n rfl (by omega) _ fs.length _ rfl (HO.out.alloc _) (some ⟨wr.heap.size, 0, none⟩) 1 1 [.pointer (some ⟨x.1, 0, none⟩)] rfl w hb4 (Nat.le_refl _) (Rw.new1 wr 60 #[.pointer (some ⟨x.1, 0, none⟩)] rfl) ?h2 (by unfold maxLen; omega) (by omega) ?_
               case h2 =>
                 intro u hu
                 rw [List.mem_singleton] at hu
                 rw [hu]
                 rfl
               intro v5 w5 ho5 hb5 _
               have HO5 := hide ho5
               have HB5 := hide hb5
               obtain ⟨B5, d5, rfl, -, hR5⟩ := Rw.of_own ho5
               have HL5 := hide (nd_level (HX.out.stay hb5))
               rw [show x.2.lv = -1 by rw [HXE.out]] at HL5
               clear ho5 hb5 hR5 HL)
            | fail)
          go_wp2_with fail
          refine HL5.out.mono ?_
          rintro e w6 ⟨rfl, rfl⟩
          go_wp2
          simp only [Exit.jump]
          go_ret2
          have hxx := HX.out
          have hww := HW.out
          rw [HXE.out] at hxx hww
          refine ⟨fs, _, _, _, B5, d5, hww, HF.out, hfl, .leaf x.1 v hxx, by simp [ptrOf], ?_, HB5.out⟩
          have := HO5.out
          rw [ptrs_snoc]
          simpa using this
        · have hm64 : m < 64 := by obtain ⟨_, _, _, h1, _⟩ := hFk; exact h1
          have HFK := hide hFk
          have HLV := hide hlv
          have HES := hide hes
          rw [hlv] at hcv
          have HCV := hide hcv
          clear hNx hcv hlv hes hFk
          go_wp2_with fail
          refine HC.out.mono ?_
          rintro e w1 ⟨rfl, rfl⟩
          have hb4 := below_alloc HB.out (Nat.le_refl _) (.cells #[.pointer (some ⟨x.1, 0, none⟩)] 60)
          go_wp2_with (first
            | (at_builtin
               refine app_b _ rfl (.tmp 18) (.tmp 20) _ rfl w.heap.size 60 _ 1 8 Try.underlying82 info_n rfl (by omega) _ fs.length _ rfl (HO.out.alloc _) (some ⟨wr.heap.size, 0, none⟩) 1 1 [.pointer (some ⟨x.1, 0, none⟩)] rfl w hb4 (Nat.le_refl _) (Rw.new1 wr 60 #[.pointer (some ⟨x.1, 0, none⟩)] rfl) ?h2 (by unfold maxLen; omega) (by omega) ?_
               case h2 =>
                 intro u hu
                 rw [List.mem_singleton] at hu
                 rw [hu]
                 rfl
               intro v5 w5 ho5 hb5 _
               have HO5 := hide ho5
               have HB5 := hide hb5
               obtain ⟨B5, d5, rfl, -, hR5⟩ := Rw.of_own ho5
               have HL5 := hide (nd_level (HX.out.stay hb5))
               rw [HLV.out] at HL5
               have HD5 := hide (tr_down (c := c) (HFK.out.stay hb5) hk1 hk (HP.out.below hb5))
               rw [kid_ptr HFK.out] at HD5
               unfold ptrOf at HD5
               clear ho5 hb5 hR5)
            | fail)
          go_wp2_with fail
          refine HL5.out.mono ?_
          rintro e w6 ⟨rfl, rfl⟩
          have em : decide ((m : Int) < 0) = false := by simp
          go_wp2_with fail
          refine HD5.out.mono ?_
          rintro e w7 ⟨rfl, hb7⟩
          go_wp2
          go_step3
          have hnt : x = (x.1, (⟨x.1, m, x.2.pre, ks⟩ : PF).nt) := by
            obtain ⟨g, ⟨l, pr, es⟩⟩ := x
            have h1 := HLV.out
            have h2 := HES.out
            simp only at h1 h2
            rw [h1, h2]
            rfl
          have hW2 := HW.out.snoc (f := ⟨x.1, m, x.2.pre, ks⟩) (by rw [← hnt]) HCV.out
          have hF2 : ∀ f ∈ fs ++ [(⟨x.1, m, x.2.pre, ks⟩ : PF)], Fork w k f.g f.lv f.pre f.ks := by
            intro f hf
            rcases List.mem_append.1 hf with hf | hf
            · exact HF.out f hf
            · rw [List.mem_singleton] at hf
              subst hf
              exact HFK.out
          have hl2 := HLEN.out _ _ hF2 hW2
          rw [List.length_append, List.length_singleton] at hl2
          refine ⟨rfl, ⟨fs ++ [⟨x.1, m, x.2.pre, ks⟩], kidAt ks (addrOf p m), B5, d5, _, _, _, _, _, _, _, _, _, _, _, _, _, _, _, _, _, _, _, _, _, _, _, by rw [List.length_append]; rfl, hW2, hF2, kid_top HFK.out _, ?_, below_then HB5.out hb7⟩, ?_⟩
          · have := own_below HO5.out hb7
            rw [List.map_append, List.map_singleton, ptrs_snoc]
            simpa using this
          · simp [sliceLen]
            omega
      · rw [show decide (part x.2.pre p ≤ x.2.lv) = false by simpa using hcv] at HC
        have hcv2 : x.2.lv < part x.2.pre p := by omega
        have HCV := hide hcv2
        clear hNx hcv hcv2
        go_wp2_with fail
        refine HC.out.mono ?_
        rintro e w1 ⟨rfl, rfl⟩
        go_wp2
        simp only [Exit.jump]
        go_ret2
        refine ⟨fs, some x, _, _, B, d, HW.out, HF.out, hfl, .miss x HX.out HCV.out, by simp [ptrOf], by simpa using HO.out, HB.out⟩
theorem TreeOf.top {w : World} {k t : Nat} {es : List Ent} (h : TreeOf w k t es) : ∃ top, TreeBlk w t k (top.map fun y => ⟨y.1, 0, none⟩) ∧ TopOk w k top ∧ esOf top = es ∧ 1 ≤ k ∧ k ≤ 16 := by
  obtain ⟨h1, h2, ⟨h3, rfl⟩ | ⟨g, lv, pre, h3, h4⟩⟩ := h
  · exact ⟨none, h3, fun x hx => (by cases hx), rfl, h1, h2⟩
  · refine ⟨some (g, ⟨lv, pre, es⟩), h3, fun x hx => ?_, rfl, h1, h2⟩
    injection hx with hx
    subst hx
    exact h4
theorem TopOk.stay {w w' : World} {k : Nat} {top : Option (Nat × NT)} (h : TopOk w k top) (hb : Below w.heap.size w w') : TopOk w' k top := fun x hx => (h x hx).stay hb
theorem top_tree {w : World} {k t : Nat} {top : Option (Nat × NT)} (h : TreeBlk w t k (top.map fun y => ⟨y.1, 0, none⟩)) (hn : TopOk w k top) (h1 : 1 ≤ k) (h2 : k ≤ 16) : TreeOf w k t (esOf top) := by
  refine ⟨h1, h2, ?_⟩
  cases top with
  | none => exact .inl ⟨h, rfl⟩
  | some x => exact .inr ⟨x.1, x.2.lv, x.2.pre, h, hn x rfl⟩
section
variable {w : World} {k : Nat} {p : List Nat} {fs : List PF} {top bot below : Option (Nat × NT)} {gs : List Nat}
theorem PathEnd.no (h : PathEnd w k p fs bot gs below) (hp : Zp k p) (hl : gs = fs.map (·.g)) : ∀ v, (p, v) ∉ esOf bot := by
  intro v hv
  cases h with
  | none => cases hv
  | leaf g v' hn => simp at hl
  | miss x hn hm =>
    obtain ⟨i1, i2, i3, i4, i5, i6, i7⟩ := hn.info
    obtain ⟨j1, j2, j3⟩ := i5 _ hv
    obtain ⟨s1, s2, s3, s4⟩ := part_spec x.2.pre p (by rw [i1.1, hp.1]) i1.2 hp.2
    exact s4 (by omega) (j3 _ (by omega)).symm
theorem PathEnd.cases_ (h : PathEnd w k p fs bot gs below) : gs = fs.map (·.g) ∨ ∃ g v, gs = fs.map (·.g) ++ [g] ∧ below = Option.none ∧ bot = some (g, ⟨-1, p, [(p, v)]⟩) ∧ NodeOf w k g (-1) p [(p, v)] := by
  cases h with
  | none => exact .inl rfl
  | leaf g v hn => exact .inr ⟨g, v, rfl, rfl, rfl, hn⟩
  | miss x hn hm => exact .inl rfl
end
/-- found, where no entry ends the path. -/
theorem tr_found_fork {w : World} {k : Nat} {fs : List PF} {B : Option Addr} {d n : Nat} (hn : n = fs.length) (hF : ∀ f ∈ fs, Fork w k f.g f.lv f.pre f.ks) (hl : fs.length ≤ 64) (hR : Rw w 1 B n (ptrs (fs.map (·.g)))) :
    Calls Try.prog 44 #[.slice B n d] w fun e w' => (∃ C m c, e = .returned (.tuple #[.agg #[.slice C m c, .int .u64 ((0 : Nat) : Int)], .bool false])) ∧ Below w.heap.size w w' := by
  subst hn
  rcases Nat.eq_zero_or_pos fs.length with h0 | h0
  · rw [h0]
    exact (tr_found_none B d w).mono fun e w' ⟨h1, h2⟩ => ⟨⟨none, 0, 0, (by rw [h1]; rfl)⟩, h2⟩
  · have hi : fs.length - 1 < fs.length := by omega
    have hg := List.getElem?_eq_getElem hi
    generalize fs[fs.length - 1] = f at hg
    have hFf := hF f (List.mem_of_getElem? hg)
    obtain ⟨A, c, s, hp', hS, hB⟩ := hFf.head
    refine (tr_found_some B fs.length d f.g (fs.map (·.g)) w hR h0 (by omega) (by rw [List.getElem?_map, hg]; rfl) 0 0 false fun W hW => ?_).mono fun e w' ⟨⟨C, c, h1⟩, h2⟩ => ⟨⟨C, 0, c, h1⟩, h2⟩
    exact (nd_entry_fork (hB.below hW)).mono fun e w' ⟨h1, h2⟩ => ⟨⟨none, 0, (by rw [h1]; rfl)⟩, h2⟩
/-- found, where an entry ends it. -/
theorem tr_found_leaf {w : World} {k g v n : Nat} {p : List Nat} {fs : List PF} {B : Option Addr} {d : Nat} (hn : n = (fs.map (·.g) ++ [g]).length) (hN : NodeOf w k g (-1) p [(p, v)]) (hk : k ≤ 16) (hl : fs.length ≤ 64) (hR : Rw w 1 B n (ptrs (fs.map (·.g) ++ [g]))) :
    Calls Try.prog 44 #[.slice B n d] w fun e w' => (∃ C m c, e = .returned (.tuple #[.agg #[.slice C m c, .int .u64 (v : Int)], .bool true])) ∧ Below w.heap.size w w' := by
  have hn2 : n = fs.length + 1 := by simpa using hn
  clear hn
  subst hn2
  refine (tr_found_some B (fs.length + 1) d g (fs.map (·.g) ++ [g]) w hR (by omega) (by omega) (by simp) k v true fun W hW => ?_).mono fun e w' ⟨⟨C, c, h1⟩, h2⟩ => ⟨⟨C, k, c, h1⟩, h2⟩
  rcases (hN.stay hW).cases' with ⟨A', c', v', -, hes, hv, hP', hc', hB'⟩ | ⟨m, ks, hlv, -, -⟩
  · have : v' = v := by simpa using hes.symm
    subst this
    exact (nd_entry_leaf hB' hP' hk).mono fun e w' ⟨C, c, h1, _, h2⟩ => ⟨⟨C, c, h1⟩, h2⟩
  · omega
set_option maxHeartbeats 1000000 in
set_option maxRecDepth 100000 in
theorem tr_get_dim {w : World} {t k : Nat} {root : Option Addr} (h : TreeBlk w t k root) (A : Option Addr) (n c : Nat) (hn : n ≠ k) : Calls Try.prog 26 #[.pointer (some ⟨t, 0, none⟩), .slice A n c] w fun e w' => e = .returned (.tuple #[.int .u64 0, .bool false, .int .i64 2]) ∧ w = w' := by
  have HC := hide (tr_check_dim h A n c hn)
  clear h hn
  go_enter Try.func26, Try.ntmps26
  go_wp2_with fail
  refine HC.out.mono ?_
  rintro e w1 ⟨rfl, rfl⟩
  go_wp2
  go_ret3
  exact ⟨rfl, rfl⟩
set_option maxHeartbeats 2000000 in
set_option maxRecDepth 100000 in
theorem tr_get {w : World} {t k : Nat} {es : List Ent} (hT : TreeOf w k t es) {A : Option Addr} {c : Nat} {p : List Nat} (hp : Pt w A k p) :
    Calls Try.prog 26 #[.pointer (some ⟨t, 0, none⟩), .slice A k c] w fun e w' => ((∃ v : Nat, e = .returned (.tuple #[.int .u64 (v : Int), .bool true, .int .i64 0]) ∧ (p, v) ∈ es) ∨ (e = .returned (.tuple #[.int .u64 0, .bool false, .int .i64 0]) ∧ ∀ v, (p, v) ∉ es)) ∧ Below w.heap.size w w' := by
  obtain ⟨top, hB, hN, hes, hk1, hk⟩ := hT.top
  have HC := hide (tr_check hB A c)
  have HP := hide (tr_path hB hN hk1 hk (c := c) hp)
  have HZ := hide hp.zp
  have HES := hide hes
  clear hT hB hN hp hes
  go_enter Try.func26, Try.ntmps26
  go_wp2_with fail
  refine HC.out.mono ?_
  rintro e w1 ⟨rfl, rfl⟩
  go_wp2_with fail
  refine HP.out.mono ?_
  rintro e w1 ⟨fs, bot, gs, below, B, d, hW, hF, hl, hE, rfl, hO, hb⟩
  have HW := hide hW
  have HF := hide hF
  have HB := hide hb
  have hR := (own_rw hO).2
  have HE := hide hE
  unfold ptrOf
  rcases hE.cases_ with hgs | ⟨g, v, hgs, -, hbot, hNl⟩
  · have HGS := hide hgs
    have HFO := hide (tr_found_fork (n := gs.length) (d := d) (by rw [hgs]; simp) (fun f hf => (hF f hf).stay hb) hl (by rw [hgs] at hR ⊢; exact hR))
    clear hW hF hE hO hb hR hgs
    go_wp2_with fail
    refine HFO.out.mono ?_
    rintro e w2 ⟨⟨C, m, cc, rfl⟩, hb2⟩
    have HB2 := hide (below_alloc (below_then HB.out hb2) (Nat.le_refl _) (.cells #[.slice C m cc, .int .u64 ((0 : Nat) : Int)] 63))
    have t1 := (Blk.new w2 63 #[.slice C m cc, .int .u64 ((0 : Nat) : Int)]).cell 1
    simp at t1
    clear hb2
    go_wp2
    go_ret3
    refine ⟨.inr ⟨rfl, fun v hv => ?_⟩, HB2.out⟩
    rw [← HES.out, Way.mem (fun f hf => (HF.out f hf).fk) HW.out] at hv
    exact HE.out.no HZ.out HGS.out v hv
  · have HBO := hide hbot
    have HFO := hide (tr_found_leaf (n := gs.length) (d := d) (fs := fs) (by rw [hgs]) (hNl.stay hb) hk hl (by rw [hgs] at hR ⊢; exact hR))
    clear hW hF hE hO hb hR hgs hNl hbot
    go_wp2_with fail
    refine HFO.out.mono ?_
    rintro e w2 ⟨⟨C, m, cc, rfl⟩, hb2⟩
    have HB2 := hide (below_alloc (below_then HB.out hb2) (Nat.le_refl _) (.cells #[.slice C m cc, .int .u64 (v : Int)] 63))
    have t1 := (Blk.new w2 63 #[.slice C m cc, .int .u64 (v : Int)]).cell 1
    simp at t1
    clear hb2
    go_wp2
    go_ret3
    refine ⟨.inl ⟨v, rfl, ?_⟩, HB2.out⟩
    rw [← HES.out, Way.mem (fun f hf => (HF.out f hf).fk) HW.out, HBO.out]
    exact List.mem_singleton.2 rfl
set_option maxHeartbeats 1000000 in
set_option maxRecDepth 100000 in
theorem tr_put_dim {w : World} {t k : Nat} {root : Option Addr} (h : TreeBlk w t k root) (A : Option Addr) (n c : Nat) (v : Int) (hn : n ≠ k) : Calls Try.prog 23 #[.pointer (some ⟨t, 0, none⟩), .slice A n c, .int .u64 v] w fun e w' => e = .returned (.tuple #[.pointer none, .int .i64 2]) ∧ w = w' := by
  have HC := hide (tr_check_dim h A n c hn)
  clear h hn
  go_enter Try.func23, Try.ntmps23
  go_wp2_with fail
  refine HC.out.mono ?_
  rintro e w1 ⟨rfl, rfl⟩
  go_wp2
  go_ret2
  exact ⟨rfl, rfl⟩
set_option maxHeartbeats 1000000 in
set_option maxRecDepth 100000 in
theorem tr_del_dim {w : World} {t k : Nat} {root : Option Addr} (h : TreeBlk w t k root) (A : Option Addr) (n c : Nat) (hn : n ≠ k) : Calls Try.prog 50 #[.pointer (some ⟨t, 0, none⟩), .slice A n c] w fun e w' => e = .returned (.tuple #[.pointer none, .int .i64 2]) ∧ w = w' := by
  have HC := hide (tr_check_dim h A n c hn)
  clear h hn
  go_enter Try.func50, Try.ntmps50
  go_wp2_with fail
  refine HC.out.mono ?_
  rintro e w1 ⟨rfl, rfl⟩
  go_wp2
  go_ret2
  exact ⟨rfl, rfl⟩
theorem up_tree {w : World} {k t g : Nat} {fs : List PF} {n : NT} (hk1 : 1 ≤ k) (hk : k ≤ 16) (h1 : TreeBlk w t k (some ⟨g, 0, none⟩)) (h2 : NodeOf w k g (upN fs n).lv (upN fs n).pre (upN fs n).es) : TreeOf w k t (upN fs n).es :=
  ⟨hk1, hk, .inr ⟨g, _, _, h1, h2⟩⟩
theorem Rw.init {w : World} {A : Option Addr} {n : Nat} {vs : List Value} {x : Value} (h : Rw w 1 A (n + 1) (vs ++ [x])) : Rw w 1 A n vs := by
  have hl := h.1
  have := h.take_ (i := n) (by omega)
  simp at hl
  rw [Nat.mul_one, List.take_append_of_le_length (by omega), List.take_of_length_le (by omega)] at this
  exact this
/-- What Put answers. -/
def PutOut (w : World) (t k : Nat) (p : List Nat) (v : Nat) (es : List Ent) (e : Ending) (w' : World) : Prop :=
  ∃ t' es', e = .returned (.tuple #[.pointer (some ⟨t', 0, none⟩), .int .i64 0]) ∧ TreeOf w' k t' es' ∧ (∀ x, x ∈ es' ↔ x = (p, v) ∨ (x ∈ es ∧ x.1 ≠ p)) ∧ (t' = t ↔ (p, v) ∈ es) ∧ Below w.heap.size w w'
set_option maxHeartbeats 4000000 in
set_option maxRecDepth 100000 in
theorem tr_put {w : World} {t k v : Nat} {es : List Ent} (hT : TreeOf w k t es) {A : Option Addr} {c : Nat} {p : List Nat} (hp : Pt w A k p) (hv : v < 2 ^ 64) :
    Calls Try.prog 23 #[.pointer (some ⟨t, 0, none⟩), .slice A k c, .int .u64 (v : Int)] w (PutOut w t k p v es) := by
  obtain ⟨top, hB, hN, hes, hk1, hk⟩ := hT.top
  have HC := hide (tr_check hB A c)
  have HP := hide (tr_path hB hN hk1 hk (c := c) hp)
  have HZ := hide hp.zp
  have HES := hide hes
  have HT := hide hT
  have HTB := hide hB
  have HPT := hide hp
  have htlt : t < w.heap.size := hB.lt
  have HLT := hide htlt
  have HLF := hide (fun (W : World) (hW : Below w.heap.size w W) => nd_leaf A k c p v W (hp.below hW) hv hk1 hk)
  clear hT hB hN hp hes htlt
  go_enter Try.func23, Try.ntmps23
  go_wp2_with fail
  refine HC.out.mono ?_
  rintro e w1 ⟨rfl, rfl⟩
  go_wp2_with fail
  refine HP.out.mono ?_
  rintro e w1 ⟨fs, bot, gs, below, B, d, hW, hF, hl, hE, rfl, hO, hb⟩
  have HW := hide hW
  have HF := hide hF
  have HB := hide hb
  obtain ⟨hcap, hR⟩ := own_rw hO
  have HE := hide hE
  have HR := hide hR
  rcases hE.cases_ with hgs | ⟨g, v0, hgs, hbe, hbot, hNl⟩
  · have hno := hE.no HZ.out hgs
    have HNO := hide hno
    have HFO := hide (tr_found_fork (n := gs.length) (d := d) (by rw [hgs]; simp) (fun f hf => (hF f hf).stay hb) hl (by rw [hgs] at hR ⊢; exact hR))
    have hnt : ∀ x, (p, x) ∉ es := fun x hx => by
      rw [← HES.out, Way.mem (fun f hf => (HF.out f hf).fk) HW.out] at hx
      exact hno x hx
    have HNT := hide hnt
    have HGS := hide hgs
    have hgl : gs.length = fs.length := by rw [hgs]; simp
    have HGL := hide hgl
    rw [hgs] at HR
    have HNT := hide (HNT.out v)
    cases hE with
    | leaf g v' hn => simp at hgs
    | none =>
      unfold ptrOf
      simp only [Option.map_none]
      clear hW hF hO hb hR hgs hno hnt hcap
      rw [hgl] at HFO HR ⊢
      clear hgl
      go_wp2_with fail
      refine HFO.out.mono ?_
      rintro e w2 ⟨⟨C, m, cc, rfl⟩, hb2⟩
      have t1 := (Blk.new w2 63 #[.slice C m cc, .int .u64 ((0 : Nat) : Int)]).cell 1
      simp at t1
      have hb3 := below_alloc (below_then HB.out hb2) (Nat.le_refl _) (.cells #[.slice C m cc, .int .u64 ((0 : Nat) : Int)] 63)
      have hq3 := below_alloc hb2 (Nat.le_refl _) (.cells #[.slice C m cc, .int .u64 ((0 : Nat) : Int)] 63)
      have HL := hide (HLF.out _ hb3)
      have HB3 := hide hb3
      have HQ3 := hide hq3
      clear hb2 hb3 hq3 HFO
      go_wp2_with fail
      refine HL.out.mono ?_
      rintro e w4 ⟨g4, rfl, hN4, -, hb4⟩
      have hb4' := below_then HB3.out hb4
      have hq4 := below_then HQ3.out hb4
      have hPL := put_leaf (v := v) HZ.out (fun f hf => (HF.out f hf).fk) HW.out (fun e he => by cases he)
      have HME := hide hPL.2
      have HUP := hide (tr_up (fs := fs) ⟨-1, p, [(p, v)]⟩ B fs.length d (HTB.out.below hb4') hk1 hk (HR.out.below hq4) rfl (by omega) (fun f hf => (HF.out f hf).stay hb4') hN4 hPL.1)
      have HB4 := hide hb4'
      clear hN4 hb4 hb4' hq4 hPL HL t1
      go_wp2_with fail
      refine HUP.out.mono ?_
      rintro e w5 ⟨t', g', rfl, ht', hT5, hN5, hb5⟩
      have HH := hide (And.intro ht' (And.intro hT5 (And.intro hN5 hb5)))
      clear ht' hT5 hN5 hb5
      go_wp2
      go_ret2
      obtain ⟨ht', hT5, hN5, hb5⟩ := HH.out
      refine ⟨t', _, rfl, up_tree hk1 hk hT5 hN5, ?_, ?_, below_then HB4.out hb5⟩
      · rw [← HES.out]; exact HME.out
      · constructor
        · intro h
          have := HB4.out.size
          have := HLT.out
          omega
        · intro h
          exact absurd h (HNT.out)
    | miss x hn hm =>
      have HN := hide hn
      have HM := hide hm
      unfold ptrOf
      simp only [Option.map_some]
      clear hW hF hO hb hR hgs hno hnt hcap hn hm
      rw [hgl] at HFO HR ⊢
      clear hgl
      go_wp2_with fail
      refine HFO.out.mono ?_
      rintro e w2 ⟨⟨C, m, cc, rfl⟩, hb2⟩
      have t1 := (Blk.new w2 63 #[.slice C m cc, .int .u64 ((0 : Nat) : Int)]).cell 1
      simp at t1
      have hb3 := below_alloc (below_then HB.out hb2) (Nat.le_refl _) (.cells #[.slice C m cc, .int .u64 ((0 : Nat) : Int)] 63)
      have hq3 := below_alloc hb2 (Nat.le_refl _) (.cells #[.slice C m cc, .int .u64 ((0 : Nat) : Int)] 63)
      have HL := hide (HLF.out _ hb3)
      have HB3 := hide hb3
      have HQ3 := hide hq3
      clear hb2 hb3 hq3 HFO
      go_wp2_with fail
      refine HL.out.mono ?_
      rintro e w4 ⟨g4, rfl, hN4, -, hb4⟩
      have hb4' := below_then HB3.out hb4
      have hq4 := below_then HQ3.out hb4
      obtain ⟨i1, i2, i3, i4, i5, i6, i7⟩ := HN.out.info
      obtain ⟨mm, hmm⟩ : ∃ mm : Nat, part x.2.pre p = (mm : Int) := ⟨(part x.2.pre p).toNat, by have := HM.out; omega⟩
      have hlm : x.2.lv < (mm : Int) := by rw [← hmm]; exact HM.out
      have HPR := hide (nd_pair (HN.out.stay hb4') hN4 hk1 hk hmm hlm (by omega))
      have hPP := fun g' => put_pair (v := v) (g' := g') HZ.out (fun f hf => (HF.out f hf).fk) HW.out hmm hlm i1 (fun e he => ⟨(i5 e he).1, (i5 e he).2.2⟩)
      have HPP := hide hPP
      have HB4 := hide hb4'
      have HQ4 := hide hq4
      clear i1 i2 i3 i4 i5 i6 i7 hmm hlm hPP hN4 hb4 hb4' hq4 HL t1
      go_wp2_with fail
      refine HPR.out.mono ?_
      rintro e w6 ⟨g6, rfl, hF6, -, hb6⟩
      have hN4 := hF6.node
      have hb4' := below_then HB4.out hb6
      have hq4 := below_then HQ4.out hb6
      have hPL := HPP.out g4
      have t1 := trivial
      have HL := trivial
      have hb4 := trivial
      clear HB4 HPR hF6 hb6
      have HME := hide hPL.2
      have HUP := hide (tr_up (fs := fs) ⟨mm, cut (mm + 1) x.2.pre, kidEs (pairK x.1 g4 x.2.lv (-1) x.2.pre p x.2.es [(p, v)] mm)⟩ B fs.length d (HTB.out.below hb4') hk1 hk (HR.out.below hq4) rfl (by omega) (fun f hf => (HF.out f hf).stay hb4') hN4 hPL.1)
      have HB4 := hide hb4'
      clear hN4 hb4 hb4' hq4 hPL HL t1
      go_wp2_with fail
      refine HUP.out.mono ?_
      rintro e w5 ⟨t', g', rfl, ht', hT5, hN5, hb5⟩
      have HH := hide (And.intro ht' (And.intro hT5 (And.intro hN5 hb5)))
      clear ht' hT5 hN5 hb5
      go_wp2
      go_ret2
      obtain ⟨ht', hT5, hN5, hb5⟩ := HH.out
      refine ⟨t', _, rfl, up_tree hk1 hk hT5 hN5, ?_, ?_, below_then HB4.out hb5⟩
      · rw [← HES.out]; exact HME.out
      · constructor
        · intro h
          have := HB4.out.size
          have := HLT.out
          omega
        · intro h
          exact absurd h (HNT.out)
  · have HBO := hide hbot
    have HFO := hide (tr_found_leaf (n := gs.length) (d := d) (fs := fs) (by rw [hgs]) (hNl.stay hb) hk hl (by rw [hgs] at hR ⊢; exact hR))
    have hgl : gs.length = fs.length + 1 := by rw [hgs]; simp
    have hin : (p, v0) ∈ es := by
      rw [← HES.out, Way.mem (fun f hf => (HF.out f hf).fk) HW.out, hbot]
      exact List.mem_singleton.2 rfl
    have hun : ∀ x, (p, x) ∈ es → x = v0 := fun x hx => by
      rw [← HES.out, Way.mem (fun f hf => (HF.out f hf).fk) HW.out, hbot] at hx
      injection List.mem_singleton.1 hx
    have HIN := hide hin
    have HUN := hide hun
    rw [hgs, ptrs_snoc] at HR
    rw [hbe]
    unfold ptrOf
    simp only [Option.map_none]
    clear hW hF hO hb hR hgs hE HE hNl hbot hin hun hbe
    rw [show (List.map (fun x => x.g) fs ++ [g]).length = fs.length + 1 by simp] at HR
    rw [hgl] at HFO hcap ⊢
    clear hgl
    by_cases hvv : v0 = v
    · subst hvv
      go_wp2_with fail
      refine HFO.out.mono ?_
      rintro e w2 ⟨⟨C, m, cc, rfl⟩, hb2⟩
      have t1 := (Blk.new w2 63 #[.slice C m cc, .int .u64 (v0 : Int)]).cell 1
      simp at t1
      have hb3 := below_alloc (below_then HB.out hb2) (Nat.le_refl _) (.cells #[.slice C m cc, .int .u64 (v0 : Int)] 63)
      have hq3 := below_alloc hb2 (Nat.le_refl _) (.cells #[.slice C m cc, .int .u64 (v0 : Int)] 63)
      have HL := hide (HLF.out _ hb3)
      have HB3 := hide hb3
      have HQ3 := hide hq3
      clear hb2 hb3 hq3 HFO
      go_wp2
      go_ret2
      refine ⟨t, es, rfl, HT.out.stay HB3.out, fun x => ?_, ?_, HB3.out⟩
      · constructor
        · intro hx
          by_cases hxp : x.1 = p
          · left
            obtain ⟨xp, xv⟩ := x
            simp only at hxp
            subst hxp
            rw [HUN.out xv hx]
          · exact .inr ⟨hx, hxp⟩
        · rintro (rfl | h)
          · exact HIN.out
          · exact h.1
      · exact ⟨fun _ => HIN.out, fun _ => rfl⟩
    · have evv : ((v0 : Int) == (v : Int)) = false := by simp; omega
      have HNT : Hid ((p, v) ∉ es) := hide fun h => hvv (HUN.out v h).symm
      have r2s := fun W => run_slice_to (P := Try.prog) (w := W) Try.underlying82 (sz := 1) Try.sizeOf60 B (fs.length + 1) d fs.length (by omega)
      clear hvv hcap
      go_wp2_with fail
      refine HFO.out.mono ?_
      rintro e w2 ⟨⟨C, m, cc, rfl⟩, hb2⟩
      have t1 := (Blk.new w2 63 #[.slice C m cc, .int .u64 (v0 : Int)]).cell 1
      simp at t1
      have hb3 := below_alloc (below_then HB.out hb2) (Nat.le_refl _) (.cells #[.slice C m cc, .int .u64 (v0 : Int)] 63)
      have hq3 := below_alloc hb2 (Nat.le_refl _) (.cells #[.slice C m cc, .int .u64 (v0 : Int)] 63)
      have HL := hide (HLF.out _ hb3)
      have HB3 := hide hb3
      have HQ3 := hide hq3
      clear hb2 hb3 hq3 HFO
      go_wp2_with fail
      refine HL.out.mono ?_
      rintro e w4 ⟨g4, rfl, hN4, -, hb4⟩
      have hb4' := below_then HB3.out hb4
      have hq4 := below_then HQ3.out hb4
      have hPL := put_leaf (v := v) HZ.out (fun f hf => (HF.out f hf).fk) HW.out (fun e he => by rw [HBO.out] at he; rw [List.mem_singleton.1 he])
      replace HR := hide HR.out.init
      have HME := hide hPL.2
      have HUP := hide (tr_up (fs := fs) ⟨-1, p, [(p, v)]⟩ B fs.length d (HTB.out.below hb4') hk1 hk (HR.out.below hq4) rfl (by omega) (fun f hf => (HF.out f hf).stay hb4') hN4 hPL.1)
      have HB4 := hide hb4'
      clear hN4 hb4 hb4' hq4 hPL HL t1
      go_wp2_with fail
      refine HUP.out.mono ?_
      rintro e w5 ⟨t', g', rfl, ht', hT5, hN5, hb5⟩
      have HH := hide (And.intro ht' (And.intro hT5 (And.intro hN5 hb5)))
      clear ht' hT5 hN5 hb5
      go_wp2
      go_ret2
      obtain ⟨ht', hT5, hN5, hb5⟩ := HH.out
      refine ⟨t', _, rfl, up_tree hk1 hk hT5 hN5, ?_, ?_, below_then HB4.out hb5⟩
      · rw [← HES.out]; exact HME.out
      · constructor
        · intro h
          have := HB4.out.size
          have := HLT.out
          omega
        · intro h
          exact absurd h (HNT.out)
/-- A fork with one kid less: another fork, or its other kid. -/
theorem nd_less {w : World} {k : Nat} {p : List Nat} {f : PF} (h : Fork w k f.g f.lv f.pre f.ks) (hk : k ≤ 16) (hp : Zp k p) {q : Kid} (hq : q ∈ f.ks) (hqa : q.at_ = addrOf p f.lv) :
    Calls Try.prog 84 #[.pointer (some ⟨f.g, 0, none⟩), .int .i64 (addrOf p f.lv : Int)] w fun e w' => ∃ (gn : Nat) (n : NT), e = .returned (.tuple #[.pointer (some ⟨gn, 0, none⟩), .int .i64 0]) ∧ NodeOf w' k gn n.lv n.pre n.es ∧
      (∀ e, e ∈ n.es ↔ ∃ r ∈ f.ks, r.at_ ≠ addrOf p f.lv ∧ e ∈ r.es) ∧ Zp k n.pre ∧ n.lv ≤ f.lv ∧ (∀ b, f.lv < b → addrOf n.pre b = addrOf f.pre b) ∧ Below w.heap.size w w' := by
  have hf := h.fk
  have hl := delK_len (a := addrOf p f.lv) hf.sort ⟨q, hq, hqa⟩
  have h2 := hf.two
  have ha := addr_lt_pow hp f.lv
  rcases Nat.lt_or_ge f.ks.length 3 with h3 | h3
  · obtain ⟨r, hr⟩ : ∃ r, delK f.ks (addrOf p f.lv) = [r] := List.length_eq_one_iff.1 (by omega)
    have hrm : r ∈ f.ks ∧ r.at_ ≠ addrOf p f.lv := mem_delK.1 (by rw [hr]; simp)
    have hrN : NodeOf w k r.blk r.lv r.pre r.es := by
      obtain ⟨A, c, gs, _, _, _, _, h5, _⟩ := h
      exact h5 r hrm.1
    refine (nd_without_two h ha hq hqa hr).mono fun e w' ⟨h4, h5⟩ => ⟨r.blk, ⟨r.lv, r.pre, r.es⟩, h4, hrN.stay h5, fun e => ?_, hf.ksz r hrm.1, ?_, (hf.at_ r hrm.1).2, h5⟩
    · constructor
      · intro he
        exact ⟨r, hrm.1, hrm.2, he⟩
      · rintro ⟨s, hs, hsa, hes⟩
        have : s ∈ delK f.ks (addrOf p f.lv) := mem_delK.2 ⟨hs, hsa⟩
        rw [hr, List.mem_singleton] at this
        rw [← this]
        exact hes
    · have := hf.low r hrm.1
      show r.lv ≤ _
      omega
  · refine (nd_without h ha hq hqa h3).mono fun e w' ⟨gn, h4, h5, _, h6⟩ => ⟨gn, ⟨f.lv, f.pre, kidEs (delK f.ks (addrOf p f.lv))⟩, h4, h5.node, fun e => ?_, hf.pre, Int.le_refl _, fun _ _ => rfl, h6⟩
    unfold kidEs
    rw [List.mem_flatMap]
    constructor
    · rintro ⟨s, hs, hes⟩
      exact ⟨s, (mem_delK.1 hs).1, (mem_delK.1 hs).2, hes⟩
    · rintro ⟨s, hs, hsa, hes⟩
      exact ⟨s, mem_delK.2 ⟨hs, hsa⟩, hes⟩
theorem idx2 {j n : Nat} (hn : n = j + 2) (hj : j ≤ 64) : (n : Int) - 2 = (j : Int) ∧ j < n ∧ (0 : Int) ≤ (j : Int) ∧ (j : Int) ≤ 70368744177664 ∧ IntKind.i64.wrap (j : Int) = (j : Int) ∧ wrap64 (j : Int) = (j : Int) ∧ (j : Int) < (n : Int) ∧ ((n : Int) == 1) = false := by
  refine ⟨by omega, by omega, by omega, by omega, by rw [IntKind.wrap_i64]; omega, by unfold wrap64; omega, by omega, ?_⟩
  simp
  omega
/-- What Del answers. -/
def DelOut (w : World) (t k : Nat) (p : List Nat) (es : List Ent) (e : Ending) (w' : World) : Prop :=
  ((e = .returned (.tuple #[.pointer none, .int .i64 6]) ∧ ∀ v, (p, v) ∉ es) ∨ ∃ t' es' v, e = .returned (.tuple #[.pointer (some ⟨t', 0, none⟩), .int .i64 0]) ∧ TreeOf w' k t' es' ∧ (p, v) ∈ es ∧ (∀ x, x ∈ es' ↔ x ∈ es ∧ x.1 ≠ p)) ∧ Below w.heap.size w w'
set_option maxHeartbeats 4000000 in
set_option maxRecDepth 100000 in
theorem tr_del {w : World} {t k : Nat} {es : List Ent} (hT : TreeOf w k t es) {A : Option Addr} {c : Nat} {p : List Nat} (hp : Pt w A k p) :
    Calls Try.prog 50 #[.pointer (some ⟨t, 0, none⟩), .slice A k c] w (DelOut w t k p es) := by
  obtain ⟨top, hB, hN, hes, hk1, hk⟩ := hT.top
  have HC := hide (tr_check hB A c)
  have HP := hide (tr_path hB hN hk1 hk (c := c) hp)
  have HZ := hide hp.zp
  have HES := hide hes
  have HTB := hide hB
  have HPT := hide hp
  clear hT hB hN hp hes
  go_enter Try.func50, Try.ntmps50
  go_wp2_with fail
  refine HC.out.mono ?_
  rintro e w1 ⟨rfl, rfl⟩
  go_wp2_with fail
  refine HP.out.mono ?_
  rintro e w1 ⟨fs, bot, gs, below, B, d, hW, hF, hl, hE, rfl, hO, hb⟩
  have HW := hide hW
  have HF := hide hF
  have HB := hide hb
  obtain ⟨hcap, hR⟩ := own_rw hO
  have HR := hide hR
  rcases hE.cases_ with hgs | ⟨g, v0, hgs, hbe, hbot, hNl⟩
  · have hno := hE.no HZ.out hgs
    have HFO := hide (tr_found_fork (n := gs.length) (d := d) (by rw [hgs]; simp) (fun f hf => (hF f hf).stay hb) hl (by rw [hgs] at hR ⊢; exact hR))
    have hnt : ∀ x, (p, x) ∉ es := fun x hx => by
      rw [← HES.out, Way.mem (fun f hf => (HF.out f hf).fk) HW.out] at hx
      exact hno x hx
    have HNT := hide hnt
    unfold ptrOf
    clear hW hF hO hb hR hgs hno hnt hcap hE
    go_wp2_with fail
    refine HFO.out.mono ?_
    rintro e w2 ⟨⟨C, m, cc, rfl⟩, hb2⟩
    have HB3 := hide (below_alloc (below_then HB.out hb2) (Nat.le_refl _) (.cells #[.slice C m cc, .int .u64 ((0 : Nat) : Int)] 63))
    clear hb2
    go_wp2
    go_ret2
    exact ⟨.inl ⟨rfl, HNT.out⟩, HB3.out⟩
  · have HBO := hide hbot
    have HFO := hide (tr_found_leaf (n := gs.length) (d := d) (fs := fs) (by rw [hgs]) (hNl.stay hb) hk hl (by rw [hgs] at hR ⊢; exact hR))
    have hgl : gs.length = fs.length + 1 := by rw [hgs]; simp
    have hin : (p, v0) ∈ es := by
      rw [← HES.out, Way.mem (fun f hf => (HF.out f hf).fk) HW.out, hbot]
      exact List.mem_singleton.2 rfl
    have HIN := hide hin
    rw [hgs, ptrs_snoc] at HR
    unfold ptrOf
    clear hF hO hb hR hgs hE hNl hbot hin hbe
    rw [show (List.map (fun x => x.g) fs ++ [g]).length = fs.length + 1 by simp] at HR
    rw [hgl] at HFO hcap ⊢
    clear hgl
    rcases (show fs = [] ∨ ∃ fs0 f, fs = fs0 ++ [f] from (List.eq_nil_or_concat fs).imp id fun ⟨a, b, h⟩ => ⟨a, b, by rw [h, List.concat_eq_append]⟩) with rfl | ⟨fs0, f, rfl⟩
    · have hes0 : es = [(p, v0)] := by
        rw [← HES.out, show top = bot from hW, HBO.out]
        rfl
      have HE0 := hide hes0
      have t0 := (Blk.cell HTB.out 0)
      simp at t0
      clear hW hcap hes0
      simp only [List.length_nil, Nat.zero_add] at HFO ⊢
      go_wp2_with fail
      refine HFO.out.mono ?_
      rintro e w2 ⟨⟨C, m, cc, rfl⟩, hb2⟩
      have hb3 := below_alloc (below_then HB.out hb2) (Nat.le_refl _) (.cells #[.slice C m cc, .int .u64 (v0 : Int)] 63)
      have HB3 := hide hb3
      have t0 := Blk.cell (Blk.below HTB.out hb3) 0
      simp at t0
      clear hb2 hb3
      go_wp2
      go_ret2
      refine ⟨.inr ⟨_, [], v0, rfl, ⟨hk1, hk, .inl ⟨by
        have h := Blk.new (w2.alloc (.cells #[.slice C m cc, .int .u64 (v0 : Int)] 63)) 100 #[.int .i64 (k : Int), .pointer none]
        rw [show (w2.alloc (.cells #[.slice C m cc, .int .u64 (v0 : Int)] 63)).heap.size = w2.heap.size + 1 by simp] at h
        exact h, rfl⟩⟩, HIN.out, fun x => ?_⟩, below_alloc HB3.out (Nat.le_refl _) _⟩
      rw [HE0.out]
      simp only [List.not_mem_nil, List.mem_singleton, false_iff]
      rintro ⟨rfl, h⟩
      exact h rfl
    · have hlen : (fs0 ++ [f]).length + 1 = fs0.length + 2 := by simp
      obtain ⟨c1, c2, c3⟩ := hW.cut
      have hFk := HF.out f (by simp)
      obtain ⟨q, hq, hqa, hqx⟩ := kidAt_some (c3.symm.trans HBO.out)
      have HLS := hide (fun (W : World) (hW : Below w.heap.size w W) => nd_less (hFk.stay hW) hk HZ.out hq hqa)
      have HLV := hide (fun (W : World) (hW : Below w.heap.size w W) => nd_level (hFk.stay hW).node)
      have HAD := hide (fun (W : World) (hW : Below w.heap.size w W) => zb_addr A k p c f.lv W (HPT.out.below hW) hk1 hk hFk.fk.lv)
      have HCW := hide c1
      have hq1 : ∀ e ∈ esOf (kidAt f.ks (addrOf p f.lv)), e.1 = p := fun e he => by
        rw [← c3, HBO.out] at he
        rw [List.mem_singleton.1 he]
      have HQ1 := hide hq1
      have HFK := hide hFk.fk
      have hl0 : fs0.length ≤ 64 := by simp at hl; omega
      have hfs0 : ∀ f ∈ fs0, Fork w k f.g f.lv f.pre f.ks := fun f hf => HF.out f (by simp [hf])
      have HF0 := hide hfs0
      obtain ⟨n, hn⟩ : ∃ n, n = fs0.length + 2 := ⟨_, rfl⟩
      obtain ⟨j, hj⟩ : ∃ j, j = fs0.length := ⟨_, rfl⟩
      rw [hlen, ← hn] at HFO hcap HR ⊢
      have hRj : (ptrs (List.map (fun x => x.g) (fs0 ++ [f])) ++ [Value.pointer (some ⟨g, 0, none⟩)])[j]? = some (.pointer (some ⟨f.g, 0, none⟩)) := by
        rw [hj]; simp [ptrs]
      have hRt : Rw w1 1 B j (ptrs (fs0.map (·.g))) := by
        have := HR.out.take_ (i := j) (by omega)
        rw [Nat.mul_one, hj] at this
        simpa [ptrs, hj] using this
      have HRT := hide hRt
      obtain ⟨b, o, rfl, hbl, u, hu, k0⟩ := HR.out.one (i := j) (by omega)
      rw [hRj] at hu
      injection hu with hu
      rw [← hu] at k0
      have K0 := hide (fun (W : World) (hW : Below w1.heap.size w1 W) => ((hW.cell (p := ⟨b, o + j, none⟩) hbl).trans k0))
      obtain ⟨e2, hin, hi0, hi7, e5, e6, hin', ne1⟩ := idx2 (j := j) (n := n) (hn.trans (by rw [hj])) (by rw [hj]; exact hl0)
      have hjd : j ≤ d := Nat.le_trans (Nat.le_of_lt hin) hcap
      have r2s := fun W => run_slice_to (P := Try.prog) (w := W) Try.underlying82 (sz := 1) Try.sizeOf60 (some ⟨b, o, none⟩) n d j hjd
      have HJ := hide hj
      clear hW hcap hlen c1 c2 c3 hFk hq hqa hqx hq1 hfs0 hn hRj hRt hu hj
      go_wp2_with fail
      refine HFO.out.mono ?_
      rintro e w2 ⟨⟨C, m, cc, rfl⟩, hb2⟩
      have hb3 := below_alloc (below_then HB.out hb2) (Nat.le_refl _) (.cells #[.slice C m cc, .int .u64 (v0 : Int)] 63)
      have hq3 := below_alloc hb2 (Nat.le_refl _) (.cells #[.slice C m cc, .int .u64 (v0 : Int)] 63)
      have HB3 := hide hb3
      have HQ3 := hide hq3
      have k0 := K0.out _ hq3
      have HL := hide (HLV.out _ hb3)
      have HA := hide (HAD.out _ hb3)
      have HN := hide (HLS.out _ hb3)
      clear hb2 hb3 hq3 HFO
      go_wp2_with fail
      refine HL.out.mono ?_
      rintro e w3 ⟨rfl, rfl⟩
      go_wp2_with fail
      refine HA.out.mono ?_
      rintro e w3 ⟨rfl, rfl⟩
      go_wp2_with fail
      refine HN.out.mono ?_
      rintro e w4 ⟨gn, nn, rfl, hN4, hes4, hz4, hl4, ha4, hb4⟩
      have hb4' := below_then HB3.out hb4
      have hq4 := below_then HQ3.out hb4
      have hPL := del_fork (bot := none) HZ.out (fun f hf => (HF0.out f hf).fk) HFK.out HCW.out HQ1.out hes4 hz4 hl4 ha4
      have HME := hide hPL.2
      have HUP := hide (tr_up (fs := fs0) nn (some ⟨b, o, none⟩) j d (HTB.out.below hb4') hk1 hk (HRT.out.below hq4) HJ.out.symm (by have := HJ.out; omega) (fun f hf => (HF0.out f hf).stay hb4') hN4 hPL.1)
      have HB4 := hide hb4'
      clear hN4 hb4 hb4' hq4 hPL HL HA HN k0 hes4 hz4 hl4 ha4
      go_wp2_with fail
      refine HUP.out.mono ?_
      rintro e w5 ⟨t', g', rfl, ht', hT5, hN5, hb5⟩
      have HH := hide (And.intro ht' (And.intro hT5 (And.intro hN5 hb5)))
      clear ht' hT5 hN5 hb5
      go_wp2
      go_ret2
      obtain ⟨ht', hT5, hN5, hb5⟩ := HH.out
      refine ⟨.inr ⟨t', _, v0, rfl, up_tree hk1 hk hT5 hN5, HIN.out, ?_⟩, below_then HB4.out hb5⟩
      rw [← HES.out]
      exact HME.out
end Go.Proofs.Ytfkpanpageeklaa
