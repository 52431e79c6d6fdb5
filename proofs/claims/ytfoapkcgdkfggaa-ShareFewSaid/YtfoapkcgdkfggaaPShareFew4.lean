/- ShareFew: contracts and plain laws that the statement leans on (TrB PlW WkB TrC TrD Uq ShrA ShrB ShrC PaA). No condition. -/
import Derived.Test.YtfoapkcgdkfggaaPShareFew3
set_option linter.unusedSimpArgs false
set_option linter.unusedVariables false
namespace Go.Proofs.Ytfoapkcgdkfggaa
open Go.RowKit
theorem wp_scope_goto2 {P : Program} {Q : Exit → Act → World → Prop} {a : Act} {w : World} {c p1 p2 rest : Code} (l : Nat) (J : Act → World → Prop) (μ : Act → World → Nat) (hc : c = p1.seq (p2.seq ((Code.label l).seq rest))) (hf1 : findLabel p1 l = none) (hf2 : findLabel p2 l = none)
    (first : p1.wp P (Exit.then (p2.wp P (Exit.then J NoExit)) NoExit) a w)
    (pass : ∀ a w, J a w → rest.wp P (Exit.jump l (fun a' w' => J a' w' ∧ μ a' w' < μ a w) Q) a w) : (Code.scope c).wp P Q a w := by
  subst hc
  refine wp_scope_jumps l J μ (rest := Code.skip.seq rest) (by simp [findLabel, hf1, hf2]) ?_ (fun a w h => Go.wp_seq (Go.wp_skip (pass a w h)))
  refine Go.wp_seq (Code.wp_mono (fun e a w h => ?_) first)
  cases e with
  | normal =>
    refine Go.wp_seq (Code.wp_mono (fun e a w h => ?_) h)
    cases e with
    | normal => exact Go.wp_seq (Go.wp_label (jump_mono (pass a w h) fun _ _ h => h.1))
    | _ => exact False.elim h
  | _ => exact False.elim h
def sliceLen : Value → Nat
  | .slice _ n _ => n
  | _ => 0
def ptrOf (x : Option (Nat × NT)) : Value := .pointer (x.map fun y => ⟨y.1, 0, none⟩)
/-- How a path may end: the nodes on it, and what hangs below. -/
inductive PathEnd (w : World) (k : Nat) (p : List Nat) (fs : List PF) : Option (Nat × NT) → List Nat → Option (Nat × NT) → Prop
  | none : PathEnd w k p fs none (fs.map (·.g)) none
  | leaf (g v : Nat) (hn : NodeOf w k g (-1) p [(p, v)]) : PathEnd w k p fs (some (g, ⟨-1, p, [(p, v)]⟩)) (fs.map (·.g) ++ [g]) none
  | miss (x : Nat × NT) (hn : NodeOf w k x.1 x.2.lv x.2.pre x.2.es) (hm : x.2.lv < part x.2.pre p) : PathEnd w k p fs (some x) (fs.map (·.g)) (some x)
def TopOk (w : World) (k : Nat) (top : Option (Nat × NT)) : Prop := ∀ x, top = some x → NodeOf w k x.1 x.2.lv x.2.pre x.2.es
theorem kid_ptr {w : World} {k g m : Nat} {pre : List Nat} {ks : List Kid} (h : Fork w k g m pre ks) (a : Nat) : (getTh (kidTh ks) (a : Int)).getD (.pointer none) = ptrOf (kidAt ks a) := by
  obtain ⟨A, c, gs, hp, hS, hB⟩ := h.head
  cases hk : kidAt ks a with
  | none =>
    rw [getTh_none]
    · rfl
    · intro t ht
      obtain ⟨q, hq, rfl⟩ := List.mem_map.1 ht
      have := kidAt_none hk q hq
      simp only
      omega
  | some x =>
    obtain ⟨q, hq, rfl, rfl⟩ := kidAt_some hk
    have := getTh_some hS.ok (t := (q.at_, .pointer (some ⟨q.blk, 0, none⟩))) (List.mem_map.2 ⟨q, hq, rfl⟩)
    simp only at this
    rw [this]
    rfl
theorem kid_top {w : World} {k g m : Nat} {pre : List Nat} {ks : List Kid} (h : Fork w k g m pre ks) (a : Nat) : TopOk w k (kidAt ks a) := by
  intro x hx
  obtain ⟨q, hq, -, rfl⟩ := kidAt_some hx
  obtain ⟨A, c, gs, h1, h2, h3, h4, h5, h6, h7, h8, h9, h10, h11⟩ := h
  exact h5 q hq
theorem ptrs_snoc (gs : List Nat) (g : Nat) : ptrs (gs ++ [g]) = ptrs gs ++ [.pointer (some ⟨g, 0, none⟩)] := by simp [ptrs]
set_option maxHeartbeats 4000000 in
set_option maxRecDepth 100000 in
theorem tr_path {w : World} {t k : Nat} {top : Option (Nat × NT)} (hT : TreeBlk w t k (top.map fun y => ⟨y.1, 0, none⟩)) (hn : TopOk w k top) (hk1 : 1 ≤ k) (hk : k ≤ 16) {A : Option Addr} {c : Nat} {p : List Nat} (hp : Pt w A k p) :
    Calls Try.prog 33 #[.pointer (some ⟨t, 0, none⟩), .slice A k c] w fun e w' => ∃ (fs : List PF) (bot : Option (Nat × NT)) (gs : List Nat) (below : Option (Nat × NT)) (B : Option Addr) (d : Nat), Way p fs top bot ∧ (∀ f ∈ fs, Fork w k f.g f.lv f.pre f.ks) ∧ fs.length ≤ 64 ∧ PathEnd w k p fs bot gs below ∧ e = .returned (.tuple #[.slice B gs.length d, ptrOf below]) ∧ w'.ownsRow w.heap.size 51 1 (.slice B gs.length d) gs.length (ptrs gs) ∧ Below w.heap.size w w' := by
  have c1 := Blk.cell hT 1
  simp at c1
  have HP := hide hp
  have HTN := hide hn
  have hlen : ∀ (fs : List PF) (bot : Option (Nat × NT)), (∀ f ∈ fs, Fork w k f.g f.lv f.pre f.ks) → Way p fs top bot → fs.length ≤ 64 := by
    intro fs bot hF hW
    cases fs with
    | nil => simp
    | cons f fs =>
      have h0 := hW.1
      rw [h0] at hW
      have hi := (hn _ h0).info
      have := Way.len (fun f hf => (hF f hf).fk) hi.2.2.1 hW
      have := hi.2.2.2.1
      omega
  have HLEN := hide hlen
  clear hT hp hn hlen
  go_enter Try.func33, Try.ntmps33
  go_wp2
  refine wp_scope_goto2 0 (fun a' wr => ∃ (fs : List PF) (bot : Option (Nat × NT)) (B : Option Addr) (d : Nat) (u2 u3 u8 u9 u10 u11 u12 u13 u14 u15 u16 u17 u18 u19 u20 u21 u22 u23 u24 u25 u26 u27 u28 : Value), a' = { tmps := #[.pointer (some ⟨t, 0, none⟩), .slice A k c, u2, u3, .slice none 0 0, .pointer none, .slice B fs.length d, ptrOf bot, u8, u9, u10, u11, u12, u13, u14, u15, u16, u17, u18, u19, u20, u21, u22, u23, u24, u25, u26, u27, u28], defers := [] } ∧ Way p fs top bot ∧ (∀ f ∈ fs, Fork w k f.g f.lv f.pre f.ks) ∧ TopOk w k bot ∧ wr.ownsRow w.heap.size 51 1 (.slice B fs.length d) fs.length (ptrs (fs.map (·.g))) ∧ Below w.heap.size w wr) (fun a' _ => 65 - sliceLen (a'.tmps.getD 6 undef)) (by rfl) (by rfl) (by rfl) ?_ ?_
  · go_wp2
    exact ⟨[], top, none, 0, _, _, _, _, _, _, _, _, _, _, _, _, _, _, _, _, _, _, _, _, _, _, _, rfl, rfl, fun f hf => (by cases hf), HTN.out, World.ownsRow_nil _ _ _ _, Below.refl _ _⟩
  · rintro a' wr ⟨fs, bot, B, d, u2, u3, u8, u9, u10, u11, u12, u13, u14, u15, u16, u17, u18, u19, u20, u21, u22, u23, u24, u25, u26, u27, u28, rfl, hW, hF, hN, hO, hb⟩
    have HW := hide hW
    have HF := hide hF
    have HO := hide hO
    have HB := hide hb
    have hfl : fs.length ≤ 64 := HLEN.out fs bot hF hW
    cases bot with
    | none =>
      clear hW hF hN hO hb
      unfold ptrOf
      simp only [Option.map_none]
      go_wp2_with fail
      refine (nd_covers_nil _ _ _ _).mono ?_
      rintro e w1 ⟨rfl, rfl⟩
      go_wp2
      simp only [Exit.jump]
      go_ret2
      refine ⟨fs, none, _, _, B, d, HW.out, HF.out, hfl, .none, by simp [ptrOf], by simpa using HO.out, HB.out⟩
    | some x =>
      have hNx := hN x rfl
      have HX := hide hNx
      have HC := hide (nd_covers (d := c) (hNx.stay hb) hk1 hk (HP.out.below hb))
      clear hW hF hN hO hb
      unfold ptrOf
      simp only [Option.map_some]
      by_cases hcv : part x.2.pre p ≤ x.2.lv
      · rw [show decide (part x.2.pre p ≤ x.2.lv) = true by simpa using hcv] at HC
        rcases hNx.cases' with ⟨A', c', v, hlv, hes, hv, hP', hc', hB'⟩ | ⟨m, ks, hlv, hes, hFk⟩
        · have HL := hide (nd_level (HX.out.stay HB.out))
          rw [hlv] at HL
          have hpe : x.2.pre = p := part_neg hP'.zp HP.out.zp (by omega)
          have hx : x = (x.1, ⟨-1, p, [(p, v)]⟩) := by
            obtain ⟨g, ⟨l, pr, es⟩⟩ := x
            simp only at hlv hes hpe
            rw [hlv, hes, hpe]
          have HXE := hide hx
          clear hNx hcv hlv hes hv hP' hc' hB' hpe hx
          go_wp2_with fail
          refine HC.out.mono ?_
          rintro e w1 ⟨rfl, rfl⟩
          have hb4 := below_alloc HB.out (Nat.le_refl _) (.cells #[.pointer (some ⟨x.1, 0, none⟩)] 51)
          go_wp2_with (first
            | (at_builtin
               refine app_b _ rfl (.tmp 18) (.tmp 20) _ rfl w.heap.size 51 _ 1 8 Try.underlying44 info_n rfl (by omega) _ fs.length _ rfl (HO.out.alloc _) (some ⟨wr.heap.size, 0, none⟩) 1 1 [.pointer (some ⟨x.1, 0, none⟩)] rfl w hb4 (Nat.le_refl _) (Rw.new1 wr 51 #[.pointer (some ⟨x.1, 0, none⟩)] rfl) ?h2 (by unfold maxLen; omega) (by omega) ?_
               case h2 =>
                 intro u hu
                 rw [List.mem_singleton] at hu
                 rw [hu]
                 rfl
               intro v5 w5 ho5 hb5 _
               have HO5 := hide ho5
               have HB5 := hide hb5
               obtain ⟨B5, d5, rfl, -, hR5⟩ := Rw.of_own ho5
               have HL5 := hide (nd_level (HX.out.stay hb5))
               rw [show x.2.lv = -1 by rw [HXE.out]] at HL5
               clear ho5 hb5 hR5 HL)
            | fail)
          go_wp2_with fail
          refine HL5.out.mono ?_
          rintro e w6 ⟨rfl, rfl⟩
          go_wp2
          simp only [Exit.jump]
          go_ret2
          have hxx := HX.out
          have hww := HW.out
          rw [HXE.out] at hxx hww
          refine ⟨fs, _, _, _, B5, d5, hww, HF.out, hfl, .leaf x.1 v hxx, by simp [ptrOf], ?_, HB5.out⟩
          have := HO5.out
          rw [ptrs_snoc]
          simpa using this
        · have hm64 : m < 64 := by obtain ⟨_, _, _, h1, _⟩ := hFk; exact h1
          have HFK := hide hFk
          have HLV := hide hlv
          have HES := hide hes
          rw [hlv] at hcv
          have HCV := hide hcv
          clear hNx hcv hlv hes hFk
          go_wp2_with fail
          refine HC.out.mono ?_
          rintro e w1 ⟨rfl, rfl⟩
          have hb4 := below_alloc HB.out (Nat.le_refl _) (.cells #[.pointer (some ⟨x.1, 0, none⟩)] 51)
          go_wp2_with (first
            | (at_builtin
               refine app_b _ rfl (.tmp 18) (.tmp 20) _ rfl w.heap.size 51 _ 1 8 Try.underlying44 info_n rfl (by omega) _ fs.length _ rfl (HO.out.alloc _) (some ⟨wr.heap.size, 0, none⟩) 1 1 [.pointer (some ⟨x.1, 0, none⟩)] rfl w hb4 (Nat.le_refl _) (Rw.new1 wr 51 #[.pointer (some ⟨x.1, 0, none⟩)] rfl) ?h2 (by unfold maxLen; omega) (by omega) ?_
               case h2 =>
                 intro u hu
                 rw [List.mem_singleton] at hu
                 rw [hu]
                 rfl
               intro v5 w5 ho5 hb5 _
               have HO5 := hide ho5
               have HB5 := hide hb5
               obtain ⟨B5, d5, rfl, -, hR5⟩ := Rw.of_own ho5
               have HL5 := hide (nd_level (HX.out.stay hb5))
               rw [HLV.out] at HL5
               have HD5 := hide (tr_down (c := c) (HFK.out.stay hb5) hk1 hk (HP.out.below hb5))
               rw [kid_ptr HFK.out] at HD5
               unfold ptrOf at HD5
               clear ho5 hb5 hR5)
            | fail)
          go_wp2_with fail
          refine HL5.out.mono ?_
          rintro e w6 ⟨rfl, rfl⟩
          have em : decide ((m : Int) < 0) = false := by simp
          go_wp2_with fail
          refine HD5.out.mono ?_
          rintro e w7 ⟨rfl, hb7⟩
          go_wp2
          go_step3
          have hnt : x = (x.1, (⟨x.1, m, x.2.pre, ks⟩ : PF).nt) := by
            obtain ⟨g, ⟨l, pr, es⟩⟩ := x
            have h1 := HLV.out
            have h2 := HES.out
            simp only at h1 h2
            rw [h1, h2]
            rfl
          have hW2 := HW.out.snoc (f := ⟨x.1, m, x.2.pre, ks⟩) (by rw [← hnt]) HCV.out
          have hF2 : ∀ f ∈ fs ++ [(⟨x.1, m, x.2.pre, ks⟩ : PF)], Fork w k f.g f.lv f.pre f.ks := by
            intro f hf
            rcases List.mem_append.1 hf with hf | hf
            · exact HF.out f hf
            · rw [List.mem_singleton] at hf
              subst hf
              exact HFK.out
          have hl2 := HLEN.out _ _ hF2 hW2
          rw [List.length_append, List.length_singleton] at hl2
          refine ⟨rfl, ⟨fs ++ [⟨x.1, m, x.2.pre, ks⟩], kidAt ks (addrOf p m), B5, d5, _, _, _, _, _, _, _, _, _, _, _, _, _, _, _, _, _, _, _, _, _, _, _, by rw [List.length_append]; rfl, hW2, hF2, kid_top HFK.out _, ?_, below_then HB5.out hb7⟩, ?_⟩
          · have := own_below HO5.out hb7
            rw [List.map_append, List.map_singleton, ptrs_snoc]
            simpa using this
          · simp [sliceLen]
            omega
      · rw [show decide (part x.2.pre p ≤ x.2.lv) = false by simpa using hcv] at HC
        have hcv2 : x.2.lv < part x.2.pre p := by omega
        have HCV := hide hcv2
        clear hNx hcv hcv2
        go_wp2_with fail
        refine HC.out.mono ?_
        rintro e w1 ⟨rfl, rfl⟩
        go_wp2
        simp only [Exit.jump]
        go_ret2
        refine ⟨fs, some x, _, _, B, d, HW.out, HF.out, hfl, .miss x HX.out HCV.out, by simp [ptrOf], by simpa using HO.out, HB.out⟩
theorem TreeOf.top {w : World} {k t : Nat} {es : List Ent} (h : TreeOf w k t es) : ∃ top, TreeBlk w t k (top.map fun y => ⟨y.1, 0, none⟩) ∧ TopOk w k top ∧ esOf top = es ∧ 1 ≤ k ∧ k ≤ 16 := by
  obtain ⟨h1, h2, ⟨h3, rfl⟩ | ⟨g, lv, pre, h3, h4⟩⟩ := h
  · exact ⟨none, h3, fun x hx => (by cases hx), rfl, h1, h2⟩
  · refine ⟨some (g, ⟨lv, pre, es⟩), h3, fun x hx => ?_, rfl, h1, h2⟩
    injection hx with hx
    subst hx
    exact h4
theorem TopOk.stay {w w' : World} {k : Nat} {top : Option (Nat × NT)} (h : TopOk w k top) (hb : Below w.heap.size w w') : TopOk w' k top := fun x hx => (h x hx).stay hb
section
variable {w : World} {k : Nat} {p : List Nat} {fs : List PF} {top bot below : Option (Nat × NT)} {gs : List Nat}
theorem PathEnd.no (h : PathEnd w k p fs bot gs below) (hp : Zp k p) (hl : gs = fs.map (·.g)) : ∀ v, (p, v) ∉ esOf bot := by
  intro v hv
  cases h with
  | none => cases hv
  | leaf g v' hn => simp at hl
  | miss x hn hm =>
    obtain ⟨i1, i2, i3, i4, i5, i6, i7⟩ := hn.info
    obtain ⟨j1, j2, j3⟩ := i5 _ hv
    obtain ⟨s1, s2, s3, s4⟩ := part_spec x.2.pre p (by rw [i1.1, hp.1]) i1.2 hp.2
    exact s4 (by omega) (j3 _ (by omega)).symm
theorem PathEnd.cases_ (h : PathEnd w k p fs bot gs below) : gs = fs.map (·.g) ∨ ∃ g v, gs = fs.map (·.g) ++ [g] ∧ below = Option.none ∧ bot = some (g, ⟨-1, p, [(p, v)]⟩) ∧ NodeOf w k g (-1) p [(p, v)] := by
  cases h with
  | none => exact .inl rfl
  | leaf g v hn => exact .inr ⟨g, v, rfl, rfl, rfl, hn⟩
  | miss x hn hm => exact .inl rfl
end
/-- found, where no entry ends the path. -/
theorem tr_found_fork {w : World} {k : Nat} {fs : List PF} {B : Option Addr} {d n : Nat} (hn : n = fs.length) (hF : ∀ f ∈ fs, Fork w k f.g f.lv f.pre f.ks) (hl : fs.length ≤ 64) (hR : Rw w 1 B n (ptrs (fs.map (·.g)))) :
    Calls Try.prog 38 #[.slice B n d] w fun e w' => (∃ C m c, e = .returned (.tuple #[.agg #[.slice C m c, .int .u64 ((0 : Nat) : Int)], .bool false])) ∧ Below w.heap.size w w' := by
  subst hn
  rcases Nat.eq_zero_or_pos fs.length with h0 | h0
  · rw [h0]
    exact (tr_found_none B d w).mono fun e w' ⟨h1, h2⟩ => ⟨⟨none, 0, 0, (by rw [h1]; rfl)⟩, h2⟩
  · have hi : fs.length - 1 < fs.length := by omega
    have hg := List.getElem?_eq_getElem hi
    generalize fs[fs.length - 1] = f at hg
    have hFf := hF f (List.mem_of_getElem? hg)
    obtain ⟨A, c, s, hp', hS, hB⟩ := hFf.head
    refine (tr_found_some B fs.length d f.g (fs.map (·.g)) w hR h0 (by omega) (by rw [List.getElem?_map, hg]; rfl) 0 0 false fun W hW => ?_).mono fun e w' ⟨⟨C, c, h1⟩, h2⟩ => ⟨⟨C, 0, c, h1⟩, h2⟩
    exact (nd_entry_fork (hB.below hW)).mono fun e w' ⟨h1, h2⟩ => ⟨⟨none, 0, (by rw [h1]; rfl)⟩, h2⟩
/-- found, where an entry ends it. -/
theorem tr_found_leaf {w : World} {k g v n : Nat} {p : List Nat} {fs : List PF} {B : Option Addr} {d : Nat} (hn : n = (fs.map (·.g) ++ [g]).length) (hN : NodeOf w k g (-1) p [(p, v)]) (hk : k ≤ 16) (hl : fs.length ≤ 64) (hR : Rw w 1 B n (ptrs (fs.map (·.g) ++ [g]))) :
    Calls Try.prog 38 #[.slice B n d] w fun e w' => (∃ C m c, e = .returned (.tuple #[.agg #[.slice C m c, .int .u64 (v : Int)], .bool true])) ∧ Below w.heap.size w w' := by
  have hn2 : n = fs.length + 1 := by simpa using hn
  clear hn
  subst hn2
  refine (tr_found_some B (fs.length + 1) d g (fs.map (·.g) ++ [g]) w hR (by omega) (by omega) (by simp) k v true fun W hW => ?_).mono fun e w' ⟨⟨C, c, h1⟩, h2⟩ => ⟨⟨C, k, c, h1⟩, h2⟩
  rcases (hN.stay hW).cases' with ⟨A', c', v', -, hes, hv, hP', hc', hB'⟩ | ⟨m, ks, hlv, -, -⟩
  · have : v' = v := by simpa using hes.symm
    subst this
    exact (nd_entry_leaf hB' hP' hk).mono fun e w' ⟨C, c, h1, _, h2⟩ => ⟨⟨C, c, h1⟩, h2⟩
  · omega
set_option maxHeartbeats 1000000 in
set_option maxRecDepth 100000 in
theorem tr_put_dim {w : World} {t k : Nat} {root : Option Addr} (h : TreeBlk w t k root) (A : Option Addr) (n c : Nat) (v : Int) (hn : n ≠ k) : Calls Try.prog 23 #[.pointer (some ⟨t, 0, none⟩), .slice A n c, .int .u64 v] w fun e w' => e = .returned (.tuple #[.pointer none, .int .i64 2]) ∧ w = w' := by
  have HC := hide (tr_check_dim h A n c hn)
  clear h hn
  go_enter Try.func23, Try.ntmps23
  go_wp2_with fail
  refine HC.out.mono ?_
  rintro e w1 ⟨rfl, rfl⟩
  go_wp2
  go_ret2
  exact ⟨rfl, rfl⟩
set_option maxHeartbeats 1000000 in
set_option maxRecDepth 100000 in
theorem tr_del_dim {w : World} {t k : Nat} {root : Option Addr} (h : TreeBlk w t k root) (A : Option Addr) (n c : Nat) (hn : n ≠ k) : Calls Try.prog 28 #[.pointer (some ⟨t, 0, none⟩), .slice A n c] w fun e w' => e = .returned (.tuple #[.pointer none, .int .i64 2]) ∧ w = w' := by
  have HC := hide (tr_check_dim h A n c hn)
  clear h hn
  go_enter Try.func28, Try.ntmps28
  go_wp2_with fail
  refine HC.out.mono ?_
  rintro e w1 ⟨rfl, rfl⟩
  go_wp2
  go_ret2
  exact ⟨rfl, rfl⟩
theorem up_tree {w : World} {k t g : Nat} {fs : List PF} {n : NT} (hk1 : 1 ≤ k) (hk : k ≤ 16) (h1 : TreeBlk w t k (some ⟨g, 0, none⟩)) (h2 : NodeOf w k g (upN fs n).lv (upN fs n).pre (upN fs n).es) : TreeOf w k t (upN fs n).es :=
  ⟨hk1, hk, .inr ⟨g, _, _, h1, h2⟩⟩
theorem Rw.init {w : World} {A : Option Addr} {n : Nat} {vs : List Value} {x : Value} (h : Rw w 1 A (n + 1) (vs ++ [x])) : Rw w 1 A n vs := by
  have hl := h.1
  have := h.take_ (i := n) (by omega)
  simp at hl
  rw [Nat.mul_one, List.take_append_of_le_length (by omega), List.take_of_length_le (by omega)] at this
  exact this
/-- What Put answers. -/
def PutOut (w : World) (t k : Nat) (p : List Nat) (v : Nat) (es : List Ent) (e : Ending) (w' : World) : Prop :=
  ∃ t' es', e = .returned (.tuple #[.pointer (some ⟨t', 0, none⟩), .int .i64 0]) ∧ TreeOf w' k t' es' ∧ (∀ x, x ∈ es' ↔ x = (p, v) ∨ (x ∈ es ∧ x.1 ≠ p)) ∧ (t' = t ↔ (p, v) ∈ es) ∧ Below w.heap.size w w'
set_option maxHeartbeats 4000000 in
set_option maxRecDepth 100000 in
theorem tr_put {w : World} {t k v : Nat} {es : List Ent} (hT : TreeOf w k t es) {A : Option Addr} {c : Nat} {p : List Nat} (hp : Pt w A k p) (hv : v < 2 ^ 64) :
    Calls Try.prog 23 #[.pointer (some ⟨t, 0, none⟩), .slice A k c, .int .u64 (v : Int)] w (PutOut w t k p v es) := by
  obtain ⟨top, hB, hN, hes, hk1, hk⟩ := hT.top
  have HC := hide (tr_check hB A c)
  have HP := hide (tr_path hB hN hk1 hk (c := c) hp)
  have HZ := hide hp.zp
  have HES := hide hes
  have HT := hide hT
  have HTB := hide hB
  have HPT := hide hp
  have htlt : t < w.heap.size := hB.lt
  have HLT := hide htlt
  have HLF := hide (fun (W : World) (hW : Below w.heap.size w W) => nd_leaf A k c p v W (hp.below hW) hv hk1 hk)
  clear hT hB hN hp hes htlt
  go_enter Try.func23, Try.ntmps23
  go_wp2_with fail
  refine HC.out.mono ?_
  rintro e w1 ⟨rfl, rfl⟩
  go_wp2_with fail
  refine HP.out.mono ?_
  rintro e w1 ⟨fs, bot, gs, below, B, d, hW, hF, hl, hE, rfl, hO, hb⟩
  have HW := hide hW
  have HF := hide hF
  have HB := hide hb
  obtain ⟨hcap, hR⟩ := own_rw hO
  have HE := hide hE
  have HR := hide hR
  rcases hE.cases_ with hgs | ⟨g, v0, hgs, hbe, hbot, hNl⟩
  · have hno := hE.no HZ.out hgs
    have HNO := hide hno
    have HFO := hide (tr_found_fork (n := gs.length) (d := d) (by rw [hgs]; simp) (fun f hf => (hF f hf).stay hb) hl (by rw [hgs] at hR ⊢; exact hR))
    have hnt : ∀ x, (p, x) ∉ es := fun x hx => by
      rw [← HES.out, Way.mem (fun f hf => (HF.out f hf).fk) HW.out] at hx
      exact hno x hx
    have HNT := hide hnt
    have HGS := hide hgs
    have hgl : gs.length = fs.length := by rw [hgs]; simp
    have HGL := hide hgl
    rw [hgs] at HR
    have HNT := hide (HNT.out v)
    cases hE with
    | leaf g v' hn => simp at hgs
    | none =>
      unfold ptrOf
      simp only [Option.map_none]
      clear hW hF hO hb hR hgs hno hnt hcap
      rw [hgl] at HFO HR ⊢
      clear hgl
      go_wp2_with fail
      refine HFO.out.mono ?_
      rintro e w2 ⟨⟨C, m, cc, rfl⟩, hb2⟩
      have t1 := (Blk.new w2 84 #[.slice C m cc, .int .u64 ((0 : Nat) : Int)]).cell 1
      simp at t1
      have hb3 := below_alloc (below_then HB.out hb2) (Nat.le_refl _) (.cells #[.slice C m cc, .int .u64 ((0 : Nat) : Int)] 84)
      have hq3 := below_alloc hb2 (Nat.le_refl _) (.cells #[.slice C m cc, .int .u64 ((0 : Nat) : Int)] 84)
      have HL := hide (HLF.out _ hb3)
      have HB3 := hide hb3
      have HQ3 := hide hq3
      clear hb2 hb3 hq3 HFO
      go_wp2_with fail
      refine HL.out.mono ?_
      rintro e w4 ⟨g4, rfl, hN4, -, hb4⟩
      have hb4' := below_then HB3.out hb4
      have hq4 := below_then HQ3.out hb4
      have hPL := put_leaf (v := v) HZ.out (fun f hf => (HF.out f hf).fk) HW.out (fun e he => by cases he)
      have HME := hide hPL.2
      have HUP := hide (tr_up (fs := fs) ⟨-1, p, [(p, v)]⟩ B fs.length d (HTB.out.below hb4') hk1 hk (HR.out.below hq4) rfl (by omega) (fun f hf => (HF.out f hf).stay hb4') hN4 hPL.1)
      have HB4 := hide hb4'
      clear hN4 hb4 hb4' hq4 hPL HL t1
      go_wp2_with fail
      refine HUP.out.mono ?_
      rintro e w5 ⟨t', g', rfl, ht', hT5, hN5, hb5⟩
      have HH := hide (And.intro ht' (And.intro hT5 (And.intro hN5 hb5)))
      clear ht' hT5 hN5 hb5
      go_wp2
      go_ret2
      obtain ⟨ht', hT5, hN5, hb5⟩ := HH.out
      refine ⟨t', _, rfl, up_tree hk1 hk hT5 hN5, ?_, ?_, below_then HB4.out hb5⟩
      · rw [← HES.out]; exact HME.out
      · constructor
        · intro h
          have := HB4.out.size
          have := HLT.out
          omega
        · intro h
          exact absurd h (HNT.out)
    | miss x hn hm =>
      have HN := hide hn
      have HM := hide hm
      unfold ptrOf
      simp only [Option.map_some]
      clear hW hF hO hb hR hgs hno hnt hcap hn hm
      rw [hgl] at HFO HR ⊢
      clear hgl
      go_wp2_with fail
      refine HFO.out.mono ?_
      rintro e w2 ⟨⟨C, m, cc, rfl⟩, hb2⟩
      have t1 := (Blk.new w2 84 #[.slice C m cc, .int .u64 ((0 : Nat) : Int)]).cell 1
      simp at t1
      have hb3 := below_alloc (below_then HB.out hb2) (Nat.le_refl _) (.cells #[.slice C m cc, .int .u64 ((0 : Nat) : Int)] 84)
      have hq3 := below_alloc hb2 (Nat.le_refl _) (.cells #[.slice C m cc, .int .u64 ((0 : Nat) : Int)] 84)
      have HL := hide (HLF.out _ hb3)
      have HB3 := hide hb3
      have HQ3 := hide hq3
      clear hb2 hb3 hq3 HFO
      go_wp2_with fail
      refine HL.out.mono ?_
      rintro e w4 ⟨g4, rfl, hN4, -, hb4⟩
      have hb4' := below_then HB3.out hb4
      have hq4 := below_then HQ3.out hb4
      obtain ⟨i1, i2, i3, i4, i5, i6, i7⟩ := HN.out.info
      obtain ⟨mm, hmm⟩ : ∃ mm : Nat, part x.2.pre p = (mm : Int) := ⟨(part x.2.pre p).toNat, by have := HM.out; omega⟩
      have hlm : x.2.lv < (mm : Int) := by rw [← hmm]; exact HM.out
      have HPR := hide (nd_pair (HN.out.stay hb4') hN4 hk1 hk hmm hlm (by omega))
      have hPP := fun g' => put_pair (v := v) (g' := g') HZ.out (fun f hf => (HF.out f hf).fk) HW.out hmm hlm i1 (fun e he => ⟨(i5 e he).1, (i5 e he).2.2⟩)
      have HPP := hide hPP
      have HB4 := hide hb4'
      have HQ4 := hide hq4
      clear i1 i2 i3 i4 i5 i6 i7 hmm hlm hPP hN4 hb4 hb4' hq4 HL t1
      go_wp2_with fail
      refine HPR.out.mono ?_
      rintro e w6 ⟨g6, rfl, hF6, -, hb6⟩
      have hN4 := hF6.node
      have hb4' := below_then HB4.out hb6
      have hq4 := below_then HQ4.out hb6
      have hPL := HPP.out g4
      have t1 := trivial
      have HL := trivial
      have hb4 := trivial
      clear HB4 HPR hF6 hb6
      have HME := hide hPL.2
      have HUP := hide (tr_up (fs := fs) ⟨mm, cut (mm + 1) x.2.pre, kidEs (pairK x.1 g4 x.2.lv (-1) x.2.pre p x.2.es [(p, v)] mm)⟩ B fs.length d (HTB.out.below hb4') hk1 hk (HR.out.below hq4) rfl (by omega) (fun f hf => (HF.out f hf).stay hb4') hN4 hPL.1)
      have HB4 := hide hb4'
      clear hN4 hb4 hb4' hq4 hPL HL t1
      go_wp2_with fail
      refine HUP.out.mono ?_
      rintro e w5 ⟨t', g', rfl, ht', hT5, hN5, hb5⟩
      have HH := hide (And.intro ht' (And.intro hT5 (And.intro hN5 hb5)))
      clear ht' hT5 hN5 hb5
      go_wp2
      go_ret2
      obtain ⟨ht', hT5, hN5, hb5⟩ := HH.out
      refine ⟨t', _, rfl, up_tree hk1 hk hT5 hN5, ?_, ?_, below_then HB4.out hb5⟩
      · rw [← HES.out]; exact HME.out
      · constructor
        · intro h
          have := HB4.out.size
          have := HLT.out
          omega
        · intro h
          exact absurd h (HNT.out)
  · have HBO := hide hbot
    have HFO := hide (tr_found_leaf (n := gs.length) (d := d) (fs := fs) (by rw [hgs]) (hNl.stay hb) hk hl (by rw [hgs] at hR ⊢; exact hR))
    have hgl : gs.length = fs.length + 1 := by rw [hgs]; simp
    have hin : (p, v0) ∈ es := by
      rw [← HES.out, Way.mem (fun f hf => (HF.out f hf).fk) HW.out, hbot]
      exact List.mem_singleton.2 rfl
    have hun : ∀ x, (p, x) ∈ es → x = v0 := fun x hx => by
      rw [← HES.out, Way.mem (fun f hf => (HF.out f hf).fk) HW.out, hbot] at hx
      injection List.mem_singleton.1 hx
    have HIN := hide hin
    have HUN := hide hun
    rw [hgs, ptrs_snoc] at HR
    rw [hbe]
    unfold ptrOf
    simp only [Option.map_none]
    clear hW hF hO hb hR hgs hE HE hNl hbot hin hun hbe
    rw [show (List.map (fun x => x.g) fs ++ [g]).length = fs.length + 1 by simp] at HR
    rw [hgl] at HFO hcap ⊢
    clear hgl
    by_cases hvv : v0 = v
    · subst hvv
      go_wp2_with fail
      refine HFO.out.mono ?_
      rintro e w2 ⟨⟨C, m, cc, rfl⟩, hb2⟩
      have t1 := (Blk.new w2 84 #[.slice C m cc, .int .u64 (v0 : Int)]).cell 1
      simp at t1
      have hb3 := below_alloc (below_then HB.out hb2) (Nat.le_refl _) (.cells #[.slice C m cc, .int .u64 (v0 : Int)] 84)
      have hq3 := below_alloc hb2 (Nat.le_refl _) (.cells #[.slice C m cc, .int .u64 (v0 : Int)] 84)
      have HL := hide (HLF.out _ hb3)
      have HB3 := hide hb3
      have HQ3 := hide hq3
      clear hb2 hb3 hq3 HFO
      go_wp2
      go_ret2
      refine ⟨t, es, rfl, HT.out.stay HB3.out, fun x => ?_, ?_, HB3.out⟩
      · constructor
        · intro hx
          by_cases hxp : x.1 = p
          · left
            obtain ⟨xp, xv⟩ := x
            simp only at hxp
            subst hxp
            rw [HUN.out xv hx]
          · exact .inr ⟨hx, hxp⟩
        · rintro (rfl | h)
          · exact HIN.out
          · exact h.1
      · exact ⟨fun _ => HIN.out, fun _ => rfl⟩
    · have evv : ((v0 : Int) == (v : Int)) = false := by simp; omega
      have HNT : Hid ((p, v) ∉ es) := hide fun h => hvv (HUN.out v h).symm
      have r2s := fun W => run_slice_to (P := Try.prog) (w := W) Try.underlying44 (sz := 1) Try.sizeOf51 B (fs.length + 1) d fs.length (by omega)
      clear hvv hcap
      go_wp2_with fail
      refine HFO.out.mono ?_
      rintro e w2 ⟨⟨C, m, cc, rfl⟩, hb2⟩
      have t1 := (Blk.new w2 84 #[.slice C m cc, .int .u64 (v0 : Int)]).cell 1
      simp at t1
      have hb3 := below_alloc (below_then HB.out hb2) (Nat.le_refl _) (.cells #[.slice C m cc, .int .u64 (v0 : Int)] 84)
      have hq3 := below_alloc hb2 (Nat.le_refl _) (.cells #[.slice C m cc, .int .u64 (v0 : Int)] 84)
      have HL := hide (HLF.out _ hb3)
      have HB3 := hide hb3
      have HQ3 := hide hq3
      clear hb2 hb3 hq3 HFO
      go_wp2_with fail
      refine HL.out.mono ?_
      rintro e w4 ⟨g4, rfl, hN4, -, hb4⟩
      have hb4' := below_then HB3.out hb4
      have hq4 := below_then HQ3.out hb4
      have hPL := put_leaf (v := v) HZ.out (fun f hf => (HF.out f hf).fk) HW.out (fun e he => by rw [HBO.out] at he; rw [List.mem_singleton.1 he])
      replace HR := hide HR.out.init
      have HME := hide hPL.2
      have HUP := hide (tr_up (fs := fs) ⟨-1, p, [(p, v)]⟩ B fs.length d (HTB.out.below hb4') hk1 hk (HR.out.below hq4) rfl (by omega) (fun f hf => (HF.out f hf).stay hb4') hN4 hPL.1)
      have HB4 := hide hb4'
      clear hN4 hb4 hb4' hq4 hPL HL t1
      go_wp2_with fail
      refine HUP.out.mono ?_
      rintro e w5 ⟨t', g', rfl, ht', hT5, hN5, hb5⟩
      have HH := hide (And.intro ht' (And.intro hT5 (And.intro hN5 hb5)))
      clear ht' hT5 hN5 hb5
      go_wp2
      go_ret2
      obtain ⟨ht', hT5, hN5, hb5⟩ := HH.out
      refine ⟨t', _, rfl, up_tree hk1 hk hT5 hN5, ?_, ?_, below_then HB4.out hb5⟩
      · rw [← HES.out]; exact HME.out
      · constructor
        · intro h
          have := HB4.out.size
          have := HLT.out
          omega
        · intro h
          exact absurd h (HNT.out)
/-- A fork with one kid less: another fork, or its other kid. -/
theorem nd_less {w : World} {k : Nat} {p : List Nat} {f : PF} (h : Fork w k f.g f.lv f.pre f.ks) (hk : k ≤ 16) (hp : Zp k p) {q : Kid} (hq : q ∈ f.ks) (hqa : q.at_ = addrOf p f.lv) :
    Calls Try.prog 46 #[.pointer (some ⟨f.g, 0, none⟩), .int .i64 (addrOf p f.lv : Int)] w fun e w' => ∃ (gn : Nat) (n : NT), e = .returned (.tuple #[.pointer (some ⟨gn, 0, none⟩), .int .i64 0]) ∧ NodeOf w' k gn n.lv n.pre n.es ∧
      (∀ e, e ∈ n.es ↔ ∃ r ∈ f.ks, r.at_ ≠ addrOf p f.lv ∧ e ∈ r.es) ∧ Zp k n.pre ∧ n.lv ≤ f.lv ∧ (∀ b, f.lv < b → addrOf n.pre b = addrOf f.pre b) ∧ Below w.heap.size w w' := by
  have hf := h.fk
  have hl := delK_len (a := addrOf p f.lv) hf.sort ⟨q, hq, hqa⟩
  have h2 := hf.two
  have ha := addr_lt_pow hp f.lv
  rcases Nat.lt_or_ge f.ks.length 3 with h3 | h3
  · obtain ⟨r, hr⟩ : ∃ r, delK f.ks (addrOf p f.lv) = [r] := List.length_eq_one_iff.1 (by omega)
    have hrm : r ∈ f.ks ∧ r.at_ ≠ addrOf p f.lv := mem_delK.1 (by rw [hr]; simp)
    have hrN : NodeOf w k r.blk r.lv r.pre r.es := by
      obtain ⟨A, c, gs, _, _, _, _, h5, _⟩ := h
      exact h5 r hrm.1
    refine (nd_without_two h ha hq hqa hr).mono fun e w' ⟨h4, h5⟩ => ⟨r.blk, ⟨r.lv, r.pre, r.es⟩, h4, hrN.stay h5, fun e => ?_, hf.ksz r hrm.1, ?_, (hf.at_ r hrm.1).2, h5⟩
    · constructor
      · intro he
        exact ⟨r, hrm.1, hrm.2, he⟩
      · rintro ⟨s, hs, hsa, hes⟩
        have : s ∈ delK f.ks (addrOf p f.lv) := mem_delK.2 ⟨hs, hsa⟩
        rw [hr, List.mem_singleton] at this
        rw [← this]
        exact hes
    · have := hf.low r hrm.1
      show r.lv ≤ _
      omega
  · refine (nd_without h ha hq hqa h3).mono fun e w' ⟨gn, h4, h5, _, h6⟩ => ⟨gn, ⟨f.lv, f.pre, kidEs (delK f.ks (addrOf p f.lv))⟩, h4, h5.node, fun e => ?_, hf.pre, Int.le_refl _, fun _ _ => rfl, h6⟩
    unfold kidEs
    rw [List.mem_flatMap]
    constructor
    · rintro ⟨s, hs, hes⟩
      exact ⟨s, (mem_delK.1 hs).1, (mem_delK.1 hs).2, hes⟩
    · rintro ⟨s, hs, hsa, hes⟩
      exact ⟨s, mem_delK.2 ⟨hs, hsa⟩, hes⟩
theorem idx2 {j n : Nat} (hn : n = j + 2) (hj : j ≤ 64) : (n : Int) - 2 = (j : Int) ∧ j < n ∧ (0 : Int) ≤ (j : Int) ∧ (j : Int) ≤ 70368744177664 ∧ IntKind.i64.wrap (j : Int) = (j : Int) ∧ wrap64 (j : Int) = (j : Int) ∧ (j : Int) < (n : Int) ∧ ((n : Int) == 1) = false := by
  refine ⟨by omega, by omega, by omega, by omega, by rw [IntKind.wrap_i64]; omega, by unfold wrap64; omega, by omega, ?_⟩
  simp
  omega
/-- What Del answers. -/
def DelOut (w : World) (t k : Nat) (p : List Nat) (es : List Ent) (e : Ending) (w' : World) : Prop :=
  ((e = .returned (.tuple #[.pointer none, .int .i64 6]) ∧ ∀ v, (p, v) ∉ es) ∨ ∃ t' es' v, e = .returned (.tuple #[.pointer (some ⟨t', 0, none⟩), .int .i64 0]) ∧ TreeOf w' k t' es' ∧ (p, v) ∈ es ∧ (∀ x, x ∈ es' ↔ x ∈ es ∧ x.1 ≠ p)) ∧ Below w.heap.size w w'
set_option maxHeartbeats 4000000 in
set_option maxRecDepth 100000 in
theorem tr_del {w : World} {t k : Nat} {es : List Ent} (hT : TreeOf w k t es) {A : Option Addr} {c : Nat} {p : List Nat} (hp : Pt w A k p) :
    Calls Try.prog 28 #[.pointer (some ⟨t, 0, none⟩), .slice A k c] w (DelOut w t k p es) := by
  obtain ⟨top, hB, hN, hes, hk1, hk⟩ := hT.top
  have HC := hide (tr_check hB A c)
  have HP := hide (tr_path hB hN hk1 hk (c := c) hp)
  have HZ := hide hp.zp
  have HES := hide hes
  have HTB := hide hB
  have HPT := hide hp
  clear hT hB hN hp hes
  go_enter Try.func28, Try.ntmps28
  go_wp2_with fail
  refine HC.out.mono ?_
  rintro e w1 ⟨rfl, rfl⟩
  go_wp2_with fail
  refine HP.out.mono ?_
  rintro e w1 ⟨fs, bot, gs, below, B, d, hW, hF, hl, hE, rfl, hO, hb⟩
  have HW := hide hW
  have HF := hide hF
  have HB := hide hb
  obtain ⟨hcap, hR⟩ := own_rw hO
  have HR := hide hR
  rcases hE.cases_ with hgs | ⟨g, v0, hgs, hbe, hbot, hNl⟩
  · have hno := hE.no HZ.out hgs
    have HFO := hide (tr_found_fork (n := gs.length) (d := d) (by rw [hgs]; simp) (fun f hf => (hF f hf).stay hb) hl (by rw [hgs] at hR ⊢; exact hR))
    have hnt : ∀ x, (p, x) ∉ es := fun x hx => by
      rw [← HES.out, Way.mem (fun f hf => (HF.out f hf).fk) HW.out] at hx
      exact hno x hx
    have HNT := hide hnt
    unfold ptrOf
    clear hW hF hO hb hR hgs hno hnt hcap hE
    go_wp2_with fail
    refine HFO.out.mono ?_
    rintro e w2 ⟨⟨C, m, cc, rfl⟩, hb2⟩
    have HB3 := hide (below_alloc (below_then HB.out hb2) (Nat.le_refl _) (.cells #[.slice C m cc, .int .u64 ((0 : Nat) : Int)] 84))
    clear hb2
    go_wp2
    go_ret2
    exact ⟨.inl ⟨rfl, HNT.out⟩, HB3.out⟩
  · have HBO := hide hbot
    have HFO := hide (tr_found_leaf (n := gs.length) (d := d) (fs := fs) (by rw [hgs]) (hNl.stay hb) hk hl (by rw [hgs] at hR ⊢; exact hR))
    have hgl : gs.length = fs.length + 1 := by rw [hgs]; simp
    have hin : (p, v0) ∈ es := by
      rw [← HES.out, Way.mem (fun f hf => (HF.out f hf).fk) HW.out, hbot]
      exact List.mem_singleton.2 rfl
    have HIN := hide hin
    rw [hgs, ptrs_snoc] at HR
    unfold ptrOf
    clear hF hO hb hR hgs hE hNl hbot hin hbe
    rw [show (List.map (fun x => x.g) fs ++ [g]).length = fs.length + 1 by simp] at HR
    rw [hgl] at HFO hcap ⊢
    clear hgl
    rcases (show fs = [] ∨ ∃ fs0 f, fs = fs0 ++ [f] from (List.eq_nil_or_concat fs).imp id fun ⟨a, b, h⟩ => ⟨a, b, by rw [h, List.concat_eq_append]⟩) with rfl | ⟨fs0, f, rfl⟩
    · have hes0 : es = [(p, v0)] := by
        rw [← HES.out, show top = bot from hW, HBO.out]
        rfl
      have HE0 := hide hes0
      have t0 := (Blk.cell HTB.out 0)
      simp at t0
      clear hW hcap hes0
      simp only [List.length_nil, Nat.zero_add] at HFO ⊢
      go_wp2_with fail
      refine HFO.out.mono ?_
      rintro e w2 ⟨⟨C, m, cc, rfl⟩, hb2⟩
      have hb3 := below_alloc (below_then HB.out hb2) (Nat.le_refl _) (.cells #[.slice C m cc, .int .u64 (v0 : Int)] 84)
      have HB3 := hide hb3
      have t0 := Blk.cell (Blk.below HTB.out hb3) 0
      simp at t0
      clear hb2 hb3
      go_wp2
      go_ret2
      refine ⟨.inr ⟨_, [], v0, rfl, ⟨hk1, hk, .inl ⟨by
        have h := Blk.new (w2.alloc (.cells #[.slice C m cc, .int .u64 (v0 : Int)] 84)) 79 #[.int .i64 (k : Int), .pointer none]
        rw [show (w2.alloc (.cells #[.slice C m cc, .int .u64 (v0 : Int)] 84)).heap.size = w2.heap.size + 1 by simp] at h
        exact h, rfl⟩⟩, HIN.out, fun x => ?_⟩, below_alloc HB3.out (Nat.le_refl _) _⟩
      rw [HE0.out]
      simp only [List.not_mem_nil, List.mem_singleton, false_iff]
      rintro ⟨rfl, h⟩
      exact h rfl
    · have hlen : (fs0 ++ [f]).length + 1 = fs0.length + 2 := by simp
      obtain ⟨c1, c2, c3⟩ := hW.cut
      have hFk := HF.out f (by simp)
      obtain ⟨q, hq, hqa, hqx⟩ := kidAt_some (c3.symm.trans HBO.out)
      have HLS := hide (fun (W : World) (hW : Below w.heap.size w W) => nd_less (hFk.stay hW) hk HZ.out hq hqa)
      have HLV := hide (fun (W : World) (hW : Below w.heap.size w W) => nd_level (hFk.stay hW).node)
      have HAD := hide (fun (W : World) (hW : Below w.heap.size w W) => zb_addr A k p c f.lv W (HPT.out.below hW) hk1 hk hFk.fk.lv)
      have HCW := hide c1
      have hq1 : ∀ e ∈ esOf (kidAt f.ks (addrOf p f.lv)), e.1 = p := fun e he => by
        rw [← c3, HBO.out] at he
        rw [List.mem_singleton.1 he]
      have HQ1 := hide hq1
      have HFK := hide hFk.fk
      have hl0 : fs0.length ≤ 64 := by simp at hl; omega
      have hfs0 : ∀ f ∈ fs0, Fork w k f.g f.lv f.pre f.ks := fun f hf => HF.out f (by simp [hf])
      have HF0 := hide hfs0
      obtain ⟨n, hn⟩ : ∃ n, n = fs0.length + 2 := ⟨_, rfl⟩
      obtain ⟨j, hj⟩ : ∃ j, j = fs0.length := ⟨_, rfl⟩
      rw [hlen, ← hn] at HFO hcap HR ⊢
      have hRj : (ptrs (List.map (fun x => x.g) (fs0 ++ [f])) ++ [Value.pointer (some ⟨g, 0, none⟩)])[j]? = some (.pointer (some ⟨f.g, 0, none⟩)) := by
        rw [hj]; simp [ptrs]
      have hRt : Rw w1 1 B j (ptrs (fs0.map (·.g))) := by
        have := HR.out.take_ (i := j) (by omega)
        rw [Nat.mul_one, hj] at this
        simpa [ptrs, hj] using this
      have HRT := hide hRt
      obtain ⟨b, o, rfl, hbl, u, hu, k0⟩ := HR.out.one (i := j) (by omega)
      rw [hRj] at hu
      injection hu with hu
      rw [← hu] at k0
      have K0 := hide (fun (W : World) (hW : Below w1.heap.size w1 W) => ((hW.cell (p := ⟨b, o + j, none⟩) hbl).trans k0))
      obtain ⟨e2, hin, hi0, hi7, e5, e6, hin', ne1⟩ := idx2 (j := j) (n := n) (hn.trans (by rw [hj])) (by rw [hj]; exact hl0)
      have hjd : j ≤ d := Nat.le_trans (Nat.le_of_lt hin) hcap
      have r2s := fun W => run_slice_to (P := Try.prog) (w := W) Try.underlying44 (sz := 1) Try.sizeOf51 (some ⟨b, o, none⟩) n d j hjd
      have HJ := hide hj
      clear hW hcap hlen c1 c2 c3 hFk hq hqa hqx hq1 hfs0 hn hRj hRt hu hj
      go_wp2_with fail
      refine HFO.out.mono ?_
      rintro e w2 ⟨⟨C, m, cc, rfl⟩, hb2⟩
      have hb3 := below_alloc (below_then HB.out hb2) (Nat.le_refl _) (.cells #[.slice C m cc, .int .u64 (v0 : Int)] 84)
      have hq3 := below_alloc hb2 (Nat.le_refl _) (.cells #[.slice C m cc, .int .u64 (v0 : Int)] 84)
      have HB3 := hide hb3
      have HQ3 := hide hq3
      have k0 := K0.out _ hq3
      have HL := hide (HLV.out _ hb3)
      have HA := hide (HAD.out _ hb3)
      have HN := hide (HLS.out _ hb3)
      clear hb2 hb3 hq3 HFO
      go_wp2_with fail
      refine HL.out.mono ?_
      rintro e w3 ⟨rfl, rfl⟩
      go_wp2_with fail
      refine HA.out.mono ?_
      rintro e w3 ⟨rfl, rfl⟩
      go_wp2_with fail
      refine HN.out.mono ?_
      rintro e w4 ⟨gn, nn, rfl, hN4, hes4, hz4, hl4, ha4, hb4⟩
      have hb4' := below_then HB3.out hb4
      have hq4 := below_then HQ3.out hb4
      have hPL := del_fork (bot := none) HZ.out (fun f hf => (HF0.out f hf).fk) HFK.out HCW.out HQ1.out hes4 hz4 hl4 ha4
      have HME := hide hPL.2
      have HUP := hide (tr_up (fs := fs0) nn (some ⟨b, o, none⟩) j d (HTB.out.below hb4') hk1 hk (HRT.out.below hq4) HJ.out.symm (by have := HJ.out; omega) (fun f hf => (HF0.out f hf).stay hb4') hN4 hPL.1)
      have HB4 := hide hb4'
      clear hN4 hb4 hb4' hq4 hPL HL HA HN k0 hes4 hz4 hl4 ha4
      go_wp2_with fail
      refine HUP.out.mono ?_
      rintro e w5 ⟨t', g', rfl, ht', hT5, hN5, hb5⟩
      have HH := hide (And.intro ht' (And.intro hT5 (And.intro hN5 hb5)))
      clear ht' hT5 hN5 hb5
      go_wp2
      go_ret2
      obtain ⟨ht', hT5, hN5, hb5⟩ := HH.out
      refine ⟨.inr ⟨t', _, v0, rfl, up_tree hk1 hk hT5 hN5, HIN.out, ?_⟩, below_then HB4.out hb5⟩
      rw [← HES.out]
      exact HME.out
end Go.Proofs.Ytfoapkcgdkfggaa
set_option linter.unusedSimpArgs false
set_option linter.unusedVariables false
namespace Go.Proofs.Ytfoapkcgdkfggaa
open Go.RowKit
/-! ### A fork's kids, ahead of a point and behind it -/
section
variable {k : Nat} {p : List Nat} {f : PF}
theorem FK.agree (h : FK k f) (hp : Zp k p) (hc : part f.pre p ≤ (f.lv : Int)) : ∀ b : Nat, f.lv < b → addrOf f.pre b = addrOf p b := by
  intro b hb
  exact (part_le_iff h.pre hp f.lv (by omega)).1 hc b (by omega)
theorem FK.kid_lt (h : FK k f) (hp : Zp k p) (hc : part f.pre p ≤ (f.lv : Int)) {q : Kid} (hq : q ∈ f.ks) (hlt : q.at_ < addrOf p f.lv) : ∀ e ∈ q.es, Zlt e.1 p := by
  intro e he
  obtain ⟨h1, h2, h3⟩ := h.es q hq e he
  exact ⟨f.lv, fun b hb => (h3 b hb).trans (h.agree hp hc b hb), by rw [h2]; exact hlt⟩
theorem FK.kid_gt (h : FK k f) (hp : Zp k p) (hc : part f.pre p ≤ (f.lv : Int)) {q : Kid} (hq : q ∈ f.ks) (hlt : addrOf p f.lv < q.at_) : ∀ e ∈ q.es, Zlt p e.1 := by
  intro e he
  obtain ⟨h1, h2, h3⟩ := h.es q hq e he
  exact ⟨f.lv, fun b hb => ((h3 b hb).trans (h.agree hp hc b hb)).symm, by rw [h2]; exact hlt⟩
end
/-! ### Places among the kids -/
theorem kidEs_append (a b : List Kid) : kidEs (a ++ b) = kidEs a ++ kidEs b := by unfold kidEs; exact List.flatMap_append
theorem kidEs_cons (q : Kid) (b : List Kid) : kidEs (q :: b) = q.es ++ kidEs b := by unfold kidEs; exact List.flatMap_cons
theorem mem_kidEs {ks : List Kid} {e : Ent} : e ∈ kidEs ks ↔ ∃ q ∈ ks, e ∈ q.es := by unfold kidEs; exact List.mem_flatMap
theorem kidEs_at {ks : List Kid} {j : Nat} {q : Kid} (h : ks[j]? = some q) : kidEs ks = kidEs (ks.take j) ++ (q.es ++ kidEs (ks.drop (j + 1))) := by
  conv => lhs; rw [th_split h]
  rw [kidEs_append, kidEs_cons]
/-! ### What stands around a point in a list in z-order -/
/-- A list in three: what is ahead of a point, what may be either, what is behind it. -/
structure Mid (p : List Nat) (es A es' B : List Ent) : Prop where
  eq : es = A ++ (es' ++ B)
  lo : ∀ e ∈ A, Zlt e.1 p
  hi : ∀ e ∈ B, Zlt p e.1
section
variable {k : Nat} {p : List Nat} {es A es' B : List Ent}
theorem Mid.kid (h : Mid p es A es' B) {f : PF} (hf : FK k f) (hp : Zp k p) (hc : part f.pre p ≤ (f.lv : Int)) (he : es' = kidEs f.ks) {j : Nat} {q : Kid} (hq : f.ks[j]? = some q) (hlo : ∀ r ∈ f.ks.take j, r.at_ < addrOf p f.lv) (hhi : ∀ r ∈ f.ks.drop (j + 1), addrOf p f.lv < r.at_) :
    Mid p es (A ++ kidEs (f.ks.take j)) q.es (kidEs (f.ks.drop (j + 1)) ++ B) := by
  subst he
  refine ⟨?_, fun e h' => ?_, fun e h' => ?_⟩
  · rw [h.eq, kidEs_at hq]
    simp only [List.append_assoc]
  · rcases List.mem_append.1 h' with h' | h'
    · exact h.lo e h'
    · obtain ⟨r, hr, he⟩ := mem_kidEs.1 h'
      exact hf.kid_lt hp hc (List.mem_of_mem_take hr) (hlo r hr) e he
  · rcases List.mem_append.1 h' with h' | h'
    · obtain ⟨r, hr, he⟩ := mem_kidEs.1 h'
      exact hf.kid_gt hp hc (List.mem_of_mem_drop hr) (hhi r hr) e he
    · exact h.hi e h'
theorem Mid.lt (h : Mid p es A es' B) (hl : ∀ e ∈ es', Zlt e.1 p) : Mid p es (A ++ es') [] B := by
  refine ⟨by rw [h.eq]; simp, fun e h' => ?_, h.hi⟩
  rcases List.mem_append.1 h' with h' | h'
  · exact h.lo e h'
  · exact hl e h'
end
end Go.Proofs.Ytfoapkcgdkfggaa
set_option linter.unusedSimpArgs false
set_option linter.unusedVariables false
namespace Go.Proofs.Ytfoapkcgdkfggaa
open Go.RowKit
def fromM : Value → Value → Nat
  | _, .pointer none => 0
  | .int _ x, _ => 70001 - x.toNat
  | _, _ => 0
theorem fromM_lt {ks : List Kid} (hs : ks.Pairwise fun q r => q.at_ < r.at_) (hb : ∀ q ∈ ks, q.at_ < 65536) {j : Nat} {q : Kid} (hq : ks[j]? = some q) :
    fromM (.int .i64 ((kAt ks (j + 1) : Nat) : Int)) (kPt ks (j + 1)) < fromM (.int .i64 ((q.at_ : Nat) : Int)) (.pointer (some ⟨q.blk, 0, none⟩)) := by
  have h1 := hb q (List.mem_of_getElem? hq)
  cases hr : ks[j + 1]? with
  | none =>
    rw [kPt_none (by simpa using hr)]
    simp only [fromM]
    omega
  | some r =>
    rw [kAt_some hr, kPt_some hr]
    have h2 := hb r (List.mem_of_getElem? hr)
    have h3 := kids_lt hs hq hr (by omega)
    simp only [fromM]
    omega
/-- What All gives. -/
def AllOut (w : World) (k : Nat) (es : List Ent) (e : Ending) (w' : World) : Prop :=
  ∃ (A : Option Addr) (c : Nat) (rows : List ER), e = .returned (.slice A rows.length c) ∧ ents rows = es ∧ w'.ownsRow w.heap.size 84 2 (.slice A rows.length c) rows.length (rows.flatMap entv) ∧ (∀ r ∈ rows, r.okT w' ∧ r.n = k) ∧ Below w.heap.size w w'
theorem AllOut.at_ {w w' : World} {k : Nat} {es : List Ent} {e : Ending} (h : AllOut w k es e w') : ∃ (A : Option Addr) (c : Nat) (rows : List ER), e = .returned (.slice A rows.length c) ∧ ents rows = es ∧ EntsAt w' A rows.length rows ∧ rows.length ≤ c ∧ (∀ r ∈ rows, r.n = k) ∧ Below w.heap.size w w' := by
  obtain ⟨A, c, rows, h1, h2, h3, h4, h5⟩ := h
  obtain ⟨h6, h7⟩ := own_rw h3
  exact ⟨A, c, rows, h1, h2, ⟨h7, fun r hr => (h4 r hr).1.1⟩, h6, fun r hr => (h4 r hr).2, h5⟩
end Go.Proofs.Ytfoapkcgdkfggaa
set_option linter.unusedSimpArgs false
set_option linter.unusedVariables false
namespace Go.Proofs.Ytfoapkcgdkfggaa
open Go.RowKit
/-- What a shape tells. -/
structure SC where
  lv : Int
  xs : List Int
  pl : List Int
  dn : Bool
  v : Int
structure SR where
  A : Option Addr
  k : Nat
  c : Nat
  C : Option Addr
  m : Nat
  f : Nat
  sc : SC
/-- A row that stays where rows of other types grow above the base. -/
def Still (base : Nat) (w : World) (e : TypeId) (A : Option Addr) (n : Nat) : Prop := 0 < n → ∃ b o, A = some ⟨b, o, none⟩ ∧ b < w.heap.size ∧ (b < base ∨ ∃ cs fr, w.heap[b]? = some (.cells cs e fr))
theorem Still.below {base : Nat} {w w' : World} {e : TypeId} {A : Option Addr} {n : Nat} (h : Still base w e A n) (hb : Below w.heap.size w w') : Still base w' e A n := by
  intro hn
  obtain ⟨b, o, h1, hl, h2⟩ := h hn
  refine ⟨b, o, h1, Nat.lt_of_lt_of_le hl hb.size, ?_⟩
  rcases h2 with h2 | ⟨cs, fr, h2⟩
  · exact .inl h2
  · exact .inr ⟨cs, fr, (hb.block b hl).trans h2⟩
theorem Still.ty {base : Nat} {w : World} {e : TypeId} {A : Option Addr} {n : Nat} (h : TyRow w e A n) : Still base w e A n := by
  intro hn
  obtain ⟨b, o, cs, fr, h1, h2⟩ := h hn
  exact ⟨b, o, h1, (Array.getElem?_eq_some_iff.1 h2).1, .inr ⟨cs, fr, h2⟩⟩
theorem Still.mono {base base' : Nat} {w : World} {e : TypeId} {A : Option Addr} {n : Nat} (h : Still base w e A n) (hb : base ≤ base') : Still base' w e A n := by
  intro hn
  obtain ⟨b, o, h1, hl, h2⟩ := h hn
  refine ⟨b, o, h1, hl, ?_⟩
  rcases h2 with h2 | h2
  · exact .inl (by omega)
  · exact .inr h2
/-- The block of a row that stays is not the one that grows. -/
theorem Still.ne {base base' : Nat} {w : World} {e t : TypeId} {A : Option Addr} {n m sz : Nat} {v : Value} {xs : List Value} (h : Still base w e A n) (ho : w.ownsRow base' t sz v m xs) (hbb : base ≤ base') (hne : e ≠ t) (hn : 0 < n) :
    ∃ b o, A = some ⟨b, o, none⟩ ∧ b < w.heap.size ∧ some b ≠ v.ownBlock := by
  obtain ⟨b, o, h1, hl, h2⟩ := h hn
  refine ⟨b, o, h1, hl, fun hv => ?_⟩
  rcases ho.2 with ⟨rfl, _⟩ | ⟨g, cap, cur, rfl, hg, hh, _⟩
  · simp [Value.ownBlock] at hv
  · have hgb : b = g := by simpa [Value.ownBlock] using hv
    subst hgb
    rcases h2 with h2 | ⟨cs, fr, h2⟩
    · omega
    · rw [hh] at h2
      injection h2 with h2
      injection h2 with _ h2
      exact hne h2.symm
theorem Still.grown {base base' : Nat} {w w' : World} {e t : TypeId} {A : Option Addr} {n m sz : Nat} {v : Value} {xs : List Value} (h : Still base w e A n) (ho : w.ownsRow base' t sz v m xs) (hbb : base ≤ base') (hne : e ≠ t) (hg : w.grownBy w' v.ownBlock) : Still base w' e A n := by
  intro hn
  obtain ⟨b, o, h1, hl, h3⟩ := h.ne ho hbb hne hn
  obtain ⟨b', o', h1', hl', h2⟩ := h hn
  rw [h1] at h1'
  injection h1' with h1'
  injection h1' with h1' h1''
  subst h1'
  have hblk := hg.block b hl h3
  have hlt : b < w'.heap.size := by
    have h5 : w.heap[b]? = some w.heap[b] := by simp [hl]
    rw [← hblk] at h5
    exact (Array.getElem?_eq_some_iff.1 h5).1
  refine ⟨b, o, h1, hlt, ?_⟩
  rcases h2 with h2 | ⟨cs, fr, h2⟩
  · exact .inl h2
  · exact .inr ⟨cs, fr, hblk.trans h2⟩
theorem Rw.grown_still {base base' : Nat} {w w' : World} {e t : TypeId} {A : Option Addr} {n m sz : Nat} {v : Value} {xs vs : List Value} (hR : Rw w 1 A n vs) (h : Still base w e A n) (ho : w.ownsRow base' t sz v m xs) (hbb : base ≤ base') (hne : e ≠ t) (hg : w.grownBy w' v.ownBlock) : Rw w' 1 A n vs := by
  refine ⟨hR.1, fun hn => ?_⟩
  obtain ⟨b, o, h1, hl, h3⟩ := h.ne ho hbb hne hn
  obtain ⟨b', o', h1', hl', hc⟩ := hR.2 hn
  rw [h1] at h1'
  injection h1' with h1'
  injection h1' with h1' h1''
  subst h1' h1''
  have hblk := hg.block b hl h3
  have hlt : b < w'.heap.size := by
    have h5 : w.heap[b]? = some w.heap[b] := by simp [hl]
    rw [← hblk] at h5
    exact (Array.getElem?_eq_some_iff.1 h5).1
  refine ⟨b, o, h1, hlt, fun j u hu => ?_⟩
  rw [World.cell?_of_block (w := w) (a := ⟨b, o + j, none⟩) hblk]
  exact hc j u hu
def SR.ok (base : Nat) (w : World) (r : SR) : Prop :=
  Rw w 1 r.A r.k (r.sc.xs.map fun z => .int .u64 z) ∧ Rw w 1 r.C r.m (r.sc.pl.map fun z => .int .i64 z) ∧ r.k ≤ 65536 ∧ r.m ≤ 65536 ∧ Still base w 36 r.A r.k ∧ Still base w 3 r.C r.m
theorem SR.ok.below {base : Nat} {w w' : World} {r : SR} (h : r.ok base w) (hb : Below w.heap.size w w') : r.ok base w' :=
  ⟨h.1.below hb, h.2.1.below hb, h.2.2.1, h.2.2.2.1, h.2.2.2.2.1.below hb, h.2.2.2.2.2.below hb⟩
theorem SR.ok.grown {base base' : Nat} {w w' : World} {t : TypeId} {m sz : Nat} {v : Value} {xs : List Value} {r : SR} (h : r.ok base w) (ho : w.ownsRow base' t sz v m xs) (hbb : base ≤ base') (h1 : 36 ≠ t) (h2 : 3 ≠ t) (hg : w.grownBy w' v.ownBlock) : r.ok base w' :=
  ⟨h.1.grown_still h.2.2.2.2.1 ho hbb h1 hg, h.2.1.grown_still h.2.2.2.2.2 ho hbb h2 hg, h.2.2.1, h.2.2.2.1, h.2.2.2.2.1.grown ho hbb h1 hg, h.2.2.2.2.2.grown ho hbb h2 hg⟩
/-- What Shape and Kid answer of one node. -/
structure NodeShape (w : World) (g : Nat) (sc : SC) (gs : List Nat) : Prop where
  len : gs.length ≤ 65536
  pl : sc.pl.length = gs.length
  shape : ∀ W, Below w.heap.size w W → Calls Try.prog 34 #[.pointer (some ⟨g, 0, none⟩)] W fun e w' => ∃ A k c C f, e = .returned (.agg #[.int .i64 sc.lv, .slice A k c, .slice C gs.length f, .bool sc.dn, .int .u64 sc.v]) ∧ k ≤ 16 ∧
    Rw w' 1 A k (sc.xs.map fun z => .int .u64 z) ∧ Rw w' 1 C gs.length (sc.pl.map fun z => .int .i64 z) ∧ TyRow w' 36 A k ∧ TyRow w' 3 C gs.length ∧ Below W.heap.size W w'
  kid : ∀ (i g' : Nat), gs[i]? = some g' → ∃ a, sc.pl[i]? = some a ∧ ∀ W, Below w.heap.size w W → Calls Try.prog 35 #[.pointer (some ⟨g, 0, none⟩), .int .i64 a] W fun e w' => e = .returned (.pointer (some ⟨g', 0, none⟩)) ∧ Below W.heap.size W w'
theorem NodeShape.stay {w w' : World} {g : Nat} {sc : SC} {gs : List Nat} (h : NodeShape w g sc gs) (hb : Below w.heap.size w w') : NodeShape w' g sc gs :=
  ⟨h.len, h.pl, fun W hW => h.shape W (below_then hb hW), fun i g' hi => by
    obtain ⟨a, h1, h2⟩ := h.kid i g' hi
    exact ⟨a, h1, fun W hW => h2 W (below_then hb hW)⟩⟩
/-- The shapes of a node and of all below it, each ahead of its kids'. -/
inductive SN (w : World) : Nat → List SC → Prop
  | mk {g : Nat} {sc : SC} {gs : List Nat} {Ls : List (List SC)} (hs : NodeShape w g sc gs) (hl : gs.length = Ls.length) (hk : ∀ (i g' : Nat) (L : List SC), gs[i]? = some g' → Ls[i]? = some L → SN w g' L) : SN w g (sc :: Ls.flatten)
theorem SN.stay {w w' : World} {g : Nat} {L : List SC} (h : SN w g L) (hb : Below w.heap.size w w') : SN w' g L := by
  induction h with
  | mk hs hl hk ih => exact .mk (hs.stay hb) hl fun i g' L h1 h2 => ih i g' L h1 h2
theorem SN.ne {w : World} {g : Nat} {L : List SC} (h : SN w g L) : 0 < L.length := by
  cases h with
  | mk hs hl hk => simp
/-- Entries in runs of one address. -/
def grp (m : Nat) : List Ent → List (List Ent)
  | [] => []
  | e :: l => match grp m l with
    | [] => [[e]]
    | [] :: gs => [e] :: gs
    | (f :: g) :: gs => if addrOf e.1 m = addrOf f.1 m then (e :: f :: g) :: gs else [e] :: (f :: g) :: gs
theorem grp_cons (m : Nat) (e : Ent) (l : List Ent) : grp m (e :: l) = match grp m l with
    | [] => [[e]]
    | [] :: gs => [e] :: gs
    | (f :: g) :: gs => if addrOf e.1 m = addrOf f.1 m then (e :: f :: g) :: gs else [e] :: (f :: g) :: gs := rfl
theorem grp_head (m : Nat) (f : Ent) (l : List Ent) : ∃ g gs, grp m (f :: l) = (f :: g) :: gs := by
  rw [grp_cons]
  cases grp m l with
  | nil => exact ⟨_, _, rfl⟩
  | cons x gs =>
    cases x with
    | nil => exact ⟨_, _, rfl⟩
    | cons y g =>
      by_cases h : addrOf f.1 m = addrOf y.1 m
      · simp only [h, if_true]; exact ⟨_, _, rfl⟩
      · simp only [h, if_false]; exact ⟨_, _, rfl⟩
theorem grp_run {m a : Nat} : ∀ (g : List Ent) (l : List Ent), g ≠ [] → (∀ e ∈ g, addrOf e.1 m = a) → (∀ f, l.head? = some f → addrOf f.1 m ≠ a) → grp m (g ++ l) = g :: grp m l
  | [], l, h, _, _ => absurd rfl h
  | [e], l, _, hg, hl => by
    show grp m (e :: l) = [e] :: grp m l
    rw [grp_cons]
    cases l with
    | nil => rfl
    | cons f l =>
      have hne : addrOf e.1 m ≠ addrOf f.1 m := by
        have h1 := hg e List.mem_cons_self
        have h2 := hl f rfl
        omega
      obtain ⟨g, gs, h3⟩ := grp_head m f l
      rw [h3]
      simp only [hne, if_false]
  | e :: f :: g, l, _, hg, hl => by
    have ih := grp_run (m := m) (a := a) (f :: g) l (by simp) (fun x hx => hg x (List.mem_cons_of_mem _ hx)) hl
    show grp m (e :: ((f :: g) ++ l)) = _
    rw [grp_cons, ih]
    have h1 := hg e List.mem_cons_self
    have h2 := hg f (by simp)
    simp only [h1, h2, if_true]
theorem grp_flat {m : Nat} : ∀ (Gs : List (List Ent)), (∀ g ∈ Gs, g ≠ []) → (∀ g ∈ Gs, ∀ e ∈ g, ∀ f ∈ g, addrOf e.1 m = addrOf f.1 m) → Gs.Pairwise (fun g h => ∀ e ∈ g, ∀ f ∈ h, addrOf e.1 m ≠ addrOf f.1 m) → grp m Gs.flatten = Gs
  | [], _, _, _ => rfl
  | g :: Gs, h1, h2, h3 => by
    have ih := grp_flat (m := m) Gs (fun g hg => h1 g (List.mem_cons_of_mem _ hg)) (fun g hg => h2 g (List.mem_cons_of_mem _ hg)) (List.pairwise_cons.1 h3).2
    obtain ⟨e, t, rfl⟩ := List.exists_cons_of_ne_nil (h1 g List.mem_cons_self)
    rw [List.flatten_cons, grp_run (a := addrOf e.1 m) (e :: t) Gs.flatten (by simp) (fun x hx => h2 _ List.mem_cons_self x hx e List.mem_cons_self) ?_, ih]
    intro f hf heq
    cases Gs with
    | nil => simp at hf
    | cons g' Gs =>
      obtain ⟨e', t', rfl⟩ := List.exists_cons_of_ne_nil (h1 g' (by simp))
      simp at hf
      subst hf
      exact (List.pairwise_cons.1 h3).1 _ List.mem_cons_self e List.mem_cons_self e' List.mem_cons_self heq.symm
/-- The first and the last entry of a fork part at its level; its kids' entries are the runs. -/
theorem FK.runs {k : Nat} {f : PF} (h : FK k f) (hne : ∀ q ∈ f.ks, q.es ≠ []) : (∀ (e g : Ent) (l : List Ent) (hl : kidEs f.ks = e :: g :: l), part e.1 ((e :: g :: l).getLast (by simp)).1 = (f.lv : Int)) ∧ grp f.lv (kidEs f.ks) = f.ks.map (·.es) := by
  have hk : kidEs f.ks = (f.ks.map (·.es)).flatten := by unfold kidEs; rw [List.flatMap_def]
  constructor
  · intro e g l hl
    have h2 := h.two
    have hs := h.sort
    have h0 := h
    obtain ⟨q, ks', hks⟩ : ∃ q ks', f.ks = q :: ks' := List.exists_cons_of_length_pos (by omega)
    have hlen : ks' ≠ [] := by
      intro h3
      rw [hks, h3] at h2
      simp at h2
    obtain ⟨r, hr⟩ : ∃ r, r = ks'.getLast hlen := ⟨_, rfl⟩
    have hrm : r ∈ ks' := by rw [hr]; exact List.getLast_mem hlen
    have hqr : q.at_ < r.at_ := by
      rw [hks] at hs
      exact (List.pairwise_cons.1 hs).1 r hrm
    have hqne := hne q (by rw [hks]; exact List.mem_cons_self)
    have hrne := hne r (by rw [hks]; exact List.mem_cons_of_mem _ hrm)
    have he : e ∈ q.es := by
      obtain ⟨x, t, hx⟩ := List.exists_cons_of_ne_nil hqne
      have h4 := hl
      rw [hks] at h4
      unfold kidEs at h4
      rw [List.flatMap_cons, hx] at h4
      injection h4 with h4 _
      rw [hx, ← h4]
      exact List.mem_cons_self
    have hz : ((e :: g :: l).getLast (by simp)) ∈ r.es := by
      have h5 : kidEs f.ks ≠ [] := by rw [hl]; simp
      have h6 : (e :: g :: l).getLast (by simp) = (kidEs f.ks).getLast h5 := by simp only [hl]
      rw [h6]
      have h7 : kidEs f.ks = kidEs (q :: ks'.dropLast) ++ r.es := by
        have h8 : f.ks = (q :: ks'.dropLast) ++ [r] := by rw [hks, List.cons_append, hr, List.dropLast_concat_getLast]
        conv => lhs; rw [h8]
        unfold kidEs
        rw [List.flatMap_append]
        simp
      have h9 : (kidEs f.ks).getLast h5 = r.es.getLast hrne := by
        simp only [h7]
        rw [List.getLast_append_of_ne_nil _ hrne]
      rw [h9]
      exact List.getLast_mem hrne
    obtain ⟨a1, a2, a3⟩ := h.es q (by rw [hks]; exact List.mem_cons_self) e he
    obtain ⟨b1, b2, b3⟩ := h.es r (by rw [hks]; exact List.mem_cons_of_mem _ hrm) _ hz
    exact part_unique a1 b1 (fun b hb => by rw [a3 b hb, b3 b hb]) (by rw [a2, b2]; omega)
  · rw [hk]
    refine grp_flat _ (fun g hg => ?_) (fun g hg e he f' hf' => ?_) ?_
    · obtain ⟨q, hq, rfl⟩ := List.mem_map.1 hg
      exact hne q hq
    · obtain ⟨q, hq, rfl⟩ := List.mem_map.1 hg
      rw [(h.es q hq e he).2.1, (h.es q hq f' hf').2.1]
    · rw [List.pairwise_map]
      refine h.sort.imp_of_mem ?_
      intro q r hq hr hqr e he f' hf'
      rw [(h.es q hq e he).2.1, (h.es r hr f' hf').2.1]
      omega
theorem kid_count : ∀ (ks : List Kid), (∀ q ∈ ks, q.es ≠ []) → ks.length ≤ (kidEs ks).length
  | [], _ => by simp
  | q :: ks, h => by
    have h1 := kid_count ks fun q hq => h q (List.mem_cons_of_mem _ hq)
    have h2 := List.length_pos_iff.2 (h q List.mem_cons_self)
    unfold kidEs at h1 ⊢
    rw [List.flatMap_cons, List.length_append, List.length_cons]
    omega
end Go.Proofs.Ytfoapkcgdkfggaa
set_option linter.unusedSimpArgs false
set_option linter.unusedVariables false
namespace Go.Proofs.Ytfoapkcgdkfggaa
open Go.RowKit
/-- A tree and the list of its entries. -/
def Now (w : World) (k t : Nat) (A : Option Addr) (n c : Nat) : Prop := ∃ rows es, TreeOf w k t es ∧ EntsAt w A n rows ∧ n ≤ c ∧ SortR k rows ∧ (∀ r ∈ rows, r.n = k) ∧ ents rows = es
theorem Now.stay {w w' : World} {k t : Nat} {A : Option Addr} {n c : Nat} (h : Now w k t A n c) (hb : Below w.heap.size w w') : Now w' k t A n c := by
  obtain ⟨rows, es, h1, h2, h3, h4, h5, h6⟩ := h
  exact ⟨rows, es, h1.stay hb, h2.below hb, h3, h4, h5, h6⟩
theorem TreeOf.sorted {w : World} {k t : Nat} {es : List Ent} (h : TreeOf w k t es) : Zsorted es ∧ ∀ e ∈ es, Zp k e.1 ∧ e.2 < 2 ^ 64 := by
  obtain ⟨h1, h2, ⟨_, rfl⟩ | ⟨g, lv, pre, _, hN⟩⟩ := h
  · exact ⟨List.Pairwise.nil, fun e he => (by cases he)⟩
  · obtain ⟨i1, i2, i3, i4, i5, i6, i7⟩ := hN.info
    exact ⟨i6, fun e he => ⟨(i5 e he).1, (i5 e he).2.1⟩⟩
theorem mem_ents {rows : List ER} {e : Ent} : e ∈ ents rows ↔ ∃ r ∈ rows, (r.p, r.v) = e := by
  unfold ents ER.e
  rw [List.mem_map]
theorem now_new {w : World} {k t : Nat} {A : Option Addr} {c : Nat} (hk1 : 1 ≤ k) (hk : k ≤ 16) (hT : TreeBlk w t k none) : Now w k t A 0 c :=
  ⟨[], [], ⟨hk1, hk, .inl ⟨hT, rfl⟩⟩, ⟨Rw.nil _ _ _, fun r hr => (by cases hr)⟩, Nat.zero_le _, SortR.nil k, fun r hr => (by cases hr), rfl⟩
theorem now_del {w : World} {k t : Nat} {A : Option Addr} {n c : Nat} {rows : List ER} {es es' : List Ent} {p : List Nat} (hS : SortR k rows) (hkk : ∀ r ∈ rows, r.n = k) (hes : ents rows = es) (hp : Zp k p) (hT : TreeOf w k t es') (hm : ∀ x, x ∈ es' ↔ x ∈ es ∧ x.1 ≠ p) (hE : EntsAt w A n (delR rows p)) (hnc : n ≤ c) : Now w k t A n c := by
  obtain ⟨s1, s2⟩ := del_spec hS hp
  refine ⟨delR rows p, es', hT, hE, hnc, s1, fun r hr => hkk r (mem_delR hr), sorted_ext s1.ents hT.sorted.1 fun e => ?_⟩
  rw [hm, ← hes, mem_ents, mem_ents]
  constructor
  · rintro ⟨r, hr, rfl⟩
    obtain ⟨h1, h2⟩ := (s2 r).1 hr
    exact ⟨⟨r, h1, rfl⟩, h2⟩
  · rintro ⟨⟨r, hr, rfl⟩, h⟩
    exact ⟨r, (s2 r).2 ⟨hr, h⟩, rfl⟩
theorem now_put {w : World} {k t : Nat} {A : Option Addr} {n c : Nat} {rows : List ER} {es es' : List Ent} {q : ER} (hS : SortR k rows) (hkk : ∀ r ∈ rows, r.n = k) (hes : ents rows = es) (hp : Zp k q.p) (hqn : q.n = k) (hT : TreeOf w k t es') (hm : ∀ x, x ∈ es' ↔ x = (q.p, q.v) ∨ (x ∈ es ∧ x.1 ≠ q.p)) (hE : EntsAt w A n (putR rows q)) (hnc : n ≤ c) : Now w k t A n c := by
  obtain ⟨s1, s2⟩ := put_spec hS hp
  refine ⟨putR rows q, es', hT, hE, hnc, s1, fun r hr => ?_, sorted_ext s1.ents hT.sorted.1 fun e => ?_⟩
  · rcases mem_putR hr with rfl | hr
    · exact hqn
    · exact hkk r hr
  · rw [hm, ← hes, mem_ents, mem_ents]
    constructor
    · rintro ⟨r, hr, rfl⟩
      rcases (s2 r).1 hr with rfl | ⟨h1, h2⟩
      · exact .inl rfl
      · exact .inr ⟨⟨r, h1, rfl⟩, h2⟩
    · rintro (rfl | ⟨⟨r, hr, rfl⟩, h⟩)
      · exact ⟨q, (s2 q).2 (.inl rfl), rfl⟩
      · exact ⟨r, (s2 r).2 (.inr ⟨hr, h⟩), rfl⟩
theorem has_iff {k : Nat} {rows : List ER} {es : List Ent} {p : List Nat} (hS : SortR k rows) (hes : ents rows = es) (hp : Zp k p) : hasR rows p = true ↔ ∃ v, (p, v) ∈ es := by
  rw [(has_spec hS hp).2, ← hes]
  constructor
  · rintro ⟨r, hr, rfl⟩
    exact ⟨r.v, mem_ents.2 ⟨r, hr, rfl⟩⟩
  · rintro ⟨v, hv⟩
    obtain ⟨r, hr, he⟩ := mem_ents.1 hv
    injection he with he _
    exact ⟨r, hr, he⟩
theorem has_val {k : Nat} {rows : List ER} {es : List Ent} {p : List Nat} {r : ER} (hS : SortR k rows) (hes : ents rows = es) (hp : Zp k p) (hh : hasR rows p = true) (hr : rows[plR rows p]? = some r) : (p, r.v) ∈ es := by
  obtain ⟨s, hs, he⟩ := (has_spec hS hp).1.1 hh
  rw [hr] at hs
  injection hs with hs
  subst hs
  rw [← hes]
  exact mem_ents.2 ⟨r, List.mem_of_getElem? hr, by rw [he]⟩
theorem uniq_val {es : List Ent} (h : Zsorted es) {p : List Nat} {v v' : Nat} (h1 : (p, v) ∈ es) (h2 : (p, v') ∈ es) : v = v' := by
  induction es with
  | nil => cases h1
  | cons e es ih =>
    obtain ⟨a, b⟩ := List.pairwise_cons.1 h
    rcases List.mem_cons.1 h1 with h1' | h1'
    · rcases List.mem_cons.1 h2 with h2' | h2'
      · rw [← h1'] at h2'
        injection h2' with _ h3
        exact h3.symm
      · have := a _ h2'
        rw [← h1'] at this
        exact absurd this (zlt_irrefl p)
    · rcases List.mem_cons.1 h2 with h2' | h2'
      · have := a _ h1'
        rw [← h2'] at this
        exact absurd this (zlt_irrefl p)
      · exact ih b h1' h2'
theorem tree_info : ∃ j, Try.prog.info? 79 = some j ∧ j.size ≠ 0 := by
  have h : (Try.prog.info? 79).map (fun j => j.size) = some 2 := by kernel_rfl
  obtain ⟨j, hj, h8⟩ := Option.map_eq_some_iff.1 h
  exact ⟨j, hj, by omega⟩
theorem tptr_same (a : Addr) (w : World) : (binOp .eql 23 (.pointer (some a)) (.pointer (some a))).run Try.prog w = .ok (.bool true) w := by
  obtain ⟨j, hj, _⟩ := tree_info
  exact run_eql_ptr_same w a Try.underlying23 hj
theorem tptr_other {w : World} {a b : Nat} {ca cb : Array Value} {ta tb : TypeId} (hne : a ≠ b) (ha : Blk w a ta ca) (hb : Blk w b tb cb) : (binOp .eql 23 (.pointer (some ⟨a, 0, none⟩)) (.pointer (some ⟨b, 0, none⟩))).run Try.prog w = .ok (.bool false) w := by
  obtain ⟨j, hj, h0⟩ := tree_info
  exact run_eql_ptr_other w Try.underlying23 hj h0 (fun h => hne (by injection h)) ha hb
theorem TreeOf.blk {w : World} {k t : Nat} {es : List Ent} (h : TreeOf w k t es) : ∃ root, TreeBlk w t k root := by
  obtain ⟨_, _, ⟨h, _⟩ | ⟨g, _, _, h, _⟩⟩ := h
  · exact ⟨_, h⟩
  · exact ⟨_, h⟩
/-- What Done answers. -/
def DoneOut (w : World) (k n : Nat) (e : Ending) (w' : World) : Prop :=
  ∃ (t' : Nat) (A' : Option Addr) (n' c' : Nat), e = .returned (.tuple #[.pointer (some ⟨t', 0, none⟩), .slice A' n' c', .bool true]) ∧ Now w' k t' A' n' c' ∧ n' ≤ n + 1 ∧ Below w.heap.size w w'
set_option maxHeartbeats 4000000 in
set_option maxRecDepth 100000 in
theorem done_del {w : World} {k t n c : Nat} {A : Option Addr} (hN : Now w k t A n c) (hn : n ≤ 1000) {RA : Option Addr} {Rn Rc v : Nat} {p : List Nat} (hp : Pt w RA Rn p) (hc : Rn ≤ Rc) (hm : Rc ≤ maxLen) (hv : v < 2 ^ 64) :
    Calls Try.prog 15 #[.pointer (some ⟨t, 0, none⟩), .slice A n c, .agg #[.bool true, .slice RA Rn Rc, .int .u64 (v : Int)]] w (DoneOut w k n) := by
  obtain ⟨rows, es, hT, hE, hnc, hS, hkk, hes⟩ := hN
  obtain ⟨root, hTB⟩ := hT.blk
  have b1 := (Below.refl w.heap.size w).alloc (Nat.le_refl _) (.cells #[.bool true, .slice RA Rn Rc, .int .u64 (v : Int)] 38)
  have hA := Blk.new w 38 #[.bool true, .slice RA Rn Rc, .int .u64 (v : Int)]
  have HB1 := hide b1
  have HTB := hide hTB
  have HT := hide hT
  have HE := hide hE
  have HS := hide hS
  have HKK := hide hkk
  have HES := hide hes
  have HP := hide hp
  have HNC := hide hnc
  clear hT hE hS hkk hes hTB hp b1 hnc
  go_enter Try.func15, Try.ntmps15
  go_upto_region 1 with fail
  generalize w.alloc (.cells #[.bool true, .slice RA Rn Rc, .int .u64 (v : Int)] 38) = w1 at *
  have HK := hide (tr_k (Blk.below HTB.out HB1.out))
  have y0 := hA.cell 0
  have y1 := hA.cell 1
  have y2 := hA.cell 2
  simp at y0 y1 y2
  have HA := hide hA
  clear hA
  go_wp2_with fail
  refine HK.out.mono ?_
  rintro e w2 ⟨rfl, rfl⟩
  by_cases hRk : Rn = k
  · subst hRk
    have HZ := hide HP.out.zp
    have HD := hide (tr_del (c := Rc) (HT.out.stay HB1.out) (HP.out.below HB1.out))
    have hk16 : Rn ≤ 16 := HT.out.2.1
    clear HK
    go_wp2_with fail
    refine HD.out.mono ?_
    rintro e w2 ⟨⟨rfl, hno⟩ | ⟨t', es', v', rfl, hT', hin, hmem⟩, hb2⟩
    · have c2 := below_then HB1.out hb2
      have HC2 := hide c2
      have hA2 := HA.out.below hb2
      have y0 := hA2.cell 0
      have y1 := hA2.cell 1
      have y2 := hA2.cell 2
      simp at y0 y1 y2
      have HG := hide (ref_get A RA n c Rn Rc rows p w2 (HE.out.below c2) HKK.out (HP.out.below c2) (by omega) (by omega))
      have HNO := hide hno
      clear hA2 c2 hb2 HD hno
      go_wp2_with fail
      refine HG.out.mono ?_
      rintro e w3 ⟨⟨v3, ok, rfl, hok, h0, h1⟩, rfl⟩
      have hokf : ok = false := by
        rw [hok]
        cases hh : hasR rows p with
        | false => rfl
        | true =>
          obtain ⟨v, hv⟩ := (has_iff HS.out HES.out HZ.out).1 hh
          exact absurd hv (HNO.out v)
      subst hokf
      clear hok h0 h1 HG
      go_wp2
      go_ret3
      exact ⟨t, A, n, c, rfl, ⟨rows, es, HT.out.stay HC2.out, HE.out.below HC2.out, HNC.out, HS.out, HKK.out, HES.out⟩, by omega, HC2.out⟩
    · have c2 := below_then HB1.out hb2
      have HC2 := hide c2
      have hA2 := HA.out.below hb2
      have y0 := hA2.cell 0
      have y1 := hA2.cell 1
      have y2 := hA2.cell 2
      simp at y0 y1 y2
      have HG := hide (ref_get A RA n c Rn Rc rows p w2 (HE.out.below c2) HKK.out (HP.out.below c2) (by omega) (by omega))
      have HRD := hide (ref_del A RA n c Rn Rc rows p w2 (HE.out.below c2) HNC.out HKK.out (HP.out.below c2) (by omega) (by omega))
      have HIN := hide hin
      have HMEM := hide hmem
      have HT' := hide hT'
      clear hA2 c2 hb2 HD hin hmem hT'
      go_wp2_with fail
      refine HG.out.mono ?_
      rintro e w3 ⟨⟨v3, ok, rfl, hok, h0, h1⟩, rfl⟩
      have hokf : ok = true := by
        rw [hok]
        exact (has_iff HS.out HES.out HZ.out).2 ⟨v', HIN.out⟩
      subst hokf
      clear hok h0 h1 HG
      go_wp2_with fail
      refine HRD.out.mono ?_
      rintro e w4 ⟨A', n', c', rfl, hE', hnc', hn', hb4⟩
      have HH := hide (And.intro hE' (And.intro hnc' (And.intro hn' hb4)))
      clear hE' hnc' hn' hb4 HRD
      go_wp2
      go_ret3
      obtain ⟨hE', hnc', hn', hb4⟩ := HH.out
      exact ⟨t', A', n', c', rfl, now_del HS.out HKK.out HES.out HZ.out (HT'.out.stay hb4) HMEM.out hE' hnc', by omega, below_then HC2.out hb4⟩
  · have HD := hide (tr_del_dim (Blk.below HTB.out HB1.out) RA Rn Rc hRk)
    have e1 : ((Rn : Int) != (k : Int)) = true := by simp; omega
    clear HK hRk
    go_wp2_with fail
    refine HD.out.mono ?_
    rintro e w2 ⟨rfl, rfl⟩
    go_wp2
    go_ret3
    exact ⟨t, A, n, c, rfl, ⟨rows, es, HT.out.stay HB1.out, HE.out.below HB1.out, HNC.out, HS.out, HKK.out, HES.out⟩, by omega, HB1.out⟩
theorem tptr_run {w : World} {a b : Nat} {ca cb : Array Value} {ta tb : TypeId} (ha : Blk w a ta ca) (hb : Blk w b tb cb) : (binOp .eql 23 (.pointer (some ⟨a, 0, none⟩)) (.pointer (some ⟨b, 0, none⟩))).run Try.prog w = .ok (.bool (decide (a = b))) w := by
  by_cases h : a = b
  · subst h
    rw [tptr_same]
    simp
  · rw [tptr_other h ha hb]
    simp [h]
set_option maxHeartbeats 4000000 in
set_option maxRecDepth 100000 in
theorem done_put {w : World} {k t n c : Nat} {A : Option Addr} (hN : Now w k t A n c) (hn : n ≤ 1000) {RA : Option Addr} {Rn Rc v : Nat} {p : List Nat} (hp : Pt w RA Rn p) (hc : Rn ≤ Rc) (hm : Rc ≤ maxLen) (hv : v < 2 ^ 64) :
    Calls Try.prog 15 #[.pointer (some ⟨t, 0, none⟩), .slice A n c, .agg #[.bool false, .slice RA Rn Rc, .int .u64 (v : Int)]] w (DoneOut w k n) := by
  obtain ⟨rows, es, hT, hE, hnc, hS, hkk, hes⟩ := hN
  obtain ⟨root, hTB⟩ := hT.blk
  have b1 := (Below.refl w.heap.size w).alloc (Nat.le_refl _) (.cells #[.bool false, .slice RA Rn Rc, .int .u64 (v : Int)] 38)
  have hA := Blk.new w 38 #[.bool false, .slice RA Rn Rc, .int .u64 (v : Int)]
  have HB1 := hide b1
  have HTB := hide hTB
  have HT := hide hT
  have HE := hide hE
  have HS := hide hS
  have HKK := hide hkk
  have HES := hide hes
  have HP := hide hp
  have HNC := hide hnc
  have HSO := hide hT.sorted.1
  clear hT hE hS hkk hes hTB hp b1 hnc
  go_enter Try.func15, Try.ntmps15
  go_upto_region 1 with fail
  generalize w.alloc (.cells #[.bool false, .slice RA Rn Rc, .int .u64 (v : Int)] 38) = w1 at *
  have HK := hide (tr_k (Blk.below HTB.out HB1.out))
  have y0 := hA.cell 0
  have y1 := hA.cell 1
  have y2 := hA.cell 2
  simp at y0 y1 y2
  have HA := hide hA
  clear hA
  go_wp2_with fail
  refine HK.out.mono ?_
  rintro e w2 ⟨rfl, rfl⟩
  by_cases hRk : Rn = k
  · subst hRk
    have HZ := hide HP.out.zp
    have HD := hide (tr_put (c := Rc) (HT.out.stay HB1.out) (HP.out.below HB1.out) hv)
    have hk16 : Rn ≤ 16 := HT.out.2.1
    clear HK
    go_wp2_with fail
    refine HD.out.mono ?_
    rintro e w2 ⟨t', es', rfl, hT', hmem, htt, hb2⟩
    have c2 := below_then HB1.out hb2
    have HC2 := hide c2
    have hA2 := HA.out.below hb2
    have y0 := hA2.cell 0
    have y1 := hA2.cell 1
    have y2 := hA2.cell 2
    simp at y0 y1 y2
    have hal : w.heap.size < w2.heap.size := hA2.lt
    have HG := hide (ref_get A RA n c Rn Rc rows p w2 (HE.out.below c2) HKK.out (HP.out.below c2) (by omega) (by omega))
    have HRP := hide (ref_put A RA n c Rn Rc v rows p w2.drew ((HE.out.below c2).below (Below.refl _ w2).drew) HNC.out HKK.out ((HP.out.below c2).below (Below.refl _ w2).drew) hc hm (by omega) (by omega) hv)
    have HMEM := hide hmem
    have HT' := hide hT'
    have HTT := hide htt
    obtain ⟨root', hTB'⟩ := hT'.blk
    have HQ := hide (fun (W : World) (hW : Below w2.heap.size w2 W) => tptr_run (Blk.below hTB' hW) (Blk.below (Blk.below HTB.out c2) hW))
    clear hA2 c2 hb2 HD hmem hT' htt hTB'
    go_wp2_with fail
    refine HG.out.mono ?_
    rintro e w3 ⟨⟨v3, ok, rfl, hok, h0, h1⟩, rfl⟩
    clear HG
    cases ok with
    | false =>
      have hne : t' ≠ t := fun h => by
        have h2 := (has_iff HS.out HES.out HZ.out).2 ⟨v, HTT.out.1 h⟩
        rw [← hok] at h2
        cases h2
      clear h1
      have hq0 := HQ.out w2 (Below.refl _ _)
      rw [show decide (t' = t) = false by simp [hne]] at hq0
      have HQB := hide (fun W hW => by have := HQ.out W hW; rw [show decide (t' = t) = false by simp [hne]] at this; exact this)
      have hk0 := And.intro (show w2.drew.cell? ⟨w.heap.size, 1, none⟩ = _ from y1) (And.intro (show w2.drew.cell? ⟨w.heap.size, 2, none⟩ = _ from y2) (HQB.out w2.drew (Below.refl _ _).drew))
      clear HQ hok hne
      go_wp2_with fail
      refine wp_region_held_drew (S := (fun w' => w'.cell? ⟨w.heap.size, 1, none⟩ = some (.slice RA Rn Rc) ∧ w'.cell? ⟨w.heap.size, 2, none⟩ = some (.int .u64 (v : Int)) ∧ (binOp .eql 23 (.pointer (some ⟨t', 0, none⟩)) (.pointer (some ⟨t, 0, none⟩))).run Try.prog w' = .ok (.bool false) w')) (by kernel_rfl) hk0 (fun hHeld => ?_)
      refine wpAnyH_take (i := 0) (oi := { dst := some 99, op := _, type := _, pos := _, after := _, guard := _ }) (v := ?_) rfl (by kernel_rfl) (by kernel_rfl) (by kernel_rfl) (fun _ _ _ h => h) (Or.inl ⟨by rfl, ?_⟩) (by assumption) ?_
      rotate_left 1
      · intro wS hSw
        try dsimp only at hSw
        go_simp
        all_goals with_reducible rfl
      try simp only [Act.put, List.setIfInBounds_toArray, List.set_cons_zero, List.set_cons_succ]
      refine wpAnyH_take (i := 1) (oi := { dst := some 100, op := _, type := _, pos := _, after := _, guard := _ }) (v := ?_) rfl (by kernel_rfl) (by kernel_rfl) (by kernel_rfl) (fun _ _ _ h => h) (Or.inl ⟨by rfl, ?_⟩) (by assumption) ?_
      rotate_left 1
      · intro wS hSw
        try dsimp only at hSw
        go_simp
        all_goals with_reducible rfl
      try simp only [Act.put, List.setIfInBounds_toArray, List.set_cons_zero, List.set_cons_succ]
      refine wpAnyH_take (i := 2) (oi := { dst := some 101, op := _, type := _, pos := _, after := _, guard := _ }) (v := ?_) rfl (by kernel_rfl) (by kernel_rfl) (by kernel_rfl) (fun _ _ _ h => h) (Or.inl ⟨by rfl, ?_⟩) (by assumption) ?_
      rotate_left 1
      · intro wS hSw
        try dsimp only at hSw
        go_simp
        all_goals with_reducible rfl
      try simp only [Act.put, List.setIfInBounds_toArray, List.set_cons_zero, List.set_cons_succ]
      refine wpAnyH_take (i := 3) (oi := { dst := some 102, op := _, type := _, pos := _, after := _, guard := _ }) (v := ?_) rfl (by kernel_rfl) (by kernel_rfl) (by kernel_rfl) (fun _ _ _ h => h) (Or.inl ⟨by rfl, ?_⟩) (by assumption) ?_
      rotate_left 1
      · intro wS hSw
        try dsimp only at hSw
        go_simp
        all_goals with_reducible rfl
      try simp only [Act.put, List.setIfInBounds_toArray, List.set_cons_zero, List.set_cons_succ]
      refine wpAnyH_take (i := 4) (oi := { dst := some 103, op := _, type := _, pos := _, after := _, guard := _ }) (v := ?_) rfl (by kernel_rfl) (by kernel_rfl) (by kernel_rfl) (fun _ _ _ h => h) (Or.inl ⟨by rfl, ?_⟩) (by assumption) ?_
      rotate_left 1
      · intro wS hSw
        try dsimp only at hSw
        go_simp
        all_goals with_reducible rfl
      try simp only [Act.put, List.setIfInBounds_toArray, List.set_cons_zero, List.set_cons_succ]
      refine wpAnyH_take (i := 5) (oi := { dst := some 104, op := _, type := _, pos := _, after := _, guard := _ }) (v := ?_) rfl (by kernel_rfl) (by kernel_rfl) (by kernel_rfl) (fun _ _ _ h => h) (Or.inl ⟨by rfl, ?_⟩) (by assumption) ?_
      rotate_left 1
      · intro wS hSw
        try dsimp only at hSw
        go_simp
        all_goals with_reducible rfl
      try simp only [Act.put, List.setIfInBounds_toArray, List.set_cons_zero, List.set_cons_succ]
      refine wpAnyH_take (i := 7) (oi := { dst := some 106, op := _, type := _, pos := _, after := _, guard := _ }) (v := ?_) rfl (by kernel_rfl) (by kernel_rfl) (by kernel_rfl) (fun _ _ _ h => h) (Or.inl ⟨by rfl, ?_⟩) (by assumption) ?_
      rotate_left 1
      · intro wS hSw
        try dsimp only at hSw
        go_simp
        all_goals with_reducible rfl
      try simp only [Act.put, List.setIfInBounds_toArray, List.set_cons_zero, List.set_cons_succ]
      refine wpAnyH_take (i := 8) (oi := { dst := some 107, op := _, type := _, pos := _, after := _, guard := _ }) (v := ?_) rfl (by kernel_rfl) (by kernel_rfl) (by kernel_rfl) (fun _ _ _ h => h) (Or.inl ⟨by rfl, ?_⟩) (by assumption) ?_
      rotate_left 1
      · intro wS hSw
        try dsimp only at hSw
        go_simp
        all_goals with_reducible rfl
      try simp only [Act.put, List.setIfInBounds_toArray, List.set_cons_zero, List.set_cons_succ]
      refine wpAnyH_ready (rs := [6]) (by kernel_rfl) (by simp) ?_
      refine AllReadyH.cons (o := { dst := some 105, op := _, type := _, pos := _, after := _, guard := _ }) rfl (fun K hK => ?_) ?_
      · go_simp
        go_at_call 31
        refine HRP.out.mono ?_
        rintro e w5 ⟨A', n', c', rfl, hE', hnc', hn', hb5⟩
        have hd5 : Below w2.heap.size w2 w5 := (Below.refl _ w2).drew.trans hb5
        have HH := hide (And.intro hE' (And.intro hnc' (And.intro hn' hd5)))
        have hk5 := And.intro ((hd5.cell (p := ⟨w.heap.size, 1, none⟩) hal).trans y1) (And.intro ((hd5.cell (p := ⟨w.heap.size, 2, none⟩) hal).trans y2) (HQB.out w5 hd5))
        clear hE' hnc' hn' hb5
        try go_wp2_with fail
        refine hK.out _ _ ?_ (fun hHeld => ?_)
        · exact hk5
        clear hK K
        try simp only [Act.put, List.setIfInBounds_toArray, List.set_cons_zero, List.set_cons_succ]
        refine wpAnyH_take (i := 9) (oi := { dst := some 108, op := _, type := _, pos := _, after := _, guard := _ }) (v := ?_) rfl (by kernel_rfl) (by kernel_rfl) (by kernel_rfl) (fun _ _ _ h => h) (Or.inl ⟨by rfl, ?_⟩) (by assumption) ?_
        rotate_left 1
        · intro wS hSw
          try dsimp only at hSw
          go_simp
          all_goals with_reducible rfl
        try simp only [Act.put, List.setIfInBounds_toArray, List.set_cons_zero, List.set_cons_succ]
        refine wpAnyH_take (i := 10) (oi := { dst := some 109, op := _, type := _, pos := _, after := _, guard := _ }) (v := ?_) rfl (by kernel_rfl) (by kernel_rfl) (by kernel_rfl) (fun _ _ _ h => h) (Or.inl ⟨by rfl, ?_⟩) (by assumption) ?_
        rotate_left 1
        · intro wS hSw
          try dsimp only at hSw
          go_simp
          all_goals with_reducible rfl
        try simp only [Act.put, List.setIfInBounds_toArray, List.set_cons_zero, List.set_cons_succ]
        refine wpAnyH_take (i := 11) (oi := { dst := some 110, op := _, type := _, pos := _, after := _, guard := _ }) (v := ?_) rfl (by kernel_rfl) (by kernel_rfl) (by kernel_rfl) (fun _ _ _ h => h) (Or.inl ⟨by rfl, ?_⟩) (by assumption) ?_
        rotate_left 1
        · intro wS hSw
          try dsimp only at hSw
          go_simp
          all_goals with_reducible rfl
        try simp only [Act.put, List.setIfInBounds_toArray, List.set_cons_zero, List.set_cons_succ]
        refine wpAnyH_take (i := 12) (oi := { dst := some 111, op := _, type := _, pos := _, after := _, guard := _ }) (v := ?_) rfl (by kernel_rfl) (by kernel_rfl) (by kernel_rfl) (fun _ _ _ h => h) (Or.inl ⟨by rfl, ?_⟩) (by assumption) ?_
        rotate_left 1
        · intro wS hSw
          try dsimp only at hSw
          go_simp
          all_goals with_reducible rfl
        try simp only [Act.put, List.setIfInBounds_toArray, List.set_cons_zero, List.set_cons_succ]
        refine wpAnyH_take (i := 13) (oi := { dst := some 112, op := _, type := _, pos := _, after := _, guard := _ }) (v := ?_) rfl (by kernel_rfl) (by kernel_rfl) (by kernel_rfl) (fun _ _ _ h => h) (Or.inl ⟨by rfl, ?_⟩) (by assumption) ?_
        rotate_left 1
        · intro wS hSw
          try dsimp only at hSw
          go_simp
          all_goals with_reducible rfl
        try simp only [Act.put, List.setIfInBounds_toArray, List.set_cons_zero, List.set_cons_succ]
        refine wpAnyH_take (i := 14) (oi := { dst := some 113, op := _, type := _, pos := _, after := _, guard := _ }) (v := ?_) rfl (by kernel_rfl) (by kernel_rfl) (by kernel_rfl) (fun _ _ _ h => h) (Or.inl ⟨by rfl, ?_⟩) (by assumption) ?_
        rotate_left 1
        · intro wS hSw
          try dsimp only at hSw
          go_simp
          all_goals with_reducible rfl
        try simp only [Act.put, List.setIfInBounds_toArray, List.set_cons_zero, List.set_cons_succ]
        refine wpAnyH_take (i := 15) (oi := { dst := some 114, op := _, type := _, pos := _, after := _, guard := _ }) (v := ?_) rfl (by kernel_rfl) (by kernel_rfl) (by kernel_rfl) (fun _ _ _ h => h) (Or.inl ⟨by rfl, ?_⟩) (by assumption) ?_
        rotate_left 1
        · intro wS hSw
          try dsimp only at hSw
          go_simp
          all_goals with_reducible rfl
        try simp only [Act.put, List.setIfInBounds_toArray, List.set_cons_zero, List.set_cons_succ]
        refine wpAnyH_take (i := 16) (oi := { dst := some 115, op := _, type := _, pos := _, after := _, guard := _ }) (v := undef) rfl (by kernel_rfl) (by kernel_rfl) (by kernel_rfl) (fun _ _ _ h => h) (Or.inr ⟨by rfl, rfl⟩) (by assumption) ?_
        try simp only [Act.put, List.setIfInBounds_toArray, List.set_cons_zero, List.set_cons_succ]
        refine wpAnyH_take (i := 17) (oi := { dst := some 116, op := _, type := _, pos := _, after := _, guard := _ }) (v := undef) rfl (by kernel_rfl) (by kernel_rfl) (by kernel_rfl) (fun _ _ _ h => h) (Or.inr ⟨by rfl, rfl⟩) (by assumption) ?_
        try simp only [Act.put, List.setIfInBounds_toArray, List.set_cons_zero, List.set_cons_succ]
        refine wpAnyH_take (i := 18) (oi := { dst := some 117, op := _, type := _, pos := _, after := _, guard := _ }) (v := undef) rfl (by kernel_rfl) (by kernel_rfl) (by kernel_rfl) (fun _ _ _ h => h) (Or.inr ⟨by rfl, rfl⟩) (by assumption) ?_
        try simp only [Act.put, List.setIfInBounds_toArray, List.set_cons_zero, List.set_cons_succ]
        refine wpAnyH_take (i := 19) (oi := { dst := some 118, op := _, type := _, pos := _, after := _, guard := _ }) (v := undef) rfl (by kernel_rfl) (by kernel_rfl) (by kernel_rfl) (fun _ _ _ h => h) (Or.inr ⟨by rfl, rfl⟩) (by assumption) ?_
        try simp only [Act.put, List.setIfInBounds_toArray, List.set_cons_zero, List.set_cons_succ]
        refine wpAnyH_take (i := 20) (oi := { dst := some 119, op := _, type := _, pos := _, after := _, guard := _ }) (v := ?_) rfl (by kernel_rfl) (by kernel_rfl) (by kernel_rfl) (fun _ _ _ h => h) (Or.inl ⟨by rfl, ?_⟩) (by assumption) ?_
        rotate_left 1
        · intro wS hSw
          try dsimp only at hSw
          go_simp
          all_goals with_reducible rfl
        try simp only [Act.put, List.setIfInBounds_toArray, List.set_cons_zero, List.set_cons_succ]
        refine wpAnyH_take (i := 21) (oi := { dst := some 120, op := _, type := _, pos := _, after := _, guard := _ }) (v := ?_) rfl (by kernel_rfl) (by kernel_rfl) (by kernel_rfl) (fun _ _ _ h => h) (Or.inl ⟨by rfl, ?_⟩) (by assumption) ?_
        rotate_left 1
        · intro wS hSw
          try dsimp only at hSw
          go_simp
          all_goals with_reducible rfl
        try simp only [Act.put, List.setIfInBounds_toArray, List.set_cons_zero, List.set_cons_succ]
        refine wpAnyH_take (i := 22) (oi := { dst := some 121, op := _, type := _, pos := _, after := _, guard := _ }) (v := ?_) rfl (by kernel_rfl) (by kernel_rfl) (by kernel_rfl) (fun _ _ _ h => h) (Or.inl ⟨by rfl, ?_⟩) (by assumption) ?_
        rotate_left 1
        · intro wS hSw
          try dsimp only at hSw
          go_simp
          all_goals with_reducible rfl
        try simp only [Act.put, List.setIfInBounds_toArray, List.set_cons_zero, List.set_cons_succ]
        refine wpAnyH_take (i := 23) (oi := { dst := some 122, op := _, type := _, pos := _, after := _, guard := _ }) (v := ?_) rfl (by kernel_rfl) (by kernel_rfl) (by kernel_rfl) (fun _ _ _ h => h) (Or.inl ⟨by rfl, ?_⟩) (by assumption) ?_
        rotate_left 1
        · intro wS hSw
          try dsimp only at hSw
          go_simp
          all_goals with_reducible rfl
        try simp only [Act.put, List.setIfInBounds_toArray, List.set_cons_zero, List.set_cons_succ]
        refine wpAnyH_take (i := 24) (oi := { dst := some 123, op := _, type := _, pos := _, after := _, guard := _ }) (v := ?_) rfl (by kernel_rfl) (by kernel_rfl) (by kernel_rfl) (fun _ _ _ h => h) (Or.inl ⟨by rfl, ?_⟩) (by assumption) ?_
        rotate_left 1
        · intro wS hSw
          try dsimp only at hSw
          go_simp
          all_goals with_reducible rfl
        try simp only [Act.put, List.setIfInBounds_toArray, List.set_cons_zero, List.set_cons_succ]
        refine wpAnyH_take (i := 25) (oi := { dst := some 124, op := _, type := _, pos := _, after := _, guard := _ }) (v := ?_) rfl (by kernel_rfl) (by kernel_rfl) (by kernel_rfl) (fun _ _ _ h => h) (Or.inl ⟨by rfl, ?_⟩) (by assumption) ?_
        rotate_left 1
        · intro wS hSw
          try dsimp only at hSw
          go_simp
          all_goals with_reducible rfl
        try simp only [Act.put, List.setIfInBounds_toArray, List.set_cons_zero, List.set_cons_succ]
        refine wpAnyH_take (i := 26) (oi := { dst := some 6, op := _, type := _, pos := _, after := _, guard := _ }) (v := ?_) rfl (by kernel_rfl) (by kernel_rfl) (by kernel_rfl) (fun _ _ _ h => h) (Or.inl ⟨by rfl, ?_⟩) (by assumption) ?_
        rotate_left 1
        · intro wS hSw
          try dsimp only at hSw
          go_simp
          all_goals with_reducible rfl
        try simp only [Act.put, List.setIfInBounds_toArray, List.set_cons_zero, List.set_cons_succ]
        refine wpAnyH_take (i := 27) (oi := { dst := some 7, op := _, type := _, pos := _, after := _, guard := _ }) (v := ?_) rfl (by kernel_rfl) (by kernel_rfl) (by kernel_rfl) (fun _ _ _ h => h) (Or.inl ⟨by rfl, ?_⟩) (by assumption) ?_
        rotate_left 1
        · intro wS hSw
          try dsimp only at hSw
          go_simp
          all_goals with_reducible rfl
        try simp only [Act.put, List.setIfInBounds_toArray, List.set_cons_zero, List.set_cons_succ]
        refine wpAnyH_take (i := 28) (oi := { dst := some 8, op := _, type := _, pos := _, after := _, guard := _ }) (v := ?_) rfl (by kernel_rfl) (by kernel_rfl) (by kernel_rfl) (fun _ _ _ h => h) (Or.inl ⟨by rfl, ?_⟩) (by assumption) ?_
        rotate_left 1
        · intro wS hSw
          try dsimp only at hSw
          go_simp
          all_goals with_reducible rfl
        try simp only [Act.put, List.setIfInBounds_toArray, List.set_cons_zero, List.set_cons_succ]
        refine wpAnyH_done (by kernel_rfl) ?_ _
        go_wp2
        go_ret3
        obtain ⟨hE', hnc', hn', hb4⟩ := HH.out
        exact ⟨t', A', n', c', rfl, now_put HS.out HKK.out HES.out HZ.out rfl (HT'.out.stay hb4) HMEM.out hE' hnc', by omega, below_then HC2.out hb4⟩
      · exact AllReadyH.nil
    | true =>
      obtain ⟨r, hr, hrv⟩ := h1 rfl
      have hin := has_val HS.out HES.out HZ.out hok.symm hr
      rw [hrv] at hin
      by_cases hvv : v3 = v
      · subst hvv
        have htt : t' = t := HTT.out.2 hin
        clear h1 h0 hr hrv hin
        have hq0 := HQ.out w2 (Below.refl _ _)
        rw [show decide (t' = t) = true by simp [htt]] at hq0
        have HQB := hide (fun W hW => by have := HQ.out W hW; rw [show decide (t' = t) = true by simp [htt]] at this; exact this)
        have hk0 := And.intro (show w2.drew.cell? ⟨w.heap.size, 1, none⟩ = _ from y1) (And.intro (show w2.drew.cell? ⟨w.heap.size, 2, none⟩ = _ from y2) (HQB.out w2.drew (Below.refl _ _).drew))
        clear HQ hok
        clear htt
        go_wp2_with fail
        first
          | go_region_held3 (fun w' => w'.cell? ⟨w.heap.size, 1, none⟩ = some (.slice RA Rn Rc) ∧ w'.cell? ⟨w.heap.size, 2, none⟩ = some (.int .u64 (v3 : Int)) ∧ (binOp .eql 23 (.pointer (some ⟨t', 0, none⟩)) (.pointer (some ⟨t, 0, none⟩))).run Try.prog w' = .ok (.bool true) w')
              (first
                | go_keep
                | exact hk5
                | exact hk0)
              (first
                | (go_at_call 31
                   refine HRP.out.mono ?_
                   rintro e w5 ⟨A', n', c', rfl, hE', hnc', hn', hb5⟩
                   have hd5 : Below w2.heap.size w2 w5 := (Below.refl _ w2).drew.trans hb5
                   have HH := hide (And.intro hE' (And.intro hnc' (And.intro hn' hd5)))
                   have hk5 := And.intro ((hd5.cell (p := ⟨w.heap.size, 1, none⟩) hal).trans y1) (And.intro ((hd5.cell (p := ⟨w.heap.size, 2, none⟩) hal).trans y2) (HQB.out w5 hd5))
                   clear hE' hnc' hn' hb5))
          | fail
        all_goals
          go_wp2
          go_ret3
          obtain ⟨hE', hnc', hn', hb4⟩ := HH.out
          exact ⟨t', A', n', c', rfl, now_put HS.out HKK.out HES.out HZ.out rfl (HT'.out.stay hb4) HMEM.out hE' hnc', by omega, below_then HC2.out hb4⟩
      · have hne : t' ≠ t := fun h => hvv (uniq_val HSO.out hin (HTT.out.1 h))
        have ev : ((v3 : Int) == (v : Int)) = false := by simp; omega
        clear h1 hr hrv hin hvv
        have hq0 := HQ.out w2 (Below.refl _ _)
        rw [show decide (t' = t) = false by simp [hne]] at hq0
        have HQB := hide (fun W hW => by have := HQ.out W hW; rw [show decide (t' = t) = false by simp [hne]] at this; exact this)
        have hk0 := And.intro (show w2.drew.cell? ⟨w.heap.size, 1, none⟩ = _ from y1) (And.intro (show w2.drew.cell? ⟨w.heap.size, 2, none⟩ = _ from y2) (HQB.out w2.drew (Below.refl _ _).drew))
        clear HQ hok
        clear hne
        go_wp2_with fail
        first
          | go_region_held3 (fun w' => w'.cell? ⟨w.heap.size, 1, none⟩ = some (.slice RA Rn Rc) ∧ w'.cell? ⟨w.heap.size, 2, none⟩ = some (.int .u64 (v : Int)) ∧ (binOp .eql 23 (.pointer (some ⟨t', 0, none⟩)) (.pointer (some ⟨t, 0, none⟩))).run Try.prog w' = .ok (.bool false) w')
              (first
                | go_keep
                | exact hk5
                | exact hk0)
              (first
                | (go_at_call 31
                   refine HRP.out.mono ?_
                   rintro e w5 ⟨A', n', c', rfl, hE', hnc', hn', hb5⟩
                   have hd5 : Below w2.heap.size w2 w5 := (Below.refl _ w2).drew.trans hb5
                   have HH := hide (And.intro hE' (And.intro hnc' (And.intro hn' hd5)))
                   have hk5 := And.intro ((hd5.cell (p := ⟨w.heap.size, 1, none⟩) hal).trans y1) (And.intro ((hd5.cell (p := ⟨w.heap.size, 2, none⟩) hal).trans y2) (HQB.out w5 hd5))
                   clear hE' hnc' hn' hb5))
          | fail
        all_goals
          go_wp2
          go_ret3
          obtain ⟨hE', hnc', hn', hb4⟩ := HH.out
          exact ⟨t', A', n', c', rfl, now_put HS.out HKK.out HES.out HZ.out rfl (HT'.out.stay hb4) HMEM.out hE' hnc', by omega, below_then HC2.out hb4⟩
  · have HD := hide (tr_put_dim (Blk.below HTB.out HB1.out) RA Rn Rc (v : Int) hRk)
    have e1 : ((Rn : Int) != (k : Int)) = true := by simp; omega
    clear HK hRk
    go_wp2_with fail
    refine HD.out.mono ?_
    rintro e w2 ⟨rfl, rfl⟩
    go_wp2
    go_ret3
    exact ⟨t, A, n, c, rfl, ⟨rows, es, HT.out.stay HB1.out, HE.out.below HB1.out, HNC.out, HS.out, HKK.out, HES.out⟩, by omega, HB1.out⟩
theorem pt_lit2 (w : World) (a b : Nat) (ha : a < 2 ^ 64) (hb : b < 2 ^ 64) : Pt (w.alloc (.cells #[.int .u64 (a : Int), .int .u64 (b : Int)] 36)) (some ⟨w.heap.size, 0, none⟩) 2 [a, b] := by
  refine ⟨rfl, Rw.of_blk (Blk.new w 36 #[.int .u64 (a : Int), .int .u64 (b : Int)]) rfl ?_, fun x hx => ?_⟩
  · intro j u h
    simpa [u64s] using h
  · simp at hx
    rcases hx with rfl | rfl
    · exact ha
    · exact hb
set_option maxHeartbeats 2000000 in
set_option maxRecDepth 100000 in
theorem heavy7 (A : Option Addr) (n c m : Nat) (acts : List TA) (w : World) (h : ActsAt w A n acts) (hm : m ≤ 1000) :
    Calls Try.prog 13 #[.slice A n c, .int .i64 (m : Int)] w fun e w' => (e = .returned (.bool true) ∨ (e = .returned (.bool false) ∧ n ≤ m)) ∧ Below w.heap.size w w' := by
  have HE := hide h
  clear h
  by_cases hnm : n ≤ m
  · have e1 : ¬ m < n := by omega
    have hn1000 : n ≤ 1000 := by omega
    have HNM := hide hnm
    clear hnm
    go_enter Try.func13, Try.ntmps13
    go_wp2
    go_loop [5] (fun x5 => ∃ (j : Nat), x5 = .int .i64 (j : Int) ∧ j ≤ n) (fun x => n - (intOf x).toNat)
    case atStart => exact ⟨0, rfl, Nat.zero_le _⟩
    case round =>
      obtain ⟨j, rfl, hj⟩ := hrel
      by_cases hjn : j < n
      · obtain ⟨b, o, r, rfl, hbl, hr, hok, k0, k1, k2⟩ := HE.out.at_ hjn
        by_cases h40 : r.n ≤ 40
        · have e2 : decide ((40 : Int) < (r.n : Int)) = false := by simp; omega
          clear hr hok
          go_wp2
          go_round
          case rel => exact ⟨j + 1, by go_num, by omega⟩
          case measure => simp [intOf]; omega
        · have e2 : decide ((40 : Int) < (r.n : Int)) = true := by simp; omega
          clear hr hok
          go_wp2
          go_ret
          exact ⟨.inl rfl, Below.refl _ _⟩
      · have e9 : decide ((j : Int) < (n : Int)) = false := by simp; omega
        go_wp2
        go_ret
        exact ⟨.inr ⟨rfl, HNM.out⟩, Below.refl _ _⟩
  · have e1 : m < n := by omega
    clear hnm
    go_enter Try.func13, Try.ntmps13
    go_wp2
    go_ret
    exact ⟨.inl rfl, Below.refl _ _⟩
theorem done7 {w : World} {k t n c : Nat} {A : Option Addr} (hN : Now w k t A n c) (hn : n ≤ 1000) {r : TA} (hr : r.ok w) :
    Calls Try.prog 15 #[.pointer (some ⟨t, 0, none⟩), .slice A n c, .agg #[.bool r.d, .slice r.A r.n r.c, .int .u64 (r.v : Int)]] w (DoneOut w k n) := by
  obtain ⟨d, RA, Rn, Rc, p, v⟩ := r
  obtain ⟨h1, h2, h3, h4⟩ := hr
  cases d with
  | true => exact done_del hN hn h1 h2 h3 h4
  | false => exact done_put hN hn h1 h2 h3 h4
set_option maxHeartbeats 4000000 in
set_option maxRecDepth 100000 in
theorem grown7 {w : World} {k n c : Nat} {A : Option Addr} {acts : List TA} (hk1 : 1 ≤ k) (hk : k ≤ 16) (hE : ActsAt w A n acts) (hn : n ≤ 100) :
    Calls Try.prog 14 #[.int .i64 (k : Int), .slice A n c] w fun e w' => ∃ (t : Nat) (A' : Option Addr) (n' c' : Nat), e = .returned (.tuple #[.pointer (some ⟨t, 0, none⟩), .slice A' n' c', .bool true]) ∧ Now w' k t A' n' c' ∧ n' ≤ n ∧ Below w.heap.size w w' := by
  have HN := hide (tr_new k w hk1 hk)
  have HE := hide hE
  clear hE
  go_enter Try.func14, Try.ntmps14
  go_wp2_with fail
  refine HN.out.mono ?_
  rintro e w1 ⟨rfl, hT1, hb1⟩
  have hal := (Below.refl w1.heap.size w1).alloc (Nat.le_refl _) (.cells #[] 84)
  have HB2 := hide (below_then hb1 hal)
  have HNW := hide (now_new (A := some ⟨w1.heap.size, 0, none⟩) (c := 0) hk1 hk (Blk.below hT1 hal))
  clear hT1 hb1 hal HN
  go_wp2
  go_loopw [7, 9, 10] (fun x7 x9 x10 wr => ∃ (j t : Nat) (A' : Option Addr) (n' c' : Nat), x7 = .pointer (some ⟨t, 0, none⟩) ∧ x9 = .slice A' n' c' ∧ x10 = .int .i64 (j : Int) ∧ j ≤ n ∧ n' ≤ j ∧ Now wr k t A' n' c' ∧ Below w.heap.size w wr) (fun _ _ x _ => n - (intOf x).toNat)
  case atStart => exact ⟨0, w.heap.size, some ⟨w1.heap.size, 0, none⟩, 0, 0, rfl, rfl, rfl, Nat.zero_le _, Nat.le_refl _, HNW.out, HB2.out⟩
  case round =>
    obtain ⟨j, t, A', n', c', rfl, rfl, rfl, hj, hnj, hNow, hb⟩ := hrel
    have HNow := hide hNow
    have HBr := hide hb
    rename World => wz
    by_cases hjn : j < n
    · obtain ⟨b, o, r, rfl, hbl, hr, hok, k0, k1, k2⟩ := (HE.out.below hb).at_ hjn
      have HD := hide (done7 hNow (by omega) hok)
      clear hNow hb hr hok
      go_wp2_with fail
      refine HD.out.mono ?_
      rintro e w5 ⟨t', A5, n5, c5, rfl, hN5, hn5, hb5⟩
      have HH := hide (And.intro hN5 (below_then HBr.out hb5))
      clear hN5 hb5 HD k0 k1 k2
      go_wp2
      go_roundw
      case rel => exact ⟨j + 1, t', A5, n5, c5, rfl, rfl, by go_num, by omega, by omega, HH.out.1, HH.out.2⟩
      case measure => simp [intOf]; omega
    · have e9 : decide ((j : Int) < (n : Int)) = false := by simp; omega
      clear hNow hb
      go_wp2
      go_ret3
      exact ⟨t, A', n', c', rfl, HNow.out, by omega, HBr.out⟩
end Go.Proofs.Ytfoapkcgdkfggaa
set_option linter.unusedSimpArgs false
set_option linter.unusedVariables false
namespace Go.Proofs.Ytfoapkcgdkfggaa
open Go.RowKit
theorem Rw.uniq {w : World} {sz n : Nat} {A : Option Addr} {vs vs' : List Value} (h : Rw w sz A n vs) (h' : Rw w sz A n vs') : vs = vs' := by
  have hl : vs.length = vs'.length := by rw [h.1, h'.1]
  refine List.ext_getElem? fun j => ?_
  rcases Nat.lt_or_ge j vs.length with hj | hj
  · have hn : 0 < n := by
      rcases Nat.eq_zero_or_pos n with h0 | h0
      · rw [h.1, h0, Nat.zero_mul] at hj
        omega
      · exact h0
    obtain ⟨b, o, h1, -, h2⟩ := h.2 hn
    obtain ⟨b', o', h1', -, h2'⟩ := h'.2 hn
    rw [h1] at h1'
    injection h1' with h1'
    injection h1' with e1 e2
    subst e1 e2
    rw [List.getElem?_eq_getElem hj, List.getElem?_eq_getElem (hl ▸ hj), ← h2 j _ (List.getElem?_eq_getElem hj), ← h2' j _ (List.getElem?_eq_getElem (hl ▸ hj))]
  · rw [List.getElem?_eq_none hj, List.getElem?_eq_none (hl ▸ hj)]
theorem u64s_inj {p q : List Nat} (h : u64s p = u64s q) : p = q := by
  unfold u64s at h
  exact (List.map_inj_right (fun a b hab => by injection hab with _ hab; omega)).1 h
theorem Pt.uniq {w : World} {k : Nat} {A : Option Addr} {p q : List Nat} (h : Pt w A k p) (h' : Pt w A k q) : p = q := u64s_inj (h.2.1.uniq h'.2.1)
theorem clv_inj : ∀ {cs ds : List Cl}, clv cs = clv ds → cs = ds
  | [], [], _ => rfl
  | [], d :: ds, h => by simp [clv, Cl.vals] at h
  | c :: cs, [], h => by simp [clv, Cl.vals] at h
  | c :: cs, d :: ds, h => by
    rw [clv_cons, clv_cons] at h
    simp only [Cl.vals, List.cons_append, List.nil_append, List.cons.injEq, Value.int.injEq, Value.bool.injEq, true_and] at h
    obtain ⟨h1, h2, h3, h4⟩ := h
    obtain ⟨a, x, b⟩ := c
    obtain ⟨a', x', b'⟩ := d
    simp only at h1 h2 h3
    obtain rfl : a = a' := by omega
    subst h2 h3
    rw [clv_inj h4]
theorem SlotsAt_n.uniq {w : World} {g k : Nat} {L L' : Th} (h : SlotsAt_n w g k L) (h' : SlotsAt_n w g k L') : L = L' := by
  obtain ⟨A, m, c, h1, h2, -, -, -, h3, -⟩ := h.cells
  obtain ⟨A', m', c', h1', h2', -, -, -, h3', -⟩ := h'.cells
  have he := (Blk.eq_ h1 h1').2
  simp only [Array.mk.injEq, List.cons.injEq, Value.slice.injEq, and_true, true_and] at he
  obtain ⟨-, e1, e2, e3⟩ := he
  subst e1 e2 e3
  have hc := clv_inj (h2.uniq h2')
  have hm : mkC L = mkC L' := by rw [← h3, ← h3', hc]
  unfold mkC at hm
  exact (List.map_inj_right (fun a b hab => by
    obtain ⟨a1, a2⟩ := a
    obtain ⟨b1, b2⟩ := b
    simpa using hab)).1 hm
theorem kids_uniq {w : World} {k : Nat} : ∀ {ks ks' : List Kid}, (∀ q ∈ ks, ∀ {lv : Int} {pre : List Nat} {es : List Ent}, NodeOf w k q.blk lv pre es → q.lv = lv ∧ q.pre = pre ∧ q.es = es) → (∀ q ∈ ks', NodeOf w k q.blk q.lv q.pre q.es) → kidTh ks = kidTh ks' → kidEs ks = kidEs ks'
  | [], [], _, _, _ => rfl
  | [], d :: ds, _, _, h => by simp [kidTh] at h
  | c :: cs, [], _, _, h => by simp [kidTh] at h
  | c :: cs, d :: ds, h1, h2, h => by
    simp only [kidTh, List.map_cons, List.cons.injEq, Prod.mk.injEq, Value.pointer.injEq, Option.some.injEq, Addr.mk.injEq, and_true] at h
    obtain ⟨⟨h3, h4⟩, h5⟩ := h
    have hd := h2 d (List.mem_cons_self ..)
    rw [← h4] at hd
    have := (h1 c (List.mem_cons_self ..) hd).2.2
    have hr := kids_uniq (fun q hq => h1 q (List.mem_cons_of_mem _ hq)) (fun q hq => h2 q (List.mem_cons_of_mem _ hq)) h5
    unfold kidEs at hr ⊢
    rw [List.flatMap_cons, List.flatMap_cons, this, hr]
/-- What a node's block says: one node. -/
theorem NodeOf.uniq {w : World} {k g : Nat} {lv : Int} {pre : List Nat} {es : List Ent} (h : NodeOf w k g lv pre es) : ∀ {lv' : Int} {pre' : List Nat} {es' : List Ent}, NodeOf w k g lv' pre' es' → lv = lv' ∧ pre = pre' ∧ es = es' := by
  induction h with
  | leaf hv hp hc hB =>
    intro lv' pre' es' h'
    cases h' with
    | leaf hv' hp' hc' hB' =>
      have he := (Blk.eq_ hB hB').2
      simp [nodeCells] at he
      obtain ⟨⟨e1, e2⟩, e3, -⟩ := he
      subst e1
      obtain rfl := hp.uniq hp'
      exact ⟨rfl, rfl, rfl⟩
    | fork ks hlv hp' hc' hz hk hl ha hs h2 hS hB' =>
      have he := (Blk.eq_ hB hB').2
      simp [nodeCells] at he
  | fork ks hlv hp hc hz hk hl ha hs h2 hS hB ih =>
    intro lv' pre' es' h'
    cases h' with
    | leaf hv' hp' hc' hB' =>
      have he := (Blk.eq_ hB hB').2
      simp [nodeCells] at he
    | fork ks' hlv' hp' hc' hz' hk' hl' ha' hs' h2' hS' hB' =>
      have he := (Blk.eq_ hB hB').2
      simp [nodeCells] at he
      obtain ⟨e0, ⟨e1, e2⟩, e3, -⟩ := he
      subst e1 e3
      obtain rfl := hp.uniq hp'
      exact ⟨by omega, rfl, kids_uniq ih hk' (hS.uniq hS')⟩
end Go.Proofs.Ytfoapkcgdkfggaa
set_option linter.unusedSimpArgs false
set_option linter.unusedVariables false
namespace Go.Proofs.Ytfoapkcgdkfggaa
open Go.RowKit
def maxN (l : List Nat) : Nat := l.foldl Nat.max 0
theorem maxN_snoc (l : List Nat) (d : Nat) : maxN (l ++ [d]) = Nat.max (maxN l) d := by simp [maxN]
/-- The blocks of a node and of all below it, the node first; how deep it is. -/
inductive Bel (w : World) (k : Nat) : Nat → List Nat → Nat → List Ent → Prop
  | leaf {g : Nat} {A : Option Addr} {c v : Nat} {p : List Nat} (hv : v < 2 ^ 64) (hc : k ≤ c) (hp : Pt w A k p) (hB : Blk w g 103 (nodeCells (-1) A k c v none ⟨1, v, v, v⟩)) : Bel w k g [g] 1 [(p, v)]
  | fork {g m : Nat} {pre : List Nat} {ks : List Kid} (f : Kid → List Nat) (d : Kid → Nat) (hF : Fork w k g m pre ks) (hk : ∀ q ∈ ks, Bel w k q.blk (f q) (d q) q.es) : Bel w k g (g :: ks.flatMap f) (maxN (ks.map d) + 1) (kidEs ks)
theorem bel_ex {w : World} {k : Nat} : ∀ (n g : Nat) (lv : Int) (pre : List Nat) (es : List Ent), lv + 1 < n → NodeOf w k g lv pre es → ∃ L d, Bel w k g L d es
  | 0, g, lv, pre, es, hn, h => by have := h.info.2.2.1; omega
  | n + 1, g, lv, pre, es, hn, h => by
    rcases h.cases' with ⟨A, c, v, rfl, rfl, hv, hP, hc, hB⟩ | ⟨m, ks, rfl, rfl, hF⟩
    · exact ⟨_, _, .leaf hv hc hP hB⟩
    · have ih : ∀ q : Kid, ∃ L d, q ∈ ks → Bel w k q.blk L d q.es := fun q => by
        by_cases hq : q ∈ ks
        · obtain ⟨h1, h2, -⟩ := hF.kid q hq
          obtain ⟨L, d, h⟩ := bel_ex n q.blk q.lv q.pre q.es (by omega) h1
          exact ⟨L, d, fun _ => h⟩
        · exact ⟨[], 0, fun h => absurd h hq⟩
      have ih2 : ∀ q : Kid, ∃ x : List Nat × Nat, q ∈ ks → Bel w k q.blk x.1 x.2 q.es := fun q => by
        obtain ⟨L, d, h⟩ := ih q
        exact ⟨(L, d), h⟩
      obtain ⟨F, hFn⟩ := Classical.axiomOfChoice ih2
      exact ⟨_, _, .fork (fun q => (F q).1) (fun q => (F q).2) hF fun q hq => hFn q hq⟩
section
variable {w w' : World} {k g d : Nat} {L : List Nat} {es : List Ent}
theorem Bel.stay (h : Bel w k g L d es) (hb : Below w.heap.size w w') : Bel w' k g L d es := by
  induction h with
  | leaf hv hc hp hB => exact .leaf hv hc (hp.below hb) (hB.below hb)
  | fork f d hF hk ih => exact .fork f d (hF.stay hb) ih
theorem Bel.node (h : Bel w k g L d es) : ∃ cs, Blk w g 103 cs := by
  cases h with
  | leaf hv hc hp hB => exact ⟨_, hB⟩
  | fork f d hF hk =>
    obtain ⟨A, c, gs, hp, hS, hB⟩ := hF.head
    exact ⟨_, hB⟩
theorem flat_len {ks : List Kid} {f : Kid → List Nat} (h : ∀ q ∈ ks, (f q).length + 1 ≤ 2 * q.es.length) : (ks.flatMap f).length + ks.length ≤ 2 * (kidEs ks).length := by
  induction ks with
  | nil => simp [kidEs]
  | cons q ks ih =>
    have h1 := h q (List.mem_cons_self ..)
    have h2 := ih fun r hr => h r (List.mem_cons_of_mem _ hr)
    unfold kidEs at h2 ⊢
    simp only [List.flatMap_cons, List.length_append, List.length_cons]
    omega
theorem flat_ge {ks : List Kid} {f : Kid → List Nat} (h : ∀ q ∈ ks, q.es.length ≤ (f q).length) : (kidEs ks).length ≤ (ks.flatMap f).length := by
  induction ks with
  | nil => simp [kidEs]
  | cons q ks ih =>
    have h1 := h q (List.mem_cons_self ..)
    have h2 := ih fun r hr => h r (List.mem_cons_of_mem _ hr)
    unfold kidEs at h2 ⊢
    simp only [List.flatMap_cons, List.length_append, List.length_cons]
    omega
/-- Fewer than twice as many nodes as entries; no fewer than entries. -/
theorem Bel.size (h : Bel w k g L d es) : L.length + 1 ≤ 2 * es.length ∧ es.length ≤ L.length := by
  induction h with
  | leaf hv hc hp hB => simp
  | fork f d hF hk ih =>
    have h1 := flat_len fun q hq => (ih q hq).1
    have h2 := flat_ge fun q hq => (ih q hq).2
    have h3 := hF.two
    simp only [List.length_cons]
    omega
end
theorem Bel.nodeOf {w : World} {k g d : Nat} {L : List Nat} {es : List Ent} (h : Bel w k g L d es) : ∃ lv pre, NodeOf w k g lv pre es := by
  cases h with
  | leaf hv hc hp hB => exact ⟨_, _, .leaf hv hp hc hB⟩
  | fork f d hF hk => exact ⟨_, _, hF.node⟩
theorem Bel.head {w : World} {k g d : Nat} {L : List Nat} {es : List Ent} (h : Bel w k g L d es) : ∃ M, L = g :: M := by
  cases h with
  | leaf hv hc hp hB => exact ⟨_, rfl⟩
  | fork f d hF hk => exact ⟨_, rfl⟩
/-- What lies below has entries of it, and no higher a level. -/
theorem Bel.sub {w : World} {k g d : Nat} {L : List Nat} {es : List Ent} (h : Bel w k g L d es) : ∀ {lv : Int} {pre : List Nat}, NodeOf w k g lv pre es → ∀ x ∈ L, ∃ lv' pre' es', NodeOf w k x lv' pre' es' ∧ es' ≠ [] ∧ (∀ e ∈ es', e ∈ es) ∧ lv' ≤ lv := by
  induction h with
  | leaf hv hc hp hB =>
    intro lv pre hN x hx
    rw [List.mem_singleton] at hx
    subst hx
    exact ⟨lv, pre, _, hN, by simp, fun e he => he, Int.le_refl _⟩
  | fork f d hF hk ih =>
    intro lv pre' hN x hx
    rcases List.mem_cons.1 hx with rfl | hx
    · exact ⟨lv, pre', _, hN, hN.info.2.1, fun e he => he, Int.le_refl _⟩
    · obtain ⟨q, hq, hxq⟩ := List.mem_flatMap.1 hx
      obtain ⟨h1, h2, -⟩ := hF.kid q hq
      obtain ⟨lv2, pre2, es2, h3, h4, h5, h6⟩ := ih q hq h1 x hxq
      have hlv := (hN.uniq hF.node).1
      refine ⟨lv2, pre2, es2, h3, h4, fun e he => ?_, by omega⟩
      unfold kidEs
      exact List.mem_flatMap.2 ⟨q, hq, h5 e he⟩
theorem nodup_flat {α β : Type} {f : α → List β} : ∀ {l : List α}, (∀ a ∈ l, (f a).Nodup) → l.Pairwise (fun a b => ∀ x, x ∈ f a → x ∈ f b → False) → (l.flatMap f).Nodup
  | [], _, _ => by simp
  | a :: l, h, hp => by
    obtain ⟨h1, h2⟩ := List.pairwise_cons.1 hp
    rw [List.flatMap_cons]
    refine List.nodup_append.2 ⟨h a (List.mem_cons_self ..), nodup_flat (fun b hb => h b (List.mem_cons_of_mem _ hb)) h2, fun x hx y hy hxy => ?_⟩
    subst hxy
    obtain ⟨b, hb, hxb⟩ := List.mem_flatMap.1 hy
    exact h1 b hb x hx hxb
theorem Bel.nodup {w : World} {k g d : Nat} {L : List Nat} {es : List Ent} (h : Bel w k g L d es) : L.Nodup := by
  induction h with
  | leaf hv hc hp hB => simp
  | @fork g m pre ks f d hF hk ih =>
    refine List.nodup_cons.2 ⟨fun hg => ?_, ?_⟩
    · obtain ⟨q, hq, hxq⟩ := List.mem_flatMap.1 hg
      obtain ⟨h1, h2, -⟩ := hF.kid q hq
      obtain ⟨lv2, pre2, es2, h3, -, -, h6⟩ := (hk q hq).sub h1 g hxq
      have := (h3.uniq hF.node).1
      omega
    · refine nodup_flat ih ?_
      refine List.Pairwise.imp_of_mem (fun {q r} hq hr hqr => ?_) hF.sorted
      intro x hxq hxr
      obtain ⟨q1, q2, q3, -⟩ := hF.kid q hq
      obtain ⟨r1, r2, r3, -⟩ := hF.kid r hr
      obtain ⟨lv1, p1, e1, a1, a2, a3, -⟩ := (hk q hq).sub q1 x hxq
      obtain ⟨lv2, p2, e2, b1, b2, b3, -⟩ := (hk r hr).sub r1 x hxr
      obtain ⟨-, -, rfl⟩ := a1.uniq b1
      obtain ⟨e, he⟩ := List.exists_mem_of_ne_nil _ a2
      have u1 := (q1.info.2.2.2.2.1 e (a3 e he)).2.2 m q2
      have u2 := (r1.info.2.2.2.2.1 e (b3 e he)).2.2 m r2
      rw [q3] at u1
      rw [r3] at u2
      omega
/-- A node's nodes are laid into a map. -/
def AddOut (w0 w : World) (b : Nat) (S : List Nat) (L : List Nat) (d : Nat) (e : Ending) (w' : World) : Prop :=
  e = .returned (.tuple #[.int .i64 ((L.length : Nat) : Int), .int .i64 (d : Int)]) ∧ (∃ S', MapAt w' b S' ∧ ∀ x, x ∈ S' ↔ x ∈ S ∨ x ∈ L) ∧ Below w0.heap.size w0 w'
def AddOk (w0 : World) (g : Nat) (L : List Nat) (d : Nat) : Prop := ∀ (w : World) (b : Nat) (S : List Nat), MapAt w b S → Below w0.heap.size w0 w → w0.heap.size ≤ b →
  Calls Try.prog 26 #[.map (some b), .pointer (some ⟨g, 0, none⟩)] w (AddOut w0 w b S L d)
set_option maxHeartbeats 4000000 in
set_option maxRecDepth 100000 in
theorem add_nil (w : World) (b : Nat) : Calls Try.prog 26 #[.map (some b), .pointer none] w fun e w' => e = .returned (.tuple #[.int .i64 0, .int .i64 0]) ∧ w = w' := by
  go_enter Try.func26, Try.ntmps26
  go_wp2
  go_ret2
  exact ⟨rfl, rfl⟩
set_option maxHeartbeats 4000000 in
set_option maxRecDepth 100000 in
theorem add_leaf {w0 : World} {k g c v : Nat} {A : Option Addr} (hB : Blk w0 g 103 (nodeCells (-1) A k c v none ⟨1, v, v, v⟩)) : AddOk w0 g [g] 1 := by
  intro w b S hM hb hbb
  have hBw := hB.below hb
  have HM := hide hM
  have HB := hide hb
  have HBW := hide hBw
  have HBB := hide hbb
  clear hM hb hBw hbb hB
  go_enter Try.func26, Try.ntmps26
  go_wp2_with (at_mapUpdate
               refine map_box rfl (.tmp 12) (.tmp 13) _ rfl b S rfl HM.out g _ rfl rfl HBW.out ?_
               intro w1 hM1 hx1)
  have hb1 := HB.out.trans (hx1.to_below HBB.out HB.out.size)
  have HF := hide (nd_from_leaf (blk_exM HBW.out hx1 HM.out.isMap) 0)
  have HM1 := hide hM1
  have HB1 := hide hb1
  clear hx1 hM1 hb1
  go_wp2_with fail
  refine HF.out.mono ?_
  rintro e w2 ⟨rfl, rfl⟩
  go_wp2
  go_loopw [4, 5, 6, 7] (fun x4 x5 x6 x7 wr => x4 = .int .i64 0 ∧ x5 = .int .i64 0 ∧ x6 = .int .i64 0 ∧ x7 = .pointer none ∧ MapAt wr b (addN S g) ∧ Below w0.heap.size w0 wr) (fun _ _ _ _ _ => 0)
  case atStart => exact ⟨rfl, rfl, rfl, rfl, HM1.out, HB1.out⟩
  case round =>
    obtain ⟨rfl, rfl, rfl, rfl, hM2, hb2⟩ := hrel
    have HFI := hide (show AddOut w0 w b S [g] 1 (.returned (.tuple #[.int .i64 1, .int .i64 1])) _ from ⟨rfl, ⟨_, hM2, fun x => by rw [mem_addN, List.mem_singleton]⟩, hb2⟩)
    clear hM2 hb2
    go_wp2
    go_ret2
    exact HFI.out
theorem flat_takeK {ks : List Kid} {f : Kid → List Nat} {j : Nat} {q : Kid} (h : ks[j]? = some q) : (ks.take (j + 1)).flatMap f = (ks.take j).flatMap f ++ f q := by
  rw [List.take_add_one, h]
  simp
theorem map_take' {ks : List Kid} {d : Kid → Nat} {j : Nat} {q : Kid} (h : ks[j]? = some q) : (ks.take (j + 1)).map d = (ks.take j).map d ++ [d q] := by
  rw [List.take_add_one, h]
  simp
theorem flat_take_le {ks : List Kid} (f : Kid → List Nat) (j : Nat) : ((ks.take j).flatMap f).length ≤ (ks.flatMap f).length := by
  conv => rhs; rw [← List.take_append_drop j ks]
  rw [List.flatMap_append, List.length_append]
  omega
theorem mem_flat_le {ks : List Kid} (f : Kid → List Nat) {q : Kid} (h : q ∈ ks) : (f q).length ≤ (ks.flatMap f).length := by
  obtain ⟨a, b, rfl⟩ := List.append_of_mem h
  rw [List.flatMap_append, List.flatMap_cons, List.length_append, List.length_append]
  omega
theorem maxN_le {l : List Nat} {n : Nat} (h : ∀ x ∈ l, x ≤ n) : maxN l ≤ n := by
  unfold maxN
  have : ∀ (l : List Nat) (a : Nat), a ≤ n → (∀ x ∈ l, x ≤ n) → l.foldl Nat.max a ≤ n := by
    intro l
    induction l with
    | nil => intro a ha _; exact ha
    | cons x l ih =>
      intro a ha hl
      exact ih _ (Nat.max_le.2 ⟨ha, hl x (List.mem_cons_self ..)⟩) fun y hy => hl y (List.mem_cons_of_mem _ hy)
  exact this l 0 (Nat.zero_le _) h
theorem Bel.deep {w : World} {k g d : Nat} {L : List Nat} {es : List Ent} (h : Bel w k g L d es) : d ≤ L.length := by
  induction h with
  | leaf hv hc hp hB => simp
  | fork f d hF hk ih =>
    have := maxN_le (l := List.map d _) (n := (List.flatMap f _).length) fun x hx => by
      obtain ⟨q, hq, rfl⟩ := List.mem_map.1 hx
      exact Nat.le_trans (ih q hq) (mem_flat_le f hq)
    simp only [List.length_cons]
    omega
set_option maxHeartbeats 8000000 in
set_option maxRecDepth 100000 in
theorem add_fork {w0 : World} {k g m : Nat} {pre : List Nat} {ks : List Kid} (f : Kid → List Nat) (d : Kid → Nat) (hF : Fork w0 k g m pre ks) (hk : k ≤ 16) (hL : (ks.flatMap f).length ≤ 200000) (hd : ∀ q ∈ ks, d q ≤ (f q).length) (ih : ∀ q ∈ ks, AddOk w0 q.blk (f q) (d q)) : AddOk w0 g (g :: ks.flatMap f) (maxN (ks.map d) + 1) := by
  intro w b S hM hb hbb
  obtain ⟨A, c, gs, hp, hS, hB⟩ := (hF.stay hb).head
  have HM := hide hM
  have HB := hide hb
  have HBW := hide hB
  have HBB := hide hbb
  have HF := hide hF
  have HIH := hide ih
  have HSO := hide hF.sorted
  have HL := hide (And.intro hL hd)
  have HAT := hide (fun q (hq : q ∈ ks) => pow_le_16 (hF.kid q hq).2.2.2.2 hk)
  clear hM hb hbb hB hS hp hF ih hL hd
  go_enter Try.func26, Try.ntmps26
  go_wp2_with (at_mapUpdate
               refine map_box rfl (.tmp 12) (.tmp 13) _ rfl b S rfl HM.out g _ rfl rfl HBW.out ?_
               intro w1 hM1 hx1)
  have hb1 := HB.out.trans (hx1.to_below HBB.out HB.out.size)
  have H0 := hide (nd_from_0 (HF.out.stay hb1))
  have HM1 := hide hM1
  have HB1 := hide hb1
  clear hx1 hM1 hb1
  go_wp2_with fail
  refine H0.out.mono ?_
  rintro e w3 ⟨rfl, hb3⟩
  have HM3 := hide (HM1.out.below hb3)
  have HB3 := hide (HB1.out.trans (hb3.mono HB1.out.size))
  clear hb3 H0
  go_wp2
  go_loopw [4, 5, 6, 7] (fun x4 x5 x6 x7 wr => ∃ (j cnt dm : Nat) (S' : List Nat), x4 = .int .i64 (cnt : Int) ∧ x5 = .int .i64 (dm : Int) ∧ x6 = .int .i64 ((kAt ks j : Nat) : Int) ∧ x7 = kPt ks j ∧ j ≤ ks.length ∧ cnt = ((ks.take j).flatMap f).length ∧ dm = maxN ((ks.take j).map d) ∧ MapAt wr b S' ∧ (∀ x, x ∈ S' ↔ x ∈ S ∨ x = g ∨ x ∈ (ks.take j).flatMap f) ∧ Below w0.heap.size w0 wr) (fun _ _ x6 x7 _ => fromM x6 x7)
  case atStart => exact ⟨0, 0, 0, _, rfl, rfl, rfl, rfl, Nat.zero_le _, rfl, rfl, HM3.out, fun x => by rw [mem_addN]; simp, HB3.out⟩
  case round =>
    obtain ⟨j, cnt, dm, S', rfl, rfl, rfl, rfl, hj, hcnt, hdm, hM, hmem, hb⟩ := hrel
    rename World => wz
    have HMz := hide hM
    have HBz := hide hb
    have HMEM := hide hmem
    have HJ := hide (And.intro hcnt hdm)
    have hcl := flat_take_le (ks := ks) f j
    have hcb : cnt ≤ 200000 := by have := HL.out.1; omega
    have hdb : dm ≤ 200000 := by
      rw [hdm]
      refine maxN_le fun x hx => ?_
      obtain ⟨q, hq, rfl⟩ := List.mem_map.1 hx
      have hq := List.mem_of_mem_take hq
      have h1 := HL.out.2 q hq
      have h2 := mem_flat_le f hq
      have h3 := HL.out.1
      omega
    clear hM hb hmem hcnt hdm hcl HM3 HB3
    by_cases hjn : j < ks.length
    · obtain ⟨q, hq⟩ : ∃ q, ks[j]? = some q := ⟨ks[j], List.getElem?_eq_getElem hjn⟩
      rw [kAt_some hq, kPt_some hq]
      have hqm := List.mem_of_getElem? hq
      have hqa := HAT.out q hqm
      have hqa1 : ((q.at_ : Nat) : Int) ≤ 65535 := by omega
      have HI := hide (HIH.out q hqm wz b S' HMz.out HBz.out HBB.out)
      have hfq := mem_flat_le f hqm
      have hL := HL.out.1
      have hfb : (f q).length ≤ 200000 := by omega
      have hdq : d q ≤ 200000 := by have := HL.out.2 q hqm; omega
      have HQ := hide hq
      obtain ⟨cq, hcq⟩ : ∃ cq, (f q).length = cq := ⟨_, rfl⟩
      obtain ⟨dq, hdq'⟩ : ∃ dq, d q = dq := ⟨_, rfl⟩
      unfold AddOut at HI
      rw [hcq, hdq'] at HI
      rw [hcq] at hfb
      rw [hdq'] at hdq
      have HCD := hide (And.intro hcq hdq')
      have i1 : IntKind.i64.wrap ((cnt : Int) + (cq : Int)) = ((cnt + cq : Nat) : Int) := by
        rw [IntKind.wrap_i64]
        omega
      have i2 : max (dm : Int) (dq : Int) = ((Nat.max dm dq : Nat) : Int) := by
        simp only [Nat.max_def]
        split <;> omega
      clear hq hqm hqa hfq hL hcq hdq'
      go_wp2_with fail
      refine HI.out.mono ?_
      rintro e w5 ⟨rfl, ⟨S5, hM5, hmem5⟩, hb5⟩
      have HN := hide (nd_from_next (HF.out.stay hb5) HQ.out)
      have H5 := hide (And.intro hM5 (And.intro hmem5 hb5))
      clear hM5 hmem5 hb5 HI
      go_wp2_with fail
      refine HN.out.mono ?_
      rintro e w6 ⟨rfl, hb6⟩
      have HB6 := hide hb6
      clear hb6 HN
      go_wp2
      go_roundw
      case rel =>
        obtain ⟨hM5, hmem5, hb5⟩ := H5.out
        refine ⟨j + 1, cnt + cq, Nat.max dm dq, S5, rfl, rfl, rfl, rfl, by omega, ?_, ?_, hM5.below HB6.out, fun x => ?_, hb5.trans (HB6.out.mono hb5.size)⟩
        · rw [flat_takeK HQ.out, List.length_append, HCD.out.1, ← HJ.out.1]
        · rw [map_take' HQ.out, maxN_snoc, HCD.out.2, ← HJ.out.2]
        · rw [hmem5, HMEM.out, flat_takeK HQ.out, List.mem_append]
          simp only [or_assoc]
      case measure => exact fromM_lt HSO.out HAT.out HQ.out
    · rw [kPt_none (show ks.length ≤ j by omega)]
      have htk : ks.take j = ks := List.take_of_length_le (by omega)
      have i1 : IntKind.i64.wrap ((cnt : Int) + 1) = (cnt : Int) + 1 := by rw [IntKind.wrap_i64]; omega
      have i2 : IntKind.i64.wrap ((dm : Int) + 1) = (dm : Int) + 1 := by rw [IntKind.wrap_i64]; omega
      have HFI := hide (show AddOut w0 w b S (g :: ks.flatMap f) (maxN (ks.map d) + 1) (.returned (.tuple #[.int .i64 ((cnt : Int) + 1), .int .i64 ((dm : Int) + 1)])) wz from by
        refine ⟨?_, ⟨S', HMz.out, fun x => ?_⟩, HBz.out⟩
        · have h1 := HJ.out.1
          have h2 := HJ.out.2
          rw [htk] at h1 h2
          rw [← h2, List.length_cons, ← h1]
          rfl
        · rw [HMEM.out, htk, List.mem_cons])
      clear htk
      go_wp2
      go_ret2
      exact HFI.out
theorem add_ok {w0 : World} {k g d : Nat} {L : List Nat} {es : List Ent} (h : Bel w0 k g L d es) (hk : k ≤ 16) (hL : L.length ≤ 200000) : AddOk w0 g L d := by
  induction h with
  | leaf hv hc hp hB => exact add_leaf hB
  | fork f d hF hb ih =>
    simp only [List.length_cons] at hL
    exact add_fork f d hF hk (by omega) (fun q hq => (hb q hq).deep) fun q hq => ih q hq (by have := mem_flat_le f hq; omega)
end Go.Proofs.Ytfoapkcgdkfggaa
set_option linter.unusedSimpArgs false
set_option linter.unusedVariables false
namespace Go.Proofs.Ytfoapkcgdkfggaa
open Go.RowKit
/-- A tree's nodes: none, or a node and all below it. -/
def TBel (w : World) (k : Nat) (root : Option Addr) (L : List Nat) (d : Nat) (es : List Ent) : Prop := (root = none ∧ L = [] ∧ d = 0 ∧ es = []) ∨ ∃ g, root = some ⟨g, 0, none⟩ ∧ Bel w k g L d es
theorem TBel.stay {w w' : World} {k d : Nat} {root : Option Addr} {L : List Nat} {es : List Ent} (h : TBel w k root L d es) (hb : Below w.heap.size w w') : TBel w' k root L d es := by
  rcases h with h | ⟨g, h1, h2⟩
  · exact .inl h
  · exact .inr ⟨g, h1, h2.stay hb⟩
theorem TreeOf.bel {w : World} {k t : Nat} {es : List Ent} (h : TreeOf w k t es) : ∃ root L d, TreeBlk w t k root ∧ TBel w k root L d es ∧ k ≤ 16 ∧ L.length ≤ 2 * es.length ∧ es.length ≤ L.length ∧ (es ≠ [] → L.length < 2 * es.length) := by
  obtain ⟨h1, h2, ⟨h3, rfl⟩ | ⟨g, lv, pre, h3, h4⟩⟩ := h
  · exact ⟨none, [], 0, h3, .inl ⟨rfl, rfl, rfl, rfl⟩, h2, by simp, by simp, fun h => absurd rfl h⟩
  · obtain ⟨L, d, hB⟩ := bel_ex ((lv + 1).toNat + 1) g lv pre es (by have := h4.info.2.2.1; omega) h4
    have hs := hB.size
    exact ⟨_, L, d, h3, .inr ⟨g, rfl, hB⟩, h2, by omega, hs.2, fun _ => by omega⟩
set_option maxHeartbeats 4000000 in
set_option maxRecDepth 100000 in
theorem share_add {w0 w : World} {k d b : Nat} {root : Option Addr} {L S : List Nat} {es : List Ent} (h : TBel w0 k root L d es) (hk : k ≤ 16) (hL : L.length ≤ 200000) (hM : MapAt w b S) (hb : Below w0.heap.size w0 w) (hbb : w0.heap.size ≤ b) :
    Calls Try.prog 26 #[.map (some b), .pointer root] w (AddOut w0 w b S L d) := by
  rcases h with ⟨rfl, rfl, rfl, rfl⟩ | ⟨g, rfl, h⟩
  · refine (add_nil w b).mono fun e w' ⟨h1, h2⟩ => ?_
    subst h2
    exact ⟨h1, ⟨S, hM, by simp⟩, hb⟩
  · exact add_ok h hk hL w b S hM hb hbb
/-- A new map of a tree's nodes. -/
def NodesOut (w : World) (L : List Nat) (e : Ending) (w' : World) : Prop := ∃ b S, e = .returned (.map (some b)) ∧ MapAt w' b S ∧ (∀ x, x ∈ S ↔ x ∈ L) ∧ w.heap.size ≤ b ∧ Below w.heap.size w w'
set_option maxHeartbeats 4000000 in
set_option maxRecDepth 100000 in
theorem sh_nodes_of {w : World} {k d : Nat} {t root : Option Addr} {L : List Nat} {es : List Ent} (hR : ∀ W, Below w.heap.size w W → Calls Try.prog 19 #[.pointer t] W fun e w' => e = .returned (.pointer root) ∧ W = w') (h : TBel w k root L d es) (hk : k ≤ 16) (hL : L.length ≤ 200000) :
    Calls Try.prog 25 #[.pointer t] w (NodesOut w L) := by
  have hmm := @run_makeMap Try.prog
  have hb1 := (Below.refl w.heap.size w).alloc (Nat.le_refl _) (.map #[] 0)
  have HR := hide (hR _ hb1)
  have HA := hide (share_add h hk hL (map_new w) hb1 (Nat.le_refl _))
  clear hR h hb1
  go_enter Try.func25, Try.ntmps25
  go_wp2_with fail
  refine HR.out.mono ?_
  rintro e w2 ⟨rfl, rfl⟩
  go_wp2_with fail
  refine HA.out.mono ?_
  rintro e w3 ⟨rfl, ⟨S', hM, hm⟩, hb⟩
  have HF := hide (show NodesOut w L (.returned (.map (some w.heap.size))) w3 from ⟨_, S', rfl, hM, fun x => by rw [hm]; simp, Nat.le_refl _, hb⟩)
  clear hM hm hb
  go_wp2
  go_ret
  exact HF.out
set_option maxHeartbeats 4000000 in
set_option maxRecDepth 100000 in
theorem sh_depth_of {w : World} {k d : Nat} {t root : Option Addr} {L : List Nat} {es : List Ent} (hR : ∀ W, Below w.heap.size w W → Calls Try.prog 19 #[.pointer t] W fun e w' => e = .returned (.pointer root) ∧ W = w') (h : TBel w k root L d es) (hk : k ≤ 16) (hL : L.length ≤ 200000) :
    Calls Try.prog 12 #[.pointer t] w fun e w' => e = .returned (.int .i64 (d : Int)) ∧ Below w.heap.size w w' := by
  have hmm := @run_makeMap Try.prog
  have hb1 := (Below.refl w.heap.size w).alloc (Nat.le_refl _) (.map #[] 0)
  have HR := hide (hR _ hb1)
  have HA := hide (share_add h hk hL (map_new w) hb1 (Nat.le_refl _))
  clear hR h hb1
  go_enter Try.func12, Try.ntmps12
  go_wp2_with fail
  refine HR.out.mono ?_
  rintro e w2 ⟨rfl, rfl⟩
  go_wp2_with fail
  refine HA.out.mono ?_
  rintro e w3 ⟨rfl, -, hb⟩
  have HF := hide hb
  clear hb
  go_wp2
  go_ret
  exact ⟨rfl, HF.out⟩
theorem perm_len {S L : List Nat} (hS : S.Nodup) (hL : L.Nodup) (h : ∀ x, x ∈ S ↔ x ∈ L) : S.length = L.length := ((List.perm_ext_iff_of_nodup hS hL).2 h).length_eq
theorem MapAt.nodup {w : World} {b : Nat} {S : List Nat} (h : MapAt w b S) : S.Nodup := by
  obtain ⟨es, clock, -, hE⟩ := h
  exact hE.nodup
set_option maxHeartbeats 4000000 in
set_option maxRecDepth 100000 in
theorem sh_Nodes_of {w : World} {k d : Nat} {t root : Option Addr} {L : List Nat} {es : List Ent} (hR : ∀ W, Below w.heap.size w W → Calls Try.prog 19 #[.pointer t] W fun e w' => e = .returned (.pointer root) ∧ W = w') (h : TBel w k root L d es) (hk : k ≤ 16) (hL : L.length ≤ 200000) (hN : L.Nodup) :
    Calls Try.prog 11 #[.pointer t] w fun e w' => e = .returned (.int .i64 ((L.length : Nat) : Int)) ∧ Below w.heap.size w w' := by
  have HN := hide (sh_nodes_of hR h hk hL)
  clear hR h
  go_enter Try.func11, Try.ntmps11
  go_wp2_with fail
  refine HN.out.mono ?_
  rintro e w3 ⟨b, S, rfl, hM, hm, -, hb⟩
  have hl := perm_len hM.nodup hN hm
  have hln := map_len hM
  rw [hl] at hln
  have HF := hide hb
  clear hb hl hm hM
  go_wp2
  go_ret
  exact ⟨rfl, HF.out⟩
theorem TBel.nodup {w : World} {k d : Nat} {root : Option Addr} {L : List Nat} {es : List Ent} (h : TBel w k root L d es) : L.Nodup := by
  rcases h with ⟨-, rfl, -, -⟩ | ⟨g, -, h⟩
  · simp
  · exact h.nodup
theorem TBel.blk {w : World} {k d : Nat} {root : Option Addr} {L : List Nat} {es : List Ent} (h : TBel w k root L d es) : ∀ x ∈ L, ∃ cs, Blk w x 103 cs := by
  rcases h with ⟨-, rfl, -, -⟩ | ⟨g, -, h⟩
  · intro x hx; cases hx
  · intro x hx
    obtain ⟨lv, pre, hN⟩ := h.nodeOf
    obtain ⟨lv', pre', es', h1, -⟩ := h.sub hN x hx
    cases h1 with
    | leaf _ _ _ hB => exact ⟨_, hB⟩
    | fork _ _ _ _ _ _ _ _ _ _ _ hB => exact ⟨_, hB⟩
/-- How many of the second list are in the first. -/
def comN (A B : List Nat) : Nat := (B.filter (fun x => decide (x ∈ A))).length
theorem comN_perm {A A' B B' : List Nat} (h : ∀ x, x ∈ A ↔ x ∈ A') (hB : B.Perm B') : comN A B = comN A' B' := by
  unfold comN
  have h1 : B.filter (fun x => decide (x ∈ A)) = B.filter (fun x => decide (x ∈ A')) := List.filter_congr fun x _ => by simp [h x]
  rw [h1]
  exact (hB.filter _).length_eq
theorem comN_le (A B : List Nat) : comN A B ≤ B.length := List.length_filter_le ..
set_option maxHeartbeats 4000000 in
set_option maxRecDepth 100000 in
theorem sh_shared {w : World} {k k' d d' a b : Nat} {ra rb : Option Addr} {LA LB : List Nat} {ea eb : List Ent} (hA : TreeBlk w a k ra) (hB : TreeBlk w b k' rb) (h : TBel w k ra LA d ea) (h' : TBel w k' rb LB d' eb) (hk : k ≤ 16) (hk' : k' ≤ 16) (hL : LA.length ≤ 200000) (hL' : LB.length ≤ 200000) :
    Calls Try.prog 8 #[.pointer (some ⟨a, 0, none⟩), .pointer (some ⟨b, 0, none⟩)] w fun e w' => e = .returned (.tuple #[.int .i64 ((comN LA LB : Nat) : Int), .int .i64 0]) ∧ Below w.heap.size w w' := by
  have HA := hide (sh_nodes_of (fun W hW => tr_root (hA.below hW)) h hk hL)
  have HB := hide (fun W (hW : Below w.heap.size w W) => sh_nodes_of (w := W) (fun X hX => tr_root (hB.below (below_then hW hX))) (h'.stay hW) hk' hL')
  have HD := hide (And.intro h.nodup (And.intro h'.nodup (And.intro (fun x hx => h.blk x hx) (fun x hx => h'.blk x hx))))
  have HLL := hide (And.intro hL hL')
  clear hA hB h h'
  go_enter Try.func8, Try.ntmps8
  go_wp2_with fail
  refine HA.out.mono ?_
  rintro e w1 ⟨ba, SA, rfl, hMA, hma, hla, hb1⟩
  have HB1 := hide (HB.out w1 hb1)
  have HMA := hide hMA
  have HQ1 := hide hb1
  clear hMA hb1 HA
  go_wp2_with fail
  refine HB1.out.mono ?_
  rintro e w2 ⟨bb, SB, rfl, hMB, hmb, hlb, hb2⟩
  obtain ⟨ob, hr, hI⟩ := map_go hMB
  have hal := fun (o : Obj) => (Below.refl w2.heap.size w2).alloc (Nat.le_refl _) o
  have hMA2 := HMA.out.below hb2
  have hne : ba ≠ bb := by have := HMA.out.lt; omega
  have hltA := hMA2.lt
  have hltB := hMB.lt
  have hbt := below_then HQ1.out hb2
  have HI := hide hI
  have HM3 := hide (hMA2.below (hal ob))
  have HQ3 := hide (below_then hbt (hal ob))
  have HS := hide (And.intro hma (And.intro hmb hMB.nodup))
  have HLO := hide (And.intro hla (And.intro (show w.heap.size ≤ w2.heap.size from hbt.size) (And.intro hltA (And.intro hltB hne))))
  clear hI hal hMA2 hbt hMB hb2 HB1 HB hma hmb hla hlb hltA hltB hne
  go_wp2
  go_loopw [6] (fun x6 wr => ∃ (n : Nat) (left : List Nat), x6 = .int .i64 (n : Int) ∧ n + comN LA left = comN LA SB ∧ IterAt wr w2.heap.size bb SB left ∧ MapAt wr ba SA ∧ Below w.heap.size w wr) (fun _ wr => wr.rangeLeft bb w2.heap.size)
  case atStart => exact ⟨0, SB, rfl, by omega, HI.out, HM3.out, HQ3.out⟩
  case round =>
    obtain ⟨n, left, rfl, hn, hI, hMA, hb⟩ := hrel
    rename World => wz
    have HIz := hide hI
    have HMz := hide hMA
    have HBz := hide hb
    have HN := hide hn
    have hnb : n ≤ 400000 := by
      have h1 := comN_le LA SB
      have h2 : SB.length = LB.length := perm_len HS.out.2.2 HD.out.2.1 HS.out.2.1
      have h3 := HLL.out.2
      omega
    clear hI hMA hb hn HI HM3 HQ3
    go_wp2_with (first
      | (at_next; refine iter_next rfl (.tmp 19) rfl bb SB rfl HIz.out ?_ ?_)
      | go_in)
    · intro hl0
      have HF := hide (show n = comN LA LB from by
        have h1 := HN.out
        rw [hl0] at h1
        have h2 : comN LA SB = comN LA LB := comN_perm (fun x => Iff.rfl) ((List.perm_ext_iff_of_nodup HS.out.2.2 HD.out.2.1).2 HS.out.2.1)
        rw [← h2, ← h1]
        simp [comN])
      clear hl0
      go_wp2
      go_ret2
      exact ⟨by rw [HF.out]; rfl, HBz.out⟩
    · intro g left' w4 hp hgS hI4 hen hx4
      have hMA4 := HMz.out.exO hx4 (by have := HLO.out.2.2.1; omega) HIz.out.iter
      have hb4 := HBz.out.trans (hx4.to_below HLO.out.2.1 HBz.out.size)
      obtain ⟨cx, hcx⟩ : ∃ cs, Blk w4 g 103 cs := by
        obtain ⟨es, clock, -, hE⟩ := hI4.map
        exact hE.node g hgS
      have hlk := map_lookup hMA4 hcx
      have HR := hide (And.intro hI4 (And.intro hMA4 hb4))
      have HNE := hide (show comN LA left = comN LA (g :: left') from comN_perm (fun x => Iff.rfl) hp)
      have hlen := hp.length_eq
      have HLE := hide hlen
      have hga : g ∈ SA ↔ g ∈ LA := HS.out.1 g
      have HGA := hide hga
      clear hp hI4 hMA4 hb4 hcx hlen hga hx4 hgS
      by_cases hg : g ∈ SA
      · rw [decide_eq_true hg] at hlk
        have HG := hide hg
        have i1 : IntKind.i64.wrap ((n : Int) + 1) = (n : Int) + 1 := by rw [IntKind.wrap_i64]; omega
        clear hg
        go_wp2
        go_roundw
        case rel =>
          refine ⟨n + 1, left', by go_num, ?_, HR.out.1, HR.out.2.1, HR.out.2.2⟩
          have h1 := HN.out
          rw [HNE.out] at h1
          have h2 : comN LA (g :: left') = comN LA left' + 1 := by
            unfold comN
            rw [List.filter_cons_of_pos (by simpa using HGA.out.1 HG.out), List.length_cons]
          omega
        case measure =>
          rw [HR.out.1.left_eq, HIz.out.left_eq, HLE.out, List.length_cons]
          omega
      · rw [decide_eq_false hg] at hlk
        have HG := hide hg
        clear hg
        go_wp2
        go_roundw
        case rel =>
          refine ⟨n, left', rfl, ?_, HR.out.1, HR.out.2.1, HR.out.2.2⟩
          have h1 := HN.out
          rw [HNE.out] at h1
          have h2 : comN LA (g :: left') = comN LA left' := by
            unfold comN
            rw [List.filter_cons_of_neg (by simpa using fun h => HG.out (HGA.out.2 h))]
          omega
        case measure =>
          rw [HR.out.1.left_eq, HIz.out.left_eq, HLE.out, List.length_cons]
          omega
end Go.Proofs.Ytfoapkcgdkfggaa
set_option linter.unusedSimpArgs false
set_option linter.unusedVariables false
namespace Go.Proofs.Ytfoapkcgdkfggaa
open Go.RowKit
section
set_option maxHeartbeats 4000000
set_option maxRecDepth 100000
theorem sh_fresh {w : World} {k k' d d' a b : Nat} {ra rb : Option Addr} {LA LB : List Nat} {ea eb : List Ent} (hA : TreeBlk w a k ra) (hB : TreeBlk w b k' rb) (h : TBel w k ra LA d ea) (h' : TBel w k' rb LB d' eb) (hk : k ≤ 16) (hk' : k' ≤ 16) (hL : LA.length ≤ 200000) (hL' : LB.length ≤ 200000) :
    Calls Try.prog 9 #[.pointer (some ⟨a, 0, none⟩), .pointer (some ⟨b, 0, none⟩)] w fun e w' => e = .returned (.tuple #[.int .i64 (((LB.length - comN LA LB : Nat) : Nat) : Int), .int .i64 0]) ∧ Below w.heap.size w w' := by
  have HS := hide (sh_shared hA hB h h' hk hk' hL hL')
  have HN := hide (fun W (hW : Below w.heap.size w W) => sh_Nodes_of (w := W) (fun X hX => tr_root (hB.below (below_then hW hX))) (h'.stay hW) hk' hL' h'.nodup)
  have hc := comN_le LA LB
  have i1 : IntKind.i64.wrap (((LB.length : Nat) : Int) - ((comN LA LB : Nat) : Int)) = ((LB.length - comN LA LB : Nat) : Int) := by
    rw [IntKind.wrap_i64]
    omega
  clear hA hB h h' hc
  generalize comN LA LB = cc at *
  generalize LB.length = lb at *
  go_enter Try.func9, Try.ntmps9
  go_wp2_with fail
  refine HS.out.mono ?_
  rintro e w1 ⟨rfl, hb1⟩
  have HN1 := hide (HN.out w1 hb1)
  have HB1 := hide hb1
  clear hb1 HS
  go_wp2_with fail
  refine HN1.out.mono ?_
  rintro e w2 ⟨rfl, hb2⟩
  have HF := hide (below_then HB1.out hb2)
  clear hb2
  go_wp2
  go_ret2
  exact ⟨rfl, HF.out⟩
end
/-- A tree, or none, as one of a list. -/
structure TI where
  t : Option Addr
  k : Nat
  root : Option Addr
  L : List Nat
  d : Nat
  es : List Ent
def TI.ok (w : World) (i : TI) : Prop := (∀ W, Below w.heap.size w W → Calls Try.prog 19 #[.pointer i.t] W fun e w' => e = .returned (.pointer i.root) ∧ W = w') ∧ TBel w i.k i.root i.L i.d i.es ∧ i.k ≤ 16 ∧ i.L.length ≤ 200000
theorem TI.ok.below {w w' : World} {i : TI} (h : i.ok w) (hb : Below w.heap.size w w') : i.ok w' := ⟨fun W hW => h.1 W (below_then hb hW), h.2.1.stay hb, h.2.2⟩
def TI.of (t k : Nat) (root : Option Addr) (L : List Nat) (d : Nat) (es : List Ent) : TI := ⟨some ⟨t, 0, none⟩, k, root, L, d, es⟩
end Go.Proofs.Ytfoapkcgdkfggaa
set_option linter.unusedSimpArgs false
set_option linter.unusedVariables false
namespace Go.Proofs.Ytfoapkcgdkfggaa
section
open Go.RowKit
/-- A slice of entries. -/
structure EV where
  A : Option Addr
  n : Nat
  c : Nat
def EV.val (s : EV) : Value := .slice s.A s.n s.c
def EV.ok (w : World) (k : Nat) (s : EV) (es : List Ent) : Prop := ∃ rows, EntsAt w s.A s.n rows ∧ s.n ≤ s.c ∧ s.n ≤ 30000 ∧ (∀ r ∈ rows, r.n = k) ∧ ents rows = es
theorem EV.ok.below {w w' : World} {k : Nat} {s : EV} {es : List Ent} (h : s.ok w k es) (hb : Below w.heap.size w w') : s.ok w' k es := by
  obtain ⟨rows, h1, h2, h3, h4, h5⟩ := h
  exact ⟨rows, h1.below hb, h2, h3, h4, h5⟩
def tailEs (p : List Nat) : Option (Nat × NT) → List (List Ent)
  | none => []
  | some x => if part x.2.pre p ≤ x.2.lv then [x.2.es] else []
def pathEs (p : List Nat) (fs : List PF) (bot : Option (Nat × NT)) : List (List Ent) := fs.map (fun f => kidEs f.ks) ++ tailEs p bot
theorem Way.drop_ {p : List Nat} {fs : List PF} {i : Nat} {cur bot : Option (Nat × NT)} {f : PF} (h : Way p (fs.drop i) cur bot) (hf : fs[i]? = some f) : cur = some (f.g, f.nt) ∧ part f.pre p ≤ (f.lv : Int) ∧ Way p (fs.drop (i + 1)) (kidAt f.ks (addrOf p f.lv)) bot := by
  have hl := (List.getElem?_eq_some_iff.1 hf).1
  have hv := (List.getElem?_eq_some_iff.1 hf).2
  rw [List.drop_eq_getElem_cons hl, hv] at h
  exact h
end
section
open Go.RowKit
section
variable {w : World} {k : Nat} {p : List Nat} {fs : List PF} {top bot below : Option (Nat × NT)} {gs : List Nat}
theorem PathEnd.len (h : PathEnd w k p fs bot gs below) (hp : Zp k p) : gs.length = (pathEs p fs bot).length ∧ fs.length ≤ gs.length ∧ gs.length ≤ fs.length + 1 := by
  unfold pathEs
  cases h with
  | none => simp [tailEs]
  | leaf g v hn => simp [tailEs, part_self hp]
  | miss x hn hm => simp [tailEs, show ¬ part x.2.pre p ≤ x.2.lv by omega]
theorem PathEnd.node (h : PathEnd w k p fs bot gs below) (hF : ∀ f ∈ fs, Fork w k f.g f.lv f.pre f.ks) (hp : Zp k p) {i g : Nat} {es : List Ent} (hg : gs[i]? = some g) (he : (pathEs p fs bot)[i]? = some es) : ∃ lv pre, NodeOf w k g lv pre es := by
  have key : ∀ (i g : Nat) (es : List Ent), (fs.map (·.g))[i]? = some g → (fs.map fun f => kidEs f.ks)[i]? = some es → ∃ lv pre, NodeOf w k g lv pre es := by
    intro i g es h1 h2
    rw [List.getElem?_map] at h1 h2
    obtain ⟨f, hf, rfl⟩ := Option.map_eq_some_iff.1 h1
    rw [hf] at h2
    injection h2 with h2
    rw [← h2]
    exact ⟨_, _, (hF f (List.mem_of_getElem? hf)).node⟩
  unfold pathEs at he
  cases h with
  | none =>
    rw [show tailEs p Option.none = [] from rfl, List.append_nil] at he
    exact key i g es hg he
  | leaf g' v hn =>
    rw [show tailEs p (some (g', ⟨-1, p, [(p, v)]⟩)) = [[(p, v)]] from if_pos (by rw [part_self hp]; exact Int.le_refl _)] at he
    rcases Nat.lt_or_ge i fs.length with hi | hi
    · rw [List.getElem?_append_left (by simpa using hi)] at hg he
      exact key i g es hg he
    · rw [List.getElem?_append_right (by simpa using hi)] at hg he
      have h1 := (List.getElem?_eq_some_iff.1 hg).1
      simp at h1
      rw [show i - (fs.map (·.g)).length = 0 by simp; omega] at hg
      rw [show i - (fs.map fun f => kidEs f.ks).length = 0 by simp; omega] at he
      simp at hg he
      rw [← hg, ← he]
      exact ⟨_, _, hn⟩
  | miss x hn hm =>
    rw [show tailEs p (some x) = [] from if_neg (by omega), List.append_nil] at he
    exact key i g es hg he
/-- The first one is the root. -/
theorem PathEnd.first (h : PathEnd w k p fs bot gs below) (hW : Way p fs top bot) {g : Nat} (hg : gs[0]? = some g) : ∃ nt, top = some (g, nt) := by
  cases fs with
  | nil =>
    have hb : top = bot := hW
    subst hb
    cases h with
    | none => simp at hg
    | leaf g' v hn => simp at hg; subst hg; exact ⟨_, rfl⟩
    | miss x hn hm => simp at hg
  | cons f fs =>
    have ht := hW.1
    have : g = f.g := by
      cases h with
      | none => simp at hg; exact hg.symm
      | leaf g' v hn => simp at hg; exact hg.symm
      | miss x hn hm => simp at hg; exact hg.symm
    rw [this]
    exact ⟨_, ht⟩
theorem Way.at_drop : ∀ {fs : List PF} {top : Option (Nat × NT)} (i : Nat), Way p fs top bot → i < fs.length → ∃ cur, Way p (fs.drop i) cur bot
  | fs, top, 0, h, _ => ⟨top, by simpa using h⟩
  | [], top, i + 1, h, hi => by simp at hi
  | f :: fs, top, i + 1, h, hi => by
    obtain ⟨cur, hc⟩ := Way.at_drop i h.2.2 (by
      rcases Nat.lt_or_ge i fs.length with h1 | h1
      · exact h1
      · simp at hi; omega)
    exact ⟨cur, by simpa using hc⟩
/-- Each later one is the kid of the one ahead of it. -/
theorem PathEnd.kid (h : PathEnd w k p fs bot gs below) (hW : Way p fs top bot) {i g : Nat} (hg : gs[i + 1]? = some g) : ∃ f, fs[i]? = some f ∧ gs[i]? = some f.g ∧ ∃ nt, kidAt f.ks (addrOf p f.lv) = some (g, nt) := by
  have hlen : gs.length ≤ fs.length + 1 := by cases h <;> simp
  have hgl := (List.getElem?_eq_some_iff.1 hg).1
  have hif : i < fs.length := by omega
  obtain ⟨f, hf⟩ : ∃ f, fs[i]? = some f := ⟨fs[i], List.getElem?_eq_getElem hif⟩
  obtain ⟨cur, hc⟩ := hW.at_drop i hif
  obtain ⟨-, -, hn⟩ := hc.drop_ hf
  refine ⟨f, hf, ?_, ?_⟩
  · cases h with
    | none => rw [List.getElem?_map, hf]; rfl
    | leaf g' v hn => rw [List.getElem?_append_left (by simpa using hif), List.getElem?_map, hf]; rfl
    | miss x hn hm => rw [List.getElem?_map, hf]; rfl
  · rcases Nat.lt_or_ge (i + 1) fs.length with hi1 | hi1
    · obtain ⟨f', hf'⟩ : ∃ f', fs[i + 1]? = some f' := ⟨fs[i + 1], List.getElem?_eq_getElem hi1⟩
      obtain ⟨h1, -, -⟩ := hn.drop_ hf'
      have : g = f'.g := by
        cases h with
        | none => rw [List.getElem?_map, hf'] at hg; injection hg with hg; exact hg.symm
        | leaf g' v hn => rw [List.getElem?_append_left (by simpa using hi1), List.getElem?_map, hf'] at hg; injection hg with hg; exact hg.symm
        | miss x hn hm => rw [List.getElem?_map, hf'] at hg; injection hg with hg; exact hg.symm
      rw [this]
      exact ⟨_, h1⟩
    · rw [List.drop_of_length_le hi1] at hn
      have hn' : kidAt f.ks (addrOf p f.lv) = bot := hn
      rw [hn']
      cases h with
      | none => rw [List.getElem?_eq_none (by simpa using hi1)] at hg; cases hg
      | leaf g' v hn =>
        rw [List.getElem?_append_right (by simpa using hi1)] at hg
        rw [show i + 1 - (fs.map (·.g)).length = 0 by simp; omega] at hg
        simp at hg
        rw [← hg]
        exact ⟨_, rfl⟩
      | miss x hn hm => rw [List.getElem?_eq_none (by simpa using hi1)] at hg; cases hg
end
end
end Go.Proofs.Ytfoapkcgdkfggaa
