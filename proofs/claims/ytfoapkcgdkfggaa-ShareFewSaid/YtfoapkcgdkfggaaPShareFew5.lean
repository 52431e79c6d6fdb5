/- ShareFew: contracts and plain laws that the statement leans on (ShA ShrD ShrE LwShF). No condition. -/
import Derived.Test.YtfoapkcgdkfggaaPShareFew4
set_option linter.unusedSimpArgs false
set_option linter.unusedVariables false
namespace Go.Proofs.Ytfoapkcgdkfggaa
section
open Go.RowKit
theorem PathEnd.cons {w : World} {k : Nat} {p : List Nat} {fs : List PF} {bot below : Option (Nat × NT)} {gs : List Nat} (h : PathEnd w k p fs bot gs below) (f : PF) : PathEnd w k p (f :: fs) bot (f.g :: gs) below := by
  cases h with
  | none => exact .none
  | leaf g v hn => exact .leaf g v hn
  | miss x hn hm => exact .miss x hn hm
/-- Each tree has a point's path. -/
theorem way_node {w : World} {k g : Nat} {lv : Int} {pre : List Nat} {es : List Ent} {p : List Nat} (h : NodeOf w k g lv pre es) (hp : Zp k p) :
    ∃ (fs : List PF) (bot : Option (Nat × NT)) (gs : List Nat) (below : Option (Nat × NT)), Way p fs (some (g, ⟨lv, pre, es⟩)) bot ∧ (∀ f ∈ fs, Fork w k f.g f.lv f.pre f.ks) ∧ PathEnd w k p fs bot gs below := by
  induction h with
  | @leaf g A c q v hv hq hc hB =>
    have hN : NodeOf w k g (-1) q [(q, v)] := .leaf hv hq hc hB
    by_cases hpq : part q p ≤ (-1 : Int)
    · obtain rfl : q = p := part_neg hq.zp hp (by omega)
      exact ⟨[], _, _, _, rfl, fun f hf => (by cases hf), .leaf g v hN⟩
    · exact ⟨[], _, _, _, rfl, fun f hf => (by cases hf), .miss (g, ⟨-1, q, [(q, v)]⟩) hN (by show (-1 : Int) < part q p; omega)⟩
  | @fork g A c lv pre gs ks hlv hq hc hz hkid hl ha hs h2 hS hB ih =>
    have hF : Fork w k g lv pre ks := ⟨A, c, gs, hlv, hq, hc, hz, hkid, hl, ha, hs, h2, hS, hB⟩
    by_cases hpq : part pre p ≤ (lv : Int)
    · cases hk : kidAt ks (addrOf p lv) with
      | none =>
        refine ⟨[⟨g, lv, pre, ks⟩], none, _, _, ⟨rfl, hpq, hk⟩, fun f hf => ?_, .none⟩
        rw [List.mem_singleton] at hf
        subst hf
        exact hF
      | some x =>
        obtain ⟨q, hq', hqa, rfl⟩ := kidAt_some hk
        obtain ⟨fs, bot, gs', below, h3, h4, h5⟩ := ih q hq'
        refine ⟨⟨g, lv, pre, ks⟩ :: fs, bot, _, below, ⟨rfl, hpq, by rw [hk]; exact h3⟩, fun f hf => ?_, h5.cons ⟨g, lv, pre, ks⟩⟩
        rcases List.mem_cons.1 hf with rfl | hf
        · exact hF
        · exact h4 f hf
    · exact ⟨[], _, _, _, rfl, fun f hf => (by cases hf), .miss (g, ⟨(lv : Int), pre, kidEs ks⟩) hF.node (by show (lv : Int) < part pre p; omega)⟩
theorem way_any {w : World} {k : Nat} {top : Option (Nat × NT)} {p : List Nat} (h : TopOk w k top) (hp : Zp k p) :
    ∃ (fs : List PF) (bot : Option (Nat × NT)) (gs : List Nat) (below : Option (Nat × NT)), Way p fs top bot ∧ (∀ f ∈ fs, Fork w k f.g f.lv f.pre f.ks) ∧ fs.length ≤ 64 ∧ PathEnd w k p fs bot gs below := by
  cases top with
  | none => exact ⟨[], none, _, _, rfl, fun f hf => (by cases hf), by simp, .none⟩
  | some x =>
    obtain ⟨fs, bot, gs, below, h1, h2, h3⟩ := way_node (h x rfl) hp
    have h1' : Way p fs (some x) bot := h1
    refine ⟨fs, bot, gs, below, h1', h2, ?_, h3⟩
    have hi := (h x rfl).info
    have := Way.len (fun f hf => (h2 f hf).fk) hi.2.2.1 h1'
    have := hi.2.2.2.1
    omega
theorem take_ptrs {fs : List PF} {i : Nat} {f : PF} (hf : fs[i]? = some f) : ptrs ((fs.take (i + 1)).map (·.g)) = ptrs ((fs.take i).map (·.g)) ++ [.pointer (some ⟨f.g, 0, none⟩)] := by
  rw [List.take_add_one, hf]
  simp [ptrs]
set_option maxHeartbeats 4000000 in
set_option maxRecDepth 100000 in
/-- path goes the given way. -/
theorem tr_path_on {w : World} {t k : Nat} {fs : List PF} {top bot below : Option (Nat × NT)} {gs : List Nat} (hT : TreeBlk w t k (top.map fun y => ⟨y.1, 0, none⟩)) (hk1 : 1 ≤ k) (hk : k ≤ 16) {A : Option Addr} {c : Nat} {p : List Nat} (hp : Pt w A k p) (hW : Way p fs top bot) (hF : ∀ f ∈ fs, Fork w k f.g f.lv f.pre f.ks) (hl : fs.length ≤ 64) (hend : PathEnd w k p fs bot gs below) :
    Calls Try.prog 33 #[.pointer (some ⟨t, 0, none⟩), .slice A k c] w fun e w' => ∃ (B : Option Addr) (d : Nat), e = .returned (.tuple #[.slice B gs.length d, ptrOf below]) ∧ w'.ownsRow w.heap.size 51 1 (.slice B gs.length d) gs.length (ptrs gs) ∧ Below w.heap.size w w' := by
  have c1 := Blk.cell hT 1
  simp at c1
  have HP := hide hp
  have HW := hide hW
  have HF := hide hF
  have HEND := hide hend
  clear hT hp hW hF hend
  go_enter Try.func33, Try.ntmps33
  go_wp2
  refine wp_scope_goto2 0 (fun a' wr => ∃ (i : Nat) (cur : Option (Nat × NT)) (B : Option Addr) (d : Nat) (u2 u3 u8 u9 u10 u11 u12 u13 u14 u15 u16 u17 u18 u19 u20 u21 u22 u23 u24 u25 u26 u27 u28 : Value), a' = { tmps := #[.pointer (some ⟨t, 0, none⟩), .slice A k c, u2, u3, .slice none 0 0, .pointer none, .slice B i d, ptrOf cur, u8, u9, u10, u11, u12, u13, u14, u15, u16, u17, u18, u19, u20, u21, u22, u23, u24, u25, u26, u27, u28], defers := [] } ∧ i ≤ fs.length ∧ Way p (fs.drop i) cur bot ∧ wr.ownsRow w.heap.size 51 1 (.slice B i d) i (ptrs ((fs.take i).map (·.g))) ∧ Below w.heap.size w wr) (fun a' _ => 65 - sliceLen (a'.tmps.getD 6 undef)) (by rfl) (by rfl) (by rfl) ?_ ?_
  · go_wp2
    exact ⟨0, top, none, 0, _, _, _, _, _, _, _, _, _, _, _, _, _, _, _, _, _, _, _, _, _, _, _, rfl, Nat.zero_le _, HW.out, World.ownsRow_nil _ _ _ _, Below.refl _ _⟩
  · rintro a' wr ⟨i, cur, B, d, u2, u3, u8, u9, u10, u11, u12, u13, u14, u15, u16, u17, u18, u19, u20, u21, u22, u23, u24, u25, u26, u27, u28, rfl, hi, hWy, hO, hb⟩
    have HO := hide hO
    have HB := hide hb
    have hi64 : i ≤ 64 := by omega
    rcases Nat.lt_or_ge i fs.length with hif | hif
    · obtain ⟨f, hf⟩ : ∃ f, fs[i]? = some f := ⟨fs[i], List.getElem?_eq_getElem hif⟩
      obtain ⟨rfl, hcv, hWn⟩ := hWy.drop_ hf
      have hFk := HF.out f (List.mem_of_getElem? hf)
      have HC := hide (nd_covers (d := c) (hFk.node.stay hb) hk1 hk (HP.out.below hb))
      rw [show decide (part f.pre p ≤ (f.lv : Int)) = true by simpa using hcv] at HC
      have HFK := hide hFk
      have HWN := hide hWn
      have HFI := hide hf
      unfold ptrOf
      simp only [Option.map_some]
      clear hWy hO hb hcv hWn hFk hf
      go_wp2_with fail
      refine HC.out.mono ?_
      rintro e w1 ⟨rfl, rfl⟩
      have hb4 := below_alloc HB.out (Nat.le_refl _) (.cells #[.pointer (some ⟨f.g, 0, none⟩)] 51)
      go_wp2_with (first
        | (at_builtin
           refine app_b _ rfl (.tmp 18) (.tmp 20) _ rfl w.heap.size 51 _ 1 8 Try.underlying44 info_n rfl (by omega) _ i _ rfl (HO.out.alloc _) (some ⟨wr.heap.size, 0, none⟩) 1 1 [.pointer (some ⟨f.g, 0, none⟩)] rfl w hb4 (Nat.le_refl _) (Rw.new1 wr 51 #[.pointer (some ⟨f.g, 0, none⟩)] rfl) ?h2 (by unfold maxLen; omega) (by omega) ?_
           case h2 =>
             intro u hu
             rw [List.mem_singleton] at hu
             rw [hu]
             rfl
           intro v5 w5 ho5 hb5 _
           have HO5 := hide ho5
           have HB5 := hide hb5
           obtain ⟨B5, d5, rfl, -, hR5⟩ := Rw.of_own ho5
           have HL5 := hide (nd_level ((HFK.out.stay hb5).node))
           have HD5 := hide (tr_down (c := c) (HFK.out.stay hb5) hk1 hk (HP.out.below hb5))
           rw [kid_ptr HFK.out] at HD5
           unfold ptrOf at HD5
           clear ho5 hb5 hR5)
        | fail)
      go_wp2_with fail
      refine HL5.out.mono ?_
      rintro e w6 ⟨rfl, rfl⟩
      have em : decide ((f.lv : Int) < 0) = false := by simp
      go_wp2_with fail
      refine HD5.out.mono ?_
      rintro e w7 ⟨rfl, hb7⟩
      go_wp2
      go_step3
      refine ⟨rfl, ⟨i + 1, kidAt f.ks (addrOf p f.lv), B5, d5, _, _, _, _, _, _, _, _, _, _, _, _, _, _, _, _, _, _, _, _, _, _, _, rfl, by omega, HWN.out, ?_, below_then HB5.out hb7⟩, ?_⟩
      · rw [take_ptrs HFI.out]
        exact own_below HO5.out hb7
      · simp [sliceLen]
        omega
    · have hcb : cur = bot := by rw [List.drop_of_length_le hif] at hWy; exact hWy
      subst hcb
      have hie : i = fs.length := by omega
      have htk : fs.take i = fs := List.take_of_length_le hif
      rw [htk] at HO
      have HIE := hide hie
      have hend := HEND.out
      clear hWy hO hb hie htk HEND HW
      cases hend with
      | none =>
        unfold ptrOf
        simp only [Option.map_none]
        go_wp2_with fail
        refine (nd_covers_nil _ _ _ _).mono ?_
        rintro e w1 ⟨rfl, rfl⟩
        go_wp2
        simp only [Exit.jump]
        go_ret2
        refine ⟨B, d, by rw [List.length_map, ← HIE.out]; rfl, by rw [List.length_map, ← HIE.out]; exact HO.out, HB.out⟩
      | leaf g v hn =>
        have HC := hide (nd_covers (d := c) (hn.stay HB.out) hk1 hk (HP.out.below HB.out))
        rw [show decide (part p p ≤ (-1 : Int)) = true by rw [part_self HP.out.zp]; rfl] at HC
        have HX := hide hn
        unfold ptrOf
        simp only [Option.map_some]
        clear hn
        go_wp2_with fail
        refine HC.out.mono ?_
        rintro e w1 ⟨rfl, rfl⟩
        have hb4 := below_alloc HB.out (Nat.le_refl _) (.cells #[.pointer (some ⟨g, 0, none⟩)] 51)
        go_wp2_with (first
          | (at_builtin
             refine app_b _ rfl (.tmp 18) (.tmp 20) _ rfl w.heap.size 51 _ 1 8 Try.underlying44 info_n rfl (by omega) _ i _ rfl (HO.out.alloc _) (some ⟨wr.heap.size, 0, none⟩) 1 1 [.pointer (some ⟨g, 0, none⟩)] rfl w hb4 (Nat.le_refl _) (Rw.new1 wr 51 #[.pointer (some ⟨g, 0, none⟩)] rfl) ?h2 (by unfold maxLen; omega) (by omega) ?_
             case h2 =>
               intro u hu
               rw [List.mem_singleton] at hu
               rw [hu]
               rfl
             intro v5 w5 ho5 hb5 _
             have HO5 := hide ho5
             have HB5 := hide hb5
             obtain ⟨B5, d5, rfl, -, hR5⟩ := Rw.of_own ho5
             have HL5 := hide (nd_level (HX.out.stay hb5))
             clear ho5 hb5 hR5)
          | fail)
        go_wp2_with fail
        refine HL5.out.mono ?_
        rintro e w6 ⟨rfl, rfl⟩
        go_wp2
        simp only [Exit.jump]
        go_ret2
        refine ⟨B5, d5, by rw [List.length_append, List.length_map, ← HIE.out]; rfl, ?_, HB5.out⟩
        rw [List.length_append, List.length_map, ← HIE.out, ptrs_snoc]
        exact HO5.out
      | miss x hn hm =>
        have HC := hide (nd_covers (d := c) (hn.stay HB.out) hk1 hk (HP.out.below HB.out))
        rw [show decide (part x.2.pre p ≤ x.2.lv) = false by simpa using hm] at HC
        unfold ptrOf
        simp only [Option.map_some]
        clear hn hm
        go_wp2_with fail
        refine HC.out.mono ?_
        rintro e w1 ⟨rfl, rfl⟩
        go_wp2
        simp only [Exit.jump]
        go_ret2
        refine ⟨B, d, by rw [List.length_map, ← HIE.out]; rfl, by rw [List.length_map, ← HIE.out]; exact HO.out, HB.out⟩
end
section
open Go.RowKit
/-- What hangs at the head of a path. -/
def pTop : List PF → Nat × NT → Nat × NT
  | [], x => x
  | f :: _, _ => (f.g, f.nt)
/-- The new forks along a path: each is the old one with the new one below it. -/
def UpRel (p : List Nat) : List PF → List PF → Nat × NT → Prop
  | [], [], _ => True
  | f :: fs, f' :: fs', x => f'.lv = f.lv ∧ f'.pre = f.pre ∧ f'.ks = insK f.ks ⟨addrOf p f.lv, (pTop fs' x).1, (pTop fs' x).2.lv, (pTop fs' x).2.pre, (pTop fs' x).2.es⟩ ∧ UpRel p fs fs' x
  | _, _, _ => False
theorem UpRel.len {p : List Nat} : ∀ {fs fs' : List PF} {x : Nat × NT}, UpRel p fs fs' x → fs'.length = fs.length
  | [], [], _, _ => rfl
  | f :: fs, f' :: fs', x, h => by simp [UpRel.len h.2.2.2]
  | [], _ :: _, _, h => h.elim
  | _ :: _, [], _, h => h.elim
theorem UpRel.at_ {p : List Nat} : ∀ {fs fs' : List PF} {x : Nat × NT} {i : Nat} {f f' : PF}, UpRel p fs fs' x → fs[i]? = some f → fs'[i]? = some f' → f'.lv = f.lv ∧ f'.pre = f.pre ∧ ∃ q : Kid, q.at_ = addrOf p f.lv ∧ f'.ks = insK f.ks q
  | [], [], _, i, f, f', _, h1, _ => by simp at h1
  | g :: fs, g' :: fs', x, 0, f, f', h, h1, h2 => by
    simp at h1 h2
    subst h1 h2
    exact ⟨h.1, h.2.1, _, rfl, h.2.2.1⟩
  | g :: fs, g' :: fs', x, i + 1, f, f', h, h1, h2 => UpRel.at_ h.2.2.2 (by simpa using h1) (by simpa using h2)
  | [], _ :: _, _, _, _, _, h, _, _ => h.elim
  | _ :: _, [], _, _, _, _, h, _, _ => h.elim
theorem kidAt_insK {ks : List Kid} {q : Kid} : kidAt (insK ks q) q.at_ = some (q.blk, ⟨q.lv, q.pre, q.es⟩) := by
  unfold kidAt insK
  rw [List.append_assoc, List.find?_append]
  have h1 : (ks.filter fun r => decide (r.at_ < q.at_)).find? (fun r => decide (r.at_ = q.at_)) = none := by
    rw [List.find?_eq_none]
    intro r hr
    have := (List.mem_filter.1 hr).2
    simp at this ⊢
    omega
  rw [h1]
  simp
theorem kidAt_delK {ks : List Kid} {a : Nat} : kidAt (delK ks a) a = none := by
  unfold kidAt delK
  rw [Option.map_eq_none_iff, List.find?_eq_none]
  intro r hr
  have := (List.mem_filter.1 hr).2
  simpa using this
/-- The new forks are on the point's way. -/
theorem UpRel.way {p : List Nat} : ∀ {fs fs' : List PF} {x : Nat × NT}, UpRel p fs fs' x → (∀ f ∈ fs, part f.pre p ≤ (f.lv : Int)) → Way p fs' (some (pTop fs' x)) (some x)
  | [], [], x, _, _ => rfl
  | f :: fs, f' :: fs', x, h, hc => by
    refine ⟨rfl, ?_, ?_⟩
    · rw [h.2.1, h.1]; exact hc f List.mem_cons_self
    · rw [h.1, h.2.2.1]
      rw [show addrOf p f.lv = (⟨addrOf p f.lv, (pTop fs' x).1, (pTop fs' x).2.lv, (pTop fs' x).2.pre, (pTop fs' x).2.es⟩ : Kid).at_ from rfl, kidAt_insK]
      exact UpRel.way h.2.2.2 fun f hf => hc f (List.mem_cons_of_mem _ hf)
  | [], _ :: _, _, h, _ => h.elim
  | _ :: _, [], _, h, _ => h.elim
theorem Way.covers {p : List Nat} : ∀ {fs : List PF} {top bot : Option (Nat × NT)}, Way p fs top bot → ∀ f ∈ fs, part f.pre p ≤ (f.lv : Int)
  | [], _, _, _, f, hf => by cases hf
  | f :: fs, top, bot, h, f', hf => by
    rcases List.mem_cons.1 hf with rfl | hf
    · exact h.2.1
    · exact Way.covers h.2.2 f' hf
/-- Each fork on the way fits at the one ahead of it. -/
theorem Way.fits {k : Nat} {p : List Nat} (hp : Zp k p) : ∀ {fs : List PF} {top bot : Option (Nat × NT)} {i : Nat} {f f2 : PF}, (∀ f ∈ fs, FK k f) → Way p fs top bot → fs[i]? = some f → fs[i + 1]? = some f2 → FitsAt p f f2.nt
  | [], _, _, _, _, _, _, _, h1, _ => by simp at h1
  | g :: fs, top, bot, 0, f, f2, hF, h, h1, h2 => by
    simp at h1 h2
    subst h1
    cases fs with
    | nil => simp at h2
    | cons f3 fs =>
      simp at h2
      subst h2
      exact ((hF g List.mem_cons_self).below hp h.2.1 h.2.2.1).2.2.1
  | g :: fs, top, bot, i + 1, f, f2, hF, h, h1, h2 => Way.fits hp (fun f hf => hF f (List.mem_cons_of_mem _ hf)) h.2.2 (by simpa using h1) (by simpa using h2)
set_option maxHeartbeats 2000000 in
set_option maxRecDepth 100000 in
/-- up, with the new forks told. -/
theorem tr_up_on {w : World} {t k : Nat} {root : Option Addr} {p : List Nat} (fs : List PF) (x : Nat × NT) (A : Option Addr) (m c : Nat) (hT : TreeBlk w t k root) (hk1 : 1 ≤ k) (hk : k ≤ 16) (hA : Rw w 1 A m (ptrs (fs.map (·.g)))) (hm : fs.length = m) (hm100 : m ≤ 1000)
    (hF : ∀ f ∈ fs, Fork w k f.g f.lv f.pre f.ks) (hn : NodeOf w k x.1 x.2.lv x.2.pre x.2.es) (hfit : ∀ (i : Nat) (f f2 : PF), fs[i]? = some f → fs[i + 1]? = some f2 → FitsAt p f f2.nt) (hlast : ∀ f ∈ fs.getLast?, FitsAt p f x.2) :
    Calls Try.prog 41 #[.pointer (some ⟨t, 0, none⟩), .slice A m c, .pointer (some ⟨x.1, 0, none⟩)] w fun e w' => ∃ t' fs', e = .returned (.pointer (some ⟨t', 0, none⟩)) ∧ w.heap.size ≤ t' ∧ TreeBlk w' t' k (some ⟨(pTop fs' x).1, 0, none⟩) ∧ UpRel p fs fs' x ∧ (∀ f ∈ fs', Fork w' k f.g f.lv f.pre f.ks) ∧ Below w.heap.size w w' := by
  have HT := hide hT
  have HA := hide hA
  have HF := hide hF
  have HN := hide hn
  have HFIT := hide hfit
  have HLAST := hide hlast
  have HM := hide hm
  have ew : IntKind.i64.wrap ((m : Int) - 1) = (m : Int) - 1 := by rw [IntKind.wrap_i64]; omega
  clear hT hA hF hn hfit hlast hm
  go_enter Try.func41, Try.ntmps41
  go_wp2
  go_loopw [2, 7] (fun x2 x7 wr => ∃ (i : Nat) (fs' : List PF), x7 = .int .i64 ((i : Int) - 1) ∧ i ≤ m ∧ x2 = .pointer (some ⟨(pTop fs' x).1, 0, none⟩) ∧ UpRel p (fs.drop i) fs' x ∧ (∀ f ∈ fs', Fork wr k f.g f.lv f.pre f.ks) ∧ Below w.heap.size w wr) (fun _ x _ => (intOf x + 1).toNat)
  case atStart =>
    refine ⟨m, [], rfl, Nat.le_refl _, rfl, ?_, fun f hf => (by cases hf), Below.refl _ _⟩
    rw [List.drop_of_length_le (by have := HM.out; omega)]
    trivial
  case round =>
    obtain ⟨i, fs', rfl, hi, rfl, hU, hFn, hb⟩ := hrel
    rename World => wz
    have HU := hide hU
    have HFn := hide hFn
    rcases Nat.eq_zero_or_pos i with rfl | hi0
    · have t0 := Blk.cell (Blk.below HT.out hb) 0
      simp at t0
      clear hU hFn
      go_wp2
      go_ret
      have hal := (Below.refl wz.heap.size wz).alloc (Nat.le_refl _) (.cells #[.int .i64 (k : Int), .pointer (some ⟨(pTop fs' x).1, 0, none⟩)] 79)
      exact ⟨_, fs', rfl, hb.size, Blk.new _ _ _, by simpa using HU.out, fun f hf => (HFn.out f hf).stay hal, below_alloc hb (Nat.le_refl _) _⟩
    · obtain ⟨j, rfl⟩ : ∃ j, i = j + 1 := ⟨i - 1, by omega⟩
      have hjl : j < fs.length := by have := HM.out; omega
      obtain ⟨b, o, rfl, hbl, u, hu, k0⟩ := (HA.out.below hb).one (i := j) (by omega)
      have hfj : fs[j]? = some fs[j] := List.getElem?_eq_getElem hjl
      have hd : fs.drop j = fs[j] :: fs.drop (j + 1) := List.drop_eq_getElem_cons hjl
      generalize fs[j] = f at *
      unfold ptrs at hu
      rw [List.getElem?_map, List.getElem?_map, hfj] at hu
      simp at hu
      rw [← hu] at k0
      have hcur : NodeOf wz k (pTop fs' x).1 (pTop fs' x).2.lv (pTop fs' x).2.pre (pTop fs' x).2.es ∧ FitsAt p f (pTop fs' x).2 := by
        cases fs' with
        | nil =>
          have hl := hU.len
          simp at hl
          refine ⟨HN.out.stay hb, HLAST.out f ?_⟩
          rw [List.getLast?_eq_getElem?, show fs.length - 1 = j by omega, hfj]
          rfl
        | cons f' fs' =>
          have hl := hU.len
          have hj1 : j + 1 < fs.length := by simp at hl; omega
          have hd1 : fs.drop (j + 1) = fs[j + 1] :: fs.drop (j + 1 + 1) := List.drop_eq_getElem_cons hj1
          have hf1 : fs[j + 1]? = some fs[j + 1] := List.getElem?_eq_getElem hj1
          generalize fs[j + 1] = f1 at hd1 hf1
          rw [hd1] at hU
          have hfit := HFIT.out j f f1 hfj hf1
          refine ⟨(hFn f' List.mem_cons_self).node, ?_⟩
          unfold FitsAt at hfit ⊢
          simp only [pTop, PF.nt] at hfit ⊢
          rw [hU.1, hU.2.1]
          exact hfit
      have hW := nd_with ((HF.out f (List.mem_of_getElem? hfj)).stay hb) hcur.1 hk1 hk hcur.2.1 hcur.2.2.1
      have hadr := hcur.2.2.2
      have HADR := hide hadr
      have HW := hide hW
      have HD := hide hd
      have e0 : ((j + 1 : Nat) : Int) - 1 = (j : Int) := by omega
      rw [e0]
      have ej : (0 : Int) ≤ (j : Int) := by omega
      have ejm : (j : Int) < (m : Int) := by omega
      have ejn : j < m := by omega
      clear hu hfj hd hcur hW e0 hU hFn hadr
      go_wp2_with fail
      refine HW.out.mono ?_
      rintro e w2 ⟨gn, rfl, hFk, hgn, hb2⟩
      have HFk := hide hFk
      have HB2 := hide hb2
      clear hFk HW hb2
      go_wp2
      go_roundw
      case rel =>
        refine ⟨j, ⟨gn, f.lv, f.pre, insK f.ks ⟨addrOf p f.lv, (pTop fs' x).1, (pTop fs' x).2.lv, (pTop fs' x).2.pre, (pTop fs' x).2.es⟩⟩ :: fs', by go_num, by omega, rfl, ?_, fun f2 hf2 => ?_, below_then hb HB2.out⟩
        · rw [HD.out]
          exact ⟨rfl, rfl, rfl, HU.out⟩
        · rcases List.mem_cons.1 hf2 with rfl | hf2
          · have := HFk.out
            rw [HADR.out] at this
            exact this
          · exact (HFn.out f2 hf2).stay HB2.out
      case measure => simp [intOf]
end
section
open Go.RowKit
theorem fits_leaf {p : List Nat} {v : Nat} {fs : List PF} {top bot : Option (Nat × NT)} (hW : Way p fs top bot) : ∀ f ∈ fs.getLast?, FitsAt p f ⟨-1, p, [(p, v)]⟩ :=
  fun f hf => ⟨(hW.last hf).1, by show (-1 : Int) < _; omega, rfl⟩
theorem fits_pair {k m : Nat} {p : List Nat} {g : Nat} {nt : NT} {es : List Ent} (hp : Zp k p) {fs : List PF} {top : Option (Nat × NT)} (hF : ∀ f ∈ fs, FK k f) (hW : Way p fs top (some (g, nt))) (hm : part nt.pre p = (m : Int)) (hz : Zp k nt.pre) : ∀ f ∈ fs.getLast?, FitsAt p f ⟨m, cut (m + 1) nt.pre, es⟩ := by
  intro f hf
  obtain ⟨h1, h2⟩ := hW.last hf
  have hf' := hF f (last_mem hf)
  obtain ⟨g1, g2, g3, g4⟩ := hf'.below hp h1 h2.symm
  simp only at g1 g2 g3 g4
  rw [hm] at g1
  have hm2 : m < f.lv := by omega
  refine ⟨?_, by show (m : Int) < _; omega, ?_⟩
  · refine (part_le_iff hf'.pre (zp_cut hz) _ (by omega)).2 fun b hb => ?_
    rw [addr_cut_hi _ (by omega)]
    exact (part_le_iff hf'.pre hz _ (by omega)).1 g3.1 b hb
  · show addrOf (cut (m + 1) nt.pre) f.lv = _
    rw [addr_cut_hi _ (by omega)]
    exact g4 _ (Nat.le_refl _)
theorem UpRel.nt {p : List Nat} {x : Nat × NT} : ∀ {fs fs' : List PF}, UpRel p fs fs' x → (∀ (i : Nat) (f f2 : PF), fs[i]? = some f → fs[i + 1]? = some f2 → FitsAt p f f2.nt) → (∀ f ∈ fs.getLast?, FitsAt p f x.2) → (pTop fs' x).2 = upN fs x.2
  | [], [], _, _, _ => rfl
  | f :: fs, f' :: fs', h, hfit, hlast => by
    have ih := UpRel.nt h.2.2.2 (fun i a b h1 h2 => hfit (i + 1) a b (by simpa using h1) (by simpa using h2)) (by
      intro f2 hf2
      refine hlast f2 ?_
      cases fs with
      | nil => simp at hf2
      | cons f3 fs => rwa [List.getLast?_cons_cons])
    have ha : addrOf (upN fs x.2).pre f.lv = addrOf p f.lv := by
      cases fs with
      | nil => exact (hlast f (by simp)).2.2
      | cons f2 fs => exact (hfit 0 f f2 rfl rfl).2.2
    show f'.nt = _
    unfold PF.nt
    rw [h.1, h.2.1, h.2.2.1, ih]
    show _ = (⟨f.lv, f.pre, kidEs (insK f.ks ⟨addrOf (upN fs x.2).pre f.lv, 0, (upN fs x.2).lv, (upN fs x.2).pre, (upN fs x.2).es⟩)⟩ : NT)
    rw [ha, kidEs_blk f.ks (addrOf p f.lv) (pTop fs' x).1 0]
  | [], _ :: _, h, _, _ => h.elim
  | _ :: _, [], h, _, _ => h.elim
theorem pTop_node {w : World} {k : Nat} {fs' : List PF} {x : Nat × NT} (hF : ∀ f ∈ fs', Fork w k f.g f.lv f.pre f.ks) (hx : NodeOf w k x.1 x.2.lv x.2.pre x.2.es) : NodeOf w k (pTop fs' x).1 (pTop fs' x).2.lv (pTop fs' x).2.pre (pTop fs' x).2.es := by
  cases fs' with
  | nil => exact hx
  | cons f fs => exact (hF f List.mem_cons_self).node
/-- What is shared behind a Put: the new forks on the way, and what hangs at its end. -/
def PutSh (k : Nat) (p : List Nat) (v : Nat) (fs : List PF) (bot below : Option (Nat × NT)) (t t' : Nat) (w' : World) : Prop :=
  t' = t ∨ ∃ fs' x, TreeBlk w' t' k (some ⟨(pTop fs' x).1, 0, none⟩) ∧ UpRel p fs fs' x ∧ (∀ f ∈ fs', Fork w' k f.g f.lv f.pre f.ks) ∧ NodeOf w' k x.1 x.2.lv x.2.pre x.2.es ∧
    ((x.2 = ⟨-1, p, [(p, v)]⟩ ∧ below = none) ∨ ∃ (y : Nat × NT) (mm g4 : Nat), below = some y ∧ bot = some y ∧ y.2.lv < (mm : Int) ∧ part y.2.pre p = (mm : Int) ∧ Zp k y.2.pre ∧ NodeOf w' k g4 (-1) p [(p, v)] ∧
      Fork w' k x.1 mm (cut (mm + 1) y.2.pre) (pairK y.1 g4 y.2.lv (-1) y.2.pre p y.2.es [(p, v)] mm) ∧ x.2 = ⟨mm, cut (mm + 1) y.2.pre, kidEs (pairK y.1 g4 y.2.lv (-1) y.2.pre p y.2.es [(p, v)] mm)⟩)
theorem PutSh.stay {k v t t' : Nat} {p : List Nat} {fs : List PF} {bot below : Option (Nat × NT)} {w w' : World} (h : PutSh k p v fs bot below t t' w) (hb : Below w.heap.size w w') : PutSh k p v fs bot below t t' w' := by
  rcases h with h | ⟨fs', x, h1, h2, h3, h4, h5⟩
  · exact .inl h
  · refine .inr ⟨fs', x, Blk.below h1 hb, h2, fun f hf => (h3 f hf).stay hb, h4.stay hb, ?_⟩
    rcases h5 with h5 | ⟨y, mm, g4, a1, a2, a3, a4, a5, a6, a7, a8⟩
    · exact .inl h5
    · exact .inr ⟨y, mm, g4, a1, a2, a3, a4, a5, a6.stay hb, a7.stay hb, a8⟩
def PutOutX (w : World) (t k : Nat) (p : List Nat) (v : Nat) (es : List Ent) (X : Nat → World → Prop) (e : Ending) (w' : World) : Prop :=
  ∃ t' es', e = .returned (.tuple #[.pointer (some ⟨t', 0, none⟩), .int .i64 0]) ∧ TreeOf w' k t' es' ∧ (∀ x, x ∈ es' ↔ x = (p, v) ∨ (x ∈ es ∧ x.1 ≠ p)) ∧ (t' = t ↔ (p, v) ∈ es) ∧ Below w.heap.size w w' ∧ X t' w'
set_option maxHeartbeats 4000000 in
set_option maxRecDepth 100000 in
theorem tr_put_on {w : World} {t k v : Nat} {es : List Ent} {fs : List PF} {top bot below : Option (Nat × NT)} {gs : List Nat} (hT : TreeOf w k t es) (hB : TreeBlk w t k (top.map fun y => ⟨y.1, 0, none⟩)) (hes : esOf top = es) {A : Option Addr} {c : Nat} {p : List Nat} (hp : Pt w A k p) (hv : v < 2 ^ 64)
    (hW0 : Way p fs top bot) (hF0 : ∀ f ∈ fs, Fork w k f.g f.lv f.pre f.ks) (hl : fs.length ≤ 64) (hE0 : PathEnd w k p fs bot gs below) :
    Calls Try.prog 23 #[.pointer (some ⟨t, 0, none⟩), .slice A k c, .int .u64 (v : Int)] w (PutOutX w t k p v es (PutSh k p v fs bot below t)) := by
  have hk1 : 1 ≤ k := hT.1
  have hk : k ≤ 16 := hT.2.1
  have HC := hide (tr_check hB A c)
  have HP := hide (tr_path_on (c := c) hB hk1 hk hp hW0 hF0 hl hE0)
  have HZ := hide hp.zp
  have HES := hide hes
  have HT := hide hT
  have HTB := hide hB
  have HPT := hide hp
  have htlt : t < w.heap.size := hB.lt
  have HLT := hide htlt
  have HLF := hide (fun (W : World) (hW : Below w.heap.size w W) => nd_leaf A k c p v W (hp.below hW) hv hk1 hk)
  have HW0 := hide hW0
  have HF0 := hide hF0
  have HE0 := hide hE0
  have HFIT := hide (fun (i : Nat) (f f2 : PF) (h1 : fs[i]? = some f) (h2 : fs[i + 1]? = some f2) => Way.fits hp.zp (fun f hf => (hF0 f hf).fk) hW0 h1 h2)
  clear hT hB hp hes htlt hW0 hF0 hE0
  go_enter Try.func23, Try.ntmps23
  go_wp2_with fail
  refine HC.out.mono ?_
  rintro e w1 ⟨rfl, rfl⟩
  go_wp2_with fail
  refine HP.out.mono ?_
  rintro e w1 ⟨B, d, rfl, hO, hb⟩
  have hW := HW0.out
  have hF := HF0.out
  have hE := HE0.out
  have HW := hide hW
  have HF := hide hF
  have HB := hide hb
  obtain ⟨hcap, hR⟩ := own_rw hO
  have HE := hide hE
  have HR := hide hR
  rcases hE.cases_ with hgs | ⟨g, v0, hgs, hbe, hbot, hNl⟩
  · have hno := hE.no HZ.out hgs
    have HNO := hide hno
    have HFO := hide (tr_found_fork (n := gs.length) (d := d) (by rw [hgs]; simp) (fun f hf => (hF f hf).stay hb) hl (by rw [hgs] at hR ⊢; exact hR))
    have hnt : ∀ x, (p, x) ∉ es := fun x hx => by
      rw [← HES.out, Way.mem (fun f hf => (HF.out f hf).fk) HW.out] at hx
      exact hno x hx
    have HNT := hide hnt
    have HGS := hide hgs
    have hgl : gs.length = fs.length := by rw [hgs]; simp
    have HGL := hide hgl
    rw [hgs] at HR
    have HNT := hide (HNT.out v)
    cases hE with
    | leaf g v' hn => simp at hgs
    | none =>
      unfold ptrOf
      simp only [Option.map_none]
      clear hW hF hO hb hR hgs hno hnt hcap
      rw [hgl] at HFO HR ⊢
      clear hgl
      go_wp2_with fail
      refine HFO.out.mono ?_
      rintro e w2 ⟨⟨C, m, cc, rfl⟩, hb2⟩
      have t1 := (Blk.new w2 84 #[.slice C m cc, .int .u64 ((0 : Nat) : Int)]).cell 1
      simp at t1
      have hb3 := below_alloc (below_then HB.out hb2) (Nat.le_refl _) (.cells #[.slice C m cc, .int .u64 ((0 : Nat) : Int)] 84)
      have hq3 := below_alloc hb2 (Nat.le_refl _) (.cells #[.slice C m cc, .int .u64 ((0 : Nat) : Int)] 84)
      have HL := hide (HLF.out _ hb3)
      have HB3 := hide hb3
      have HQ3 := hide hq3
      clear hb2 hb3 hq3 HFO
      go_wp2_with fail
      refine HL.out.mono ?_
      rintro e w4 ⟨g4, rfl, hN4, -, hb4⟩
      have hb4' := below_then HB3.out hb4
      have hq4 := below_then HQ3.out hb4
      have hPL := put_leaf (v := v) HZ.out (fun f hf => (HF.out f hf).fk) HW.out (fun e he => by cases he)
      have HME := hide hPL.2
      have hla : ∀ f ∈ fs.getLast?, FitsAt p f ⟨-1, p, [(p, v)]⟩ := (fits_leaf HW.out)
      have HLA := hide hla
      have HUP := hide (tr_up_on (p := p) fs (g4, ⟨-1, p, [(p, v)]⟩) B fs.length d (HTB.out.below hb4') hk1 hk (HR.out.below hq4) rfl (by omega) (fun f hf => (HF.out f hf).stay hb4') hN4 HFIT.out hla)
      have HB4 := hide hb4'
      have HN4 := hide hN4
      clear hla hN4 hb4 hb4' hq4 hPL HL t1
      go_wp2_with fail
      refine HUP.out.mono ?_
      rintro e w5 ⟨t', fs', rfl, ht', hT5, hU5, hF5, hb5⟩
      have HH := hide (And.intro ht' (And.intro hT5 (And.intro hU5 (And.intro hF5 hb5))))
      clear ht' hT5 hU5 hF5 hb5
      go_wp2
      go_ret2
      obtain ⟨ht', hT5, hU5, hF5, hb5⟩ := HH.out
      have hnt := hU5.nt HFIT.out HLA.out
      have hNT := pTop_node (x := (g4, ⟨-1, p, [(p, v)]⟩)) hF5 (HN4.out.stay hb5)
      refine ⟨t', (pTop fs' (g4, ⟨-1, p, [(p, v)]⟩)).2.es, rfl, ⟨hk1, hk, .inr ⟨_, _, _, hT5, hNT⟩⟩, ?_, ?_, below_then HB4.out hb5, .inr ⟨fs', _, hT5, hU5, hF5, HN4.out.stay hb5, .inl ⟨rfl, rfl⟩⟩⟩
      · rw [hnt, ← HES.out]; exact HME.out
      · constructor
        · intro h
          have := HB4.out.size
          have := HLT.out
          omega
        · intro h
          exact absurd h (HNT.out)
    | miss x hn hm =>
      have HN := hide hn
      have HM := hide hm
      unfold ptrOf
      simp only [Option.map_some]
      clear hW hF hO hb hR hgs hno hnt hcap hn hm
      rw [hgl] at HFO HR ⊢
      clear hgl
      go_wp2_with fail
      refine HFO.out.mono ?_
      rintro e w2 ⟨⟨C, m, cc, rfl⟩, hb2⟩
      have t1 := (Blk.new w2 84 #[.slice C m cc, .int .u64 ((0 : Nat) : Int)]).cell 1
      simp at t1
      have hb3 := below_alloc (below_then HB.out hb2) (Nat.le_refl _) (.cells #[.slice C m cc, .int .u64 ((0 : Nat) : Int)] 84)
      have hq3 := below_alloc hb2 (Nat.le_refl _) (.cells #[.slice C m cc, .int .u64 ((0 : Nat) : Int)] 84)
      have HL := hide (HLF.out _ hb3)
      have HB3 := hide hb3
      have HQ3 := hide hq3
      clear hb2 hb3 hq3 HFO
      go_wp2_with fail
      refine HL.out.mono ?_
      rintro e w4 ⟨g4, rfl, hN4, -, hb4⟩
      have hb4' := below_then HB3.out hb4
      have hq4 := below_then HQ3.out hb4
      obtain ⟨i1, i2, i3, i4, i5, i6, i7⟩ := HN.out.info
      obtain ⟨mm, hmm⟩ : ∃ mm : Nat, part x.2.pre p = (mm : Int) := ⟨(part x.2.pre p).toNat, by have := HM.out; omega⟩
      have hlm : x.2.lv < (mm : Int) := by rw [← hmm]; exact HM.out
      have HPR := hide (nd_pair (HN.out.stay hb4') hN4 hk1 hk hmm hlm (by omega))
      have hPP := fun g' => put_pair (v := v) (g' := g') HZ.out (fun f hf => (HF.out f hf).fk) HW.out hmm hlm i1 (fun e he => ⟨(i5 e he).1, (i5 e he).2.2⟩)
      have HPP := hide hPP
      have HB4 := hide hb4'
      have HQ4 := hide hq4
      have HMM := hide hmm
      have HLM := hide hlm
      have HZX := hide i1
      have HN44 := hide hN4
      clear i1 i2 i3 i4 i5 i6 i7 hmm hlm hPP hN4 hb4 hb4' hq4 HL t1
      go_wp2_with fail
      refine HPR.out.mono ?_
      rintro e w6 ⟨g6, rfl, hF6, -, hb6⟩
      have hN4 := hF6.node
      have HF6 := hide hF6
      have HQ6 := hide hb6
      have hb4' := below_then HB4.out hb6
      have hq4 := below_then HQ4.out hb6
      have hPL := HPP.out g4
      have t1 := trivial
      have HL := trivial
      have hb4 := trivial
      clear HB4 HPR hF6 hb6
      have HME := hide hPL.2
      have hla : ∀ f ∈ fs.getLast?, FitsAt p f ⟨mm, cut (mm + 1) x.2.pre, kidEs (pairK x.1 g4 x.2.lv (-1) x.2.pre p x.2.es [(p, v)] mm)⟩ := (fits_pair HZ.out (fun f hf => (HF.out f hf).fk) HW.out HMM.out HZX.out)
      have HLA := hide hla
      have HUP := hide (tr_up_on (p := p) fs (g6, ⟨mm, cut (mm + 1) x.2.pre, kidEs (pairK x.1 g4 x.2.lv (-1) x.2.pre p x.2.es [(p, v)] mm)⟩) B fs.length d (HTB.out.below hb4') hk1 hk (HR.out.below hq4) rfl (by omega) (fun f hf => (HF.out f hf).stay hb4') hN4 HFIT.out hla)
      have HB4 := hide hb4'
      have HN4 := hide hN4
      clear hla hN4 hb4 hb4' hq4 hPL HL t1
      go_wp2_with fail
      refine HUP.out.mono ?_
      rintro e w5 ⟨t', fs', rfl, ht', hT5, hU5, hF5, hb5⟩
      have HH := hide (And.intro ht' (And.intro hT5 (And.intro hU5 (And.intro hF5 hb5))))
      clear ht' hT5 hU5 hF5 hb5
      go_wp2
      go_ret2
      obtain ⟨ht', hT5, hU5, hF5, hb5⟩ := HH.out
      have hnt := hU5.nt HFIT.out HLA.out
      have hNT := pTop_node (x := (g6, ⟨mm, cut (mm + 1) x.2.pre, kidEs (pairK x.1 g4 x.2.lv (-1) x.2.pre p x.2.es [(p, v)] mm)⟩)) hF5 (HN4.out.stay hb5)
      refine ⟨t', (pTop fs' (g6, ⟨mm, cut (mm + 1) x.2.pre, kidEs (pairK x.1 g4 x.2.lv (-1) x.2.pre p x.2.es [(p, v)] mm)⟩)).2.es, rfl, ⟨hk1, hk, .inr ⟨_, _, _, hT5, hNT⟩⟩, ?_, ?_, below_then HB4.out hb5, .inr ⟨fs', _, hT5, hU5, hF5, HN4.out.stay hb5, .inr ⟨x, mm, g4, rfl, rfl, HLM.out, HMM.out, HZX.out, HN44.out.stay (below_then HQ6.out hb5), HF6.out.stay hb5, rfl⟩⟩⟩
      · rw [hnt, ← HES.out]; exact HME.out
      · constructor
        · intro h
          have := HB4.out.size
          have := HLT.out
          omega
        · intro h
          exact absurd h (HNT.out)
  · have HBO := hide hbot
    have HFO := hide (tr_found_leaf (n := gs.length) (d := d) (fs := fs) (by rw [hgs]) (hNl.stay hb) hk hl (by rw [hgs] at hR ⊢; exact hR))
    have hgl : gs.length = fs.length + 1 := by rw [hgs]; simp
    have hin : (p, v0) ∈ es := by
      rw [← HES.out, Way.mem (fun f hf => (HF.out f hf).fk) HW.out, hbot]
      exact List.mem_singleton.2 rfl
    have hun : ∀ x, (p, x) ∈ es → x = v0 := fun x hx => by
      rw [← HES.out, Way.mem (fun f hf => (HF.out f hf).fk) HW.out, hbot] at hx
      injection List.mem_singleton.1 hx
    have HIN := hide hin
    have HUN := hide hun
    rw [hgs, ptrs_snoc] at HR
    have HBE := hide hbe
    rw [hbe]
    unfold ptrOf
    simp only [Option.map_none]
    clear hW hF hO hb hR hgs hE HE hNl hbot hin hun hbe
    rw [show (List.map (fun x => x.g) fs ++ [g]).length = fs.length + 1 by simp] at HR
    rw [hgl] at HFO hcap ⊢
    clear hgl
    by_cases hvv : v0 = v
    · subst hvv
      go_wp2_with fail
      refine HFO.out.mono ?_
      rintro e w2 ⟨⟨C, m, cc, rfl⟩, hb2⟩
      have t1 := (Blk.new w2 84 #[.slice C m cc, .int .u64 (v0 : Int)]).cell 1
      simp at t1
      have hb3 := below_alloc (below_then HB.out hb2) (Nat.le_refl _) (.cells #[.slice C m cc, .int .u64 (v0 : Int)] 84)
      have hq3 := below_alloc hb2 (Nat.le_refl _) (.cells #[.slice C m cc, .int .u64 (v0 : Int)] 84)
      have HL := hide (HLF.out _ hb3)
      have HB3 := hide hb3
      have HQ3 := hide hq3
      clear hb2 hb3 hq3 HFO
      go_wp2
      go_ret2
      refine ⟨t, es, rfl, HT.out.stay HB3.out, fun x => ?_, ?_, HB3.out, .inl rfl⟩
      · constructor
        · intro hx
          by_cases hxp : x.1 = p
          · left
            obtain ⟨xp, xv⟩ := x
            simp only at hxp
            subst hxp
            rw [HUN.out xv hx]
          · exact .inr ⟨hx, hxp⟩
        · rintro (rfl | h)
          · exact HIN.out
          · exact h.1
      · exact ⟨fun _ => HIN.out, fun _ => rfl⟩
    · have evv : ((v0 : Int) == (v : Int)) = false := by simp; omega
      have HNT : Hid ((p, v) ∉ es) := hide fun h => hvv (HUN.out v h).symm
      have r2s := fun W => run_slice_to (P := Try.prog) (w := W) Try.underlying44 (sz := 1) Try.sizeOf51 B (fs.length + 1) d fs.length (by omega)
      clear hvv hcap
      go_wp2_with fail
      refine HFO.out.mono ?_
      rintro e w2 ⟨⟨C, m, cc, rfl⟩, hb2⟩
      have t1 := (Blk.new w2 84 #[.slice C m cc, .int .u64 (v0 : Int)]).cell 1
      simp at t1
      have hb3 := below_alloc (below_then HB.out hb2) (Nat.le_refl _) (.cells #[.slice C m cc, .int .u64 (v0 : Int)] 84)
      have hq3 := below_alloc hb2 (Nat.le_refl _) (.cells #[.slice C m cc, .int .u64 (v0 : Int)] 84)
      have HL := hide (HLF.out _ hb3)
      have HB3 := hide hb3
      have HQ3 := hide hq3
      clear hb2 hb3 hq3 HFO
      go_wp2_with fail
      refine HL.out.mono ?_
      rintro e w4 ⟨g4, rfl, hN4, -, hb4⟩
      have hb4' := below_then HB3.out hb4
      have hq4 := below_then HQ3.out hb4
      have hPL := put_leaf (v := v) HZ.out (fun f hf => (HF.out f hf).fk) HW.out (fun e he => by rw [HBO.out] at he; rw [List.mem_singleton.1 he])
      replace HR := hide HR.out.init
      have HME := hide hPL.2
      have hla : ∀ f ∈ fs.getLast?, FitsAt p f ⟨-1, p, [(p, v)]⟩ := (fits_leaf HW.out)
      have HLA := hide hla
      have HUP := hide (tr_up_on (p := p) fs (g4, ⟨-1, p, [(p, v)]⟩) B fs.length d (HTB.out.below hb4') hk1 hk (HR.out.below hq4) rfl (by omega) (fun f hf => (HF.out f hf).stay hb4') hN4 HFIT.out hla)
      have HB4 := hide hb4'
      have HN4 := hide hN4
      clear hla hN4 hb4 hb4' hq4 hPL HL t1
      go_wp2_with fail
      refine HUP.out.mono ?_
      rintro e w5 ⟨t', fs', rfl, ht', hT5, hU5, hF5, hb5⟩
      have HH := hide (And.intro ht' (And.intro hT5 (And.intro hU5 (And.intro hF5 hb5))))
      clear ht' hT5 hU5 hF5 hb5
      go_wp2
      go_ret2
      obtain ⟨ht', hT5, hU5, hF5, hb5⟩ := HH.out
      have hnt := hU5.nt HFIT.out HLA.out
      have hNT := pTop_node (x := (g4, ⟨-1, p, [(p, v)]⟩)) hF5 (HN4.out.stay hb5)
      refine ⟨t', (pTop fs' (g4, ⟨-1, p, [(p, v)]⟩)).2.es, rfl, ⟨hk1, hk, .inr ⟨_, _, _, hT5, hNT⟩⟩, ?_, ?_, below_then HB4.out hb5, .inr ⟨fs', _, hT5, hU5, hF5, HN4.out.stay hb5, .inl ⟨rfl, HBE.out⟩⟩⟩
      · rw [hnt, ← HES.out]; exact HME.out
      · constructor
        · intro h
          have := HB4.out.size
          have := HLT.out
          omega
        · intro h
          exact absurd h (HNT.out)
end
section
open Go.RowKit
theorem fits_del {k : Nat} {p : List Nat} (hp : Zp k p) {fs : List PF} {f : PF} {top : Option (Nat × NT)} (hF : ∀ f' ∈ fs, FK k f') (hf : FK k f) (hW : Way p fs top (some (f.g, f.nt))) {n : NT} (hpre : Zp k n.pre) (hlv : n.lv ≤ f.lv) (hag : ∀ b, f.lv < b → addrOf n.pre b = addrOf f.pre b) :
    ∀ f' ∈ fs.getLast?, FitsAt p f' n := by
  intro f' hf'
  obtain ⟨h1, h2⟩ := hW.last hf'
  have hff := hF f' (last_mem hf')
  obtain ⟨g1, g2, g3, g4⟩ := hff.below hp h1 h2.symm
  simp only [PF.nt] at g1 g2 g3 g4
  have hlow : (f.lv : Int) < f'.lv := g3.2.1
  refine ⟨?_, by omega, ?_⟩
  · refine (part_le_iff hff.pre hpre _ (by omega)).2 fun b hb => ?_
    rw [hag b (by omega)]
    exact (part_le_iff hff.pre hf.pre _ (by omega)).1 g3.1 b hb
  · rw [hag _ (by omega)]
    exact g3.2.2
/-- A fork with one kid less, and which one it is. -/
def LessIs (w' : World) (k : Nat) (p : List Nat) (f : PF) (x : Nat × NT) : Prop :=
  (∃ r, delK f.ks (addrOf p f.lv) = [r] ∧ x = (r.blk, ⟨r.lv, r.pre, r.es⟩)) ∨ (Fork w' k x.1 f.lv f.pre (delK f.ks (addrOf p f.lv)) ∧ x.2 = ⟨f.lv, f.pre, kidEs (delK f.ks (addrOf p f.lv))⟩)
theorem LessIs.stay {w w' : World} {k : Nat} {p : List Nat} {f : PF} {x : Nat × NT} (h : LessIs w k p f x) (hb : Below w.heap.size w w') : LessIs w' k p f x := by
  rcases h with h | ⟨h1, h2⟩
  · exact .inl h
  · exact .inr ⟨h1.stay hb, h2⟩
theorem nd_less2 {w : World} {k : Nat} {p : List Nat} {f : PF} (h : Fork w k f.g f.lv f.pre f.ks) (hk : k ≤ 16) (hp : Zp k p) {q : Kid} (hq : q ∈ f.ks) (hqa : q.at_ = addrOf p f.lv) :
    Calls Try.prog 46 #[.pointer (some ⟨f.g, 0, none⟩), .int .i64 (addrOf p f.lv : Int)] w fun e w' => ∃ (gn : Nat) (n : NT), e = .returned (.tuple #[.pointer (some ⟨gn, 0, none⟩), .int .i64 0]) ∧ NodeOf w' k gn n.lv n.pre n.es ∧
      (∀ e, e ∈ n.es ↔ ∃ r ∈ f.ks, r.at_ ≠ addrOf p f.lv ∧ e ∈ r.es) ∧ Zp k n.pre ∧ n.lv ≤ f.lv ∧ (∀ b, f.lv < b → addrOf n.pre b = addrOf f.pre b) ∧ Below w.heap.size w w' ∧ LessIs w' k p f (gn, n) := by
  have hf := h.fk
  have hl := delK_len (a := addrOf p f.lv) hf.sort ⟨q, hq, hqa⟩
  have h2 := hf.two
  have ha := addr_lt_pow hp f.lv
  rcases Nat.lt_or_ge f.ks.length 3 with h3 | h3
  · obtain ⟨r, hr⟩ : ∃ r, delK f.ks (addrOf p f.lv) = [r] := List.length_eq_one_iff.1 (by omega)
    have hrm : r ∈ f.ks ∧ r.at_ ≠ addrOf p f.lv := mem_delK.1 (by rw [hr]; simp)
    have hrN : NodeOf w k r.blk r.lv r.pre r.es := by
      obtain ⟨A, c, gs, _, _, _, _, h5, _⟩ := h
      exact h5 r hrm.1
    refine (nd_without_two h ha hq hqa hr).mono fun e w' ⟨h4, h5⟩ => ⟨r.blk, ⟨r.lv, r.pre, r.es⟩, h4, hrN.stay h5, fun e => ?_, hf.ksz r hrm.1, ?_, (hf.at_ r hrm.1).2, h5, .inl ⟨r, hr, rfl⟩⟩
    · constructor
      · intro he
        exact ⟨r, hrm.1, hrm.2, he⟩
      · rintro ⟨s, hs, hsa, hes⟩
        have : s ∈ delK f.ks (addrOf p f.lv) := mem_delK.2 ⟨hs, hsa⟩
        rw [hr, List.mem_singleton] at this
        rw [← this]
        exact hes
    · have := hf.low r hrm.1
      show r.lv ≤ _
      omega
  · refine (nd_without h ha hq hqa h3).mono fun e w' ⟨gn, h4, h5, _, h6⟩ => ⟨gn, ⟨f.lv, f.pre, kidEs (delK f.ks (addrOf p f.lv))⟩, h4, h5.node, fun e => ?_, hf.pre, Int.le_refl _, fun _ _ => rfl, h6, .inr ⟨h5, rfl⟩⟩
    unfold kidEs
    rw [List.mem_flatMap]
    constructor
    · rintro ⟨s, hs, hes⟩
      exact ⟨s, (mem_delK.1 hs).1, (mem_delK.1 hs).2, hes⟩
    · rintro ⟨s, hs, hsa, hes⟩
      exact ⟨s, mem_delK.2 ⟨hs, hsa⟩, hes⟩
/-- What is shared behind a Del: nothing is left, or the new forks on the way, and what hangs at its end. -/
def DelSh (k : Nat) (p : List Nat) (fs : List PF) (t' : Nat) (w' : World) : Prop :=
  (fs = [] ∧ TreeBlk w' t' k none) ∨ ∃ fs0 f fs' x, fs = fs0 ++ [f] ∧ TreeBlk w' t' k (some ⟨(pTop fs' x).1, 0, none⟩) ∧ UpRel p fs0 fs' x ∧ (∀ f ∈ fs', Fork w' k f.g f.lv f.pre f.ks) ∧ NodeOf w' k x.1 x.2.lv x.2.pre x.2.es ∧ LessIs w' k p f x
theorem DelSh.stay {k t' : Nat} {p : List Nat} {fs : List PF} {w w' : World} (h : DelSh k p fs t' w) (hb : Below w.heap.size w w') : DelSh k p fs t' w' := by
  rcases h with ⟨h1, h2⟩ | ⟨fs0, f, fs', x, h0, h1, h2, h3, h4, h5⟩
  · exact .inl ⟨h1, Blk.below h2 hb⟩
  · exact .inr ⟨fs0, f, fs', x, h0, Blk.below h1 hb, h2, fun f hf => (h3 f hf).stay hb, h4.stay hb, h5.stay hb⟩
def DelOutX (w : World) (t k : Nat) (p : List Nat) (es : List Ent) (X : Nat → World → Prop) (e : Ending) (w' : World) : Prop :=
  ((e = .returned (.tuple #[.pointer none, .int .i64 6]) ∧ ∀ v, (p, v) ∉ es) ∨ ∃ t' es' v, e = .returned (.tuple #[.pointer (some ⟨t', 0, none⟩), .int .i64 0]) ∧ TreeOf w' k t' es' ∧ (p, v) ∈ es ∧ (∀ x, x ∈ es' ↔ x ∈ es ∧ x.1 ≠ p) ∧ X t' w') ∧ Below w.heap.size w w'
set_option maxHeartbeats 4000000 in
set_option maxRecDepth 100000 in
theorem tr_del_on {w : World} {t k : Nat} {es : List Ent} {fs : List PF} {top bot below : Option (Nat × NT)} {gs : List Nat} (hT : TreeOf w k t es) (hB : TreeBlk w t k (top.map fun y => ⟨y.1, 0, none⟩)) (hes : esOf top = es) {A : Option Addr} {c : Nat} {p : List Nat} (hp : Pt w A k p)
    (hW0 : Way p fs top bot) (hF0 : ∀ f ∈ fs, Fork w k f.g f.lv f.pre f.ks) (hl : fs.length ≤ 64) (hE0 : PathEnd w k p fs bot gs below) :
    Calls Try.prog 28 #[.pointer (some ⟨t, 0, none⟩), .slice A k c] w (DelOutX w t k p es (DelSh k p fs)) := by
  have hk1 : 1 ≤ k := hT.1
  have hk : k ≤ 16 := hT.2.1
  have HC := hide (tr_check hB A c)
  have HP := hide (tr_path_on (c := c) hB hk1 hk hp hW0 hF0 hl hE0)
  have HZ := hide hp.zp
  have HES := hide hes
  have HTB := hide hB
  have HPT := hide hp
  have HW0 := hide hW0
  have HF0 := hide hF0
  have HE0 := hide hE0
  clear hT hB hp hes hW0 hF0 hE0
  go_enter Try.func28, Try.ntmps28
  go_wp2_with fail
  refine HC.out.mono ?_
  rintro e w1 ⟨rfl, rfl⟩
  go_wp2_with fail
  refine HP.out.mono ?_
  rintro e w1 ⟨B, d, rfl, hO, hb⟩
  have hW := HW0.out
  have hF := HF0.out
  have hE := HE0.out
  clear HW0 HF0 HE0
  have HW := hide hW
  have HF := hide hF
  have HB := hide hb
  obtain ⟨hcap, hR⟩ := own_rw hO
  have HR := hide hR
  rcases hE.cases_ with hgs | ⟨g, v0, hgs, hbe, hbot, hNl⟩
  · have hno := hE.no HZ.out hgs
    have HFO := hide (tr_found_fork (n := gs.length) (d := d) (by rw [hgs]; simp) (fun f hf => (hF f hf).stay hb) hl (by rw [hgs] at hR ⊢; exact hR))
    have hnt : ∀ x, (p, x) ∉ es := fun x hx => by
      rw [← HES.out, Way.mem (fun f hf => (HF.out f hf).fk) HW.out] at hx
      exact hno x hx
    have HNT := hide hnt
    unfold ptrOf
    clear hW hF hO hb hR hgs hno hnt hcap hE
    go_wp2_with fail
    refine HFO.out.mono ?_
    rintro e w2 ⟨⟨C, m, cc, rfl⟩, hb2⟩
    have HB3 := hide (below_alloc (below_then HB.out hb2) (Nat.le_refl _) (.cells #[.slice C m cc, .int .u64 ((0 : Nat) : Int)] 84))
    clear hb2
    go_wp2
    go_ret2
    exact ⟨.inl ⟨rfl, HNT.out⟩, HB3.out⟩
  · have HBO := hide hbot
    have HFO := hide (tr_found_leaf (n := gs.length) (d := d) (fs := fs) (by rw [hgs]) (hNl.stay hb) hk hl (by rw [hgs] at hR ⊢; exact hR))
    have hgl : gs.length = fs.length + 1 := by rw [hgs]; simp
    have hin : (p, v0) ∈ es := by
      rw [← HES.out, Way.mem (fun f hf => (HF.out f hf).fk) HW.out, hbot]
      exact List.mem_singleton.2 rfl
    have HIN := hide hin
    rw [hgs, ptrs_snoc] at HR
    unfold ptrOf
    clear hF hO hb hR hgs hE hNl hbot hin hbe
    rw [show (List.map (fun x => x.g) fs ++ [g]).length = fs.length + 1 by simp] at HR
    rw [hgl] at HFO hcap ⊢
    clear hgl
    rcases (show fs = [] ∨ ∃ fs0 f, fs = fs0 ++ [f] from (List.eq_nil_or_concat fs).imp id fun ⟨a, b, h⟩ => ⟨a, b, by rw [h, List.concat_eq_append]⟩) with rfl | ⟨fs0, f, rfl⟩
    · have hes0 : es = [(p, v0)] := by
        rw [← HES.out, show top = bot from hW, HBO.out]
        rfl
      have HE0 := hide hes0
      have t0 := (Blk.cell HTB.out 0)
      simp at t0
      clear hW hcap hes0
      simp only [List.length_nil, Nat.zero_add] at HFO ⊢
      go_wp2_with fail
      refine HFO.out.mono ?_
      rintro e w2 ⟨⟨C, m, cc, rfl⟩, hb2⟩
      have hb3 := below_alloc (below_then HB.out hb2) (Nat.le_refl _) (.cells #[.slice C m cc, .int .u64 (v0 : Int)] 84)
      have HB3 := hide hb3
      have t0 := Blk.cell (Blk.below HTB.out hb3) 0
      simp at t0
      clear hb2 hb3
      go_wp2
      go_ret2
      have hbk : TreeBlk ((w2.alloc (.cells #[.slice C m cc, .int .u64 (v0 : Int)] 84)).alloc (.cells #[.int .i64 (k : Int), .pointer none] 79)) (w2.heap.size + 1) k none := by
        have h := Blk.new (w2.alloc (.cells #[.slice C m cc, .int .u64 (v0 : Int)] 84)) 79 #[.int .i64 (k : Int), .pointer none]
        rw [show (w2.alloc (.cells #[.slice C m cc, .int .u64 (v0 : Int)] 84)).heap.size = w2.heap.size + 1 by simp] at h
        exact h
      refine ⟨.inr ⟨_, [], v0, rfl, ⟨hk1, hk, .inl ⟨hbk, rfl⟩⟩, HIN.out, fun x => ?_, .inl ⟨rfl, hbk⟩⟩, below_alloc HB3.out (Nat.le_refl _) _⟩
      rw [HE0.out]
      simp only [List.not_mem_nil, List.mem_singleton, false_iff]
      rintro ⟨rfl, h⟩
      exact h rfl
    · have hlen : (fs0 ++ [f]).length + 1 = fs0.length + 2 := by simp
      obtain ⟨c1, c2, c3⟩ := hW.cut
      have hFk := HF.out f (by simp)
      obtain ⟨q, hq, hqa, hqx⟩ := kidAt_some (c3.symm.trans HBO.out)
      have HLS := hide (fun (W : World) (hW : Below w.heap.size w W) => nd_less2 (hFk.stay hW) hk HZ.out hq hqa)
      have HLV := hide (fun (W : World) (hW : Below w.heap.size w W) => nd_level (hFk.stay hW).node)
      have HAD := hide (fun (W : World) (hW : Below w.heap.size w W) => zb_addr A k p c f.lv W (HPT.out.below hW) hk1 hk hFk.fk.lv)
      have HCW := hide c1
      have hq1 : ∀ e ∈ esOf (kidAt f.ks (addrOf p f.lv)), e.1 = p := fun e he => by
        rw [← c3, HBO.out] at he
        rw [List.mem_singleton.1 he]
      have HQ1 := hide hq1
      have HFK := hide hFk.fk
      have hl0 : fs0.length ≤ 64 := by simp at hl; omega
      have hfs0 : ∀ f ∈ fs0, Fork w k f.g f.lv f.pre f.ks := fun f hf => HF.out f (by simp [hf])
      have HF0 := hide hfs0
      obtain ⟨n, hn⟩ : ∃ n, n = fs0.length + 2 := ⟨_, rfl⟩
      obtain ⟨j, hj⟩ : ∃ j, j = fs0.length := ⟨_, rfl⟩
      rw [hlen, ← hn] at HFO hcap HR ⊢
      have hRj : (ptrs (List.map (fun x => x.g) (fs0 ++ [f])) ++ [Value.pointer (some ⟨g, 0, none⟩)])[j]? = some (.pointer (some ⟨f.g, 0, none⟩)) := by
        rw [hj]; simp [ptrs]
      have hRt : Rw w1 1 B j (ptrs (fs0.map (·.g))) := by
        have := HR.out.take_ (i := j) (by omega)
        rw [Nat.mul_one, hj] at this
        simpa [ptrs, hj] using this
      have HRT := hide hRt
      obtain ⟨b, o, rfl, hbl, u, hu, k0⟩ := HR.out.one (i := j) (by omega)
      rw [hRj] at hu
      injection hu with hu
      rw [← hu] at k0
      have K0 := hide (fun (W : World) (hW : Below w1.heap.size w1 W) => ((hW.cell (p := ⟨b, o + j, none⟩) hbl).trans k0))
      obtain ⟨e2, hin, hi0, hi7, e5, e6, hin', ne1⟩ := idx2 (j := j) (n := n) (hn.trans (by rw [hj])) (by rw [hj]; exact hl0)
      have hjd : j ≤ d := Nat.le_trans (Nat.le_of_lt hin) hcap
      have r2s := fun W => run_slice_to (P := Try.prog) (w := W) Try.underlying44 (sz := 1) Try.sizeOf51 (some ⟨b, o, none⟩) n d j hjd
      have HJ := hide hj
      clear hW hcap hlen c1 c2 c3 hFk hq hqa hqx hq1 hfs0 hn hRj hRt hu hj
      go_wp2_with fail
      refine HFO.out.mono ?_
      rintro e w2 ⟨⟨C, m, cc, rfl⟩, hb2⟩
      have hb3 := below_alloc (below_then HB.out hb2) (Nat.le_refl _) (.cells #[.slice C m cc, .int .u64 (v0 : Int)] 84)
      have hq3 := below_alloc hb2 (Nat.le_refl _) (.cells #[.slice C m cc, .int .u64 (v0 : Int)] 84)
      have HB3 := hide hb3
      have HQ3 := hide hq3
      have k0 := K0.out _ hq3
      have HL := hide (HLV.out _ hb3)
      have HA := hide (HAD.out _ hb3)
      have HN := hide (HLS.out _ hb3)
      clear hb2 hb3 hq3 HFO
      go_wp2_with fail
      refine HL.out.mono ?_
      rintro e w3 ⟨rfl, rfl⟩
      go_wp2_with fail
      refine HA.out.mono ?_
      rintro e w3 ⟨rfl, rfl⟩
      go_wp2_with fail
      refine HN.out.mono ?_
      rintro e w4 ⟨gn, nn, rfl, hN4, hes4, hz4, hl4, ha4, hb4, hle4⟩
      have hb4' := below_then HB3.out hb4
      have hq4 := below_then HQ3.out hb4
      have hPL := del_fork (bot := none) HZ.out (fun f hf => (HF0.out f hf).fk) HFK.out HCW.out HQ1.out hes4 hz4 hl4 ha4
      have HME := hide hPL.2
      have hla : ∀ f' ∈ fs0.getLast?, FitsAt p f' nn := fits_del HZ.out (fun f hf => (HF0.out f hf).fk) HFK.out HCW.out hz4 hl4 ha4
      have hfit : ∀ (i : Nat) (f1 f2 : PF), fs0[i]? = some f1 → fs0[i + 1]? = some f2 → FitsAt p f1 f2.nt := fun i f1 f2 h1 h2 => Way.fits HZ.out (fun f hf => (HF0.out f hf).fk) HCW.out h1 h2
      have HLA := hide hla
      have HFIT := hide hfit
      have HLE := hide hle4
      have HN4 := hide hN4
      have HUP := hide (tr_up_on (p := p) fs0 (gn, nn) (some ⟨b, o, none⟩) j d (HTB.out.below hb4') hk1 hk (HRT.out.below hq4) HJ.out.symm (by have := HJ.out; omega) (fun f hf => (HF0.out f hf).stay hb4') hN4 hfit hla)
      have HB4 := hide hb4'
      clear hN4 hb4 hb4' hq4 hPL HL HA HN k0 hes4 hz4 hl4 ha4 hla hfit hle4
      go_wp2_with fail
      refine HUP.out.mono ?_
      rintro e w5 ⟨t', fs', rfl, ht', hT5, hU5, hF5, hb5⟩
      have HH := hide (And.intro ht' (And.intro hT5 (And.intro hU5 (And.intro hF5 hb5))))
      clear ht' hT5 hU5 hF5 hb5
      go_wp2
      go_ret2
      obtain ⟨ht', hT5, hU5, hF5, hb5⟩ := HH.out
      have hnt := hU5.nt HFIT.out HLA.out
      have hNT := pTop_node (x := (gn, nn)) hF5 (HN4.out.stay hb5)
      refine ⟨.inr ⟨t', (pTop fs' (gn, nn)).2.es, v0, rfl, ⟨hk1, hk, .inr ⟨_, _, _, hT5, hNT⟩⟩, HIN.out, ?_, .inr ⟨fs0, f, fs', (gn, nn), rfl, hT5, hU5, hF5, HN4.out.stay hb5, HLE.out.stay hb5⟩⟩, below_then HB4.out hb5⟩
      rw [hnt, ← HES.out]
      exact HME.out
end
section
open Go.RowKit
def DoneOutX (w : World) (k t n : Nat) (X : Nat → World → Prop) (e : Ending) (w' : World) : Prop :=
  ∃ (t' : Nat) (A' : Option Addr) (n' c' : Nat), e = .returned (.tuple #[.pointer (some ⟨t', 0, none⟩), .slice A' n' c', .bool true]) ∧ Now w' k t' A' n' c' ∧ n' ≤ n + 1 ∧ Below w.heap.size w w' ∧ (t' = t ∨ X t' w')
set_option maxHeartbeats 4000000 in
set_option maxRecDepth 100000 in
theorem done_del_x {w : World} {t n c : Nat} {A : Option Addr} {rows : List ER} {es : List Ent} {RA : Option Addr} {Rn Rc v : Nat} {p : List Nat} {X : Nat → World → Prop} (hT : TreeOf w Rn t es) (hE : EntsAt w A n rows) (hnc : n ≤ c) (hS : SortR Rn rows) (hkk : ∀ r ∈ rows, r.n = Rn) (hes : ents rows = es) (hn : n ≤ 1000) (hp : Pt w RA Rn p) (hc : Rn ≤ Rc) (hm : Rc ≤ maxLen) (hv : v < 2 ^ 64)
    (hXS : ∀ (t' : Nat) (W W' : World), Below W.heap.size W W' → X t' W → X t' W') (hD0 : ∀ W, Below w.heap.size w W → Calls Try.prog 28 #[.pointer (some ⟨t, 0, none⟩), .slice RA Rn Rc] W (DelOutX W t Rn p es X)) :
    Calls Try.prog 15 #[.pointer (some ⟨t, 0, none⟩), .slice A n c, .agg #[.bool true, .slice RA Rn Rc, .int .u64 (v : Int)]] w (DoneOutX w Rn t n X) := by
  have HD0 := hide hD0
  have HXS := hide hXS
  clear hD0 hXS
  obtain ⟨root, hTB⟩ := hT.blk
  have b1 := (Below.refl w.heap.size w).alloc (Nat.le_refl _) (.cells #[.bool true, .slice RA Rn Rc, .int .u64 (v : Int)] 38)
  have hA := Blk.new w 38 #[.bool true, .slice RA Rn Rc, .int .u64 (v : Int)]
  have HB1 := hide b1
  have HTB := hide hTB
  have HT := hide hT
  have HE := hide hE
  have HS := hide hS
  have HKK := hide hkk
  have HES := hide hes
  have HP := hide hp
  have HNC := hide hnc
  clear hT hE hS hkk hes hTB hp b1 hnc
  go_enter Try.func15, Try.ntmps15
  go_upto_region 1 with fail
  generalize w.alloc (.cells #[.bool true, .slice RA Rn Rc, .int .u64 (v : Int)] 38) = w1 at *
  have HK := hide (tr_k (Blk.below HTB.out HB1.out))
  have y0 := hA.cell 0
  have y1 := hA.cell 1
  have y2 := hA.cell 2
  simp at y0 y1 y2
  have HA := hide hA
  clear hA
  go_wp2_with fail
  refine HK.out.mono ?_
  rintro e w2 ⟨rfl, rfl⟩
  have HZ := hide HP.out.zp
  have HD := hide (HD0.out w1 HB1.out)
  have hk16 : Rn ≤ 16 := HT.out.2.1
  clear HK
  go_wp2_with fail
  refine HD.out.mono ?_
  rintro e w2 ⟨⟨rfl, hno⟩ | ⟨t', es', v', rfl, hT', hin, hmem, hx⟩, hb2⟩
  · have c2 := below_then HB1.out hb2
    have HC2 := hide c2
    have hA2 := HA.out.below hb2
    have y0 := hA2.cell 0
    have y1 := hA2.cell 1
    have y2 := hA2.cell 2
    simp at y0 y1 y2
    have HG := hide (ref_get A RA n c Rn Rc rows p w2 (HE.out.below c2) HKK.out (HP.out.below c2) (by omega) (by omega))
    have HNO := hide hno
    clear hA2 c2 hb2 HD hno
    go_wp2_with fail
    refine HG.out.mono ?_
    rintro e w3 ⟨⟨v3, ok, rfl, hok, h0, h1⟩, rfl⟩
    have hokf : ok = false := by
      rw [hok]
      cases hh : hasR rows p with
      | false => rfl
      | true =>
        obtain ⟨v, hv⟩ := (has_iff HS.out HES.out HZ.out).1 hh
        exact absurd hv (HNO.out v)
    subst hokf
    clear hok h0 h1 HG
    go_wp2
    go_ret3
    exact ⟨t, A, n, c, rfl, ⟨rows, es, HT.out.stay HC2.out, HE.out.below HC2.out, HNC.out, HS.out, HKK.out, HES.out⟩, by omega, HC2.out, .inl rfl⟩
  · have c2 := below_then HB1.out hb2
    have HC2 := hide c2
    have hA2 := HA.out.below hb2
    have y0 := hA2.cell 0
    have y1 := hA2.cell 1
    have y2 := hA2.cell 2
    simp at y0 y1 y2
    have HG := hide (ref_get A RA n c Rn Rc rows p w2 (HE.out.below c2) HKK.out (HP.out.below c2) (by omega) (by omega))
    have HRD := hide (ref_del A RA n c Rn Rc rows p w2 (HE.out.below c2) HNC.out HKK.out (HP.out.below c2) (by omega) (by omega))
    have HIN := hide hin
    have HMEM := hide hmem
    have HT' := hide hT'
    have HX := hide hx
    clear hx
    clear hA2 c2 hb2 HD hin hmem hT'
    go_wp2_with fail
    refine HG.out.mono ?_
    rintro e w3 ⟨⟨v3, ok, rfl, hok, h0, h1⟩, rfl⟩
    have hokf : ok = true := by
      rw [hok]
      exact (has_iff HS.out HES.out HZ.out).2 ⟨v', HIN.out⟩
    subst hokf
    clear hok h0 h1 HG
    go_wp2_with fail
    refine HRD.out.mono ?_
    rintro e w4 ⟨A', n', c', rfl, hE', hnc', hn', hb4⟩
    have HH := hide (And.intro hE' (And.intro hnc' (And.intro hn' hb4)))
    clear hE' hnc' hn' hb4 HRD
    go_wp2
    go_ret3
    obtain ⟨hE', hnc', hn', hb4⟩ := HH.out
    exact ⟨t', A', n', c', rfl, now_del HS.out HKK.out HES.out HZ.out (HT'.out.stay hb4) HMEM.out hE' hnc', by omega, below_then HC2.out hb4, .inr (HXS.out t' w2 _ hb4 HX.out)⟩
set_option maxHeartbeats 4000000 in
set_option maxRecDepth 100000 in
theorem done_put_x {w : World} {t n c : Nat} {A : Option Addr} {rows : List ER} {es : List Ent} {RA : Option Addr} {Rn Rc v : Nat} {p : List Nat} {X : Nat → World → Prop} (hT : TreeOf w Rn t es) (hE : EntsAt w A n rows) (hnc : n ≤ c) (hS : SortR Rn rows) (hkk : ∀ r ∈ rows, r.n = Rn) (hes : ents rows = es) (hn : n ≤ 1000) (hp : Pt w RA Rn p) (hc : Rn ≤ Rc) (hm : Rc ≤ maxLen) (hv : v < 2 ^ 64)
    (hXS : ∀ (t' : Nat) (W W' : World), Below W.heap.size W W' → X t' W → X t' W') (hD0 : ∀ W, Below w.heap.size w W → Calls Try.prog 23 #[.pointer (some ⟨t, 0, none⟩), .slice RA Rn Rc, .int .u64 (v : Int)] W (PutOutX W t Rn p v es X)) :
    Calls Try.prog 15 #[.pointer (some ⟨t, 0, none⟩), .slice A n c, .agg #[.bool false, .slice RA Rn Rc, .int .u64 (v : Int)]] w (DoneOutX w Rn t n X) := by
  have HD0 := hide hD0
  have HXS := hide hXS
  clear hD0 hXS
  obtain ⟨root, hTB⟩ := hT.blk
  have b1 := (Below.refl w.heap.size w).alloc (Nat.le_refl _) (.cells #[.bool false, .slice RA Rn Rc, .int .u64 (v : Int)] 38)
  have hA := Blk.new w 38 #[.bool false, .slice RA Rn Rc, .int .u64 (v : Int)]
  have HB1 := hide b1
  have HTB := hide hTB
  have HT := hide hT
  have HE := hide hE
  have HS := hide hS
  have HKK := hide hkk
  have HES := hide hes
  have HP := hide hp
  have HNC := hide hnc
  have HSO := hide hT.sorted.1
  clear hT hE hS hkk hes hTB hp b1 hnc
  go_enter Try.func15, Try.ntmps15
  go_upto_region 1 with fail
  generalize w.alloc (.cells #[.bool false, .slice RA Rn Rc, .int .u64 (v : Int)] 38) = w1 at *
  have HK := hide (tr_k (Blk.below HTB.out HB1.out))
  have y0 := hA.cell 0
  have y1 := hA.cell 1
  have y2 := hA.cell 2
  simp at y0 y1 y2
  have HA := hide hA
  clear hA
  go_wp2_with fail
  refine HK.out.mono ?_
  rintro e w2 ⟨rfl, rfl⟩
  have HZ := hide HP.out.zp
  have HD := hide (HD0.out w1 HB1.out)
  have hk16 : Rn ≤ 16 := HT.out.2.1
  clear HK
  go_wp2_with fail
  refine HD.out.mono ?_
  rintro e w2 ⟨t', es', rfl, hT', hmem, htt, hb2, hx⟩
  have HX := hide hx
  clear hx
  have c2 := below_then HB1.out hb2
  have HC2 := hide c2
  have hA2 := HA.out.below hb2
  have y0 := hA2.cell 0
  have y1 := hA2.cell 1
  have y2 := hA2.cell 2
  simp at y0 y1 y2
  have hal : w.heap.size < w2.heap.size := hA2.lt
  have HG := hide (ref_get A RA n c Rn Rc rows p w2 (HE.out.below c2) HKK.out (HP.out.below c2) (by omega) (by omega))
  have HRP := hide (ref_put A RA n c Rn Rc v rows p w2.drew ((HE.out.below c2).below (Below.refl _ w2).drew) HNC.out HKK.out ((HP.out.below c2).below (Below.refl _ w2).drew) hc hm (by omega) (by omega) hv)
  have HMEM := hide hmem
  have HT' := hide hT'
  have HTT := hide htt
  obtain ⟨root', hTB'⟩ := hT'.blk
  have HQ := hide (fun (W : World) (hW : Below w2.heap.size w2 W) => tptr_run (Blk.below hTB' hW) (Blk.below (Blk.below HTB.out c2) hW))
  clear hA2 c2 hb2 HD hmem hT' htt hTB'
  go_wp2_with fail
  refine HG.out.mono ?_
  rintro e w3 ⟨⟨v3, ok, rfl, hok, h0, h1⟩, rfl⟩
  clear HG
  cases ok with
  | false =>
    have hne : t' ≠ t := fun h => by
      have h2 := (has_iff HS.out HES.out HZ.out).2 ⟨v, HTT.out.1 h⟩
      rw [← hok] at h2
      cases h2
    clear h1
    have hq0 := HQ.out w2 (Below.refl _ _)
    rw [show decide (t' = t) = false by simp [hne]] at hq0
    have HQB := hide (fun W hW => by have := HQ.out W hW; rw [show decide (t' = t) = false by simp [hne]] at this; exact this)
    have hk0 := And.intro (show w2.drew.cell? ⟨w.heap.size, 1, none⟩ = _ from y1) (And.intro (show w2.drew.cell? ⟨w.heap.size, 2, none⟩ = _ from y2) (HQB.out w2.drew (Below.refl _ _).drew))
    clear HQ hok hne
    go_wp2_with fail
    refine wp_region_held_drew (S := (fun w' => w'.cell? ⟨w.heap.size, 1, none⟩ = some (.slice RA Rn Rc) ∧ w'.cell? ⟨w.heap.size, 2, none⟩ = some (.int .u64 (v : Int)) ∧ (binOp .eql 23 (.pointer (some ⟨t', 0, none⟩)) (.pointer (some ⟨t, 0, none⟩))).run Try.prog w' = .ok (.bool false) w')) (by kernel_rfl) hk0 (fun hHeld => ?_)
    refine wpAnyH_take (i := 0) (oi := { dst := some 99, op := _, type := _, pos := _, after := _, guard := _ }) (v := ?_) rfl (by kernel_rfl) (by kernel_rfl) (by kernel_rfl) (fun _ _ _ h => h) (Or.inl ⟨by rfl, ?_⟩) (by assumption) ?_
    rotate_left 1
    · intro wS hSw
      try dsimp only at hSw
      go_simp
      all_goals with_reducible rfl
    try simp only [Act.put, List.setIfInBounds_toArray, List.set_cons_zero, List.set_cons_succ]
    refine wpAnyH_take (i := 1) (oi := { dst := some 100, op := _, type := _, pos := _, after := _, guard := _ }) (v := ?_) rfl (by kernel_rfl) (by kernel_rfl) (by kernel_rfl) (fun _ _ _ h => h) (Or.inl ⟨by rfl, ?_⟩) (by assumption) ?_
    rotate_left 1
    · intro wS hSw
      try dsimp only at hSw
      go_simp
      all_goals with_reducible rfl
    try simp only [Act.put, List.setIfInBounds_toArray, List.set_cons_zero, List.set_cons_succ]
    refine wpAnyH_take (i := 2) (oi := { dst := some 101, op := _, type := _, pos := _, after := _, guard := _ }) (v := ?_) rfl (by kernel_rfl) (by kernel_rfl) (by kernel_rfl) (fun _ _ _ h => h) (Or.inl ⟨by rfl, ?_⟩) (by assumption) ?_
    rotate_left 1
    · intro wS hSw
      try dsimp only at hSw
      go_simp
      all_goals with_reducible rfl
    try simp only [Act.put, List.setIfInBounds_toArray, List.set_cons_zero, List.set_cons_succ]
    refine wpAnyH_take (i := 3) (oi := { dst := some 102, op := _, type := _, pos := _, after := _, guard := _ }) (v := ?_) rfl (by kernel_rfl) (by kernel_rfl) (by kernel_rfl) (fun _ _ _ h => h) (Or.inl ⟨by rfl, ?_⟩) (by assumption) ?_
    rotate_left 1
    · intro wS hSw
      try dsimp only at hSw
      go_simp
      all_goals with_reducible rfl
    try simp only [Act.put, List.setIfInBounds_toArray, List.set_cons_zero, List.set_cons_succ]
    refine wpAnyH_take (i := 4) (oi := { dst := some 103, op := _, type := _, pos := _, after := _, guard := _ }) (v := ?_) rfl (by kernel_rfl) (by kernel_rfl) (by kernel_rfl) (fun _ _ _ h => h) (Or.inl ⟨by rfl, ?_⟩) (by assumption) ?_
    rotate_left 1
    · intro wS hSw
      try dsimp only at hSw
      go_simp
      all_goals with_reducible rfl
    try simp only [Act.put, List.setIfInBounds_toArray, List.set_cons_zero, List.set_cons_succ]
    refine wpAnyH_take (i := 5) (oi := { dst := some 104, op := _, type := _, pos := _, after := _, guard := _ }) (v := ?_) rfl (by kernel_rfl) (by kernel_rfl) (by kernel_rfl) (fun _ _ _ h => h) (Or.inl ⟨by rfl, ?_⟩) (by assumption) ?_
    rotate_left 1
    · intro wS hSw
      try dsimp only at hSw
      go_simp
      all_goals with_reducible rfl
    try simp only [Act.put, List.setIfInBounds_toArray, List.set_cons_zero, List.set_cons_succ]
    refine wpAnyH_take (i := 7) (oi := { dst := some 106, op := _, type := _, pos := _, after := _, guard := _ }) (v := ?_) rfl (by kernel_rfl) (by kernel_rfl) (by kernel_rfl) (fun _ _ _ h => h) (Or.inl ⟨by rfl, ?_⟩) (by assumption) ?_
    rotate_left 1
    · intro wS hSw
      try dsimp only at hSw
      go_simp
      all_goals with_reducible rfl
    try simp only [Act.put, List.setIfInBounds_toArray, List.set_cons_zero, List.set_cons_succ]
    refine wpAnyH_take (i := 8) (oi := { dst := some 107, op := _, type := _, pos := _, after := _, guard := _ }) (v := ?_) rfl (by kernel_rfl) (by kernel_rfl) (by kernel_rfl) (fun _ _ _ h => h) (Or.inl ⟨by rfl, ?_⟩) (by assumption) ?_
    rotate_left 1
    · intro wS hSw
      try dsimp only at hSw
      go_simp
      all_goals with_reducible rfl
    try simp only [Act.put, List.setIfInBounds_toArray, List.set_cons_zero, List.set_cons_succ]
    refine wpAnyH_ready (rs := [6]) (by kernel_rfl) (by simp) ?_
    refine AllReadyH.cons (o := { dst := some 105, op := _, type := _, pos := _, after := _, guard := _ }) rfl (fun K hK => ?_) ?_
    · go_simp
      go_at_call 31
      refine HRP.out.mono ?_
      rintro e w5 ⟨A', n', c', rfl, hE', hnc', hn', hb5⟩
      have hd5 : Below w2.heap.size w2 w5 := (Below.refl _ w2).drew.trans hb5
      have HH := hide (And.intro hE' (And.intro hnc' (And.intro hn' hd5)))
      have hk5 := And.intro ((hd5.cell (p := ⟨w.heap.size, 1, none⟩) hal).trans y1) (And.intro ((hd5.cell (p := ⟨w.heap.size, 2, none⟩) hal).trans y2) (HQB.out w5 hd5))
      clear hE' hnc' hn' hb5
      try go_wp2_with fail
      refine hK.out _ _ ?_ (fun hHeld => ?_)
      · exact hk5
      clear hK K
      try simp only [Act.put, List.setIfInBounds_toArray, List.set_cons_zero, List.set_cons_succ]
      refine wpAnyH_take (i := 9) (oi := { dst := some 108, op := _, type := _, pos := _, after := _, guard := _ }) (v := ?_) rfl (by kernel_rfl) (by kernel_rfl) (by kernel_rfl) (fun _ _ _ h => h) (Or.inl ⟨by rfl, ?_⟩) (by assumption) ?_
      rotate_left 1
      · intro wS hSw
        try dsimp only at hSw
        go_simp
        all_goals with_reducible rfl
      try simp only [Act.put, List.setIfInBounds_toArray, List.set_cons_zero, List.set_cons_succ]
      refine wpAnyH_take (i := 10) (oi := { dst := some 109, op := _, type := _, pos := _, after := _, guard := _ }) (v := ?_) rfl (by kernel_rfl) (by kernel_rfl) (by kernel_rfl) (fun _ _ _ h => h) (Or.inl ⟨by rfl, ?_⟩) (by assumption) ?_
      rotate_left 1
      · intro wS hSw
        try dsimp only at hSw
        go_simp
        all_goals with_reducible rfl
      try simp only [Act.put, List.setIfInBounds_toArray, List.set_cons_zero, List.set_cons_succ]
      refine wpAnyH_take (i := 11) (oi := { dst := some 110, op := _, type := _, pos := _, after := _, guard := _ }) (v := ?_) rfl (by kernel_rfl) (by kernel_rfl) (by kernel_rfl) (fun _ _ _ h => h) (Or.inl ⟨by rfl, ?_⟩) (by assumption) ?_
      rotate_left 1
      · intro wS hSw
        try dsimp only at hSw
        go_simp
        all_goals with_reducible rfl
      try simp only [Act.put, List.setIfInBounds_toArray, List.set_cons_zero, List.set_cons_succ]
      refine wpAnyH_take (i := 12) (oi := { dst := some 111, op := _, type := _, pos := _, after := _, guard := _ }) (v := ?_) rfl (by kernel_rfl) (by kernel_rfl) (by kernel_rfl) (fun _ _ _ h => h) (Or.inl ⟨by rfl, ?_⟩) (by assumption) ?_
      rotate_left 1
      · intro wS hSw
        try dsimp only at hSw
        go_simp
        all_goals with_reducible rfl
      try simp only [Act.put, List.setIfInBounds_toArray, List.set_cons_zero, List.set_cons_succ]
      refine wpAnyH_take (i := 13) (oi := { dst := some 112, op := _, type := _, pos := _, after := _, guard := _ }) (v := ?_) rfl (by kernel_rfl) (by kernel_rfl) (by kernel_rfl) (fun _ _ _ h => h) (Or.inl ⟨by rfl, ?_⟩) (by assumption) ?_
      rotate_left 1
      · intro wS hSw
        try dsimp only at hSw
        go_simp
        all_goals with_reducible rfl
      try simp only [Act.put, List.setIfInBounds_toArray, List.set_cons_zero, List.set_cons_succ]
      refine wpAnyH_take (i := 14) (oi := { dst := some 113, op := _, type := _, pos := _, after := _, guard := _ }) (v := ?_) rfl (by kernel_rfl) (by kernel_rfl) (by kernel_rfl) (fun _ _ _ h => h) (Or.inl ⟨by rfl, ?_⟩) (by assumption) ?_
      rotate_left 1
      · intro wS hSw
        try dsimp only at hSw
        go_simp
        all_goals with_reducible rfl
      try simp only [Act.put, List.setIfInBounds_toArray, List.set_cons_zero, List.set_cons_succ]
      refine wpAnyH_take (i := 15) (oi := { dst := some 114, op := _, type := _, pos := _, after := _, guard := _ }) (v := ?_) rfl (by kernel_rfl) (by kernel_rfl) (by kernel_rfl) (fun _ _ _ h => h) (Or.inl ⟨by rfl, ?_⟩) (by assumption) ?_
      rotate_left 1
      · intro wS hSw
        try dsimp only at hSw
        go_simp
        all_goals with_reducible rfl
      try simp only [Act.put, List.setIfInBounds_toArray, List.set_cons_zero, List.set_cons_succ]
      refine wpAnyH_take (i := 16) (oi := { dst := some 115, op := _, type := _, pos := _, after := _, guard := _ }) (v := undef) rfl (by kernel_rfl) (by kernel_rfl) (by kernel_rfl) (fun _ _ _ h => h) (Or.inr ⟨by rfl, rfl⟩) (by assumption) ?_
      try simp only [Act.put, List.setIfInBounds_toArray, List.set_cons_zero, List.set_cons_succ]
      refine wpAnyH_take (i := 17) (oi := { dst := some 116, op := _, type := _, pos := _, after := _, guard := _ }) (v := undef) rfl (by kernel_rfl) (by kernel_rfl) (by kernel_rfl) (fun _ _ _ h => h) (Or.inr ⟨by rfl, rfl⟩) (by assumption) ?_
      try simp only [Act.put, List.setIfInBounds_toArray, List.set_cons_zero, List.set_cons_succ]
      refine wpAnyH_take (i := 18) (oi := { dst := some 117, op := _, type := _, pos := _, after := _, guard := _ }) (v := undef) rfl (by kernel_rfl) (by kernel_rfl) (by kernel_rfl) (fun _ _ _ h => h) (Or.inr ⟨by rfl, rfl⟩) (by assumption) ?_
      try simp only [Act.put, List.setIfInBounds_toArray, List.set_cons_zero, List.set_cons_succ]
      refine wpAnyH_take (i := 19) (oi := { dst := some 118, op := _, type := _, pos := _, after := _, guard := _ }) (v := undef) rfl (by kernel_rfl) (by kernel_rfl) (by kernel_rfl) (fun _ _ _ h => h) (Or.inr ⟨by rfl, rfl⟩) (by assumption) ?_
      try simp only [Act.put, List.setIfInBounds_toArray, List.set_cons_zero, List.set_cons_succ]
      refine wpAnyH_take (i := 20) (oi := { dst := some 119, op := _, type := _, pos := _, after := _, guard := _ }) (v := ?_) rfl (by kernel_rfl) (by kernel_rfl) (by kernel_rfl) (fun _ _ _ h => h) (Or.inl ⟨by rfl, ?_⟩) (by assumption) ?_
      rotate_left 1
      · intro wS hSw
        try dsimp only at hSw
        go_simp
        all_goals with_reducible rfl
      try simp only [Act.put, List.setIfInBounds_toArray, List.set_cons_zero, List.set_cons_succ]
      refine wpAnyH_take (i := 21) (oi := { dst := some 120, op := _, type := _, pos := _, after := _, guard := _ }) (v := ?_) rfl (by kernel_rfl) (by kernel_rfl) (by kernel_rfl) (fun _ _ _ h => h) (Or.inl ⟨by rfl, ?_⟩) (by assumption) ?_
      rotate_left 1
      · intro wS hSw
        try dsimp only at hSw
        go_simp
        all_goals with_reducible rfl
      try simp only [Act.put, List.setIfInBounds_toArray, List.set_cons_zero, List.set_cons_succ]
      refine wpAnyH_take (i := 22) (oi := { dst := some 121, op := _, type := _, pos := _, after := _, guard := _ }) (v := ?_) rfl (by kernel_rfl) (by kernel_rfl) (by kernel_rfl) (fun _ _ _ h => h) (Or.inl ⟨by rfl, ?_⟩) (by assumption) ?_
      rotate_left 1
      · intro wS hSw
        try dsimp only at hSw
        go_simp
        all_goals with_reducible rfl
      try simp only [Act.put, List.setIfInBounds_toArray, List.set_cons_zero, List.set_cons_succ]
      refine wpAnyH_take (i := 23) (oi := { dst := some 122, op := _, type := _, pos := _, after := _, guard := _ }) (v := ?_) rfl (by kernel_rfl) (by kernel_rfl) (by kernel_rfl) (fun _ _ _ h => h) (Or.inl ⟨by rfl, ?_⟩) (by assumption) ?_
      rotate_left 1
      · intro wS hSw
        try dsimp only at hSw
        go_simp
        all_goals with_reducible rfl
      try simp only [Act.put, List.setIfInBounds_toArray, List.set_cons_zero, List.set_cons_succ]
      refine wpAnyH_take (i := 24) (oi := { dst := some 123, op := _, type := _, pos := _, after := _, guard := _ }) (v := ?_) rfl (by kernel_rfl) (by kernel_rfl) (by kernel_rfl) (fun _ _ _ h => h) (Or.inl ⟨by rfl, ?_⟩) (by assumption) ?_
      rotate_left 1
      · intro wS hSw
        try dsimp only at hSw
        go_simp
        all_goals with_reducible rfl
      try simp only [Act.put, List.setIfInBounds_toArray, List.set_cons_zero, List.set_cons_succ]
      refine wpAnyH_take (i := 25) (oi := { dst := some 124, op := _, type := _, pos := _, after := _, guard := _ }) (v := ?_) rfl (by kernel_rfl) (by kernel_rfl) (by kernel_rfl) (fun _ _ _ h => h) (Or.inl ⟨by rfl, ?_⟩) (by assumption) ?_
      rotate_left 1
      · intro wS hSw
        try dsimp only at hSw
        go_simp
        all_goals with_reducible rfl
      try simp only [Act.put, List.setIfInBounds_toArray, List.set_cons_zero, List.set_cons_succ]
      refine wpAnyH_take (i := 26) (oi := { dst := some 6, op := _, type := _, pos := _, after := _, guard := _ }) (v := ?_) rfl (by kernel_rfl) (by kernel_rfl) (by kernel_rfl) (fun _ _ _ h => h) (Or.inl ⟨by rfl, ?_⟩) (by assumption) ?_
      rotate_left 1
      · intro wS hSw
        try dsimp only at hSw
        go_simp
        all_goals with_reducible rfl
      try simp only [Act.put, List.setIfInBounds_toArray, List.set_cons_zero, List.set_cons_succ]
      refine wpAnyH_take (i := 27) (oi := { dst := some 7, op := _, type := _, pos := _, after := _, guard := _ }) (v := ?_) rfl (by kernel_rfl) (by kernel_rfl) (by kernel_rfl) (fun _ _ _ h => h) (Or.inl ⟨by rfl, ?_⟩) (by assumption) ?_
      rotate_left 1
      · intro wS hSw
        try dsimp only at hSw
        go_simp
        all_goals with_reducible rfl
      try simp only [Act.put, List.setIfInBounds_toArray, List.set_cons_zero, List.set_cons_succ]
      refine wpAnyH_take (i := 28) (oi := { dst := some 8, op := _, type := _, pos := _, after := _, guard := _ }) (v := ?_) rfl (by kernel_rfl) (by kernel_rfl) (by kernel_rfl) (fun _ _ _ h => h) (Or.inl ⟨by rfl, ?_⟩) (by assumption) ?_
      rotate_left 1
      · intro wS hSw
        try dsimp only at hSw
        go_simp
        all_goals with_reducible rfl
      try simp only [Act.put, List.setIfInBounds_toArray, List.set_cons_zero, List.set_cons_succ]
      refine wpAnyH_done (by kernel_rfl) ?_ _
      go_wp2
      go_ret3
      obtain ⟨hE', hnc', hn', hb4⟩ := HH.out
      exact ⟨t', A', n', c', rfl, now_put HS.out HKK.out HES.out HZ.out rfl (HT'.out.stay hb4) HMEM.out hE' hnc', by omega, below_then HC2.out hb4, .inr (HXS.out t' w2 _ hb4 HX.out)⟩
    · exact AllReadyH.nil
  | true =>
    obtain ⟨r, hr, hrv⟩ := h1 rfl
    have hin := has_val HS.out HES.out HZ.out hok.symm hr
    rw [hrv] at hin
    by_cases hvv : v3 = v
    · subst hvv
      have htt : t' = t := HTT.out.2 hin
      clear h1 h0 hr hrv hin
      have hq0 := HQ.out w2 (Below.refl _ _)
      rw [show decide (t' = t) = true by simp [htt]] at hq0
      have HQB := hide (fun W hW => by have := HQ.out W hW; rw [show decide (t' = t) = true by simp [htt]] at this; exact this)
      have hk0 := And.intro (show w2.drew.cell? ⟨w.heap.size, 1, none⟩ = _ from y1) (And.intro (show w2.drew.cell? ⟨w.heap.size, 2, none⟩ = _ from y2) (HQB.out w2.drew (Below.refl _ _).drew))
      clear HQ hok
      clear htt
      go_wp2_with fail
      first
        | go_region_held3 (fun w' => w'.cell? ⟨w.heap.size, 1, none⟩ = some (.slice RA Rn Rc) ∧ w'.cell? ⟨w.heap.size, 2, none⟩ = some (.int .u64 (v3 : Int)) ∧ (binOp .eql 23 (.pointer (some ⟨t', 0, none⟩)) (.pointer (some ⟨t, 0, none⟩))).run Try.prog w' = .ok (.bool true) w')
            (first
              | go_keep
              | exact hk5
              | exact hk0)
            (first
              | (go_at_call 31
                 refine HRP.out.mono ?_
                 rintro e w5 ⟨A', n', c', rfl, hE', hnc', hn', hb5⟩
                 have hd5 : Below w2.heap.size w2 w5 := (Below.refl _ w2).drew.trans hb5
                 have HH := hide (And.intro hE' (And.intro hnc' (And.intro hn' hd5)))
                 have hk5 := And.intro ((hd5.cell (p := ⟨w.heap.size, 1, none⟩) hal).trans y1) (And.intro ((hd5.cell (p := ⟨w.heap.size, 2, none⟩) hal).trans y2) (HQB.out w5 hd5))
                 clear hE' hnc' hn' hb5))
        | fail
      all_goals
        go_wp2
        go_ret3
        obtain ⟨hE', hnc', hn', hb4⟩ := HH.out
        exact ⟨t', A', n', c', rfl, now_put HS.out HKK.out HES.out HZ.out rfl (HT'.out.stay hb4) HMEM.out hE' hnc', by omega, below_then HC2.out hb4, .inr (HXS.out t' w2 _ hb4 HX.out)⟩
    · have hne : t' ≠ t := fun h => hvv (uniq_val HSO.out hin (HTT.out.1 h))
      have ev : ((v3 : Int) == (v : Int)) = false := by simp; omega
      clear h1 hr hrv hin hvv
      have hq0 := HQ.out w2 (Below.refl _ _)
      rw [show decide (t' = t) = false by simp [hne]] at hq0
      have HQB := hide (fun W hW => by have := HQ.out W hW; rw [show decide (t' = t) = false by simp [hne]] at this; exact this)
      have hk0 := And.intro (show w2.drew.cell? ⟨w.heap.size, 1, none⟩ = _ from y1) (And.intro (show w2.drew.cell? ⟨w.heap.size, 2, none⟩ = _ from y2) (HQB.out w2.drew (Below.refl _ _).drew))
      clear HQ hok
      clear hne
      go_wp2_with fail
      first
        | go_region_held3 (fun w' => w'.cell? ⟨w.heap.size, 1, none⟩ = some (.slice RA Rn Rc) ∧ w'.cell? ⟨w.heap.size, 2, none⟩ = some (.int .u64 (v : Int)) ∧ (binOp .eql 23 (.pointer (some ⟨t', 0, none⟩)) (.pointer (some ⟨t, 0, none⟩))).run Try.prog w' = .ok (.bool false) w')
            (first
              | go_keep
              | exact hk5
              | exact hk0)
            (first
              | (go_at_call 31
                 refine HRP.out.mono ?_
                 rintro e w5 ⟨A', n', c', rfl, hE', hnc', hn', hb5⟩
                 have hd5 : Below w2.heap.size w2 w5 := (Below.refl _ w2).drew.trans hb5
                 have HH := hide (And.intro hE' (And.intro hnc' (And.intro hn' hd5)))
                 have hk5 := And.intro ((hd5.cell (p := ⟨w.heap.size, 1, none⟩) hal).trans y1) (And.intro ((hd5.cell (p := ⟨w.heap.size, 2, none⟩) hal).trans y2) (HQB.out w5 hd5))
                 clear hE' hnc' hn' hb5))
        | fail
      all_goals
        go_wp2
        go_ret3
        obtain ⟨hE', hnc', hn', hb4⟩ := HH.out
        exact ⟨t', A', n', c', rfl, now_put HS.out HKK.out HES.out HZ.out rfl (HT'.out.stay hb4) HMEM.out hE' hnc', by omega, below_then HC2.out hb4, .inr (HXS.out t' w2 _ hb4 HX.out)⟩
end
section
open Go.RowKit
end
section
open Go.RowKit
end
section
open Go.RowKit
theorem Way.app {p : List Nat} : ∀ {fs : List PF} {top bot : Option (Nat × NT)} {f : PF}, Way p fs top bot → bot = some (f.g, f.nt) → part f.pre p ≤ (f.lv : Int) → Way p (fs ++ [f]) top (kidAt f.ks (addrOf p f.lv)) := fun h hb hc => Way.snoc h hb hc
/-- The path behind an act. -/
structure After (w' : World) (k : Nat) (p : List Nat) (fs : List PF) (t' : Nat) (top2 : Option (Nat × NT)) (fs2 : List PF) (bot2 : Option (Nat × NT)) (gs2 : List Nat) (below2 : Option (Nat × NT)) : Prop where
  tree : TreeBlk w' t' k (top2.map fun y => ⟨y.1, 0, none⟩)
  way : Way p fs2 top2 bot2
  forks : ∀ f ∈ fs2, Fork w' k f.g f.lv f.pre f.ks
  end_ : PathEnd w' k p fs2 bot2 gs2 below2
end
section
open Go.RowKit
theorem PathEnd.stay {w w' : World} {k : Nat} {p : List Nat} {fs : List PF} {bot below : Option (Nat × NT)} {gs : List Nat} (h : PathEnd w k p fs bot gs below) (hb : Below w.heap.size w w') : PathEnd w' k p fs bot gs below := by
  cases h with
  | none => exact .none
  | leaf g v hn => exact .leaf g v (hn.stay hb)
  | miss x hn hm => exact .miss x (hn.stay hb) hm
theorem After.stay {w w' : World} {k t' : Nat} {p : List Nat} {fs fs2 : List PF} {top2 bot2 below2 : Option (Nat × NT)} {gs2 : List Nat} (h : After w k p fs t' top2 fs2 bot2 gs2 below2) (hb : Below w.heap.size w w') : After w' k p fs t' top2 fs2 bot2 gs2 below2 :=
  ⟨Blk.below h.tree hb, h.way, fun f hf => (h.forks f hf).stay hb, h.end_.stay hb⟩
set_option maxHeartbeats 1000000 in
set_option maxRecDepth 100000 in
theorem tr_Path_on {w : World} {t k : Nat} {fs : List PF} {top bot below : Option (Nat × NT)} {gs : List Nat} (hT : TreeBlk w t k (top.map fun y => ⟨y.1, 0, none⟩)) (hk1 : 1 ≤ k) (hk : k ≤ 16) {A : Option Addr} {c : Nat} {p : List Nat} (hp : Pt w A k p) (hW : Way p fs top bot) (hF : ∀ f ∈ fs, Fork w k f.g f.lv f.pre f.ks) (hl : fs.length ≤ 64) (hend : PathEnd w k p fs bot gs below) :
    Calls Try.prog 16 #[.pointer (some ⟨t, 0, none⟩), .slice A k c] w fun e w' => ∃ (B : Option Addr) (d : Nat), e = .returned (.tuple #[.slice B gs.length d, .int .i64 0]) ∧ w'.ownsRow w.heap.size 51 1 (.slice B gs.length d) gs.length (ptrs gs) ∧ Below w.heap.size w w' := by
  have HC := hide (tr_check hT A c)
  have HP := hide (tr_path_on (c := c) hT hk1 hk hp hW hF hl hend)
  clear hT hp hW hF hend
  go_enter Try.func16, Try.ntmps16
  go_wp2_with fail
  refine HC.out.mono ?_
  rintro e w1 ⟨rfl, rfl⟩
  go_wp2_with fail
  refine HP.out.mono ?_
  rintro e w1 ⟨B, d, rfl, h5, h6⟩
  have H := hide (And.intro h5 h6)
  unfold ptrOf
  clear h5 h6
  go_wp2
  go_ret2
  exact ⟨B, d, rfl, H.out.1, H.out.2⟩
/-- The new path is not longer than it may be. -/
theorem After.len {w : World} {k t' : Nat} {p : List Nat} {fs fs2 : List PF} {top2 bot2 below2 : Option (Nat × NT)} {gs2 : List Nat} (h : After w k p fs t' top2 fs2 bot2 gs2 below2) (hT : TopOk w k top2) : fs2.length ≤ 64 := by
  cases fs2 with
  | nil => simp
  | cons f fs2 =>
    have h0 := h.way.1
    have hW := h.way
    rw [h0] at hW
    have hi := (hT _ h0).info
    have := Way.len (fun f hf => (h.forks f hf).fk) hi.2.2.1 hW
    have := hi.2.2.2.1
    omega
set_option maxRecDepth 100000 in
open Go.ChangeShapes Go.WideShapes in
/-- An act that came in by value. -/
theorem open_act7 {H : Type} {enc : TypeId × Value → H} {w : World} {v : Value} {d : DataW H} {ps : List MemPlace}
    (h : DataW.Trod enc Try.prog w 0 (fun _ => true) true 38 v d ps) : ∃ (u0 u1 u2 : Value) (r : TA), v.cells.toList = [u0, u1, u2] ∧ [u0, u1, u2] = tav r ∧ r.ok w := by
  obtain ⟨fuel, hd⟩ := h
  obtain ⟨yb, y0, y1, n', -, hl, gb, g0, g1⟩ := Go.Deep.trod_struct3 Try.underlying38 hd
  generalize v.cells.toList = cs at *
  have hl2 : cs.length = 3 := hl
  match cs, hl2 with
  | [ub, u0, u1], _ =>
    obtain ⟨b, eb, -⟩ := DataW.trod_bool Try.underlying4 gb
    have eb' : ub = .bool b := by
      rw [show Try.prog.cellsOf 4 = 1 by kernel_rfl] at eb
      simpa using eb
    have g0' : DataW.trod enc Try.prog w 0 (fun _ => true) true n' 35 [u0] = some y0 := by
      rw [show Try.prog.cellsOf 35 = 1 by kernel_rfl] at g0
      simpa using g0
    obtain ⟨z, e1, -, hw⟩ := DataW.trod_int Try.underlying36 g1
    have e1' : u1 = .int .u64 z := by
      rw [show Try.prog.cellsOf 36 = 1 by kernel_rfl] at e1
      simpa using e1
    have hz := wf_u64 hw
    have hz1 : u1 = .int .u64 ((z.toNat : Nat) : Int) := by rw [e1', Int.toNat_of_nonneg hz.1]
    rcases Go.Deep.open_slice Try.underlying35 g0' with ⟨h0, _⟩ | ⟨a, l, c, _, _, _, _, h0, _⟩
    · have h0' : u0 = .slice none 0 0 := by simpa using h0
      exact ⟨ub, u0, u1, ⟨b, none, 0, 0, [], z.toNat⟩, rfl, by rw [h0', hz1, eb']; rfl, pt_nil w, Nat.le_refl _, Nat.zero_le _, by show z.toNat < 18446744073709551616; omega⟩
    · have h0' : u0 = .slice (some a) l c := by simpa using h0
      rw [h0'] at g0'
      obtain ⟨p, q1, q2, q3⟩ := open_point' g0'
      exact ⟨ub, u0, u1, ⟨b, some a, l, c, p, z.toNat⟩, rfl, by rw [h0', hz1, eb']; rfl, q1, q2, q3, by show z.toNat < 18446744073709551616; omega⟩
end
section
open Go.RowKit
/-- What an act of these two kinds leaves to be looked at. -/
def ActSh (d : Bool) (k v : Nat) (p : List Nat) (fs : List PF) (bot below : Option (Nat × NT)) (t t' : Nat) (w' : World) : Prop := if d then DelSh k p fs t' w' else PutSh k p v fs bot below t t' w'
theorem done_sh {w : World} {t n c k : Nat} {A : Option Addr} {rows : List ER} {es : List Ent} {r : TA} {fs : List PF} {top bot below : Option (Nat × NT)} {gs : List Nat} (hT : TreeOf w k t es) (hB : TreeBlk w t k (top.map fun y => ⟨y.1, 0, none⟩)) (htes : esOf top = es) (hE : EntsAt w A n rows) (hnc : n ≤ c) (hS : SortR k rows) (hkk : ∀ r ∈ rows, r.n = k) (hes : ents rows = es) (hn : n ≤ 1000) (hr : r.ok w) (hrn : r.n = k)
    (hW : Way r.p fs top bot) (hF : ∀ f ∈ fs, Fork w k f.g f.lv f.pre f.ks) (hl : fs.length ≤ 64) (hend : PathEnd w k r.p fs bot gs below) :
    Calls Try.prog 15 #[.pointer (some ⟨t, 0, none⟩), .slice A n c, .agg #[.bool r.d, .slice r.A r.n r.c, .int .u64 (r.v : Int)]] w (DoneOutX w k t n (ActSh r.d k r.v r.p fs bot below t)) := by
  obtain ⟨d, RA, Rn, Rc, p, v⟩ := r
  obtain ⟨h1, h2, h3, h4⟩ := hr
  simp only at hrn h1 h2 h3 h4 hW hend ⊢
  subst hrn
  cases d with
  | true =>
    exact done_del_x (X := ActSh true Rn v p fs bot below t) hT hE hnc hS hkk hes hn h1 h2 h3 h4 (fun t' W W' hb h => DelSh.stay h hb) fun W hWb =>
      (tr_del_on (c := Rc) (hT.stay hWb) (Blk.below hB hWb) htes (h1.below hWb) hW (fun f hf => (hF f hf).stay hWb) hl (hend.stay hWb)).mono fun e w' h => h
  | false =>
    exact done_put_x (X := ActSh false Rn v p fs bot below t) hT hE hnc hS hkk hes hn h1 h2 h3 h4 (fun t' W W' hb h => PutSh.stay h hb) fun W hWb =>
      (tr_put_on (c := Rc) (hT.stay hWb) (Blk.below hB hWb) htes (h1.below hWb) h4 hW (fun f hf => (hF f hf).stay hWb) hl (hend.stay hWb)).mono fun e w' h => h
theorem After.len2 {w : World} {k t' : Nat} {p : List Nat} {fs fs2 : List PF} {top2 bot2 below2 : Option (Nat × NT)} {gs2 : List Nat} (h : After w k p fs t' top2 fs2 bot2 gs2 below2) : fs2.length ≤ 64 := by
  cases fs2 with
  | nil => simp
  | cons f fs2 =>
    have h0 := h.way.1
    have hW := h.way
    rw [h0] at hW
    have hi := (h.forks f List.mem_cons_self).node.info
    have := Way.len (x := (f.g, f.nt)) (fun f hf => (h.forks f hf).fk) hi.2.2.1 hW
    have := hi.2.2.2.1
    simp only [PF.nt] at *
    omega
theorem open_act7' {H : Type} {enc : TypeId × Value → H} {w : World} {v : Value} {d : DataW H} {ps : List MemPlace}
    (h : DataW.Trod enc Try.prog w 0 (fun _ => true) true 38 v d ps) : ∃ r : TA, v.cells.toList = tav r ∧ r.ok w := by
  obtain ⟨u0, u1, u2, r, h1, h2, h3⟩ := open_act7 h
  exact ⟨r, h1.trans h2, h3⟩
end
end Go.Proofs.Ytfoapkcgdkfggaa
set_option linter.unusedSimpArgs false
set_option linter.unusedVariables false
namespace Go.Proofs.Ytfoapkcgdkfggaa
open Go.RowKit
theorem kids_same {w : World} {k : Nat} : ∀ {ks ks' : List Kid}, (∀ q ∈ ks, NodeOf w k q.blk q.lv q.pre q.es) → (∀ q ∈ ks', NodeOf w k q.blk q.lv q.pre q.es) → kidTh ks = kidTh ks' → ks = ks'
  | [], [], _, _, _ => rfl
  | [], d :: ds, _, _, h => by simp [kidTh] at h
  | c :: cs, [], _, _, h => by simp [kidTh] at h
  | c :: cs, d :: ds, h1, h2, h => by
    simp only [kidTh, List.map_cons, List.cons.injEq, Prod.mk.injEq, Value.pointer.injEq, Option.some.injEq, Addr.mk.injEq, and_true] at h
    obtain ⟨⟨h3, h4⟩, h5⟩ := h
    have hc := h1 c (List.mem_cons_self ..)
    have hd := h2 d (List.mem_cons_self ..)
    rw [← h4] at hd
    obtain ⟨e1, e2, e3⟩ := hc.uniq hd
    have hr := kids_same (fun q hq => h1 q (List.mem_cons_of_mem _ hq)) (fun q hq => h2 q (List.mem_cons_of_mem _ hq)) h5
    obtain ⟨a, b, l, p, e⟩ := c
    obtain ⟨a', b', l', p', e'⟩ := d
    simp only at h3 h4 e1 e2 e3
    subst h3 h4 e1 e2 e3
    rw [hr]
theorem Fork.uniq {w : World} {k g m m' : Nat} {pre pre' : List Nat} {ks ks' : List Kid} (h : Fork w k g m pre ks) (h' : Fork w k g m' pre' ks') : m = m' ∧ ks = ks' := by
  obtain ⟨A, c, gs, hp, hS, hB⟩ := h.head
  obtain ⟨A', c', gs', hp', hS', hB'⟩ := h'.head
  have he := (Blk.eq_ hB hB').2
  simp [nodeCells] at he
  obtain ⟨e0, ⟨e1, e2⟩, e3, -⟩ := he
  subst e3
  exact ⟨by omega, kids_same (fun q hq => (h.kid q hq).1) (fun q hq => (h'.kid q hq).1) (hS.uniq hS')⟩
theorem flatMap_same {α β : Type} {f g : α → List β} : ∀ {l : List α}, (∀ a ∈ l, f a = g a) → l.flatMap f = l.flatMap g
  | [], _ => rfl
  | a :: l, h => by rw [List.flatMap_cons, List.flatMap_cons, h a (List.mem_cons_self ..), flatMap_same fun b hb => h b (List.mem_cons_of_mem _ hb)]
theorem filter_two {α : Type} (p : α → Bool) : ∀ l : List α, l.length = (l.filter p).length + (l.filter (fun x => !p x)).length
  | [] => rfl
  | a :: l => by
    have := filter_two p l
    cases h : p a <;> simp [h] <;> omega
theorem Bel.uniq {w : World} {k g d : Nat} {L : List Nat} {es : List Ent} (h : Bel w k g L d es) : ∀ {L' : List Nat} {d' : Nat} {es' : List Ent}, Bel w k g L' d' es' → L = L' ∧ d = d' ∧ es = es' := by
  induction h with
  | leaf hv hc hp hB =>
    intro L' d' es' h'
    cases h' with
    | leaf hv' hc' hp' hB' =>
      refine ⟨rfl, rfl, ?_⟩
      exact ((NodeOf.leaf hv hp hc hB).uniq (NodeOf.leaf hv' hp' hc' hB')).2.2
    | fork f d hF hk =>
      have := ((NodeOf.leaf hv hp hc hB).uniq hF.node).1
      omega
  | @fork g m pre ks f d hF hk ih =>
    intro L' d' es' h'
    cases h' with
    | leaf hv' hc' hp' hB' =>
      have := (hF.node.uniq (NodeOf.leaf hv' hp' hc' hB')).1
      omega
    | fork f' d2 hF' hk' =>
      obtain ⟨-, rfl⟩ := hF.uniq hF'
      refine ⟨?_, ?_, rfl⟩
      · congr 1
        exact flatMap_same fun q hq => (ih q hq (hk' q hq)).1
      · congr 2
        exact List.map_congr_left fun q hq => (ih q hq (hk' q hq)).2.1
theorem Bel.inv {w : World} {k g m d : Nat} {pre : List Nat} {ks : List Kid} {L : List Nat} {es : List Ent} (hF : Fork w k g m pre ks) (h : Bel w k g L d es) : ∃ (f : Kid → List Nat) (dd : Kid → Nat), L = g :: ks.flatMap f ∧ d = maxN (ks.map dd) + 1 ∧ ∀ q ∈ ks, Bel w k q.blk (f q) (dd q) q.es := by
  cases h with
  | leaf hv hc hp hB =>
    have := (hF.node.uniq (NodeOf.leaf hv hp hc hB)).1
    omega
  | fork f d hF2 hk =>
    obtain ⟨-, rfl⟩ := hF.uniq hF2
    exact ⟨f, d, rfl, rfl, hk⟩
theorem Bel.leaf_inv {w : World} {k g v : Nat} {p : List Nat} (h : NodeOf w k g (-1) p [(p, v)]) : Bel w k g [g] 1 [(p, v)] := by
  rcases h.cases' with ⟨A, c, v', -, he, hv, hP, hc, hB⟩ | ⟨m, ks, hm, -⟩
  · simp only [List.cons.injEq, Prod.mk.injEq, true_and, and_true] at he
    subst he
    exact .leaf hv hc hP hB
  · omega
/-- All that lies below it is in a list. -/
def In (w : World) (k : Nat) (LT : List Nat) (g : Nat) : Prop := ∃ L d es, Bel w k g L d es ∧ ∀ y ∈ L, y ∈ LT
theorem In.of {w : World} {k g d : Nat} {LT L : List Nat} {es : List Ent} (h : In w k LT g) (hB : Bel w k g L d es) : ∀ y ∈ L, y ∈ LT := by
  obtain ⟨L', d', es', h1, h2⟩ := h
  obtain ⟨rfl, -⟩ := hB.uniq h1
  exact h2
theorem In.kid {w : World} {k g m : Nat} {LT : List Nat} {pre : List Nat} {ks : List Kid} (h : In w k LT g) (hF : Fork w k g m pre ks) {q : Kid} (hq : q ∈ ks) : In w k LT q.blk := by
  obtain ⟨L, d, es, h1, h2⟩ := h
  cases h1 with
  | leaf hv hc hp hB =>
    have := (hF.node.uniq (NodeOf.leaf hv hp hc hB)).1
    omega
  | fork f d hF' hk =>
    obtain ⟨-, rfl⟩ := hF.uniq hF'
    exact ⟨f q, d q, q.es, hk q hq, fun y hy => h2 y (List.mem_cons_of_mem _ (List.mem_flatMap.2 ⟨q, hq, hy⟩))⟩
theorem In.way {w : World} {k : Nat} {LT p : List Nat} : ∀ {fs : List PF} {top bot : Option (Nat × NT)}, Way p fs top bot → (∀ f ∈ fs, Fork w k f.g f.lv f.pre f.ks) → (∀ y, top = some y → In w k LT y.1) → ∀ y, bot = some y → In w k LT y.1
  | [], top, bot, hW, _, hT => by
    rw [show top = bot from hW] at hT
    exact hT
  | f :: fs, top, bot, hW, hF, hT => by
    refine In.way hW.2.2 (fun f' hf' => hF f' (List.mem_cons_of_mem _ hf')) fun y hy => ?_
    obtain ⟨q, hq, -, rfl⟩ := kidAt_some hy
    exact (hT _ hW.1).kid (hF f (List.mem_cons_self ..)) hq
/-- The nodes of a tree behind an act: old ones, the new forks, what hangs at their end. -/
theorem up_in {w : World} {k : Nat} {LT p : List Nat} {x : Nat × NT} {Lx : List Nat} {dx : Nat} {ex : List Ent} (hx : Bel w k x.1 Lx dx ex) : ∀ {fs fs' : List PF} {top bot : Option (Nat × NT)} {L' : List Nat} {d' : Nat} {es' : List Ent}, UpRel p fs fs' x → Way p fs top bot →
    (∀ f ∈ fs, Fork w k f.g f.lv f.pre f.ks) → (∀ f ∈ fs', Fork w k f.g f.lv f.pre f.ks) → (∀ y, top = some y → In w k LT y.1) → Bel w k (pTop fs' x).1 L' d' es' → ∀ y ∈ L', y ∈ LT ∨ y ∈ fs'.map (·.g) ∨ y ∈ Lx
  | [], [], top, bot, L', d', es', hU, hW, hF, hF', hT, hB => by
    intro y hy
    obtain ⟨rfl, -⟩ := hx.uniq hB
    exact .inr (.inr hy)
  | [], f' :: fs', top, bot, L', d', es', hU, hW, hF, hF', hT, hB => False.elim hU
  | f :: fs, [], top, bot, L', d', es', hU, hW, hF, hF', hT, hB => False.elim hU
  | f :: fs, f' :: fs', top, bot, L', d', es', hU, hW, hF, hF', hT, hB => by
    obtain ⟨h1, h2, h3, h4⟩ := hU
    have hf := hF f (List.mem_cons_self ..)
    have hf' := hF' f' (List.mem_cons_self ..)
    have hIn := hT _ hW.1
    change Bel w k f'.g L' d' es' at hB
    cases hB with
    | leaf hv hc hp hB =>
      have := (hf'.node.uniq (NodeOf.leaf hv hp hc hB)).1
      omega
    | fork F d hF2 hk =>
      obtain ⟨-, rfl⟩ := hf'.uniq hF2
      intro y hy
      rcases List.mem_cons.1 hy with rfl | hy
      · exact .inr (.inl (by simp))
      obtain ⟨q, hq, hyq⟩ := List.mem_flatMap.1 hy
      rw [h3] at hq
      rcases mem_insK hq with rfl | hqk
      · have hk' := hk _ (by rw [h3]; exact hq)
        have := up_in hx h4 hW.2.2 (fun g hg => hF g (List.mem_cons_of_mem _ hg)) (fun g hg => hF' g (List.mem_cons_of_mem _ hg)) (fun z hz => by
          obtain ⟨r, hr, -, rfl⟩ := kidAt_some hz
          exact hIn.kid hf hr) hk' y hyq
        rcases this with h | h | h
        · exact .inl h
        · exact .inr (.inl (by simp only [List.map_cons]; exact List.mem_cons_of_mem _ h))
        · exact .inr (.inr h)
      · have hq2 := hk q (by rw [h3]; exact hq)
        exact .inl ((hIn.kid hf hqk).of hq2 y hyq)
theorem nodup_le : ∀ {L M : List Nat}, L.Nodup → (∀ y ∈ L, y ∈ M) → L.length ≤ M.length
  | [], M, _, _ => Nat.zero_le _
  | x :: L, M, h, hs => by
    obtain ⟨h1, h2⟩ := List.nodup_cons.1 h
    have hx := hs x (List.mem_cons_self ..)
    have := nodup_le (L := L) (M := M.erase x) h2 fun y hy => (List.mem_erase_of_ne (by rintro rfl; exact h1 hy)).2 (hs y (List.mem_cons_of_mem _ hy))
    rw [List.length_erase_of_mem hx] at this
    have hp := List.length_pos_of_mem hx
    simp only [List.length_cons]
    omega
theorem fresh_le {LT L' M : List Nat} (hN : L'.Nodup) (h : ∀ y ∈ L', y ∈ LT ∨ y ∈ M) : L'.length - comN LT L' ≤ M.length := by
  have h1 : (L'.filter (fun x => !decide (x ∈ LT))).length ≤ M.length := by
    refine nodup_le (hN.sublist List.filter_sublist) fun y hy => ?_
    obtain ⟨h2, h3⟩ := List.mem_filter.1 hy
    exact (h y h2).resolve_left (by simpa using h3)
  have h2 := filter_two (fun x => decide (x ∈ LT)) L'
  unfold comN
  omega
/-- How long the path of a point is, as Path tells it. -/
def PathIs (w : World) (k : Nat) (p : List Nat) (t' n : Nat) : Prop := ∃ (top : Option (Nat × NT)) (fs : List PF) (bot : Option (Nat × NT)) (gs : List Nat) (below : Option (Nat × NT)), TreeBlk w t' k (top.map fun y => ⟨y.1, 0, none⟩) ∧ Way p fs top bot ∧ (∀ f ∈ fs, Fork w k f.g f.lv f.pre f.ks) ∧ PathEnd w k p fs bot gs below ∧ gs.length = n
theorem Way.append {p : List Nat} : ∀ {fs fs2 : List PF} {top mid bot : Option (Nat × NT)}, Way p fs top mid → Way p fs2 mid bot → Way p (fs ++ fs2) top bot
  | [], fs2, top, mid, bot, h, h2 => by
    rw [show top = mid from h]
    exact h2
  | f :: fs, fs2, top, mid, bot, h, h2 => ⟨h.1, h.2.1, Way.append h.2.2 h2⟩
theorem PathEnd.append {w : World} {k : Nat} {p : List Nat} {fs : List PF} {bot below : Option (Nat × NT)} {gs : List Nat} (h : PathEnd w k p fs bot gs below) : ∀ fs0 : List PF, PathEnd w k p (fs0 ++ fs) bot (fs0.map (·.g) ++ gs) below
  | [] => h
  | f :: fs0 => (PathEnd.append h fs0).cons f
theorem top_bel {w : World} {k t d : Nat} {root : Option Addr} {top : Option (Nat × NT)} {L : List Nat} {es : List Ent} (hT : TreeBlk w t k root) (hT' : TreeBlk w t k (top.map fun y => ⟨y.1, 0, none⟩)) (hB : TBel w k root L d es) : ∀ y, top = some y → Bel w k y.1 L d es := by
  intro y hy
  subst hy
  have he := (Blk.eq_ hT hT').2
  simp at he
  subst he
  rcases hB with ⟨h, -⟩ | ⟨g, h, hB⟩
  · cases h
  · injection h with h
    injection h with h
    subst h
    exact hB
/-- Behind a put: no more fresh nodes than the new path has. -/
theorem put_fresh {w : World} {k v t t' d d' : Nat} {p : List Nat} {fs : List PF} {top bot below : Option (Nat × NT)} {LT L' : List Nat} {es es' : List Ent} {root root' : Option Addr} (hp : Zp k p) (hW : Way p fs top bot) (hF : ∀ f ∈ fs, Fork w k f.g f.lv f.pre f.ks) (hl : fs.length ≤ 64)
    (hT : TreeBlk w t k (top.map fun y => ⟨y.1, 0, none⟩)) (hTb : TreeBlk w t k root) (hB : TBel w k root LT d es) (h : PutSh k p v fs bot below t t' w) (hne : t' ≠ t) (hTb' : TreeBlk w t' k root') (hB' : TBel w k root' L' d' es') :
    ∃ n, PathIs w k p t' n ∧ L'.length - comN LT L' ≤ n ∧ L'.length - comN LT L' ≤ 66 := by
  rcases h with h | ⟨fs', x, g1, g2, g3, g4, g5⟩
  · exact absurd h hne
  have hin : ∀ y, top = some y → In w k LT y.1 := fun y hy => ⟨LT, d, es, top_bel hTb hT hB y hy, fun z hz => hz⟩
  have hbot := In.way hW hF hin
  have hBt := top_bel (top := some (pTop fs' x)) hTb' g1 hB' _ rfl
  have hlen := g2.len
  have hway : Way p fs' (some (pTop fs' x)) (some x) := g2.way (hW.covers)
  rcases g5 with ⟨hx, -⟩ | ⟨y, mm, gl, hbl, hb, h1, h2, h3, h4, h5, h6⟩
  · rw [hx] at g4
    obtain ⟨x1, x2⟩ := x
    simp only at hx g4
    subst hx
    have hBx : Bel w k x1 [x1] 1 [(p, v)] := Bel.leaf_inv g4
    refine ⟨fs'.length + 1, ⟨some (pTop fs' _), fs', _, _, _, g1, hway, g3, .leaf x1 v g4, by simp⟩, ?_⟩
    have := fresh_le (LT := LT) (M := fs'.map (·.g) ++ [x1]) hB'.nodup fun z hz => by
      rcases up_in hBx g2 hW hF g3 hin hBt z hz with h | h | h
      · exact .inl h
      · exact .inr (List.mem_append_left _ h)
      · exact .inr (List.mem_append_right _ h)
    simp only [List.length_append, List.length_map, List.length_singleton] at this
    omega
  · obtain ⟨x1, x2⟩ := x
    simp only at g1 g2 g4 h5 h6 hway hBt
    subst h6
    have hBg : Bel w k gl [gl] 1 [(p, v)] := Bel.leaf_inv h4
    obtain ⟨Lx, dx, hBx⟩ := bel_ex (mm + 2) x1 (mm : Int) _ _ (by omega) g4
    obtain ⟨F, dd, hL, -, hk⟩ := hBx.inv h5
    have hpk : pairK y.1 gl y.2.lv (-1) y.2.pre p y.2.es [(p, v)] mm = insK (insK [] ⟨addrOf y.2.pre mm, y.1, y.2.lv, y.2.pre, y.2.es⟩) ⟨addrOf p mm, gl, -1, p, [(p, v)]⟩ := rfl
    have hLx : ∀ z ∈ Lx, z ∈ LT ∨ z = x1 ∨ z = gl := by
      intro z hz
      rw [hL] at hz
      rcases List.mem_cons.1 hz with rfl | hz
      · exact .inr (.inl rfl)
      obtain ⟨q, hq, hzq⟩ := List.mem_flatMap.1 hz
      have hbq := hk q hq
      have hq2 : q.blk = y.1 ∨ q.blk = gl := by
        rw [hpk] at hq
        rcases mem_insK hq with rfl | hq
        · exact .inr rfl
        · rcases mem_insK hq with rfl | hq
          · exact .inl rfl
          · cases hq
      rcases hq2 with h | h
      · rw [h] at hbq
        exact .inl ((hbot _ hb).of hbq z hzq)
      · rw [h] at hbq
        obtain ⟨he, -⟩ := hBg.uniq hbq
        rw [← he] at hzq
        exact .inr (.inr (by simpa using hzq))
    have hcov : part (cut (mm + 1) y.2.pre) p ≤ (mm : Int) := by
      refine (part_le_iff (zp_cut h3) hp _ (by omega)).2 fun b hb => ?_
      rw [addr_cut_hi _ (by omega)]
      have := (part_spec y.2.pre p (by rw [h3.1, hp.1]) h3.2 hp.2).2.2.1
      rw [h2] at this
      exact this b hb
    have hk2 : kidAt (pairK y.1 gl y.2.lv (-1) y.2.pre p y.2.es [(p, v)] mm) (addrOf p mm) = some (gl, ⟨-1, p, [(p, v)]⟩) := by
      rw [hpk]
      exact kidAt_insK (q := ⟨addrOf p mm, gl, -1, p, [(p, v)]⟩)
    have hway2 := hway.app (f := ⟨x1, mm, cut (mm + 1) y.2.pre, pairK y.1 gl y.2.lv (-1) y.2.pre p y.2.es [(p, v)] mm⟩) rfl hcov
    simp only [hk2] at hway2
    refine ⟨fs'.length + 2, ⟨some (pTop fs' _), _, _, _, _, g1, hway2, fun f hf => ?_, .leaf gl v h4, by simp⟩, ?_⟩
    · rcases List.mem_append.1 hf with hf | hf
      · exact g3 f hf
      · rw [List.mem_singleton] at hf
        subst hf
        exact h5
    have := fresh_le (LT := LT) (M := fs'.map (·.g) ++ [x1, gl]) hB'.nodup fun z hz => by
      rcases up_in hBx g2 hW hF g3 hin hBt z hz with h | h | h
      · exact .inl h
      · exact .inr (List.mem_append_left _ h)
      · rcases hLx z h with h | rfl | rfl
        · exact .inl h
        · exact .inr (by simp)
        · exact .inr (by simp)
    simp only [List.length_append, List.length_map, List.length_cons, List.length_nil] at this
    omega
/-- Behind a Del: no more fresh nodes than the new path has. -/
theorem del_fresh {w : World} {k t t' d d' : Nat} {p : List Nat} {fs : List PF} {top bot : Option (Nat × NT)} {LT L' : List Nat} {es es' : List Ent} {root root' : Option Addr} (hp : Zp k p) (hW : Way p fs top bot) (hF : ∀ f ∈ fs, Fork w k f.g f.lv f.pre f.ks) (hl : fs.length ≤ 64)
    (hT : TreeBlk w t k (top.map fun y => ⟨y.1, 0, none⟩)) (hTb : TreeBlk w t k root) (hB : TBel w k root LT d es) (h : DelSh k p fs t' w) (hTb' : TreeBlk w t' k root') (hB' : TBel w k root' L' d' es') :
    ∃ n, PathIs w k p t' n ∧ L'.length - comN LT L' ≤ n ∧ L'.length - comN LT L' ≤ 66 := by
  have hin : ∀ y, top = some y → In w k LT y.1 := fun y hy => ⟨LT, d, es, top_bel hTb hT hB y hy, fun z hz => hz⟩
  rcases h with ⟨rfl, hTn⟩ | ⟨fs0, f, fs', x, rfl, h1, h2, h3, h4, h5⟩
  · have hL : L' = [] := by
      rcases hB' with ⟨-, h, -⟩ | ⟨g, h, -⟩
      · exact h
      · have he := (Blk.eq_ hTb' hTn).2
        simp at he
        rw [he] at h
        cases h
    subst hL
    exact ⟨_, ⟨none, [], none, _, _, hTn, rfl, fun f hf => (by cases hf), .none, rfl⟩, by simp, by simp⟩
  obtain ⟨c1, c2, c3⟩ := hW.cut
  have hFf := hF f (by simp)
  have hF0 : ∀ g ∈ fs0, Fork w k g.g g.lv g.pre g.ks := fun g hg => hF g (List.mem_append_left _ hg)
  have hf := hFf.fk
  have hlen := h2.len
  have hway := h2.way c1.covers
  have hBt := top_bel (top := some (pTop fs' x)) hTb' h1 hB' _ rfl
  have hfin : In w k LT f.g := In.way c1 hF0 hin _ rfl
  simp only [List.length_append, List.length_singleton] at hl
  rcases h5 with ⟨r, hr, hx⟩ | ⟨hfk, hx⟩
  · subst hx
    have hrm : r ∈ f.ks ∧ r.at_ ≠ addrOf p f.lv := mem_delK.1 (by rw [hr]; simp)
    have hmiss : r.lv < part r.pre p := by
      rcases Int.lt_or_le r.lv (part r.pre p) with h | h
      · exact h
      · exfalso
        have hlow := hf.low r hrm.1
        have := (part_le_iff (hf.ksz r hrm.1) hp _ (hf.up r hrm.1)).1 h f.lv hlow
        rw [(hf.at_ r hrm.1).1] at this
        exact hrm.2 this
    obtain ⟨Lx, dx, ex, hBx, hLx⟩ := hfin.kid hFf hrm.1
    refine ⟨fs'.length, ⟨some (pTop fs' _), fs', some _, _, some _, h1, hway, h3, .miss (r.blk, ⟨r.lv, r.pre, r.es⟩) h4 hmiss, by simp⟩, ?_⟩
    have := fresh_le (LT := LT) (M := fs'.map (·.g)) hB'.nodup fun z hz => by
      rcases up_in hBx h2 c1 hF0 h3 hin hBt z hz with h | h | h
      · exact .inl h
      · exact .inr h
      · exact .inl (hLx z h)
    simp only [List.length_map] at this
    omega
  · obtain ⟨xg, xn⟩ := x
    simp only at hx hfk h4 hBt
    have hw2 := Way.snoc (f := (⟨xg, f.lv, f.pre, delK f.ks (addrOf p f.lv)⟩ : PF)) hway (by rw [hx]; rfl) c2
    simp only at hw2
    rw [kidAt_delK] at hw2
    obtain ⟨Lx, dx, hBx⟩ := bel_ex (f.lv + 2) xg (f.lv : Int) _ _ (by omega) hfk.node
    obtain ⟨F, dd, hL, -, hk⟩ := hBx.inv hfk
    have hLx : ∀ z ∈ Lx, z ∈ LT ∨ z = xg := by
      intro z hz
      rw [hL] at hz
      rcases List.mem_cons.1 hz with rfl | hz
      · exact .inr rfl
      obtain ⟨q, hq, hzq⟩ := List.mem_flatMap.1 hz
      exact .inl ((hfin.kid hFf (mem_delK.1 hq).1).of (hk q hq) z hzq)
    refine ⟨fs'.length + 1, ⟨some (pTop fs' _), fs' ++ [⟨xg, f.lv, f.pre, delK f.ks (addrOf p f.lv)⟩], none, _, none, h1, hw2, fun a ha => ?_, .none, by simp⟩, ?_⟩
    · rcases List.mem_append.1 ha with ha | ha
      · exact h3 a ha
      · rw [List.mem_singleton] at ha
        subst ha
        exact hfk
    have := fresh_le (LT := LT) (M := fs'.map (·.g) ++ [xg]) hB'.nodup fun z hz => by
      rcases up_in (x := (xg, xn)) hBx h2 c1 hF0 h3 hin hBt z hz with h | h | h
      · exact .inl h
      · exact .inr (List.mem_append_left _ h)
      · rcases hLx z h with h | rfl
        · exact .inl h
        · exact .inr (by simp)
    simp only [List.length_append, List.length_map, List.length_singleton] at this
    omega
end Go.Proofs.Ytfoapkcgdkfggaa
set_option linter.unusedSimpArgs false
set_option linter.unusedVariables false
namespace Go.Proofs.Ytfoapkcgdkfggaa
open Go.RowKit
theorem es17 {es1 es2 es3 : List Ent} (h1 : ∀ x, x ∈ es1 ↔ x = ([4, 0], 1) ∨ (x ∈ ([] : List Ent) ∧ x.1 ≠ [4, 0])) (h2 : ∀ x, x ∈ es2 ↔ x = ([7, 3], 2) ∨ (x ∈ es1 ∧ x.1 ≠ [7, 3])) (h3 : ∀ x, x ∈ es3 ↔ x = ([7, 3], 3) ∨ (x ∈ es2 ∧ x.1 ≠ [7, 3])) (hs2 : Zsorted es2) (hs3 : Zsorted es3) :
    es2 = [([4, 0], 1), ([7, 3], 2)] ∧ es3 = [([4, 0], 1), ([7, 3], 3)] := by
  have z1 : Zlt [4, 0] [7, 3] := (cmp_lt (k := 2) ⟨rfl, by decide⟩ ⟨rfl, by decide⟩).1 (by decide +kernel)
  have e2 : es2 = [([4, 0], 1), ([7, 3], 2)] := by
    refine sorted_ext hs2 ?_ fun e => ?_
    · unfold Zsorted
      simp only [List.pairwise_cons, List.mem_cons, List.not_mem_nil, or_false, forall_eq_or_imp, forall_eq, List.Pairwise.nil, and_true]
      exact ⟨z1, fun a h => h.elim⟩
    · rw [h2, h1]
      simp only [List.mem_cons, List.not_mem_nil, or_false, false_and]
      constructor
      · rintro (rfl | ⟨rfl, _⟩) <;> simp
      · rintro (rfl | rfl) <;> simp
  refine ⟨e2, sorted_ext hs3 ?_ fun e => ?_⟩
  · unfold Zsorted
    simp only [List.pairwise_cons, List.mem_cons, List.not_mem_nil, or_false, forall_eq_or_imp, forall_eq, List.Pairwise.nil, and_true]
    exact ⟨z1, fun a h => h.elim⟩
  · rw [h3, e2]
    simp only [List.mem_cons, List.not_mem_nil, or_false]
    constructor
    · rintro (rfl | ⟨rfl | rfl, h⟩)
      · simp
      · simp
      · simp at h
    · rintro (rfl | rfl) <;> simp
theorem kids_two {ks : List Kid} (h2 : 2 ≤ ks.length) (hne : ∀ q ∈ ks, q.es ≠ []) {a b : Ent} (h : kidEs ks = [a, b]) : ∃ q r, ks = [q, r] ∧ q.es = [a] ∧ r.es = [b] := by
  have hc := kid_count ks hne
  rw [h] at hc
  obtain ⟨q, r, rfl⟩ : ∃ q r, ks = [q, r] := by
    match ks, h2, hc with
    | [q, r], _, _ => exact ⟨q, r, rfl⟩
  have h1 := hne q (by simp)
  have h3 := hne r (by simp)
  have h4 : q.es ++ r.es = [a, b] := by simpa [kidEs] using h
  rcases hq : q.es with _ | ⟨x, xs⟩
  · exact absurd hq h1
  rcases hr : r.es with _ | ⟨y, ys⟩
  · exact absurd hr h3
  rw [hq, hr] at h4
  have hl := congrArg List.length h4
  simp at hl
  obtain rfl : xs = [] := List.eq_nil_of_length_eq_zero (by omega)
  obtain rfl : ys = [] := List.eq_nil_of_length_eq_zero (by omega)
  simp at h4
  exact ⟨q, r, rfl, by rw [hq, h4.1], by rw [hr, h4.2]⟩
theorem Bel.two {w : World} {k g d : Nat} {L : List Nat} {a b : Ent} (h : Bel w k g L d [a, b]) : ∃ x y, L = [g, x, y] ∧ (∃ lv pre, NodeOf w k x lv pre [a]) ∧ (∃ lv pre, NodeOf w k y lv pre [b]) := by
  obtain ⟨lv, pre, hN⟩ := h.nodeOf
  rcases hN.cases' with ⟨A, c, v, -, he, -⟩ | ⟨m, ks, rfl, he, hF⟩
  · simp at he
  · obtain ⟨F, dd, hL, -, hk⟩ := h.inv hF
    obtain ⟨q, r, rfl, hq, hr⟩ := kids_two hF.two (fun q hq => ((hF.kid q hq).1).info.2.1) he.symm
    have hbq := hk q (by simp)
    have hbr := hk r (by simp)
    have h1 := hbq.size.1
    have h2 := hbr.size.1
    rw [hq] at h1
    rw [hr] at h2
    obtain ⟨M, hM⟩ := hbq.head
    obtain ⟨M', hM'⟩ := hbr.head
    rw [hM] at h1
    rw [hM'] at h2
    simp at h1 h2
    subst h1 h2
    refine ⟨q.blk, r.blk, by rw [hL]; simp [hM, hM'], ⟨_, _, hq ▸ (hF.kid q (by simp)).1⟩, ⟨_, _, hr ▸ (hF.kid r (by simp)).1⟩⟩
/-- Of two trees of two entries that differ in the last one's value: one node is in both, if two at most are fresh. -/
theorem com_two {w : World} {k g g' d d' : Nat} {L L' : List Nat} {a b b' : Ent} (h : Bel w k g L d [a, b]) (h' : Bel w k g' L' d' [a, b']) (hne : b ≠ b') (hab : a ≠ b) (hab' : a ≠ b') (hf : L'.length - comN L L' ≤ 2) : L.length = 3 ∧ L'.length = 3 ∧ comN L L' = 1 := by
  obtain ⟨x, y, hL, ⟨lx, px, hx⟩, ⟨ly, py, hy⟩⟩ := h.two
  obtain ⟨x', y', hL', ⟨lx', px', hx'⟩, ⟨ly', py', hy'⟩⟩ := h'.two
  obtain ⟨lg, pg, hg⟩ := h.nodeOf
  obtain ⟨lg', pg', hg'⟩ := h'.nodeOf
  have hd : ∀ {u v : Nat} {eu ev : List Ent} {l1 l2 : Int} {p1 p2 : List Nat}, NodeOf w k u l1 p1 eu → NodeOf w k v l2 p2 ev → eu ≠ ev → u ≠ v := by
    intro u v eu ev l1 l2 p1 p2 hu hv he huv
    subst huv
    exact he (hu.uniq hv).2.2
  have n1 : g' ∉ L := by
    rw [hL]
    simp only [List.mem_cons, List.not_mem_nil, or_false, not_or]
    exact ⟨hd hg' hg (by simpa using fun h => hne h.symm), hd hg' hx (by simp), hd hg' hy (by simp)⟩
  have n2 : y' ∉ L := by
    rw [hL]
    simp only [List.mem_cons, List.not_mem_nil, or_false, not_or]
    exact ⟨hd hy' hg (by simp), hd hy' hx (by simpa using fun h => hab' h.symm), hd hy' hy (by simpa using fun h => hne h.symm)⟩
  have hc : comN L L' = if x' ∈ L then 1 else 0 := by
    unfold comN
    rw [hL']
    simp only [List.filter_cons, List.filter_nil, decide_eq_true_eq]
    rw [if_neg n1, if_neg n2]
    split <;> rfl
  have h3 : L'.length = 3 := by rw [hL']; rfl
  refine ⟨by rw [hL]; rfl, h3, ?_⟩
  rw [h3, hc] at hf
  rw [hc]
  split
  · rfl
  · rename_i hn
    rw [if_neg hn] at hf
    omega
/-- A path in a tree of two entries has two nodes at most. -/
theorem path_two {w : World} {k t n : Nat} {p : List Nat} {a b : Ent} (hT : TreeOf w k t [a, b]) (h : PathIs w k p t n) : n ≤ 2 := by
  obtain ⟨top, fs, bot, gs, below, h1, h2, h3, h4, rfl⟩ := h
  have hl : fs.length ≤ 1 := by
    match fs, h2, h3 with
    | [], _, _ => simp
    | [f], _, _ => simp
    | f :: f2 :: rest, h2, h3 =>
      exfalso
      have hF := h3 f (by simp)
      have hF2 := h3 f2 (by simp)
      have htop := h2.1
      have hk := h2.2.2.1
      obtain ⟨q, hq, -, he⟩ := kidAt_some hk
      injection he with e1 e2
      have hq2 := (hF.kid q hq).1
      rw [← e1] at hq2
      have hes : q.es = kidEs f2.ks := (hq2.uniq hF2.node).2.2
      have hroot : kidEs f.ks = [a, b] := by
        subst htop
        obtain ⟨-, -, ⟨g1, g2⟩ | ⟨g, lv, pre, g1, g2⟩⟩ := hT
        · cases g2
        · have he := (Blk.eq_ h1 g1).2
          simp at he
          rw [← he] at g2
          exact (hF.node.uniq g2).2.2
      obtain ⟨q1, r1, hks, hq1, hr1⟩ := kids_two hF.two (fun q hq => ((hF.kid q hq).1).info.2.1) hroot
      have hl1 : q.es.length = 1 := by
        rw [hks] at hq
        simp only [List.mem_cons, List.not_mem_nil, or_false] at hq
        rcases hq with rfl | rfl
        · rw [hq1]; rfl
        · rw [hr1]; rfl
      rw [hes] at hl1
      have h2' := hF2.two
      have := kid_count f2.ks (fun q hq => ((hF2.kid q hq).1).info.2.1)
      omega
  cases h4 <;> simp <;> omega
set_option maxHeartbeats 4000000 in
set_option maxRecDepth 100000 in
theorem awake17 (w : World) :
    Calls Try.prog 6 #[] w fun e w' => e = .returned (.bool true) ∧ Below w.heap.size w w' := by
  have HN := hide (tr_new 2 w (by omega) (by omega))
  go_enter Try.func6, Try.ntmps6
  go_wp2_with fail
  refine HN.out.mono ?_
  rintro e w1 ⟨rfl, hT1, hb1⟩
  have hb2 := below_alloc hb1 (Nat.le_refl _) (.cells #[.int .u64 4, .int .u64 0] 36)
  have hq2 := (Below.refl w1.heap.size w1).alloc (Nat.le_refl _) (.cells #[.int .u64 4, .int .u64 0] 36)
  have HP1 := hide (tr_put (v := 1) (c := 2) (TreeOf.stay ⟨by omega, by omega, .inl ⟨hT1, rfl⟩⟩ hq2) (pt_lit2 w1 4 0 (by omega) (by omega)) (by omega))
  have HB2 := hide hb2
  clear hT1 hb1 hb2 hq2 HN
  go_wp2_with fail
  refine HP1.out.mono ?_
  rintro e w3 ⟨t3, es1, rfl, hT3, hm1, -, hb3⟩
  have hc3 := below_then HB2.out hb3
  have hb4 := below_alloc hc3 (Nat.le_refl _) (.cells #[.int .u64 7, .int .u64 3] 36)
  have hq4 := (Below.refl w3.heap.size w3).alloc (Nat.le_refl _) (.cells #[.int .u64 7, .int .u64 3] 36)
  have HP2 := hide (tr_put (v := 2) (c := 2) (hT3.stay hq4) (pt_lit2 w3 7 3 (by omega) (by omega)) (by omega))
  have HB4 := hide hb4
  have HM1 := hide hm1
  clear hT3 hm1 hb3 hc3 hb4 hq4 HP1 HB2
  go_wp2_with fail
  refine HP2.out.mono ?_
  rintro e w5 ⟨t, es2, rfl, hT5, hm2, -, hb5⟩
  have hc5 := below_then HB4.out hb5
  have hb6 := below_alloc hc5 (Nat.le_refl _) (.cells #[.int .u64 7, .int .u64 3] 36)
  have hq6 := (Below.refl w5.heap.size w5).alloc (Nat.le_refl _) (.cells #[.int .u64 7, .int .u64 3] 36)
  have hT6 := hT5.stay hq6
  obtain ⟨top, hTB, hTop, htes, -, -⟩ := hT6.top
  have hpt := pt_lit2 w5 7 3 (by omega) (by omega)
  obtain ⟨fs, bot, gs, below, hW, hF, hfl, hE⟩ := way_any hTop hpt.zp
  have HP3 := hide (tr_put_on (v := 3) (c := 2) hT6 hTB htes hpt (by omega) hW hF hfl hE)
  have HB6 := hide hb6
  have HM2 := hide hm2
  have HWAY := hide (And.intro hW (And.intro hF (And.intro hfl (And.intro hTB (And.intro hT6 hpt.zp)))))
  clear hT5 hm2 hb5 hc5 hb6 hq6 HP2 HB4 hT6 hTB hTop htes hpt hW hF hfl hE
  go_wp2_with fail
  refine HP3.out.mono ?_
  rintro e w7 ⟨u, es3, rfl, hT7, hm3, hsame, hb7, hsh⟩
  have hc7 := below_then HB6.out hb7
  have hFA : ∃ (ra rb : Option Addr) (LA LB : List Nat) (da db : Nat) (ea eb : List Ent), TreeBlk w7 t 2 ra ∧ TreeBlk w7 u 2 rb ∧ TBel w7 2 ra LA da ea ∧ TBel w7 2 rb LB db eb ∧ LA.length = 3 ∧ LB.length = 3 ∧ comN LA LB = 1 := by
    obtain ⟨hW, hF, hfl, hTB, hT6, hzp⟩ := HWAY.out
    have hT6' := hT6.stay hb7
    obtain ⟨e2, e3⟩ := es17 HM1.out HM2.out hm3 hT6.sorted.1 hT7.sorted.1
    subst e2 e3
    obtain ⟨ra, LA, da, hra, hbA, -⟩ := hT6'.bel
    obtain ⟨rb, LB, db, hrb, hbB, -⟩ := hT7.bel
    have hne : u ≠ t := fun h => by
      have := hsame.1 h
      simp at this
    obtain ⟨n, hP, hn, -⟩ := put_fresh hzp hW (fun f hf => (hF f hf).stay hb7) hfl (Blk.below hTB hb7) hra hbA hsh hne hrb hbB
    have hn2 := path_two hT7 hP
    rcases hbA with ⟨-, -, -, h⟩ | ⟨g, hg, hBA⟩
    · cases h
    rcases hbB with ⟨-, -, -, h⟩ | ⟨g', hg', hBB⟩
    · cases h
    obtain ⟨h1, h2, h3⟩ := com_two hBA hBB (by simp) (by simp) (by simp) (by omega)
    exact ⟨ra, rb, LA, LB, da, db, _, _, hra, hrb, .inr ⟨g, hg, hBA⟩, .inr ⟨g', hg', hBB⟩, h1, h2, h3⟩
  obtain ⟨ra, rb, LA, LB, da, db, ea, eb, q1, q2, q3, q4, q5, q6, q7⟩ := hFA
  have hfr := sh_fresh q1 q2 q3 q4 (by omega) (by omega) (by omega) (by omega)
  rw [q6, q7] at hfr
  have HFR := hide hfr
  have HND := hide (fun W (hW : Below w7.heap.size w7 W) => sh_Nodes_of (w := W) (fun X hX => tr_root (q1.below (below_then hW hX))) (q3.stay hW) (by omega) (by omega) q3.nodup)
  rw [q5] at HND
  have HB7 := hide hc7
  clear hT7 hm3 hb7 hc7 hsame hsh q1 q2 q3 q4 q5 q6 q7 hfr HP3 HB6 HM1 HM2 HWAY
  go_wp2_with fail
  refine HFR.out.mono ?_
  rintro e w8 ⟨rfl, hb8⟩
  have HN8 := hide (HND.out w8 hb8)
  have HB8 := hide (below_then HB7.out hb8)
  clear hb8 HFR
  go_wp2_with fail
  refine HN8.out.mono ?_
  rintro e w9 ⟨rfl, hb9⟩
  have HF := hide (below_then HB8.out hb9)
  clear hb9
  go_wp2
  go_ret
  exact ⟨rfl, HF.out⟩
end Go.Proofs.Ytfoapkcgdkfggaa
set_option linter.unusedSimpArgs false
set_option linter.unusedVariables false
namespace Go.Proofs.Ytfoapkcgdkfggaa
open Go.RowKit
theorem Bel.deepLv {w : World} {k g d : Nat} {L : List Nat} {es : List Ent} (h : Bel w k g L d es) : ∀ {lv : Int} {pre : List Nat}, NodeOf w k g lv pre es → (d : Int) ≤ lv + 2 := by
  induction h with
  | leaf hv hc hp hB =>
    intro lv pre hN
    have := (hN.uniq (NodeOf.leaf hv hp hc hB)).1
    omega
  | @fork g m pre ks f d hF hk ih =>
    intro lv pre' hN
    have h1 := (hN.uniq hF.node).1
    have h2 : maxN (ks.map d) ≤ m + 1 := maxN_le fun x hx => by
      obtain ⟨q, hq, rfl⟩ := List.mem_map.1 hx
      obtain ⟨g1, g2, -⟩ := hF.kid q hq
      have := ih q hq g1
      omega
    omega
theorem TBel.deep65 {w : World} {k d : Nat} {root : Option Addr} {L : List Nat} {es : List Ent} (h : TBel w k root L d es) : d ≤ 65 := by
  rcases h with ⟨-, -, rfl, -⟩ | ⟨g, -, h⟩
  · omega
  · obtain ⟨lv, pre, hN⟩ := h.nodeOf
    have h1 := h.deepLv hN
    have h2 := hN.info.2.2.2.1
    omega
theorem PathIs.stay {w w' : World} {k t n : Nat} {p : List Nat} (h : PathIs w k p t n) (hb : Below w.heap.size w w') : PathIs w' k p t n := by
  obtain ⟨top, fs, bot, gs, below, h1, h2, h3, h4, h5⟩ := h
  exact ⟨top, fs, bot, gs, below, Blk.below h1 hb, h2, fun f hf => (h3 f hf).stay hb, h4.stay hb, h5⟩
theorem path_is {w : World} {k t n c : Nat} {A : Option Addr} {p : List Nat} (h : PathIs w k p t n) (hk1 : 1 ≤ k) (hk : k ≤ 16) (hp : Pt w A k p) :
    Calls Try.prog 16 #[.pointer (some ⟨t, 0, none⟩), .slice A k c] w fun e w' => ∃ (B : Option Addr) (d : Nat), e = .returned (.tuple #[.slice B n d, .int .i64 0]) ∧ Below w.heap.size w w' := by
  obtain ⟨top, fs, bot, gs, below, h1, h2, h3, h4, rfl⟩ := h
  have hl := After.len2 (fs := []) (⟨h1, h2, h3, h4⟩ : After w k p [] t top fs bot gs below)
  exact (tr_Path_on h1 hk1 hk hp h2 h3 hl h4).mono fun e w' ⟨B, d, g1, _, g2⟩ => ⟨B, d, g1, g2⟩
theorem tneq_run {w : World} {a b : Nat} {ca cb : Array Value} {ta tb : TypeId} (ha : Blk w a ta ca) (hb : Blk w b tb cb) : (binOp .neq 23 (.pointer (some ⟨a, 0, none⟩)) (.pointer (some ⟨b, 0, none⟩))).run Try.prog w = .ok (.bool (!decide (a = b))) w := by
  have h := tptr_run ha hb
  simp only [binOp, Sem.run_bind] at h ⊢
  rcases hr : (Op.equal 23 (.pointer (some ⟨a, 0, none⟩)) (.pointer (some ⟨b, 0, none⟩))).run Try.prog w with ⟨v, w'⟩ | _ | _
  all_goals rw [hr] at h
  all_goals simp [Result.andThen] at h
  obtain ⟨h1, h2⟩ := h
  rw [h1, h2]
  simp [Result.andThen]
theorem comN_self (L : List Nat) : comN L L = L.length := by
  unfold comN
  rw [List.filter_eq_self.2 (fun x hx => by simpa using hx)]
theorem few17 {w : World} {k v t t' : Nat} {dl : Bool} {p : List Nat} {fs : List PF} {top bot below : Option (Nat × NT)} {gs : List Nat} {es es' : List Ent} (hp : Zp k p) (hT : TreeOf w k t es) (hT' : TreeOf w k t' es') (hW : Way p fs top bot) (hF : ∀ f ∈ fs, Fork w k f.g f.lv f.pre f.ks) (hl : fs.length ≤ 64)
    (hTB : TreeBlk w t k (top.map fun y => ⟨y.1, 0, none⟩)) (hE : PathEnd w k p fs bot gs below) (h : t' = t ∨ ActSh dl k v p fs bot below t t' w) :
    ∃ (ra rb : Option Addr) (LA LB : List Nat) (da db n : Nat), TreeBlk w t k ra ∧ TreeBlk w t' k rb ∧ TBel w k ra LA da es ∧ TBel w k rb LB db es' ∧ LA.length ≤ 2 * es.length ∧ es.length ≤ LA.length ∧ (es ≠ [] → LA.length < 2 * es.length) ∧ LB.length ≤ 2 * es'.length ∧ PathIs w k p t' n ∧
      LB.length - comN LA LB ≤ n ∧ LB.length - comN LA LB ≤ 66 ∧ (t' = t → LB.length - comN LA LB = 0) := by
  obtain ⟨ra, LA, da, hra, hbA, -, s1, s2, s3⟩ := hT.bel
  obtain ⟨rb, LB, db, hrb, hbB, -, s4, -⟩ := hT'.bel
  by_cases ht : t' = t
  · subst ht
    have he := (Blk.eq_ hra hrb).2
    simp at he
    subst he
    obtain rfl : LA = LB := by
      rcases hbA with ⟨h1, h2, -⟩ | ⟨g, h1, h2⟩
      · rcases hbB with ⟨h3, h4, -⟩ | ⟨g', h3, h4⟩
        · rw [h2, h4]
        · rw [h1] at h3; cases h3
      · rcases hbB with ⟨h3, h4, -⟩ | ⟨g', h3, h4⟩
        · rw [h1] at h3; cases h3
        · rw [h1] at h3
          injection h3 with h3
          injection h3 with h3
          subst h3
          exact (h2.uniq h4).1
    have h0 : LA.length - comN LA LA = 0 := by rw [comN_self]; omega
    exact ⟨ra, ra, LA, LA, da, db, gs.length, hra, hrb, hbA, hbB, s1, s2, s3, s4, ⟨top, fs, bot, gs, below, hTB, hW, hF, hE, rfl⟩, by omega, by omega, fun _ => h0⟩
  · have h := h.resolve_left ht
    unfold ActSh at h
    cases dl with
    | true =>
      obtain ⟨n, h1, h2, h3⟩ := del_fresh hp hW hF hl hTB hra hbA (by simpa using h) hrb hbB
      exact ⟨ra, rb, LA, LB, da, db, n, hra, hrb, hbA, hbB, s1, s2, s3, s4, h1, h2, h3, fun h => absurd h ht⟩
    | false =>
      obtain ⟨n, h1, h2, h3⟩ := put_fresh hp hW hF hl hTB hra hbA (by simpa using h) ht hrb hbB
      exact ⟨ra, rb, LA, LB, da, db, n, hra, hrb, hbA, hbB, s1, s2, s3, s4, h1, h2, h3, fun h => absurd h ht⟩
set_option maxHeartbeats 8000000 in
set_option maxRecDepth 100000 in
theorem share_few (w : World) (k0 : Int) (_ : (Lit.int .i64 k0).wf = true) (AL : Option Addr) (nl cl : Nat) (al : List TA) (hl : ActsAt w AL nl al ∧ nl ≤ cl ∧ cl ≤ maxLen) (r : TA) (hr : r.ok w) :
    Calls Try.prog 4 #[.int .i64 k0, .slice AL nl cl, .agg #[.bool r.d, .slice r.A r.n r.c, .int .u64 (r.v : Int)]] w fun e w' => e = .returned (.bool true) ∧ Below w.heap.size w w' := by
  have b1 := (Below.refl w.heap.size w).alloc (Nat.le_refl _) (.cells #[.bool r.d, .slice r.A r.n r.c, .int .u64 (r.v : Int)] 38)
  have hA := Blk.new w 38 #[.bool r.d, .slice r.A r.n r.c, .int .u64 (r.v : Int)]
  have HEL := hide hl.1
  have HR := hide hr
  have HB1 := hide b1
  clear hl hr b1
  go_enter Try.func4, Try.ntmps4
  go_upto_region 1 with fail
  generalize w.alloc (.cells #[.bool r.d, .slice r.A r.n r.c, .int .u64 (r.v : Int)] 38) = w1 at *
  have HA := hide hA
  have hq5 := hA.lt
  clear hA
  go_wp2_with fail
  refine (awake17 w1).mono ?_
  rintro e w2 ⟨rfl, hb2⟩
  have hc2 := below_then HB1.out hb2
  have HH := hide (heavy7 AL nl cl 40 al w2 (HEL.out.below hc2) (by omega))
  simp only [Int.cast_ofNat_Int] at HH
  have HB2 := hide hc2
  have HA2 := hide (HA.out.below hb2)
  clear hb2 hc2
  go_wp2_with fail
  refine HH.out.mono ?_
  rintro e w3 ⟨rfl | ⟨rfl, hnl⟩, hb3⟩
  · have HB3 := hide (below_then HB2.out hb3)
    clear hb3 HH
    go_wp2
    go_ret
    exact ⟨rfl, HB3.out⟩
  have hc3 := below_then HB2.out hb3
  have HB3 := hide hc3
  have hA3 := HA2.out.below hb3
  have y1 := hA3.cell 1
  simp at y1
  have HA3 := hide hA3
  clear hb3 HH hA3
  by_cases h1 : k0 < 1
  · have e1 : decide (k0 < 1) = true := by simp; omega
    clear h1 hc3
    go_wp2
    go_ret
    exact ⟨rfl, HB3.out⟩
  have e1 : decide (k0 < 1) = false := by simp; omega
  by_cases h2 : 16 < k0
  · have e2 : decide ((16 : Int) < k0) = true := by simp; omega
    clear h1 h2 hc3
    go_wp2
    go_ret
    exact ⟨rfl, HB3.out⟩
  have e2 : decide ((16 : Int) < k0) = false := by simp; omega
  obtain ⟨k, rfl⟩ : ∃ k : Nat, k0 = (k : Int) := ⟨k0.toNat, by omega⟩
  have hk1 : 1 ≤ k := by omega
  have hk16 : k ≤ 16 := by omega
  by_cases hrk : r.n = k
  case neg =>
    have e3 : ((r.n : Int) != (k : Int)) = true := by simp; omega
    clear h1 h2 hc3 hrk
    go_wp2
    go_ret
    exact ⟨rfl, HB3.out⟩
  have e3 : ((r.n : Int) != (k : Int)) = false := by simp; omega
  have HG := hide (grown7 (c := cl) hk1 hk16 (HEL.out.below hc3) (by omega))
  have HRK := hide hrk
  clear h1 h2 hc3 hrk
  go_wp2_with fail
  refine HG.out.mono ?_
  rintro e w4 ⟨t, A4, n4, c4, rfl, ⟨rows, es, hT4, hE4, hnc4, hS4, hkk4, hes4⟩, hn4, hb4⟩
  have hc4 := below_then HB3.out hb4
  obtain ⟨top, hTB, hTop, hTes, -, -⟩ := hT4.top
  have hr4 := HR.out.below hc4
  have hp4 := hr4.1
  rw [HRK.out] at hp4
  obtain ⟨fs, bot, gs, below, hW, hF, hfl, hEnd⟩ := way_any hTop hp4.zp
  have HDN := hide (done_sh hT4 hTB hTes hE4 hnc4 hS4 hkk4 hes4 (by omega) hr4 HRK.out hW hF hfl hEnd)
  have hlen4 : es.length = n4 := by rw [← hes4]; unfold ents; rw [List.length_map]; exact hE4.len
  have hA4 := HA3.out.below hb4
  have y0 := hA4.cell 0
  have y1 := hA4.cell 1
  have y2 := hA4.cell 2
  simp at y0 y1 y2
  have HA4 := hide hA4
  have HB4 := hide hc4
  have HP4 := hide hp4
  have HZ := hide hp4.zp
  have HTB := hide hTB
  have HW := hide hW
  have HF := hide hF
  have HEND := hide hEnd
  have HT4 := hide (And.intro hT4 hlen4)
  clear hT4 hE4 hnc4 hS4 hkk4 hes4 hb4 hc4 hTB hTop hTes hr4 hp4 hW hF hEnd hA4 HG hlen4
  go_wp2_with fail
  refine HDN.out.mono ?_
  rintro e w5 ⟨t', A5, n5, c5, rfl, ⟨rows5, es5, hT5, hE5, -, -, -, hes5⟩, hn5, hb5, hsh⟩
  have hlen5 : es5.length = n5 := by rw [← hes5]; unfold ents; rw [List.length_map]; exact hE5.len
  obtain ⟨ra, rb, LA, LB, da, db, nq, q1, q2, q3, q4, s1, s2, s3, s4, hP, f1, f2, f3⟩ := few17 HZ.out (HT4.out.1.stay hb5) hT5 HW.out (fun f hf => (HF.out f hf).stay hb5) hfl (Blk.below HTB.out hb5) (HEND.out.stay hb5) hsh
  have hlen4 := HT4.out.2
  have HPP := hide hP
  have HSZ := hide (And.intro s1 (And.intro s2 s3))
  have HFR := hide (sh_fresh q1 q2 q3 q4 hk16 hk16 (by omega) (by omega))
  have HND := hide (fun W (hW : Below w5.heap.size w5 W) => sh_Nodes_of (w := W) (fun X hX => tr_root (q1.below (below_then hW hX))) (q3.stay hW) hk16 (by omega) q3.nodup)
  have HDP := hide (fun W (hW : Below w5.heap.size w5 W) => sh_depth_of (w := W) (fun X hX => tr_root (q1.below (below_then hW hX))) (q3.stay hW) hk16 (by omega))
  have hd65 := q3.deep65
  obtain ⟨fr, hfr⟩ : ∃ fr, fr = LB.length - comN LA LB := ⟨_, rfl⟩
  rw [← hfr] at f1 f2 f3 HFR
  obtain ⟨la, hla⟩ : ∃ la, la = LA.length := ⟨_, rfl⟩
  rw [← hla] at HND HSZ
  have HSZ2 := hide (And.intro hlen4 (And.intro f1 (And.intro f3 (show la ≤ 200000 by omega))))
  have hA5 := HA4.out.below hb5
  have y0 := hA5.cell 0
  have y1 := hA5.cell 1
  have y2 := hA5.cell 2
  simp at y0 y1 y2
  have HA5 := hide hA5
  have HB45 := hide hb5
  have HQ := hide (And.intro q1 q2)
  have hrkk := HRK.out
  rw [hrkk] at y1
  clear hT5 hE5 hes5 hlen5 hsh q1 q2 q3 q4 s1 s2 s3 s4 hP f1 f3 hlen4 hfr hla hA5 hb5 HDN hrkk
  go_wp2_with fail
  refine HFR.out.mono ?_
  rintro e w6 ⟨rfl, hb6⟩
  have hA6 := HA5.out.below hb6
  have y0 := hA6.cell 0
  have y1 := hA6.cell 1
  have y2 := hA6.cell 2
  simp at y0 y1 y2
  have hrkk := HRK.out
  rw [hrkk] at y1
  have HA6 := hide hA6
  have hB46 := below_then HB45.out hb6
  have HB56 := hide hb6
  have HB46 := hide hB46
  have HPA := hide (tr_Path_on (c := r.c) (Blk.below HTB.out hB46) hk1 hk16 (HP4.out.below hB46) HW.out (fun f hf => (HF.out f hf).stay hB46) hfl (HEND.out.stay hB46))
  obtain ⟨gl, hgl⟩ : ∃ gl, gl = gs.length := ⟨_, rfl⟩
  rw [← hgl] at HPA
  clear hb6 hA6 hB46 hgl hrkk HFR
  go_wp2_with fail
  refine HPA.out.mono ?_
  rintro e w7 ⟨B7, d7, rfl, -, hb7⟩
  have hA7 := HA6.out.below hb7
  have y0 := hA7.cell 0
  have y1 := hA7.cell 1
  have y2 := hA7.cell 2
  simp at y0 y1 y2
  have hrkk := HRK.out
  rw [hrkk] at y1
  have hB47 := below_then HB46.out hb7
  have HB57 := hide (below_then HB56.out hb7)
  have HB47 := hide hB47
  have HPB := hide (path_is (c := r.c) (HPP.out.stay HB57.out) hk1 hk16 (HP4.out.below hB47))
  clear hb7 hA7 hB47 hrkk HPA
  go_wp2_with fail
  refine HPB.out.mono ?_
  rintro e w8 ⟨B8, d8, rfl, hb8⟩
  have HB58 := hide (below_then HB57.out hb8)
  have HB48 := hide (below_then HB47.out hb8)
  have hA8 := (HA5.out.below HB58.out)
  have y0 := hA8.cell 0
  simp at y0
  obtain ⟨mx, hmx⟩ : ∃ mx, mx = Nat.max gl nq := ⟨_, rfl⟩
  have i2 : max (gl : Int) (nq : Int) = (mx : Int) := by
    rw [hmx]
    simp only [Nat.max_def]
    split <;> omega
  have hmxle : fr ≤ mx ∧ fr ≤ nq := by
    have := HSZ2.out.2.1
    rw [hmx]
    simp only [Nat.max_def]
    split <;> omega
  clear hmx
  have e5 : decide ((66 : Int) < (fr : Int)) = false := by simp; omega
  have e5b : decide (66 < fr) = false := by simp; omega
  have e6 : decide ((mx : Int) < (fr : Int)) = false := by simp; omega
  have e6b : decide (mx < fr) = false := by simp; omega
  have e7 : decide ((nq : Int) < (fr : Int)) = false := by simp; omega
  have e7b : decide (nq < fr) = false := by simp; omega
  clear hmxle
  have HN9 := hide (HND.out w8 HB58.out)
  have e8 : decide ((n4 : Int) ≤ (la : Int)) = true := by
    have h1 := HSZ.out.2.1
    have h2 := HSZ2.out.1
    simp
    omega
  have e10 : decide ((da : Int) ≤ 65) = true := by simp; omega
  have e10b : decide (da ≤ 65) = true := by simp; omega
  have e8b : decide (n4 ≤ la) = true := by
    have h1 := HSZ.out.2.1
    have h2 := HSZ2.out.1
    simp
    omega
  have i1 : IntKind.i64.wrap (2 * (n4 : Int)) = 2 * (n4 : Int) := by
    rw [IntKind.wrap_i64]
    omega
  have ENE := hide (fun W (hW : Below w5.heap.size w5 W) => tneq_run (w := W) (Blk.below HQ.out.2 hW) (Blk.below HQ.out.1 hW))
  obtain ⟨dv, hdv⟩ : ∃ dv, r.d = dv := ⟨_, rfl⟩
  rw [hdv] at y0
  clear hb8 hA8 HPB f2 hd65 hdv
  cases dv
  all_goals
    go_wp2_with fail
    refine HN9.out.mono ?_
    rintro e w9 ⟨rfl, hb9⟩
    have HB59 := hide (below_then HB58.out hb9)
    have HB49 := hide (below_then HB48.out hb9)
    clear hb9 HN9
    by_cases h0 : n4 = 0
    · have e9 : ((n4 : Int) == 0) = true := by simp [h0]
      have HD10 := hide (HDP.out w9 HB59.out)
      clear h0
      go_wp2_with fail
      refine HD10.out.mono ?_
      rintro e w10 ⟨rfl, hb10⟩
      have enq := ENE.out _ (below_then HB59.out hb10)
      have HF := hide (below_then HB4.out (below_then HB49.out hb10))
      clear hb10
      by_cases htt : t' = t
      · rw [decide_eq_true htt] at enq
        have h0 := HSZ2.out.2.2.1 htt
        subst h0
        subst htt
        go_wp2
        go_ret
        exact ⟨rfl, HF.out⟩
      · rw [decide_eq_false htt] at enq
        go_wp2
        go_ret
        exact ⟨rfl, HF.out⟩
    · have e9 : ((n4 : Int) == 0) = false := by simp [h0]
      have e11 : decide ((la : Int) < 2 * (n4 : Int)) = true := by
        have h1 := HSZ2.out.1
        have h2 := HSZ.out.2.2 (by rintro rfl; simp at h1; omega)
        simp
        omega
      have HN10 := hide (HND.out w9 HB59.out)
      clear h0
      go_wp2_with fail
      refine HN10.out.mono ?_
      rintro e w10 ⟨rfl, hb10⟩
      have HB510 := hide (below_then HB59.out hb10)
      have HB410 := hide (below_then HB49.out hb10)
      have HD11 := hide (HDP.out w10 HB510.out)
      clear hb10 HN10
      go_wp2_with fail
      refine HD11.out.mono ?_
      rintro e w11 ⟨rfl, hb11⟩
      have enq := ENE.out _ (below_then HB510.out hb11)
      have HF := hide (below_then HB4.out (below_then HB410.out hb11))
      clear hb11
      by_cases htt : t' = t
      · rw [decide_eq_true htt] at enq
        have h0 := HSZ2.out.2.2.1 htt
        subst h0
        subst htt
        go_wp2
        go_ret
        exact ⟨rfl, HF.out⟩
      · rw [decide_eq_false htt] at enq
        go_wp2
        go_ret
        exact ⟨rfl, HF.out⟩
end Go.Proofs.Ytfoapkcgdkfggaa
