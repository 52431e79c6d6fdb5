/- pantilelaw07: what an act leaves the very same. -/
import Derived.Test.YtkknfnjojamgjaaPaA
set_option linter.unusedSimpArgs false
set_option linter.unusedVariables false
namespace Go.Proofs.Ytkknfnjojamgjaa
section
open Go.RowKit
theorem PathEnd.cons {w : World} {k : Nat} {p : List Nat} {fs : List PF} {bot below : Option (Nat × NT)} {gs : List Nat} (h : PathEnd w k p fs bot gs below) (f : PF) : PathEnd w k p (f :: fs) bot (f.g :: gs) below := by
  cases h with
  | none => exact .none
  | leaf g v hn => exact .leaf g v hn
  | miss x hn hm => exact .miss x hn hm
/-- Each tree has a point's path. -/
theorem way_node {w : World} {k g : Nat} {lv : Int} {pre : List Nat} {es : List Ent} {p : List Nat} (h : NodeOf w k g lv pre es) (hp : Zp k p) :
    ∃ (fs : List PF) (bot : Option (Nat × NT)) (gs : List Nat) (below : Option (Nat × NT)), Way p fs (some (g, ⟨lv, pre, es⟩)) bot ∧ (∀ f ∈ fs, Fork w k f.g f.lv f.pre f.ks) ∧ PathEnd w k p fs bot gs below := by
  induction h with
  | @leaf g A c q v hv hq hc hB =>
    have hN : NodeOf w k g (-1) q [(q, v)] := .leaf hv hq hc hB
    by_cases hpq : part q p ≤ (-1 : Int)
    · obtain rfl : q = p := part_neg hq.zp hp (by omega)
      exact ⟨[], _, _, _, rfl, fun f hf => (by cases hf), .leaf g v hN⟩
    · exact ⟨[], _, _, _, rfl, fun f hf => (by cases hf), .miss (g, ⟨-1, q, [(q, v)]⟩) hN (by show (-1 : Int) < part q p; omega)⟩
  | @fork g A c lv pre gs ks hlv hq hc hz hkid hl ha hs h2 hS hB ih =>
    have hF : Fork w k g lv pre ks := ⟨A, c, gs, hlv, hq, hc, hz, hkid, hl, ha, hs, h2, hS, hB⟩
    by_cases hpq : part pre p ≤ (lv : Int)
    · cases hk : kidAt ks (addrOf p lv) with
      | none =>
        refine ⟨[⟨g, lv, pre, ks⟩], none, _, _, ⟨rfl, hpq, hk⟩, fun f hf => ?_, .none⟩
        rw [List.mem_singleton] at hf
        subst hf
        exact hF
      | some x =>
        obtain ⟨q, hq', hqa, rfl⟩ := kidAt_some hk
        obtain ⟨fs, bot, gs', below, h3, h4, h5⟩ := ih q hq'
        refine ⟨⟨g, lv, pre, ks⟩ :: fs, bot, _, below, ⟨rfl, hpq, by rw [hk]; exact h3⟩, fun f hf => ?_, h5.cons ⟨g, lv, pre, ks⟩⟩
        rcases List.mem_cons.1 hf with rfl | hf
        · exact hF
        · exact h4 f hf
    · exact ⟨[], _, _, _, rfl, fun f hf => (by cases hf), .miss (g, ⟨(lv : Int), pre, kidEs ks⟩) hF.node (by show (lv : Int) < part pre p; omega)⟩
theorem way_any {w : World} {k : Nat} {top : Option (Nat × NT)} {p : List Nat} (h : TopOk w k top) (hp : Zp k p) :
    ∃ (fs : List PF) (bot : Option (Nat × NT)) (gs : List Nat) (below : Option (Nat × NT)), Way p fs top bot ∧ (∀ f ∈ fs, Fork w k f.g f.lv f.pre f.ks) ∧ fs.length ≤ 64 ∧ PathEnd w k p fs bot gs below := by
  cases top with
  | none => exact ⟨[], none, _, _, rfl, fun f hf => (by cases hf), by simp, .none⟩
  | some x =>
    obtain ⟨fs, bot, gs, below, h1, h2, h3⟩ := way_node (h x rfl) hp
    have h1' : Way p fs (some x) bot := h1
    refine ⟨fs, bot, gs, below, h1', h2, ?_, h3⟩
    have hi := (h x rfl).info
    have := Way.len (fun f hf => (h2 f hf).fk) hi.2.2.1 h1'
    have := hi.2.2.2.1
    omega
theorem take_ptrs {fs : List PF} {i : Nat} {f : PF} (hf : fs[i]? = some f) : ptrs ((fs.take (i + 1)).map (·.g)) = ptrs ((fs.take i).map (·.g)) ++ [.pointer (some ⟨f.g, 0, none⟩)] := by
  rw [List.take_add_one, hf]
  simp [ptrs]
set_option maxHeartbeats 4000000 in
set_option maxRecDepth 100000 in
/-- path goes the given way. -/
theorem tr_path_on {w : World} {t k : Nat} {fs : List PF} {top bot below : Option (Nat × NT)} {gs : List Nat} (hT : TreeBlk w t k (top.map fun y => ⟨y.1, 0, none⟩)) (hk1 : 1 ≤ k) (hk : k ≤ 16) {A : Option Addr} {c : Nat} {p : List Nat} (hp : Pt w A k p) (hW : Way p fs top bot) (hF : ∀ f ∈ fs, Fork w k f.g f.lv f.pre f.ks) (hl : fs.length ≤ 64) (hend : PathEnd w k p fs bot gs below) :
    Calls Try.prog 119 #[.pointer (some ⟨t, 0, none⟩), .slice A k c] w fun e w' => ∃ (B : Option Addr) (d : Nat), e = .returned (.tuple #[.slice B gs.length d, ptrOf below]) ∧ w'.ownsRow w.heap.size 54 1 (.slice B gs.length d) gs.length (ptrs gs) ∧ Below w.heap.size w w' := by
  have c1 := Blk.cell hT 1
  simp at c1
  have HP := hide hp
  have HW := hide hW
  have HF := hide hF
  have HEND := hide hend
  clear hT hp hW hF hend
  go_enter Try.func119, Try.ntmps119
  go_wp2
  refine wp_scope_goto2 0 (fun a' wr => ∃ (i : Nat) (cur : Option (Nat × NT)) (B : Option Addr) (d : Nat) (u2 u3 u8 u9 u10 u11 u12 u13 u14 u15 u16 u17 u18 u19 u20 u21 u22 u23 u24 u25 u26 u27 u28 : Value), a' = { tmps := #[.pointer (some ⟨t, 0, none⟩), .slice A k c, u2, u3, .slice none 0 0, .pointer none, .slice B i d, ptrOf cur, u8, u9, u10, u11, u12, u13, u14, u15, u16, u17, u18, u19, u20, u21, u22, u23, u24, u25, u26, u27, u28], defers := [] } ∧ i ≤ fs.length ∧ Way p (fs.drop i) cur bot ∧ wr.ownsRow w.heap.size 54 1 (.slice B i d) i (ptrs ((fs.take i).map (·.g))) ∧ Below w.heap.size w wr) (fun a' _ => 65 - sliceLen (a'.tmps.getD 6 undef)) (by rfl) (by rfl) (by rfl) ?_ ?_
  · go_wp2
    exact ⟨0, top, none, 0, _, _, _, _, _, _, _, _, _, _, _, _, _, _, _, _, _, _, _, _, _, _, _, rfl, Nat.zero_le _, HW.out, World.ownsRow_nil _ _ _ _, Below.refl _ _⟩
  · rintro a' wr ⟨i, cur, B, d, u2, u3, u8, u9, u10, u11, u12, u13, u14, u15, u16, u17, u18, u19, u20, u21, u22, u23, u24, u25, u26, u27, u28, rfl, hi, hWy, hO, hb⟩
    have HO := hide hO
    have HB := hide hb
    have hi64 : i ≤ 64 := by omega
    rcases Nat.lt_or_ge i fs.length with hif | hif
    · obtain ⟨f, hf⟩ : ∃ f, fs[i]? = some f := ⟨fs[i], List.getElem?_eq_getElem hif⟩
      obtain ⟨rfl, hcv, hWn⟩ := hWy.drop_ hf
      have hFk := HF.out f (List.mem_of_getElem? hf)
      have HC := hide (nd_covers (d := c) (hFk.node.stay hb) hk1 hk (HP.out.below hb))
      rw [show decide (part f.pre p ≤ (f.lv : Int)) = true by simpa using hcv] at HC
      have HFK := hide hFk
      have HWN := hide hWn
      have HFI := hide hf
      unfold ptrOf
      simp only [Option.map_some]
      clear hWy hO hb hcv hWn hFk hf
      go_wp2_with fail
      refine HC.out.mono ?_
      rintro e w1 ⟨rfl, rfl⟩
      have hb4 := below_alloc HB.out (Nat.le_refl _) (.cells #[.pointer (some ⟨f.g, 0, none⟩)] 54)
      go_wp2_with (first
        | (at_builtin
           refine app_b _ rfl (.tmp 18) (.tmp 20) _ rfl w.heap.size 54 _ 1 8 Try.underlying51 info_n rfl (by omega) _ i _ rfl (HO.out.alloc _) (some ⟨wr.heap.size, 0, none⟩) 1 1 [.pointer (some ⟨f.g, 0, none⟩)] rfl w hb4 (Nat.le_refl _) (Rw.new1 wr 54 #[.pointer (some ⟨f.g, 0, none⟩)] rfl) ?h2 (by unfold maxLen; omega) (by omega) ?_
           case h2 =>
             intro u hu
             rw [List.mem_singleton] at hu
             rw [hu]
             rfl
           intro v5 w5 ho5 hb5 _
           have HO5 := hide ho5
           have HB5 := hide hb5
           obtain ⟨B5, d5, rfl, -, hR5⟩ := Rw.of_own ho5
           have HL5 := hide (nd_level ((HFK.out.stay hb5).node))
           have HD5 := hide (tr_down (c := c) (HFK.out.stay hb5) hk1 hk (HP.out.below hb5))
           rw [kid_ptr HFK.out] at HD5
           unfold ptrOf at HD5
           clear ho5 hb5 hR5)
        | fail)
      go_wp2_with fail
      refine HL5.out.mono ?_
      rintro e w6 ⟨rfl, rfl⟩
      have em : decide ((f.lv : Int) < 0) = false := by simp
      go_wp2_with fail
      refine HD5.out.mono ?_
      rintro e w7 ⟨rfl, hb7⟩
      go_wp2
      go_step3
      refine ⟨rfl, ⟨i + 1, kidAt f.ks (addrOf p f.lv), B5, d5, _, _, _, _, _, _, _, _, _, _, _, _, _, _, _, _, _, _, _, _, _, _, _, rfl, by omega, HWN.out, ?_, below_then HB5.out hb7⟩, ?_⟩
      · rw [take_ptrs HFI.out]
        exact own_below HO5.out hb7
      · simp [sliceLen]
        omega
    · have hcb : cur = bot := by rw [List.drop_of_length_le hif] at hWy; exact hWy
      subst hcb
      have hie : i = fs.length := by omega
      have htk : fs.take i = fs := List.take_of_length_le hif
      rw [htk] at HO
      have HIE := hide hie
      have hend := HEND.out
      clear hWy hO hb hie htk HEND HW
      cases hend with
      | none =>
        unfold ptrOf
        simp only [Option.map_none]
        go_wp2_with fail
        refine (nd_covers_nil _ _ _ _).mono ?_
        rintro e w1 ⟨rfl, rfl⟩
        go_wp2
        simp only [Exit.jump]
        go_ret2
        refine ⟨B, d, by rw [List.length_map, ← HIE.out]; rfl, by rw [List.length_map, ← HIE.out]; exact HO.out, HB.out⟩
      | leaf g v hn =>
        have HC := hide (nd_covers (d := c) (hn.stay HB.out) hk1 hk (HP.out.below HB.out))
        rw [show decide (part p p ≤ (-1 : Int)) = true by rw [part_self HP.out.zp]; rfl] at HC
        have HX := hide hn
        unfold ptrOf
        simp only [Option.map_some]
        clear hn
        go_wp2_with fail
        refine HC.out.mono ?_
        rintro e w1 ⟨rfl, rfl⟩
        have hb4 := below_alloc HB.out (Nat.le_refl _) (.cells #[.pointer (some ⟨g, 0, none⟩)] 54)
        go_wp2_with (first
          | (at_builtin
             refine app_b _ rfl (.tmp 18) (.tmp 20) _ rfl w.heap.size 54 _ 1 8 Try.underlying51 info_n rfl (by omega) _ i _ rfl (HO.out.alloc _) (some ⟨wr.heap.size, 0, none⟩) 1 1 [.pointer (some ⟨g, 0, none⟩)] rfl w hb4 (Nat.le_refl _) (Rw.new1 wr 54 #[.pointer (some ⟨g, 0, none⟩)] rfl) ?h2 (by unfold maxLen; omega) (by omega) ?_
             case h2 =>
               intro u hu
               rw [List.mem_singleton] at hu
               rw [hu]
               rfl
             intro v5 w5 ho5 hb5 _
             have HO5 := hide ho5
             have HB5 := hide hb5
             obtain ⟨B5, d5, rfl, -, hR5⟩ := Rw.of_own ho5
             have HL5 := hide (nd_level (HX.out.stay hb5))
             clear ho5 hb5 hR5)
          | fail)
        go_wp2_with fail
        refine HL5.out.mono ?_
        rintro e w6 ⟨rfl, rfl⟩
        go_wp2
        simp only [Exit.jump]
        go_ret2
        refine ⟨B5, d5, by rw [List.length_append, List.length_map, ← HIE.out]; rfl, ?_, HB5.out⟩
        rw [List.length_append, List.length_map, ← HIE.out, ptrs_snoc]
        exact HO5.out
      | miss x hn hm =>
        have HC := hide (nd_covers (d := c) (hn.stay HB.out) hk1 hk (HP.out.below HB.out))
        rw [show decide (part x.2.pre p ≤ x.2.lv) = false by simpa using hm] at HC
        unfold ptrOf
        simp only [Option.map_some]
        clear hn hm
        go_wp2_with fail
        refine HC.out.mono ?_
        rintro e w1 ⟨rfl, rfl⟩
        go_wp2
        simp only [Exit.jump]
        go_ret2
        refine ⟨B, d, by rw [List.length_map, ← HIE.out]; rfl, by rw [List.length_map, ← HIE.out]; exact HO.out, HB.out⟩
end
section
open Go.RowKit
/-- What hangs at the head of a path. -/
def pTop : List PF → Nat × NT → Nat × NT
  | [], x => x
  | f :: _, _ => (f.g, f.nt)
/-- The new forks along a path: each is the old one with the new one below it. -/
def UpRel (p : List Nat) : List PF → List PF → Nat × NT → Prop
  | [], [], _ => True
  | f :: fs, f' :: fs', x => f'.lv = f.lv ∧ f'.pre = f.pre ∧ f'.ks = insK f.ks ⟨addrOf p f.lv, (pTop fs' x).1, (pTop fs' x).2.lv, (pTop fs' x).2.pre, (pTop fs' x).2.es⟩ ∧ UpRel p fs fs' x
  | _, _, _ => False
theorem UpRel.len {p : List Nat} : ∀ {fs fs' : List PF} {x : Nat × NT}, UpRel p fs fs' x → fs'.length = fs.length
  | [], [], _, _ => rfl
  | f :: fs, f' :: fs', x, h => by simp [UpRel.len h.2.2.2]
  | [], _ :: _, _, h => h.elim
  | _ :: _, [], _, h => h.elim
theorem UpRel.at_ {p : List Nat} : ∀ {fs fs' : List PF} {x : Nat × NT} {i : Nat} {f f' : PF}, UpRel p fs fs' x → fs[i]? = some f → fs'[i]? = some f' → f'.lv = f.lv ∧ f'.pre = f.pre ∧ ∃ q : Kid, q.at_ = addrOf p f.lv ∧ f'.ks = insK f.ks q
  | [], [], _, i, f, f', _, h1, _ => by simp at h1
  | g :: fs, g' :: fs', x, 0, f, f', h, h1, h2 => by
    simp at h1 h2
    subst h1 h2
    exact ⟨h.1, h.2.1, _, rfl, h.2.2.1⟩
  | g :: fs, g' :: fs', x, i + 1, f, f', h, h1, h2 => UpRel.at_ h.2.2.2 (by simpa using h1) (by simpa using h2)
  | [], _ :: _, _, _, _, _, h, _, _ => h.elim
  | _ :: _, [], _, _, _, _, h, _, _ => h.elim
theorem kidAt_insK {ks : List Kid} {q : Kid} : kidAt (insK ks q) q.at_ = some (q.blk, ⟨q.lv, q.pre, q.es⟩) := by
  unfold kidAt insK
  rw [List.append_assoc, List.find?_append]
  have h1 : (ks.filter fun r => decide (r.at_ < q.at_)).find? (fun r => decide (r.at_ = q.at_)) = none := by
    rw [List.find?_eq_none]
    intro r hr
    have := (List.mem_filter.1 hr).2
    simp at this ⊢
    omega
  rw [h1]
  simp
theorem kidAt_insK_ne {ks : List Kid} {q : Kid} {a : Nat} (ha : a ≠ q.at_) : kidAt (insK ks q) a = kidAt ks a := by
  have key : ∀ (l : List Kid), ((l.filter fun r => decide (r.at_ < q.at_)) ++ [q] ++ (l.filter fun r => decide (q.at_ < r.at_))).find? (fun r => decide (r.at_ = a)) = if a < q.at_ then (l.filter fun r => decide (r.at_ < q.at_)).find? (fun r => decide (r.at_ = a)) else (l.filter fun r => decide (q.at_ < r.at_)).find? (fun r => decide (r.at_ = a)) := by
    intro l
    rw [List.append_assoc, List.find?_append]
    split
    · rename_i h
      cases hf : (l.filter fun r => decide (r.at_ < q.at_)).find? (fun r => decide (r.at_ = a)) with
      | some r => rfl
      | none =>
        simp only [Option.none_or]
        rw [List.find?_eq_none]
        intro r hr
        rcases List.mem_append.1 hr with hr | hr
        · rw [List.mem_singleton.1 hr]; simp; omega
        · have := (List.mem_filter.1 hr).2
          simp at this ⊢
          omega
    · rename_i h
      have h1 : (l.filter fun r => decide (r.at_ < q.at_)).find? (fun r => decide (r.at_ = a)) = none := by
        rw [List.find?_eq_none]
        intro r hr
        have := (List.mem_filter.1 hr).2
        simp at this ⊢
        omega
      rw [h1]
      simp only [Option.none_or, List.singleton_append, List.find?_cons]
      rw [show decide (q.at_ = a) = false by simp; omega]
  have key2 : ∀ (l : List Kid) (P : Kid → Bool), (∀ r, r.at_ = a → P r = true) → (l.filter P).find? (fun r => decide (r.at_ = a)) = l.find? (fun r => decide (r.at_ = a)) := by
    intro l P hP
    induction l with
    | nil => rfl
    | cons r l ih =>
      by_cases hr : r.at_ = a
      · rw [List.filter_cons_of_pos (hP r hr)]
        simp [hr]
      · by_cases hp : P r = true
        · rw [List.filter_cons_of_pos hp]
          simp only [List.find?_cons, hr, decide_false]
          exact ih
        · rw [List.filter_cons_of_neg hp]
          simp only [List.find?_cons, hr, decide_false]
          exact ih
  unfold kidAt insK
  rw [key]
  split
  · rename_i h
    rw [key2 _ _ fun r hr => by simp; omega]
  · rename_i h
    rw [key2 _ _ fun r hr => by simp; omega]
theorem kidAt_delK_ne {ks : List Kid} {a b : Nat} (h : a ≠ b) : kidAt (delK ks b) a = kidAt ks a := by
  unfold kidAt delK
  congr 1
  induction ks with
  | nil => rfl
  | cons r l ih =>
    by_cases hr : r.at_ = b
    · rw [List.filter_cons_of_neg (by simp [hr])]
      simp only [List.find?_cons]
      rw [show decide (r.at_ = a) = false by simp; omega]
      exact ih
    · rw [List.filter_cons_of_pos (by simp [hr])]
      simp only [List.find?_cons]
      split
      · rfl
      · exact ih
theorem kidAt_delK {ks : List Kid} {a : Nat} : kidAt (delK ks a) a = none := by
  unfold kidAt delK
  rw [Option.map_eq_none_iff, List.find?_eq_none]
  intro r hr
  have := (List.mem_filter.1 hr).2
  simpa using this
/-- The new forks are on the point's way. -/
theorem UpRel.way {p : List Nat} : ∀ {fs fs' : List PF} {x : Nat × NT}, UpRel p fs fs' x → (∀ f ∈ fs, part f.pre p ≤ (f.lv : Int)) → Way p fs' (some (pTop fs' x)) (some x)
  | [], [], x, _, _ => rfl
  | f :: fs, f' :: fs', x, h, hc => by
    refine ⟨rfl, ?_, ?_⟩
    · rw [h.2.1, h.1]; exact hc f List.mem_cons_self
    · rw [h.1, h.2.2.1]
      rw [show addrOf p f.lv = (⟨addrOf p f.lv, (pTop fs' x).1, (pTop fs' x).2.lv, (pTop fs' x).2.pre, (pTop fs' x).2.es⟩ : Kid).at_ from rfl, kidAt_insK]
      exact UpRel.way h.2.2.2 fun f hf => hc f (List.mem_cons_of_mem _ hf)
  | [], _ :: _, _, h, _ => h.elim
  | _ :: _, [], _, h, _ => h.elim
theorem Way.covers {p : List Nat} : ∀ {fs : List PF} {top bot : Option (Nat × NT)}, Way p fs top bot → ∀ f ∈ fs, part f.pre p ≤ (f.lv : Int)
  | [], _, _, _, f, hf => by cases hf
  | f :: fs, top, bot, h, f', hf => by
    rcases List.mem_cons.1 hf with rfl | hf
    · exact h.2.1
    · exact Way.covers h.2.2 f' hf
/-- Each fork on the way fits at the one ahead of it. -/
theorem Way.fits {k : Nat} {p : List Nat} (hp : Zp k p) : ∀ {fs : List PF} {top bot : Option (Nat × NT)} {i : Nat} {f f2 : PF}, (∀ f ∈ fs, FK k f) → Way p fs top bot → fs[i]? = some f → fs[i + 1]? = some f2 → FitsAt p f f2.nt
  | [], _, _, _, _, _, _, _, h1, _ => by simp at h1
  | g :: fs, top, bot, 0, f, f2, hF, h, h1, h2 => by
    simp at h1 h2
    subst h1
    cases fs with
    | nil => simp at h2
    | cons f3 fs =>
      simp at h2
      subst h2
      exact ((hF g List.mem_cons_self).below hp h.2.1 h.2.2.1).2.2.1
  | g :: fs, top, bot, i + 1, f, f2, hF, h, h1, h2 => Way.fits hp (fun f hf => hF f (List.mem_cons_of_mem _ hf)) h.2.2 (by simpa using h1) (by simpa using h2)
set_option maxHeartbeats 2000000 in
set_option maxRecDepth 100000 in
/-- up, with the new forks told. -/
theorem tr_up_on {w : World} {t k : Nat} {root : Option Addr} {p : List Nat} (fs : List PF) (x : Nat × NT) (A : Option Addr) (m c : Nat) (hT : TreeBlk w t k root) (hk1 : 1 ≤ k) (hk : k ≤ 16) (hA : Rw w 1 A m (ptrs (fs.map (·.g)))) (hm : fs.length = m) (hm100 : m ≤ 1000)
    (hF : ∀ f ∈ fs, Fork w k f.g f.lv f.pre f.ks) (hn : NodeOf w k x.1 x.2.lv x.2.pre x.2.es) (hfit : ∀ (i : Nat) (f f2 : PF), fs[i]? = some f → fs[i + 1]? = some f2 → FitsAt p f f2.nt) (hlast : ∀ f ∈ fs.getLast?, FitsAt p f x.2) :
    Calls Try.prog 121 #[.pointer (some ⟨t, 0, none⟩), .slice A m c, .pointer (some ⟨x.1, 0, none⟩)] w fun e w' => ∃ t' fs', e = .returned (.pointer (some ⟨t', 0, none⟩)) ∧ w.heap.size ≤ t' ∧ TreeBlk w' t' k (some ⟨(pTop fs' x).1, 0, none⟩) ∧ UpRel p fs fs' x ∧ (∀ f ∈ fs', Fork w' k f.g f.lv f.pre f.ks) ∧ Below w.heap.size w w' := by
  have HT := hide hT
  have HA := hide hA
  have HF := hide hF
  have HN := hide hn
  have HFIT := hide hfit
  have HLAST := hide hlast
  have HM := hide hm
  have ew : IntKind.i64.wrap ((m : Int) - 1) = (m : Int) - 1 := by rw [IntKind.wrap_i64]; omega
  clear hT hA hF hn hfit hlast hm
  go_enter Try.func121, Try.ntmps121
  go_wp2
  go_loopw [2, 7] (fun x2 x7 wr => ∃ (i : Nat) (fs' : List PF), x7 = .int .i64 ((i : Int) - 1) ∧ i ≤ m ∧ x2 = .pointer (some ⟨(pTop fs' x).1, 0, none⟩) ∧ UpRel p (fs.drop i) fs' x ∧ (∀ f ∈ fs', Fork wr k f.g f.lv f.pre f.ks) ∧ Below w.heap.size w wr) (fun _ x _ => (intOf x + 1).toNat)
  case atStart =>
    refine ⟨m, [], rfl, Nat.le_refl _, rfl, ?_, fun f hf => (by cases hf), Below.refl _ _⟩
    rw [List.drop_of_length_le (by have := HM.out; omega)]
    trivial
  case round =>
    obtain ⟨i, fs', rfl, hi, rfl, hU, hFn, hb⟩ := hrel
    rename World => wz
    have HU := hide hU
    have HFn := hide hFn
    rcases Nat.eq_zero_or_pos i with rfl | hi0
    · have t0 := Blk.cell (Blk.below HT.out hb) 0
      simp at t0
      clear hU hFn
      go_wp2
      go_ret
      have hal := (Below.refl wz.heap.size wz).alloc (Nat.le_refl _) (.cells #[.int .i64 (k : Int), .pointer (some ⟨(pTop fs' x).1, 0, none⟩)] 163)
      exact ⟨_, fs', rfl, hb.size, Blk.new _ _ _, by simpa using HU.out, fun f hf => (HFn.out f hf).stay hal, below_alloc hb (Nat.le_refl _) _⟩
    · obtain ⟨j, rfl⟩ : ∃ j, i = j + 1 := ⟨i - 1, by omega⟩
      have hjl : j < fs.length := by have := HM.out; omega
      obtain ⟨b, o, rfl, hbl, u, hu, k0⟩ := (HA.out.below hb).one (i := j) (by omega)
      have hfj : fs[j]? = some fs[j] := List.getElem?_eq_getElem hjl
      have hd : fs.drop j = fs[j] :: fs.drop (j + 1) := List.drop_eq_getElem_cons hjl
      generalize fs[j] = f at *
      unfold ptrs at hu
      rw [List.getElem?_map, List.getElem?_map, hfj] at hu
      simp at hu
      rw [← hu] at k0
      have hcur : NodeOf wz k (pTop fs' x).1 (pTop fs' x).2.lv (pTop fs' x).2.pre (pTop fs' x).2.es ∧ FitsAt p f (pTop fs' x).2 := by
        cases fs' with
        | nil =>
          have hl := hU.len
          simp at hl
          refine ⟨HN.out.stay hb, HLAST.out f ?_⟩
          rw [List.getLast?_eq_getElem?, show fs.length - 1 = j by omega, hfj]
          rfl
        | cons f' fs' =>
          have hl := hU.len
          have hj1 : j + 1 < fs.length := by simp at hl; omega
          have hd1 : fs.drop (j + 1) = fs[j + 1] :: fs.drop (j + 1 + 1) := List.drop_eq_getElem_cons hj1
          have hf1 : fs[j + 1]? = some fs[j + 1] := List.getElem?_eq_getElem hj1
          generalize fs[j + 1] = f1 at hd1 hf1
          rw [hd1] at hU
          have hfit := HFIT.out j f f1 hfj hf1
          refine ⟨(hFn f' List.mem_cons_self).node, ?_⟩
          unfold FitsAt at hfit ⊢
          simp only [pTop, PF.nt] at hfit ⊢
          rw [hU.1, hU.2.1]
          exact hfit
      have hW := nd_with ((HF.out f (List.mem_of_getElem? hfj)).stay hb) hcur.1 hk1 hk hcur.2.1 hcur.2.2.1
      have hadr := hcur.2.2.2
      have HADR := hide hadr
      have HW := hide hW
      have HD := hide hd
      have e0 : ((j + 1 : Nat) : Int) - 1 = (j : Int) := by omega
      rw [e0]
      have ej : (0 : Int) ≤ (j : Int) := by omega
      have ejm : (j : Int) < (m : Int) := by omega
      have ejn : j < m := by omega
      clear hu hfj hd hcur hW e0 hU hFn hadr
      go_wp2_with fail
      refine HW.out.mono ?_
      rintro e w2 ⟨gn, rfl, hFk, hgn, hb2⟩
      have HFk := hide hFk
      have HB2 := hide hb2
      clear hFk HW hb2
      go_wp2
      go_roundw
      case rel =>
        refine ⟨j, ⟨gn, f.lv, f.pre, insK f.ks ⟨addrOf p f.lv, (pTop fs' x).1, (pTop fs' x).2.lv, (pTop fs' x).2.pre, (pTop fs' x).2.es⟩⟩ :: fs', by go_num, by omega, rfl, ?_, fun f2 hf2 => ?_, below_then hb HB2.out⟩
        · rw [HD.out]
          exact ⟨rfl, rfl, rfl, HU.out⟩
        · rcases List.mem_cons.1 hf2 with rfl | hf2
          · have := HFk.out
            rw [HADR.out] at this
            exact this
          · exact (HFn.out f2 hf2).stay HB2.out
      case measure => simp [intOf]
end
section
open Go.RowKit
theorem fits_leaf {p : List Nat} {v : Nat} {fs : List PF} {top bot : Option (Nat × NT)} (hW : Way p fs top bot) : ∀ f ∈ fs.getLast?, FitsAt p f ⟨-1, p, [(p, v)]⟩ :=
  fun f hf => ⟨(hW.last hf).1, by show (-1 : Int) < _; omega, rfl⟩
theorem fits_pair {k m : Nat} {p : List Nat} {g : Nat} {nt : NT} {es : List Ent} (hp : Zp k p) {fs : List PF} {top : Option (Nat × NT)} (hF : ∀ f ∈ fs, FK k f) (hW : Way p fs top (some (g, nt))) (hm : part nt.pre p = (m : Int)) (hz : Zp k nt.pre) : ∀ f ∈ fs.getLast?, FitsAt p f ⟨m, cut (m + 1) nt.pre, es⟩ := by
  intro f hf
  obtain ⟨h1, h2⟩ := hW.last hf
  have hf' := hF f (last_mem hf)
  obtain ⟨g1, g2, g3, g4⟩ := hf'.below hp h1 h2.symm
  simp only at g1 g2 g3 g4
  rw [hm] at g1
  have hm2 : m < f.lv := by omega
  refine ⟨?_, by show (m : Int) < _; omega, ?_⟩
  · refine (part_le_iff hf'.pre (zp_cut hz) _ (by omega)).2 fun b hb => ?_
    rw [addr_cut_hi _ (by omega)]
    exact (part_le_iff hf'.pre hz _ (by omega)).1 g3.1 b hb
  · show addrOf (cut (m + 1) nt.pre) f.lv = _
    rw [addr_cut_hi _ (by omega)]
    exact g4 _ (Nat.le_refl _)
theorem UpRel.nt {p : List Nat} {x : Nat × NT} : ∀ {fs fs' : List PF}, UpRel p fs fs' x → (∀ (i : Nat) (f f2 : PF), fs[i]? = some f → fs[i + 1]? = some f2 → FitsAt p f f2.nt) → (∀ f ∈ fs.getLast?, FitsAt p f x.2) → (pTop fs' x).2 = upN fs x.2
  | [], [], _, _, _ => rfl
  | f :: fs, f' :: fs', h, hfit, hlast => by
    have ih := UpRel.nt h.2.2.2 (fun i a b h1 h2 => hfit (i + 1) a b (by simpa using h1) (by simpa using h2)) (by
      intro f2 hf2
      refine hlast f2 ?_
      cases fs with
      | nil => simp at hf2
      | cons f3 fs => rwa [List.getLast?_cons_cons])
    have ha : addrOf (upN fs x.2).pre f.lv = addrOf p f.lv := by
      cases fs with
      | nil => exact (hlast f (by simp)).2.2
      | cons f2 fs => exact (hfit 0 f f2 rfl rfl).2.2
    show f'.nt = _
    unfold PF.nt
    rw [h.1, h.2.1, h.2.2.1, ih]
    show _ = (⟨f.lv, f.pre, kidEs (insK f.ks ⟨addrOf (upN fs x.2).pre f.lv, 0, (upN fs x.2).lv, (upN fs x.2).pre, (upN fs x.2).es⟩)⟩ : NT)
    rw [ha, kidEs_blk f.ks (addrOf p f.lv) (pTop fs' x).1 0]
  | [], _ :: _, h, _, _ => h.elim
  | _ :: _, [], h, _, _ => h.elim
theorem pTop_node {w : World} {k : Nat} {fs' : List PF} {x : Nat × NT} (hF : ∀ f ∈ fs', Fork w k f.g f.lv f.pre f.ks) (hx : NodeOf w k x.1 x.2.lv x.2.pre x.2.es) : NodeOf w k (pTop fs' x).1 (pTop fs' x).2.lv (pTop fs' x).2.pre (pTop fs' x).2.es := by
  cases fs' with
  | nil => exact hx
  | cons f fs => exact (hF f List.mem_cons_self).node
/-- What is shared behind a Put: the new forks on the way, and what hangs at its end. -/
def PutSh (k : Nat) (p : List Nat) (v : Nat) (fs : List PF) (bot below : Option (Nat × NT)) (t t' : Nat) (w' : World) : Prop :=
  t' = t ∨ ∃ fs' x, TreeBlk w' t' k (some ⟨(pTop fs' x).1, 0, none⟩) ∧ UpRel p fs fs' x ∧ (∀ f ∈ fs', Fork w' k f.g f.lv f.pre f.ks) ∧ NodeOf w' k x.1 x.2.lv x.2.pre x.2.es ∧
    ((x.2 = ⟨-1, p, [(p, v)]⟩ ∧ below = none) ∨ ∃ (y : Nat × NT) (mm g4 : Nat), below = some y ∧ bot = some y ∧ y.2.lv < (mm : Int) ∧ part y.2.pre p = (mm : Int) ∧ Zp k y.2.pre ∧ NodeOf w' k g4 (-1) p [(p, v)] ∧
      Fork w' k x.1 mm (cut (mm + 1) y.2.pre) (pairK y.1 g4 y.2.lv (-1) y.2.pre p y.2.es [(p, v)] mm) ∧ x.2 = ⟨mm, cut (mm + 1) y.2.pre, kidEs (pairK y.1 g4 y.2.lv (-1) y.2.pre p y.2.es [(p, v)] mm)⟩)
theorem PutSh.stay {k v t t' : Nat} {p : List Nat} {fs : List PF} {bot below : Option (Nat × NT)} {w w' : World} (h : PutSh k p v fs bot below t t' w) (hb : Below w.heap.size w w') : PutSh k p v fs bot below t t' w' := by
  rcases h with h | ⟨fs', x, h1, h2, h3, h4, h5⟩
  · exact .inl h
  · refine .inr ⟨fs', x, Blk.below h1 hb, h2, fun f hf => (h3 f hf).stay hb, h4.stay hb, ?_⟩
    rcases h5 with h5 | ⟨y, mm, g4, a1, a2, a3, a4, a5, a6, a7, a8⟩
    · exact .inl h5
    · exact .inr ⟨y, mm, g4, a1, a2, a3, a4, a5, a6.stay hb, a7.stay hb, a8⟩
def PutOutX (w : World) (t k : Nat) (p : List Nat) (v : Nat) (es : List Ent) (X : Nat → World → Prop) (e : Ending) (w' : World) : Prop :=
  ∃ t' es', e = .returned (.tuple #[.pointer (some ⟨t', 0, none⟩), .int .i64 0]) ∧ TreeOf w' k t' es' ∧ (∀ x, x ∈ es' ↔ x = (p, v) ∨ (x ∈ es ∧ x.1 ≠ p)) ∧ (t' = t ↔ (p, v) ∈ es) ∧ Below w.heap.size w w' ∧ X t' w'
set_option maxHeartbeats 4000000 in
set_option maxRecDepth 100000 in
theorem tr_put_on {w : World} {t k v : Nat} {es : List Ent} {fs : List PF} {top bot below : Option (Nat × NT)} {gs : List Nat} (hT : TreeOf w k t es) (hB : TreeBlk w t k (top.map fun y => ⟨y.1, 0, none⟩)) (hes : esOf top = es) {A : Option Addr} {c : Nat} {p : List Nat} (hp : Pt w A k p) (hv : v < 2 ^ 64)
    (hW0 : Way p fs top bot) (hF0 : ∀ f ∈ fs, Fork w k f.g f.lv f.pre f.ks) (hl : fs.length ≤ 64) (hE0 : PathEnd w k p fs bot gs below) :
    Calls Try.prog 70 #[.pointer (some ⟨t, 0, none⟩), .slice A k c, .int .u64 (v : Int)] w (PutOutX w t k p v es (PutSh k p v fs bot below t)) := by
  have hk1 : 1 ≤ k := hT.1
  have hk : k ≤ 16 := hT.2.1
  have HC := hide (tr_check hB A c)
  have HP := hide (tr_path_on (c := c) hB hk1 hk hp hW0 hF0 hl hE0)
  have HZ := hide hp.zp
  have HES := hide hes
  have HT := hide hT
  have HTB := hide hB
  have HPT := hide hp
  have htlt : t < w.heap.size := hB.lt
  have HLT := hide htlt
  have HLF := hide (fun (W : World) (hW : Below w.heap.size w W) => nd_leaf A k c p v W (hp.below hW) hv hk1 hk)
  have HW0 := hide hW0
  have HF0 := hide hF0
  have HE0 := hide hE0
  have HFIT := hide (fun (i : Nat) (f f2 : PF) (h1 : fs[i]? = some f) (h2 : fs[i + 1]? = some f2) => Way.fits hp.zp (fun f hf => (hF0 f hf).fk) hW0 h1 h2)
  clear hT hB hp hes htlt hW0 hF0 hE0
  go_enter Try.func70, Try.ntmps70
  go_wp2_with fail
  refine HC.out.mono ?_
  rintro e w1 ⟨rfl, rfl⟩
  go_wp2_with fail
  refine HP.out.mono ?_
  rintro e w1 ⟨B, d, rfl, hO, hb⟩
  have hW := HW0.out
  have hF := HF0.out
  have hE := HE0.out
  have HW := hide hW
  have HF := hide hF
  have HB := hide hb
  obtain ⟨hcap, hR⟩ := own_rw hO
  have HE := hide hE
  have HR := hide hR
  rcases hE.cases_ with hgs | ⟨g, v0, hgs, hbe, hbot, hNl⟩
  · have hno := hE.no HZ.out hgs
    have HNO := hide hno
    have HFO := hide (tr_found_fork (n := gs.length) (d := d) (by rw [hgs]; simp) (fun f hf => (hF f hf).stay hb) hl (by rw [hgs] at hR ⊢; exact hR))
    have hnt : ∀ x, (p, x) ∉ es := fun x hx => by
      rw [← HES.out, Way.mem (fun f hf => (HF.out f hf).fk) HW.out] at hx
      exact hno x hx
    have HNT := hide hnt
    have HGS := hide hgs
    have hgl : gs.length = fs.length := by rw [hgs]; simp
    have HGL := hide hgl
    rw [hgs] at HR
    have HNT := hide (HNT.out v)
    cases hE with
    | leaf g v' hn => simp at hgs
    | none =>
      unfold ptrOf
      simp only [Option.map_none]
      clear hW hF hO hb hR hgs hno hnt hcap
      rw [hgl] at HFO HR ⊢
      clear hgl
      go_wp2_with fail
      refine HFO.out.mono ?_
      rintro e w2 ⟨⟨C, m, cc, rfl⟩, hb2⟩
      have t1 := (Blk.new w2 59 #[.slice C m cc, .int .u64 ((0 : Nat) : Int)]).cell 1
      simp at t1
      have hb3 := below_alloc (below_then HB.out hb2) (Nat.le_refl _) (.cells #[.slice C m cc, .int .u64 ((0 : Nat) : Int)] 59)
      have hq3 := below_alloc hb2 (Nat.le_refl _) (.cells #[.slice C m cc, .int .u64 ((0 : Nat) : Int)] 59)
      have HL := hide (HLF.out _ hb3)
      have HB3 := hide hb3
      have HQ3 := hide hq3
      clear hb2 hb3 hq3 HFO
      go_wp2_with fail
      refine HL.out.mono ?_
      rintro e w4 ⟨g4, rfl, hN4, -, hb4⟩
      have hb4' := below_then HB3.out hb4
      have hq4 := below_then HQ3.out hb4
      have hPL := put_leaf (v := v) HZ.out (fun f hf => (HF.out f hf).fk) HW.out (fun e he => by cases he)
      have HME := hide hPL.2
      have hla : ∀ f ∈ fs.getLast?, FitsAt p f ⟨-1, p, [(p, v)]⟩ := (fits_leaf HW.out)
      have HLA := hide hla
      have HUP := hide (tr_up_on (p := p) fs (g4, ⟨-1, p, [(p, v)]⟩) B fs.length d (HTB.out.below hb4') hk1 hk (HR.out.below hq4) rfl (by omega) (fun f hf => (HF.out f hf).stay hb4') hN4 HFIT.out hla)
      have HB4 := hide hb4'
      have HN4 := hide hN4
      clear hla hN4 hb4 hb4' hq4 hPL HL t1
      go_wp2_with fail
      refine HUP.out.mono ?_
      rintro e w5 ⟨t', fs', rfl, ht', hT5, hU5, hF5, hb5⟩
      have HH := hide (And.intro ht' (And.intro hT5 (And.intro hU5 (And.intro hF5 hb5))))
      clear ht' hT5 hU5 hF5 hb5
      go_wp2
      go_ret2
      obtain ⟨ht', hT5, hU5, hF5, hb5⟩ := HH.out
      have hnt := hU5.nt HFIT.out HLA.out
      have hNT := pTop_node (x := (g4, ⟨-1, p, [(p, v)]⟩)) hF5 (HN4.out.stay hb5)
      refine ⟨t', (pTop fs' (g4, ⟨-1, p, [(p, v)]⟩)).2.es, rfl, ⟨hk1, hk, .inr ⟨_, _, _, hT5, hNT⟩⟩, ?_, ?_, below_then HB4.out hb5, .inr ⟨fs', _, hT5, hU5, hF5, HN4.out.stay hb5, .inl ⟨rfl, rfl⟩⟩⟩
      · rw [hnt, ← HES.out]; exact HME.out
      · constructor
        · intro h
          have := HB4.out.size
          have := HLT.out
          omega
        · intro h
          exact absurd h (HNT.out)
    | miss x hn hm =>
      have HN := hide hn
      have HM := hide hm
      unfold ptrOf
      simp only [Option.map_some]
      clear hW hF hO hb hR hgs hno hnt hcap hn hm
      rw [hgl] at HFO HR ⊢
      clear hgl
      go_wp2_with fail
      refine HFO.out.mono ?_
      rintro e w2 ⟨⟨C, m, cc, rfl⟩, hb2⟩
      have t1 := (Blk.new w2 59 #[.slice C m cc, .int .u64 ((0 : Nat) : Int)]).cell 1
      simp at t1
      have hb3 := below_alloc (below_then HB.out hb2) (Nat.le_refl _) (.cells #[.slice C m cc, .int .u64 ((0 : Nat) : Int)] 59)
      have hq3 := below_alloc hb2 (Nat.le_refl _) (.cells #[.slice C m cc, .int .u64 ((0 : Nat) : Int)] 59)
      have HL := hide (HLF.out _ hb3)
      have HB3 := hide hb3
      have HQ3 := hide hq3
      clear hb2 hb3 hq3 HFO
      go_wp2_with fail
      refine HL.out.mono ?_
      rintro e w4 ⟨g4, rfl, hN4, -, hb4⟩
      have hb4' := below_then HB3.out hb4
      have hq4 := below_then HQ3.out hb4
      obtain ⟨i1, i2, i3, i4, i5, i6, i7⟩ := HN.out.info
      obtain ⟨mm, hmm⟩ : ∃ mm : Nat, part x.2.pre p = (mm : Int) := ⟨(part x.2.pre p).toNat, by have := HM.out; omega⟩
      have hlm : x.2.lv < (mm : Int) := by rw [← hmm]; exact HM.out
      have HPR := hide (nd_pair (HN.out.stay hb4') hN4 hk1 hk hmm hlm (by omega))
      have hPP := fun g' => put_pair (v := v) (g' := g') HZ.out (fun f hf => (HF.out f hf).fk) HW.out hmm hlm i1 (fun e he => ⟨(i5 e he).1, (i5 e he).2.2⟩)
      have HPP := hide hPP
      have HB4 := hide hb4'
      have HQ4 := hide hq4
      have HMM := hide hmm
      have HLM := hide hlm
      have HZX := hide i1
      have HN44 := hide hN4
      clear i1 i2 i3 i4 i5 i6 i7 hmm hlm hPP hN4 hb4 hb4' hq4 HL t1
      go_wp2_with fail
      refine HPR.out.mono ?_
      rintro e w6 ⟨g6, rfl, hF6, -, hb6⟩
      have hN4 := hF6.node
      have HF6 := hide hF6
      have HQ6 := hide hb6
      have hb4' := below_then HB4.out hb6
      have hq4 := below_then HQ4.out hb6
      have hPL := HPP.out g4
      have t1 := trivial
      have HL := trivial
      have hb4 := trivial
      clear HB4 HPR hF6 hb6
      have HME := hide hPL.2
      have hla : ∀ f ∈ fs.getLast?, FitsAt p f ⟨mm, cut (mm + 1) x.2.pre, kidEs (pairK x.1 g4 x.2.lv (-1) x.2.pre p x.2.es [(p, v)] mm)⟩ := (fits_pair HZ.out (fun f hf => (HF.out f hf).fk) HW.out HMM.out HZX.out)
      have HLA := hide hla
      have HUP := hide (tr_up_on (p := p) fs (g6, ⟨mm, cut (mm + 1) x.2.pre, kidEs (pairK x.1 g4 x.2.lv (-1) x.2.pre p x.2.es [(p, v)] mm)⟩) B fs.length d (HTB.out.below hb4') hk1 hk (HR.out.below hq4) rfl (by omega) (fun f hf => (HF.out f hf).stay hb4') hN4 HFIT.out hla)
      have HB4 := hide hb4'
      have HN4 := hide hN4
      clear hla hN4 hb4 hb4' hq4 hPL HL t1
      go_wp2_with fail
      refine HUP.out.mono ?_
      rintro e w5 ⟨t', fs', rfl, ht', hT5, hU5, hF5, hb5⟩
      have HH := hide (And.intro ht' (And.intro hT5 (And.intro hU5 (And.intro hF5 hb5))))
      clear ht' hT5 hU5 hF5 hb5
      go_wp2
      go_ret2
      obtain ⟨ht', hT5, hU5, hF5, hb5⟩ := HH.out
      have hnt := hU5.nt HFIT.out HLA.out
      have hNT := pTop_node (x := (g6, ⟨mm, cut (mm + 1) x.2.pre, kidEs (pairK x.1 g4 x.2.lv (-1) x.2.pre p x.2.es [(p, v)] mm)⟩)) hF5 (HN4.out.stay hb5)
      refine ⟨t', (pTop fs' (g6, ⟨mm, cut (mm + 1) x.2.pre, kidEs (pairK x.1 g4 x.2.lv (-1) x.2.pre p x.2.es [(p, v)] mm)⟩)).2.es, rfl, ⟨hk1, hk, .inr ⟨_, _, _, hT5, hNT⟩⟩, ?_, ?_, below_then HB4.out hb5, .inr ⟨fs', _, hT5, hU5, hF5, HN4.out.stay hb5, .inr ⟨x, mm, g4, rfl, rfl, HLM.out, HMM.out, HZX.out, HN44.out.stay (below_then HQ6.out hb5), HF6.out.stay hb5, rfl⟩⟩⟩
      · rw [hnt, ← HES.out]; exact HME.out
      · constructor
        · intro h
          have := HB4.out.size
          have := HLT.out
          omega
        · intro h
          exact absurd h (HNT.out)
  · have HBO := hide hbot
    have HFO := hide (tr_found_leaf (n := gs.length) (d := d) (fs := fs) (by rw [hgs]) (hNl.stay hb) hk hl (by rw [hgs] at hR ⊢; exact hR))
    have hgl : gs.length = fs.length + 1 := by rw [hgs]; simp
    have hin : (p, v0) ∈ es := by
      rw [← HES.out, Way.mem (fun f hf => (HF.out f hf).fk) HW.out, hbot]
      exact List.mem_singleton.2 rfl
    have hun : ∀ x, (p, x) ∈ es → x = v0 := fun x hx => by
      rw [← HES.out, Way.mem (fun f hf => (HF.out f hf).fk) HW.out, hbot] at hx
      injection List.mem_singleton.1 hx
    have HIN := hide hin
    have HUN := hide hun
    rw [hgs, ptrs_snoc] at HR
    have HBE := hide hbe
    rw [hbe]
    unfold ptrOf
    simp only [Option.map_none]
    clear hW hF hO hb hR hgs hE HE hNl hbot hin hun hbe
    rw [show (List.map (fun x => x.g) fs ++ [g]).length = fs.length + 1 by simp] at HR
    rw [hgl] at HFO hcap ⊢
    clear hgl
    by_cases hvv : v0 = v
    · subst hvv
      go_wp2_with fail
      refine HFO.out.mono ?_
      rintro e w2 ⟨⟨C, m, cc, rfl⟩, hb2⟩
      have t1 := (Blk.new w2 59 #[.slice C m cc, .int .u64 (v0 : Int)]).cell 1
      simp at t1
      have hb3 := below_alloc (below_then HB.out hb2) (Nat.le_refl _) (.cells #[.slice C m cc, .int .u64 (v0 : Int)] 59)
      have hq3 := below_alloc hb2 (Nat.le_refl _) (.cells #[.slice C m cc, .int .u64 (v0 : Int)] 59)
      have HL := hide (HLF.out _ hb3)
      have HB3 := hide hb3
      have HQ3 := hide hq3
      clear hb2 hb3 hq3 HFO
      go_wp2
      go_ret2
      refine ⟨t, es, rfl, HT.out.stay HB3.out, fun x => ?_, ?_, HB3.out, .inl rfl⟩
      · constructor
        · intro hx
          by_cases hxp : x.1 = p
          · left
            obtain ⟨xp, xv⟩ := x
            simp only at hxp
            subst hxp
            rw [HUN.out xv hx]
          · exact .inr ⟨hx, hxp⟩
        · rintro (rfl | h)
          · exact HIN.out
          · exact h.1
      · exact ⟨fun _ => HIN.out, fun _ => rfl⟩
    · have evv : ((v0 : Int) == (v : Int)) = false := by simp; omega
      have HNT : Hid ((p, v) ∉ es) := hide fun h => hvv (HUN.out v h).symm
      have r2s := fun W => run_slice_to (P := Try.prog) (w := W) Try.underlying51 (sz := 1) Try.sizeOf54 B (fs.length + 1) d fs.length (by omega)
      clear hvv hcap
      go_wp2_with fail
      refine HFO.out.mono ?_
      rintro e w2 ⟨⟨C, m, cc, rfl⟩, hb2⟩
      have t1 := (Blk.new w2 59 #[.slice C m cc, .int .u64 (v0 : Int)]).cell 1
      simp at t1
      have hb3 := below_alloc (below_then HB.out hb2) (Nat.le_refl _) (.cells #[.slice C m cc, .int .u64 (v0 : Int)] 59)
      have hq3 := below_alloc hb2 (Nat.le_refl _) (.cells #[.slice C m cc, .int .u64 (v0 : Int)] 59)
      have HL := hide (HLF.out _ hb3)
      have HB3 := hide hb3
      have HQ3 := hide hq3
      clear hb2 hb3 hq3 HFO
      go_wp2_with fail
      refine HL.out.mono ?_
      rintro e w4 ⟨g4, rfl, hN4, -, hb4⟩
      have hb4' := below_then HB3.out hb4
      have hq4 := below_then HQ3.out hb4
      have hPL := put_leaf (v := v) HZ.out (fun f hf => (HF.out f hf).fk) HW.out (fun e he => by rw [HBO.out] at he; rw [List.mem_singleton.1 he])
      replace HR := hide HR.out.init
      have HME := hide hPL.2
      have hla : ∀ f ∈ fs.getLast?, FitsAt p f ⟨-1, p, [(p, v)]⟩ := (fits_leaf HW.out)
      have HLA := hide hla
      have HUP := hide (tr_up_on (p := p) fs (g4, ⟨-1, p, [(p, v)]⟩) B fs.length d (HTB.out.below hb4') hk1 hk (HR.out.below hq4) rfl (by omega) (fun f hf => (HF.out f hf).stay hb4') hN4 HFIT.out hla)
      have HB4 := hide hb4'
      have HN4 := hide hN4
      clear hla hN4 hb4 hb4' hq4 hPL HL t1
      go_wp2_with fail
      refine HUP.out.mono ?_
      rintro e w5 ⟨t', fs', rfl, ht', hT5, hU5, hF5, hb5⟩
      have HH := hide (And.intro ht' (And.intro hT5 (And.intro hU5 (And.intro hF5 hb5))))
      clear ht' hT5 hU5 hF5 hb5
      go_wp2
      go_ret2
      obtain ⟨ht', hT5, hU5, hF5, hb5⟩ := HH.out
      have hnt := hU5.nt HFIT.out HLA.out
      have hNT := pTop_node (x := (g4, ⟨-1, p, [(p, v)]⟩)) hF5 (HN4.out.stay hb5)
      refine ⟨t', (pTop fs' (g4, ⟨-1, p, [(p, v)]⟩)).2.es, rfl, ⟨hk1, hk, .inr ⟨_, _, _, hT5, hNT⟩⟩, ?_, ?_, below_then HB4.out hb5, .inr ⟨fs', _, hT5, hU5, hF5, HN4.out.stay hb5, .inl ⟨rfl, HBE.out⟩⟩⟩
      · rw [hnt, ← HES.out]; exact HME.out
      · constructor
        · intro h
          have := HB4.out.size
          have := HLT.out
          omega
        · intro h
          exact absurd h (HNT.out)
end
section
open Go.RowKit
theorem fits_del {k : Nat} {p : List Nat} (hp : Zp k p) {fs : List PF} {f : PF} {top : Option (Nat × NT)} (hF : ∀ f' ∈ fs, FK k f') (hf : FK k f) (hW : Way p fs top (some (f.g, f.nt))) {n : NT} (hpre : Zp k n.pre) (hlv : n.lv ≤ f.lv) (hag : ∀ b, f.lv < b → addrOf n.pre b = addrOf f.pre b) :
    ∀ f' ∈ fs.getLast?, FitsAt p f' n := by
  intro f' hf'
  obtain ⟨h1, h2⟩ := hW.last hf'
  have hff := hF f' (last_mem hf')
  obtain ⟨g1, g2, g3, g4⟩ := hff.below hp h1 h2.symm
  simp only [PF.nt] at g1 g2 g3 g4
  have hlow : (f.lv : Int) < f'.lv := g3.2.1
  refine ⟨?_, by omega, ?_⟩
  · refine (part_le_iff hff.pre hpre _ (by omega)).2 fun b hb => ?_
    rw [hag b (by omega)]
    exact (part_le_iff hff.pre hf.pre _ (by omega)).1 g3.1 b hb
  · rw [hag _ (by omega)]
    exact g3.2.2
/-- A fork with one kid less, and which one it is. -/
def LessIs (w' : World) (k : Nat) (p : List Nat) (f : PF) (x : Nat × NT) : Prop :=
  (∃ r, delK f.ks (addrOf p f.lv) = [r] ∧ x = (r.blk, ⟨r.lv, r.pre, r.es⟩)) ∨ (Fork w' k x.1 f.lv f.pre (delK f.ks (addrOf p f.lv)) ∧ x.2 = ⟨f.lv, f.pre, kidEs (delK f.ks (addrOf p f.lv))⟩)
theorem LessIs.stay {w w' : World} {k : Nat} {p : List Nat} {f : PF} {x : Nat × NT} (h : LessIs w k p f x) (hb : Below w.heap.size w w') : LessIs w' k p f x := by
  rcases h with h | ⟨h1, h2⟩
  · exact .inl h
  · exact .inr ⟨h1.stay hb, h2⟩
theorem nd_less2 {w : World} {k : Nat} {p : List Nat} {f : PF} (h : Fork w k f.g f.lv f.pre f.ks) (hk : k ≤ 16) (hp : Zp k p) {q : Kid} (hq : q ∈ f.ks) (hqa : q.at_ = addrOf p f.lv) :
    Calls Try.prog 50 #[.pointer (some ⟨f.g, 0, none⟩), .int .i64 (addrOf p f.lv : Int)] w fun e w' => ∃ (gn : Nat) (n : NT), e = .returned (.tuple #[.pointer (some ⟨gn, 0, none⟩), .int .i64 0]) ∧ NodeOf w' k gn n.lv n.pre n.es ∧
      (∀ e, e ∈ n.es ↔ ∃ r ∈ f.ks, r.at_ ≠ addrOf p f.lv ∧ e ∈ r.es) ∧ Zp k n.pre ∧ n.lv ≤ f.lv ∧ (∀ b, f.lv < b → addrOf n.pre b = addrOf f.pre b) ∧ Below w.heap.size w w' ∧ LessIs w' k p f (gn, n) := by
  have hf := h.fk
  have hl := delK_len (a := addrOf p f.lv) hf.sort ⟨q, hq, hqa⟩
  have h2 := hf.two
  have ha := addr_lt_pow hp f.lv
  rcases Nat.lt_or_ge f.ks.length 3 with h3 | h3
  · obtain ⟨r, hr⟩ : ∃ r, delK f.ks (addrOf p f.lv) = [r] := List.length_eq_one_iff.1 (by omega)
    have hrm : r ∈ f.ks ∧ r.at_ ≠ addrOf p f.lv := mem_delK.1 (by rw [hr]; simp)
    have hrN : NodeOf w k r.blk r.lv r.pre r.es := by
      obtain ⟨A, c, gs, _, _, _, _, h5, _⟩ := h
      exact h5 r hrm.1
    refine (nd_without_two h ha hq hqa hr).mono fun e w' ⟨h4, h5⟩ => ⟨r.blk, ⟨r.lv, r.pre, r.es⟩, h4, hrN.stay h5, fun e => ?_, hf.ksz r hrm.1, ?_, (hf.at_ r hrm.1).2, h5, .inl ⟨r, hr, rfl⟩⟩
    · constructor
      · intro he
        exact ⟨r, hrm.1, hrm.2, he⟩
      · rintro ⟨s, hs, hsa, hes⟩
        have : s ∈ delK f.ks (addrOf p f.lv) := mem_delK.2 ⟨hs, hsa⟩
        rw [hr, List.mem_singleton] at this
        rw [← this]
        exact hes
    · have := hf.low r hrm.1
      show r.lv ≤ _
      omega
  · refine (nd_without h ha hq hqa h3).mono fun e w' ⟨gn, h4, h5, _, h6⟩ => ⟨gn, ⟨f.lv, f.pre, kidEs (delK f.ks (addrOf p f.lv))⟩, h4, h5.node, fun e => ?_, hf.pre, Int.le_refl _, fun _ _ => rfl, h6, .inr ⟨h5, rfl⟩⟩
    unfold kidEs
    rw [List.mem_flatMap]
    constructor
    · rintro ⟨s, hs, hes⟩
      exact ⟨s, (mem_delK.1 hs).1, (mem_delK.1 hs).2, hes⟩
    · rintro ⟨s, hs, hsa, hes⟩
      exact ⟨s, mem_delK.2 ⟨hs, hsa⟩, hes⟩
/-- What is shared behind a Del: nothing is left, or the new forks on the way, and what hangs at its end. -/
def DelSh (k : Nat) (p : List Nat) (fs : List PF) (t' : Nat) (w' : World) : Prop :=
  (fs = [] ∧ TreeBlk w' t' k none) ∨ ∃ fs0 f fs' x, fs = fs0 ++ [f] ∧ TreeBlk w' t' k (some ⟨(pTop fs' x).1, 0, none⟩) ∧ UpRel p fs0 fs' x ∧ (∀ f ∈ fs', Fork w' k f.g f.lv f.pre f.ks) ∧ NodeOf w' k x.1 x.2.lv x.2.pre x.2.es ∧ LessIs w' k p f x
theorem DelSh.stay {k t' : Nat} {p : List Nat} {fs : List PF} {w w' : World} (h : DelSh k p fs t' w) (hb : Below w.heap.size w w') : DelSh k p fs t' w' := by
  rcases h with ⟨h1, h2⟩ | ⟨fs0, f, fs', x, h0, h1, h2, h3, h4, h5⟩
  · exact .inl ⟨h1, Blk.below h2 hb⟩
  · exact .inr ⟨fs0, f, fs', x, h0, Blk.below h1 hb, h2, fun f hf => (h3 f hf).stay hb, h4.stay hb, h5.stay hb⟩
def DelOutX (w : World) (t k : Nat) (p : List Nat) (es : List Ent) (X : Nat → World → Prop) (e : Ending) (w' : World) : Prop :=
  ((e = .returned (.tuple #[.pointer none, .int .i64 6]) ∧ ∀ v, (p, v) ∉ es) ∨ ∃ t' es' v, e = .returned (.tuple #[.pointer (some ⟨t', 0, none⟩), .int .i64 0]) ∧ TreeOf w' k t' es' ∧ (p, v) ∈ es ∧ (∀ x, x ∈ es' ↔ x ∈ es ∧ x.1 ≠ p) ∧ X t' w') ∧ Below w.heap.size w w'
set_option maxHeartbeats 4000000 in
set_option maxRecDepth 100000 in
theorem tr_del_on {w : World} {t k : Nat} {es : List Ent} {fs : List PF} {top bot below : Option (Nat × NT)} {gs : List Nat} (hT : TreeOf w k t es) (hB : TreeBlk w t k (top.map fun y => ⟨y.1, 0, none⟩)) (hes : esOf top = es) {A : Option Addr} {c : Nat} {p : List Nat} (hp : Pt w A k p)
    (hW0 : Way p fs top bot) (hF0 : ∀ f ∈ fs, Fork w k f.g f.lv f.pre f.ks) (hl : fs.length ≤ 64) (hE0 : PathEnd w k p fs bot gs below) :
    Calls Try.prog 71 #[.pointer (some ⟨t, 0, none⟩), .slice A k c] w (DelOutX w t k p es (DelSh k p fs)) := by
  have hk1 : 1 ≤ k := hT.1
  have hk : k ≤ 16 := hT.2.1
  have HC := hide (tr_check hB A c)
  have HP := hide (tr_path_on (c := c) hB hk1 hk hp hW0 hF0 hl hE0)
  have HZ := hide hp.zp
  have HES := hide hes
  have HTB := hide hB
  have HPT := hide hp
  have HW0 := hide hW0
  have HF0 := hide hF0
  have HE0 := hide hE0
  clear hT hB hp hes hW0 hF0 hE0
  go_enter Try.func71, Try.ntmps71
  go_wp2_with fail
  refine HC.out.mono ?_
  rintro e w1 ⟨rfl, rfl⟩
  go_wp2_with fail
  refine HP.out.mono ?_
  rintro e w1 ⟨B, d, rfl, hO, hb⟩
  have hW := HW0.out
  have hF := HF0.out
  have hE := HE0.out
  clear HW0 HF0 HE0
  have HW := hide hW
  have HF := hide hF
  have HB := hide hb
  obtain ⟨hcap, hR⟩ := own_rw hO
  have HR := hide hR
  rcases hE.cases_ with hgs | ⟨g, v0, hgs, hbe, hbot, hNl⟩
  · have hno := hE.no HZ.out hgs
    have HFO := hide (tr_found_fork (n := gs.length) (d := d) (by rw [hgs]; simp) (fun f hf => (hF f hf).stay hb) hl (by rw [hgs] at hR ⊢; exact hR))
    have hnt : ∀ x, (p, x) ∉ es := fun x hx => by
      rw [← HES.out, Way.mem (fun f hf => (HF.out f hf).fk) HW.out] at hx
      exact hno x hx
    have HNT := hide hnt
    unfold ptrOf
    clear hW hF hO hb hR hgs hno hnt hcap hE
    go_wp2_with fail
    refine HFO.out.mono ?_
    rintro e w2 ⟨⟨C, m, cc, rfl⟩, hb2⟩
    have HB3 := hide (below_alloc (below_then HB.out hb2) (Nat.le_refl _) (.cells #[.slice C m cc, .int .u64 ((0 : Nat) : Int)] 59))
    clear hb2
    go_wp2
    go_ret2
    exact ⟨.inl ⟨rfl, HNT.out⟩, HB3.out⟩
  · have HBO := hide hbot
    have HFO := hide (tr_found_leaf (n := gs.length) (d := d) (fs := fs) (by rw [hgs]) (hNl.stay hb) hk hl (by rw [hgs] at hR ⊢; exact hR))
    have hgl : gs.length = fs.length + 1 := by rw [hgs]; simp
    have hin : (p, v0) ∈ es := by
      rw [← HES.out, Way.mem (fun f hf => (HF.out f hf).fk) HW.out, hbot]
      exact List.mem_singleton.2 rfl
    have HIN := hide hin
    rw [hgs, ptrs_snoc] at HR
    unfold ptrOf
    clear hF hO hb hR hgs hE hNl hbot hin hbe
    rw [show (List.map (fun x => x.g) fs ++ [g]).length = fs.length + 1 by simp] at HR
    rw [hgl] at HFO hcap ⊢
    clear hgl
    rcases (show fs = [] ∨ ∃ fs0 f, fs = fs0 ++ [f] from (List.eq_nil_or_concat fs).imp id fun ⟨a, b, h⟩ => ⟨a, b, by rw [h, List.concat_eq_append]⟩) with rfl | ⟨fs0, f, rfl⟩
    · have hes0 : es = [(p, v0)] := by
        rw [← HES.out, show top = bot from hW, HBO.out]
        rfl
      have HE0 := hide hes0
      have t0 := (Blk.cell HTB.out 0)
      simp at t0
      clear hW hcap hes0
      simp only [List.length_nil, Nat.zero_add] at HFO ⊢
      go_wp2_with fail
      refine HFO.out.mono ?_
      rintro e w2 ⟨⟨C, m, cc, rfl⟩, hb2⟩
      have hb3 := below_alloc (below_then HB.out hb2) (Nat.le_refl _) (.cells #[.slice C m cc, .int .u64 (v0 : Int)] 59)
      have HB3 := hide hb3
      have t0 := Blk.cell (Blk.below HTB.out hb3) 0
      simp at t0
      clear hb2 hb3
      go_wp2
      go_ret2
      have hbk : TreeBlk ((w2.alloc (.cells #[.slice C m cc, .int .u64 (v0 : Int)] 59)).alloc (.cells #[.int .i64 (k : Int), .pointer none] 163)) (w2.heap.size + 1) k none := by
        have h := Blk.new (w2.alloc (.cells #[.slice C m cc, .int .u64 (v0 : Int)] 59)) 163 #[.int .i64 (k : Int), .pointer none]
        rw [show (w2.alloc (.cells #[.slice C m cc, .int .u64 (v0 : Int)] 59)).heap.size = w2.heap.size + 1 by simp] at h
        exact h
      refine ⟨.inr ⟨_, [], v0, rfl, ⟨hk1, hk, .inl ⟨hbk, rfl⟩⟩, HIN.out, fun x => ?_, .inl ⟨rfl, hbk⟩⟩, below_alloc HB3.out (Nat.le_refl _) _⟩
      rw [HE0.out]
      simp only [List.not_mem_nil, List.mem_singleton, false_iff]
      rintro ⟨rfl, h⟩
      exact h rfl
    · have hlen : (fs0 ++ [f]).length + 1 = fs0.length + 2 := by simp
      obtain ⟨c1, c2, c3⟩ := hW.cut
      have hFk := HF.out f (by simp)
      obtain ⟨q, hq, hqa, hqx⟩ := kidAt_some (c3.symm.trans HBO.out)
      have HLS := hide (fun (W : World) (hW : Below w.heap.size w W) => nd_less2 (hFk.stay hW) hk HZ.out hq hqa)
      have HLV := hide (fun (W : World) (hW : Below w.heap.size w W) => nd_level (hFk.stay hW).node)
      have HAD := hide (fun (W : World) (hW : Below w.heap.size w W) => zb_addr A k p c f.lv W (HPT.out.below hW) hk1 hk hFk.fk.lv)
      have HCW := hide c1
      have hq1 : ∀ e ∈ esOf (kidAt f.ks (addrOf p f.lv)), e.1 = p := fun e he => by
        rw [← c3, HBO.out] at he
        rw [List.mem_singleton.1 he]
      have HQ1 := hide hq1
      have HFK := hide hFk.fk
      have hl0 : fs0.length ≤ 64 := by simp at hl; omega
      have hfs0 : ∀ f ∈ fs0, Fork w k f.g f.lv f.pre f.ks := fun f hf => HF.out f (by simp [hf])
      have HF0 := hide hfs0
      obtain ⟨n, hn⟩ : ∃ n, n = fs0.length + 2 := ⟨_, rfl⟩
      obtain ⟨j, hj⟩ : ∃ j, j = fs0.length := ⟨_, rfl⟩
      rw [hlen, ← hn] at HFO hcap HR ⊢
      have hRj : (ptrs (List.map (fun x => x.g) (fs0 ++ [f])) ++ [Value.pointer (some ⟨g, 0, none⟩)])[j]? = some (.pointer (some ⟨f.g, 0, none⟩)) := by
        rw [hj]; simp [ptrs]
      have hRt : Rw w1 1 B j (ptrs (fs0.map (·.g))) := by
        have := HR.out.take_ (i := j) (by omega)
        rw [Nat.mul_one, hj] at this
        simpa [ptrs, hj] using this
      have HRT := hide hRt
      obtain ⟨b, o, rfl, hbl, u, hu, k0⟩ := HR.out.one (i := j) (by omega)
      rw [hRj] at hu
      injection hu with hu
      rw [← hu] at k0
      have K0 := hide (fun (W : World) (hW : Below w1.heap.size w1 W) => ((hW.cell (p := ⟨b, o + j, none⟩) hbl).trans k0))
      obtain ⟨e2, hin, hi0, hi7, e5, e6, hin', ne1⟩ := idx2 (j := j) (n := n) (hn.trans (by rw [hj])) (by rw [hj]; exact hl0)
      have hjd : j ≤ d := Nat.le_trans (Nat.le_of_lt hin) hcap
      have r2s := fun W => run_slice_to (P := Try.prog) (w := W) Try.underlying51 (sz := 1) Try.sizeOf54 (some ⟨b, o, none⟩) n d j hjd
      have HJ := hide hj
      clear hW hcap hlen c1 c2 c3 hFk hq hqa hqx hq1 hfs0 hn hRj hRt hu hj
      go_wp2_with fail
      refine HFO.out.mono ?_
      rintro e w2 ⟨⟨C, m, cc, rfl⟩, hb2⟩
      have hb3 := below_alloc (below_then HB.out hb2) (Nat.le_refl _) (.cells #[.slice C m cc, .int .u64 (v0 : Int)] 59)
      have hq3 := below_alloc hb2 (Nat.le_refl _) (.cells #[.slice C m cc, .int .u64 (v0 : Int)] 59)
      have HB3 := hide hb3
      have HQ3 := hide hq3
      have k0 := K0.out _ hq3
      have HL := hide (HLV.out _ hb3)
      have HA := hide (HAD.out _ hb3)
      have HN := hide (HLS.out _ hb3)
      clear hb2 hb3 hq3 HFO
      go_wp2_with fail
      refine HL.out.mono ?_
      rintro e w3 ⟨rfl, rfl⟩
      go_wp2_with fail
      refine HA.out.mono ?_
      rintro e w3 ⟨rfl, rfl⟩
      go_wp2_with fail
      refine HN.out.mono ?_
      rintro e w4 ⟨gn, nn, rfl, hN4, hes4, hz4, hl4, ha4, hb4, hle4⟩
      have hb4' := below_then HB3.out hb4
      have hq4 := below_then HQ3.out hb4
      have hPL := del_fork (bot := none) HZ.out (fun f hf => (HF0.out f hf).fk) HFK.out HCW.out HQ1.out hes4 hz4 hl4 ha4
      have HME := hide hPL.2
      have hla : ∀ f' ∈ fs0.getLast?, FitsAt p f' nn := fits_del HZ.out (fun f hf => (HF0.out f hf).fk) HFK.out HCW.out hz4 hl4 ha4
      have hfit : ∀ (i : Nat) (f1 f2 : PF), fs0[i]? = some f1 → fs0[i + 1]? = some f2 → FitsAt p f1 f2.nt := fun i f1 f2 h1 h2 => Way.fits HZ.out (fun f hf => (HF0.out f hf).fk) HCW.out h1 h2
      have HLA := hide hla
      have HFIT := hide hfit
      have HLE := hide hle4
      have HN4 := hide hN4
      have HUP := hide (tr_up_on (p := p) fs0 (gn, nn) (some ⟨b, o, none⟩) j d (HTB.out.below hb4') hk1 hk (HRT.out.below hq4) HJ.out.symm (by have := HJ.out; omega) (fun f hf => (HF0.out f hf).stay hb4') hN4 hfit hla)
      have HB4 := hide hb4'
      clear hN4 hb4 hb4' hq4 hPL HL HA HN k0 hes4 hz4 hl4 ha4 hla hfit hle4
      go_wp2_with fail
      refine HUP.out.mono ?_
      rintro e w5 ⟨t', fs', rfl, ht', hT5, hU5, hF5, hb5⟩
      have HH := hide (And.intro ht' (And.intro hT5 (And.intro hU5 (And.intro hF5 hb5))))
      clear ht' hT5 hU5 hF5 hb5
      go_wp2
      go_ret2
      obtain ⟨ht', hT5, hU5, hF5, hb5⟩ := HH.out
      have hnt := hU5.nt HFIT.out HLA.out
      have hNT := pTop_node (x := (gn, nn)) hF5 (HN4.out.stay hb5)
      refine ⟨.inr ⟨t', (pTop fs' (gn, nn)).2.es, v0, rfl, ⟨hk1, hk, .inr ⟨_, _, _, hT5, hNT⟩⟩, HIN.out, ?_, .inr ⟨fs0, f, fs', (gn, nn), rfl, hT5, hU5, hF5, HN4.out.stay hb5, HLE.out.stay hb5⟩⟩, below_then HB4.out hb5⟩
      rw [hnt, ← HES.out]
      exact HME.out
end
section
open Go.RowKit
def DoneOutX (w : World) (k t n : Nat) (X : Nat → World → Prop) (e : Ending) (w' : World) : Prop :=
  ∃ (t' : Nat) (A' : Option Addr) (n' c' : Nat), e = .returned (.tuple #[.pointer (some ⟨t', 0, none⟩), .slice A' n' c', .bool true]) ∧ Now w' k t' A' n' c' ∧ n' ≤ n + 1 ∧ Below w.heap.size w w' ∧ (t' = t ∨ X t' w')
set_option maxHeartbeats 4000000 in
set_option maxRecDepth 100000 in
theorem done_del_x {w : World} {t n c : Nat} {A : Option Addr} {rows : List ER} {es : List Ent} {RA : Option Addr} {Rn Rc v : Nat} {p : List Nat} {X : Nat → World → Prop} (hT : TreeOf w Rn t es) (hE : EntsAt w A n rows) (hnc : n ≤ c) (hS : SortR Rn rows) (hkk : ∀ r ∈ rows, r.n = Rn) (hes : ents rows = es) (hn : n ≤ 1000) (hp : Pt w RA Rn p) (hc : Rn ≤ Rc) (hm : Rc ≤ maxLen) (hv : v < 2 ^ 64)
    (hXS : ∀ (t' : Nat) (W W' : World), Below W.heap.size W W' → X t' W → X t' W') (hD0 : ∀ W, Below w.heap.size w W → Calls Try.prog 71 #[.pointer (some ⟨t, 0, none⟩), .slice RA Rn Rc] W (DelOutX W t Rn p es X)) :
    Calls Try.prog 63 #[.pointer (some ⟨t, 0, none⟩), .slice A n c, .agg #[.bool true, .slice RA Rn Rc, .int .u64 (v : Int)]] w (DoneOutX w Rn t n X) := by
  have HD0 := hide hD0
  have HXS := hide hXS
  clear hD0 hXS
  obtain ⟨root, hTB⟩ := hT.blk
  have b1 := (Below.refl w.heap.size w).alloc (Nat.le_refl _) (.cells #[.bool true, .slice RA Rn Rc, .int .u64 (v : Int)] 94)
  have hA := Blk.new w 94 #[.bool true, .slice RA Rn Rc, .int .u64 (v : Int)]
  have HB1 := hide b1
  have HTB := hide hTB
  have HT := hide hT
  have HE := hide hE
  have HS := hide hS
  have HKK := hide hkk
  have HES := hide hes
  have HP := hide hp
  have HNC := hide hnc
  clear hT hE hS hkk hes hTB hp b1 hnc
  go_enter Try.func63, Try.ntmps63
  go_upto_region 1 with fail
  generalize w.alloc (.cells #[.bool true, .slice RA Rn Rc, .int .u64 (v : Int)] 94) = w1 at *
  have HK := hide (tr_k (Blk.below HTB.out HB1.out))
  have y0 := hA.cell 0
  have y1 := hA.cell 1
  have y2 := hA.cell 2
  simp at y0 y1 y2
  have HA := hide hA
  clear hA
  go_wp2_with fail
  refine HK.out.mono ?_
  rintro e w2 ⟨rfl, rfl⟩
  have HZ := hide HP.out.zp
  have HD := hide (HD0.out w1 HB1.out)
  have hk16 : Rn ≤ 16 := HT.out.2.1
  clear HK
  go_wp2_with fail
  refine HD.out.mono ?_
  rintro e w2 ⟨⟨rfl, hno⟩ | ⟨t', es', v', rfl, hT', hin, hmem, hx⟩, hb2⟩
  · have c2 := below_then HB1.out hb2
    have HC2 := hide c2
    have hA2 := HA.out.below hb2
    have y0 := hA2.cell 0
    have y1 := hA2.cell 1
    have y2 := hA2.cell 2
    simp at y0 y1 y2
    have HG := hide (ref_get A RA n c Rn Rc rows p w2 (HE.out.below c2) HKK.out (HP.out.below c2) (by omega) (by omega))
    have HNO := hide hno
    clear hA2 c2 hb2 HD hno
    go_wp2_with fail
    refine HG.out.mono ?_
    rintro e w3 ⟨⟨v3, ok, rfl, hok, h0, h1⟩, rfl⟩
    have hokf : ok = false := by
      rw [hok]
      cases hh : hasR rows p with
      | false => rfl
      | true =>
        obtain ⟨v, hv⟩ := (has_iff HS.out HES.out HZ.out).1 hh
        exact absurd hv (HNO.out v)
    subst hokf
    clear hok h0 h1 HG
    go_wp2
    go_ret3
    exact ⟨t, A, n, c, rfl, ⟨rows, es, HT.out.stay HC2.out, HE.out.below HC2.out, HNC.out, HS.out, HKK.out, HES.out⟩, by omega, HC2.out, .inl rfl⟩
  · have c2 := below_then HB1.out hb2
    have HC2 := hide c2
    have hA2 := HA.out.below hb2
    have y0 := hA2.cell 0
    have y1 := hA2.cell 1
    have y2 := hA2.cell 2
    simp at y0 y1 y2
    have HG := hide (ref_get A RA n c Rn Rc rows p w2 (HE.out.below c2) HKK.out (HP.out.below c2) (by omega) (by omega))
    have HRD := hide (ref_del A RA n c Rn Rc rows p w2 (HE.out.below c2) HNC.out HKK.out (HP.out.below c2) (by omega) (by omega))
    have HIN := hide hin
    have HMEM := hide hmem
    have HT' := hide hT'
    have HX := hide hx
    clear hx
    clear hA2 c2 hb2 HD hin hmem hT'
    go_wp2_with fail
    refine HG.out.mono ?_
    rintro e w3 ⟨⟨v3, ok, rfl, hok, h0, h1⟩, rfl⟩
    have hokf : ok = true := by
      rw [hok]
      exact (has_iff HS.out HES.out HZ.out).2 ⟨v', HIN.out⟩
    subst hokf
    clear hok h0 h1 HG
    go_wp2_with fail
    refine HRD.out.mono ?_
    rintro e w4 ⟨A', n', c', rfl, hE', hnc', hn', hb4⟩
    have HH := hide (And.intro hE' (And.intro hnc' (And.intro hn' hb4)))
    clear hE' hnc' hn' hb4 HRD
    go_wp2
    go_ret3
    obtain ⟨hE', hnc', hn', hb4⟩ := HH.out
    exact ⟨t', A', n', c', rfl, now_del HS.out HKK.out HES.out HZ.out (HT'.out.stay hb4) HMEM.out hE' hnc', by omega, below_then HC2.out hb4, .inr (HXS.out t' w2 _ hb4 HX.out)⟩
set_option maxHeartbeats 4000000 in
set_option maxRecDepth 100000 in
theorem done_put_x {w : World} {t n c : Nat} {A : Option Addr} {rows : List ER} {es : List Ent} {RA : Option Addr} {Rn Rc v : Nat} {p : List Nat} {X : Nat → World → Prop} (hT : TreeOf w Rn t es) (hE : EntsAt w A n rows) (hnc : n ≤ c) (hS : SortR Rn rows) (hkk : ∀ r ∈ rows, r.n = Rn) (hes : ents rows = es) (hn : n ≤ 1000) (hp : Pt w RA Rn p) (hc : Rn ≤ Rc) (hm : Rc ≤ maxLen) (hv : v < 2 ^ 64)
    (hXS : ∀ (t' : Nat) (W W' : World), Below W.heap.size W W' → X t' W → X t' W') (hD0 : ∀ W, Below w.heap.size w W → Calls Try.prog 70 #[.pointer (some ⟨t, 0, none⟩), .slice RA Rn Rc, .int .u64 (v : Int)] W (PutOutX W t Rn p v es X)) :
    Calls Try.prog 63 #[.pointer (some ⟨t, 0, none⟩), .slice A n c, .agg #[.bool false, .slice RA Rn Rc, .int .u64 (v : Int)]] w (DoneOutX w Rn t n X) := by
  have HD0 := hide hD0
  have HXS := hide hXS
  clear hD0 hXS
  obtain ⟨root, hTB⟩ := hT.blk
  have b1 := (Below.refl w.heap.size w).alloc (Nat.le_refl _) (.cells #[.bool false, .slice RA Rn Rc, .int .u64 (v : Int)] 94)
  have hA := Blk.new w 94 #[.bool false, .slice RA Rn Rc, .int .u64 (v : Int)]
  have HB1 := hide b1
  have HTB := hide hTB
  have HT := hide hT
  have HE := hide hE
  have HS := hide hS
  have HKK := hide hkk
  have HES := hide hes
  have HP := hide hp
  have HNC := hide hnc
  have HSO := hide hT.sorted.1
  clear hT hE hS hkk hes hTB hp b1 hnc
  go_enter Try.func63, Try.ntmps63
  go_upto_region 1 with fail
  generalize w.alloc (.cells #[.bool false, .slice RA Rn Rc, .int .u64 (v : Int)] 94) = w1 at *
  have HK := hide (tr_k (Blk.below HTB.out HB1.out))
  have y0 := hA.cell 0
  have y1 := hA.cell 1
  have y2 := hA.cell 2
  simp at y0 y1 y2
  have HA := hide hA
  clear hA
  go_wp2_with fail
  refine HK.out.mono ?_
  rintro e w2 ⟨rfl, rfl⟩
  have HZ := hide HP.out.zp
  have HD := hide (HD0.out w1 HB1.out)
  have hk16 : Rn ≤ 16 := HT.out.2.1
  clear HK
  go_wp2_with fail
  refine HD.out.mono ?_
  rintro e w2 ⟨t', es', rfl, hT', hmem, htt, hb2, hx⟩
  have HX := hide hx
  clear hx
  have c2 := below_then HB1.out hb2
  have HC2 := hide c2
  have hA2 := HA.out.below hb2
  have y0 := hA2.cell 0
  have y1 := hA2.cell 1
  have y2 := hA2.cell 2
  simp at y0 y1 y2
  have hal : w.heap.size < w2.heap.size := hA2.lt
  have HG := hide (ref_get A RA n c Rn Rc rows p w2 (HE.out.below c2) HKK.out (HP.out.below c2) (by omega) (by omega))
  have HRP := hide (ref_put A RA n c Rn Rc v rows p w2.drew ((HE.out.below c2).below (Below.refl _ w2).drew) HNC.out HKK.out ((HP.out.below c2).below (Below.refl _ w2).drew) hc hm (by omega) (by omega) hv)
  have HMEM := hide hmem
  have HT' := hide hT'
  have HTT := hide htt
  obtain ⟨root', hTB'⟩ := hT'.blk
  have HQ := hide (fun (W : World) (hW : Below w2.heap.size w2 W) => tptr_run (Blk.below hTB' hW) (Blk.below (Blk.below HTB.out c2) hW))
  clear hA2 c2 hb2 HD hmem hT' htt hTB'
  go_wp2_with fail
  refine HG.out.mono ?_
  rintro e w3 ⟨⟨v3, ok, rfl, hok, h0, h1⟩, rfl⟩
  clear HG
  cases ok with
  | false =>
    have hne : t' ≠ t := fun h => by
      have h2 := (has_iff HS.out HES.out HZ.out).2 ⟨v, HTT.out.1 h⟩
      rw [← hok] at h2
      cases h2
    clear h1
    have hq0 := HQ.out w2 (Below.refl _ _)
    rw [show decide (t' = t) = false by simp [hne]] at hq0
    have HQB := hide (fun W hW => by have := HQ.out W hW; rw [show decide (t' = t) = false by simp [hne]] at this; exact this)
    have hk0 := And.intro (show w2.drew.cell? ⟨w.heap.size, 1, none⟩ = _ from y1) (And.intro (show w2.drew.cell? ⟨w.heap.size, 2, none⟩ = _ from y2) (HQB.out w2.drew (Below.refl _ _).drew))
    clear HQ hok hne
    go_wp2_with fail
    refine wp_region_held_drew (S := (fun w' => w'.cell? ⟨w.heap.size, 1, none⟩ = some (.slice RA Rn Rc) ∧ w'.cell? ⟨w.heap.size, 2, none⟩ = some (.int .u64 (v : Int)) ∧ (binOp .eql 88 (.pointer (some ⟨t', 0, none⟩)) (.pointer (some ⟨t, 0, none⟩))).run Try.prog w' = .ok (.bool false) w')) (by kernel_rfl) hk0 (fun hHeld => ?_)
    refine wpAnyH_take (i := 0) (oi := { dst := some 99, op := _, type := _, pos := _, after := _, guard := _ }) (v := ?_) rfl (by kernel_rfl) (by kernel_rfl) (by kernel_rfl) (fun _ _ _ h => h) (Or.inl ⟨by rfl, ?_⟩) (by assumption) ?_
    rotate_left 1
    · intro wS hSw
      try dsimp only at hSw
      go_simp
      all_goals with_reducible rfl
    try simp only [Act.put, List.setIfInBounds_toArray, List.set_cons_zero, List.set_cons_succ]
    refine wpAnyH_take (i := 1) (oi := { dst := some 100, op := _, type := _, pos := _, after := _, guard := _ }) (v := ?_) rfl (by kernel_rfl) (by kernel_rfl) (by kernel_rfl) (fun _ _ _ h => h) (Or.inl ⟨by rfl, ?_⟩) (by assumption) ?_
    rotate_left 1
    · intro wS hSw
      try dsimp only at hSw
      go_simp
      all_goals with_reducible rfl
    try simp only [Act.put, List.setIfInBounds_toArray, List.set_cons_zero, List.set_cons_succ]
    refine wpAnyH_take (i := 2) (oi := { dst := some 101, op := _, type := _, pos := _, after := _, guard := _ }) (v := ?_) rfl (by kernel_rfl) (by kernel_rfl) (by kernel_rfl) (fun _ _ _ h => h) (Or.inl ⟨by rfl, ?_⟩) (by assumption) ?_
    rotate_left 1
    · intro wS hSw
      try dsimp only at hSw
      go_simp
      all_goals with_reducible rfl
    try simp only [Act.put, List.setIfInBounds_toArray, List.set_cons_zero, List.set_cons_succ]
    refine wpAnyH_take (i := 3) (oi := { dst := some 102, op := _, type := _, pos := _, after := _, guard := _ }) (v := ?_) rfl (by kernel_rfl) (by kernel_rfl) (by kernel_rfl) (fun _ _ _ h => h) (Or.inl ⟨by rfl, ?_⟩) (by assumption) ?_
    rotate_left 1
    · intro wS hSw
      try dsimp only at hSw
      go_simp
      all_goals with_reducible rfl
    try simp only [Act.put, List.setIfInBounds_toArray, List.set_cons_zero, List.set_cons_succ]
    refine wpAnyH_take (i := 4) (oi := { dst := some 103, op := _, type := _, pos := _, after := _, guard := _ }) (v := ?_) rfl (by kernel_rfl) (by kernel_rfl) (by kernel_rfl) (fun _ _ _ h => h) (Or.inl ⟨by rfl, ?_⟩) (by assumption) ?_
    rotate_left 1
    · intro wS hSw
      try dsimp only at hSw
      go_simp
      all_goals with_reducible rfl
    try simp only [Act.put, List.setIfInBounds_toArray, List.set_cons_zero, List.set_cons_succ]
    refine wpAnyH_take (i := 5) (oi := { dst := some 104, op := _, type := _, pos := _, after := _, guard := _ }) (v := ?_) rfl (by kernel_rfl) (by kernel_rfl) (by kernel_rfl) (fun _ _ _ h => h) (Or.inl ⟨by rfl, ?_⟩) (by assumption) ?_
    rotate_left 1
    · intro wS hSw
      try dsimp only at hSw
      go_simp
      all_goals with_reducible rfl
    try simp only [Act.put, List.setIfInBounds_toArray, List.set_cons_zero, List.set_cons_succ]
    refine wpAnyH_take (i := 7) (oi := { dst := some 106, op := _, type := _, pos := _, after := _, guard := _ }) (v := ?_) rfl (by kernel_rfl) (by kernel_rfl) (by kernel_rfl) (fun _ _ _ h => h) (Or.inl ⟨by rfl, ?_⟩) (by assumption) ?_
    rotate_left 1
    · intro wS hSw
      try dsimp only at hSw
      go_simp
      all_goals with_reducible rfl
    try simp only [Act.put, List.setIfInBounds_toArray, List.set_cons_zero, List.set_cons_succ]
    refine wpAnyH_take (i := 8) (oi := { dst := some 107, op := _, type := _, pos := _, after := _, guard := _ }) (v := ?_) rfl (by kernel_rfl) (by kernel_rfl) (by kernel_rfl) (fun _ _ _ h => h) (Or.inl ⟨by rfl, ?_⟩) (by assumption) ?_
    rotate_left 1
    · intro wS hSw
      try dsimp only at hSw
      go_simp
      all_goals with_reducible rfl
    try simp only [Act.put, List.setIfInBounds_toArray, List.set_cons_zero, List.set_cons_succ]
    refine wpAnyH_ready (rs := [6]) (by kernel_rfl) (by simp) ?_
    refine AllReadyH.cons (o := { dst := some 105, op := _, type := _, pos := _, after := _, guard := _ }) rfl (fun K hK => ?_) ?_
    · go_simp
      go_at_call 98
      refine HRP.out.mono ?_
      rintro e w5 ⟨A', n', c', rfl, hE', hnc', hn', hb5⟩
      have hd5 : Below w2.heap.size w2 w5 := (Below.refl _ w2).drew.trans hb5
      have HH := hide (And.intro hE' (And.intro hnc' (And.intro hn' hd5)))
      have hk5 := And.intro ((hd5.cell (p := ⟨w.heap.size, 1, none⟩) hal).trans y1) (And.intro ((hd5.cell (p := ⟨w.heap.size, 2, none⟩) hal).trans y2) (HQB.out w5 hd5))
      clear hE' hnc' hn' hb5
      try go_wp2_with fail
      refine hK.out _ _ ?_ (fun hHeld => ?_)
      · exact hk5
      clear hK K
      try simp only [Act.put, List.setIfInBounds_toArray, List.set_cons_zero, List.set_cons_succ]
      refine wpAnyH_take (i := 9) (oi := { dst := some 108, op := _, type := _, pos := _, after := _, guard := _ }) (v := ?_) rfl (by kernel_rfl) (by kernel_rfl) (by kernel_rfl) (fun _ _ _ h => h) (Or.inl ⟨by rfl, ?_⟩) (by assumption) ?_
      rotate_left 1
      · intro wS hSw
        try dsimp only at hSw
        go_simp
        all_goals with_reducible rfl
      try simp only [Act.put, List.setIfInBounds_toArray, List.set_cons_zero, List.set_cons_succ]
      refine wpAnyH_take (i := 10) (oi := { dst := some 109, op := _, type := _, pos := _, after := _, guard := _ }) (v := ?_) rfl (by kernel_rfl) (by kernel_rfl) (by kernel_rfl) (fun _ _ _ h => h) (Or.inl ⟨by rfl, ?_⟩) (by assumption) ?_
      rotate_left 1
      · intro wS hSw
        try dsimp only at hSw
        go_simp
        all_goals with_reducible rfl
      try simp only [Act.put, List.setIfInBounds_toArray, List.set_cons_zero, List.set_cons_succ]
      refine wpAnyH_take (i := 11) (oi := { dst := some 110, op := _, type := _, pos := _, after := _, guard := _ }) (v := ?_) rfl (by kernel_rfl) (by kernel_rfl) (by kernel_rfl) (fun _ _ _ h => h) (Or.inl ⟨by rfl, ?_⟩) (by assumption) ?_
      rotate_left 1
      · intro wS hSw
        try dsimp only at hSw
        go_simp
        all_goals with_reducible rfl
      try simp only [Act.put, List.setIfInBounds_toArray, List.set_cons_zero, List.set_cons_succ]
      refine wpAnyH_take (i := 12) (oi := { dst := some 111, op := _, type := _, pos := _, after := _, guard := _ }) (v := ?_) rfl (by kernel_rfl) (by kernel_rfl) (by kernel_rfl) (fun _ _ _ h => h) (Or.inl ⟨by rfl, ?_⟩) (by assumption) ?_
      rotate_left 1
      · intro wS hSw
        try dsimp only at hSw
        go_simp
        all_goals with_reducible rfl
      try simp only [Act.put, List.setIfInBounds_toArray, List.set_cons_zero, List.set_cons_succ]
      refine wpAnyH_take (i := 13) (oi := { dst := some 112, op := _, type := _, pos := _, after := _, guard := _ }) (v := ?_) rfl (by kernel_rfl) (by kernel_rfl) (by kernel_rfl) (fun _ _ _ h => h) (Or.inl ⟨by rfl, ?_⟩) (by assumption) ?_
      rotate_left 1
      · intro wS hSw
        try dsimp only at hSw
        go_simp
        all_goals with_reducible rfl
      try simp only [Act.put, List.setIfInBounds_toArray, List.set_cons_zero, List.set_cons_succ]
      refine wpAnyH_take (i := 14) (oi := { dst := some 113, op := _, type := _, pos := _, after := _, guard := _ }) (v := ?_) rfl (by kernel_rfl) (by kernel_rfl) (by kernel_rfl) (fun _ _ _ h => h) (Or.inl ⟨by rfl, ?_⟩) (by assumption) ?_
      rotate_left 1
      · intro wS hSw
        try dsimp only at hSw
        go_simp
        all_goals with_reducible rfl
      try simp only [Act.put, List.setIfInBounds_toArray, List.set_cons_zero, List.set_cons_succ]
      refine wpAnyH_take (i := 15) (oi := { dst := some 114, op := _, type := _, pos := _, after := _, guard := _ }) (v := ?_) rfl (by kernel_rfl) (by kernel_rfl) (by kernel_rfl) (fun _ _ _ h => h) (Or.inl ⟨by rfl, ?_⟩) (by assumption) ?_
      rotate_left 1
      · intro wS hSw
        try dsimp only at hSw
        go_simp
        all_goals with_reducible rfl
      try simp only [Act.put, List.setIfInBounds_toArray, List.set_cons_zero, List.set_cons_succ]
      refine wpAnyH_take (i := 16) (oi := { dst := some 115, op := _, type := _, pos := _, after := _, guard := _ }) (v := undef) rfl (by kernel_rfl) (by kernel_rfl) (by kernel_rfl) (fun _ _ _ h => h) (Or.inr ⟨by rfl, rfl⟩) (by assumption) ?_
      try simp only [Act.put, List.setIfInBounds_toArray, List.set_cons_zero, List.set_cons_succ]
      refine wpAnyH_take (i := 17) (oi := { dst := some 116, op := _, type := _, pos := _, after := _, guard := _ }) (v := undef) rfl (by kernel_rfl) (by kernel_rfl) (by kernel_rfl) (fun _ _ _ h => h) (Or.inr ⟨by rfl, rfl⟩) (by assumption) ?_
      try simp only [Act.put, List.setIfInBounds_toArray, List.set_cons_zero, List.set_cons_succ]
      refine wpAnyH_take (i := 18) (oi := { dst := some 117, op := _, type := _, pos := _, after := _, guard := _ }) (v := undef) rfl (by kernel_rfl) (by kernel_rfl) (by kernel_rfl) (fun _ _ _ h => h) (Or.inr ⟨by rfl, rfl⟩) (by assumption) ?_
      try simp only [Act.put, List.setIfInBounds_toArray, List.set_cons_zero, List.set_cons_succ]
      refine wpAnyH_take (i := 19) (oi := { dst := some 118, op := _, type := _, pos := _, after := _, guard := _ }) (v := undef) rfl (by kernel_rfl) (by kernel_rfl) (by kernel_rfl) (fun _ _ _ h => h) (Or.inr ⟨by rfl, rfl⟩) (by assumption) ?_
      try simp only [Act.put, List.setIfInBounds_toArray, List.set_cons_zero, List.set_cons_succ]
      refine wpAnyH_take (i := 20) (oi := { dst := some 119, op := _, type := _, pos := _, after := _, guard := _ }) (v := ?_) rfl (by kernel_rfl) (by kernel_rfl) (by kernel_rfl) (fun _ _ _ h => h) (Or.inl ⟨by rfl, ?_⟩) (by assumption) ?_
      rotate_left 1
      · intro wS hSw
        try dsimp only at hSw
        go_simp
        all_goals with_reducible rfl
      try simp only [Act.put, List.setIfInBounds_toArray, List.set_cons_zero, List.set_cons_succ]
      refine wpAnyH_take (i := 21) (oi := { dst := some 120, op := _, type := _, pos := _, after := _, guard := _ }) (v := ?_) rfl (by kernel_rfl) (by kernel_rfl) (by kernel_rfl) (fun _ _ _ h => h) (Or.inl ⟨by rfl, ?_⟩) (by assumption) ?_
      rotate_left 1
      · intro wS hSw
        try dsimp only at hSw
        go_simp
        all_goals with_reducible rfl
      try simp only [Act.put, List.setIfInBounds_toArray, List.set_cons_zero, List.set_cons_succ]
      refine wpAnyH_take (i := 22) (oi := { dst := some 121, op := _, type := _, pos := _, after := _, guard := _ }) (v := ?_) rfl (by kernel_rfl) (by kernel_rfl) (by kernel_rfl) (fun _ _ _ h => h) (Or.inl ⟨by rfl, ?_⟩) (by assumption) ?_
      rotate_left 1
      · intro wS hSw
        try dsimp only at hSw
        go_simp
        all_goals with_reducible rfl
      try simp only [Act.put, List.setIfInBounds_toArray, List.set_cons_zero, List.set_cons_succ]
      refine wpAnyH_take (i := 23) (oi := { dst := some 122, op := _, type := _, pos := _, after := _, guard := _ }) (v := ?_) rfl (by kernel_rfl) (by kernel_rfl) (by kernel_rfl) (fun _ _ _ h => h) (Or.inl ⟨by rfl, ?_⟩) (by assumption) ?_
      rotate_left 1
      · intro wS hSw
        try dsimp only at hSw
        go_simp
        all_goals with_reducible rfl
      try simp only [Act.put, List.setIfInBounds_toArray, List.set_cons_zero, List.set_cons_succ]
      refine wpAnyH_take (i := 24) (oi := { dst := some 123, op := _, type := _, pos := _, after := _, guard := _ }) (v := ?_) rfl (by kernel_rfl) (by kernel_rfl) (by kernel_rfl) (fun _ _ _ h => h) (Or.inl ⟨by rfl, ?_⟩) (by assumption) ?_
      rotate_left 1
      · intro wS hSw
        try dsimp only at hSw
        go_simp
        all_goals with_reducible rfl
      try simp only [Act.put, List.setIfInBounds_toArray, List.set_cons_zero, List.set_cons_succ]
      refine wpAnyH_take (i := 25) (oi := { dst := some 124, op := _, type := _, pos := _, after := _, guard := _ }) (v := ?_) rfl (by kernel_rfl) (by kernel_rfl) (by kernel_rfl) (fun _ _ _ h => h) (Or.inl ⟨by rfl, ?_⟩) (by assumption) ?_
      rotate_left 1
      · intro wS hSw
        try dsimp only at hSw
        go_simp
        all_goals with_reducible rfl
      try simp only [Act.put, List.setIfInBounds_toArray, List.set_cons_zero, List.set_cons_succ]
      refine wpAnyH_take (i := 26) (oi := { dst := some 6, op := _, type := _, pos := _, after := _, guard := _ }) (v := ?_) rfl (by kernel_rfl) (by kernel_rfl) (by kernel_rfl) (fun _ _ _ h => h) (Or.inl ⟨by rfl, ?_⟩) (by assumption) ?_
      rotate_left 1
      · intro wS hSw
        try dsimp only at hSw
        go_simp
        all_goals with_reducible rfl
      try simp only [Act.put, List.setIfInBounds_toArray, List.set_cons_zero, List.set_cons_succ]
      refine wpAnyH_take (i := 27) (oi := { dst := some 7, op := _, type := _, pos := _, after := _, guard := _ }) (v := ?_) rfl (by kernel_rfl) (by kernel_rfl) (by kernel_rfl) (fun _ _ _ h => h) (Or.inl ⟨by rfl, ?_⟩) (by assumption) ?_
      rotate_left 1
      · intro wS hSw
        try dsimp only at hSw
        go_simp
        all_goals with_reducible rfl
      try simp only [Act.put, List.setIfInBounds_toArray, List.set_cons_zero, List.set_cons_succ]
      refine wpAnyH_take (i := 28) (oi := { dst := some 8, op := _, type := _, pos := _, after := _, guard := _ }) (v := ?_) rfl (by kernel_rfl) (by kernel_rfl) (by kernel_rfl) (fun _ _ _ h => h) (Or.inl ⟨by rfl, ?_⟩) (by assumption) ?_
      rotate_left 1
      · intro wS hSw
        try dsimp only at hSw
        go_simp
        all_goals with_reducible rfl
      try simp only [Act.put, List.setIfInBounds_toArray, List.set_cons_zero, List.set_cons_succ]
      refine wpAnyH_done (by kernel_rfl) ?_ _
      go_wp2
      go_ret3
      obtain ⟨hE', hnc', hn', hb4⟩ := HH.out
      exact ⟨t', A', n', c', rfl, now_put HS.out HKK.out HES.out HZ.out rfl (HT'.out.stay hb4) HMEM.out hE' hnc', by omega, below_then HC2.out hb4, .inr (HXS.out t' w2 _ hb4 HX.out)⟩
    · exact AllReadyH.nil
  | true =>
    obtain ⟨r, hr, hrv⟩ := h1 rfl
    have hin := has_val HS.out HES.out HZ.out hok.symm hr
    rw [hrv] at hin
    by_cases hvv : v3 = v
    · subst hvv
      have htt : t' = t := HTT.out.2 hin
      clear h1 h0 hr hrv hin
      have hq0 := HQ.out w2 (Below.refl _ _)
      rw [show decide (t' = t) = true by simp [htt]] at hq0
      have HQB := hide (fun W hW => by have := HQ.out W hW; rw [show decide (t' = t) = true by simp [htt]] at this; exact this)
      have hk0 := And.intro (show w2.drew.cell? ⟨w.heap.size, 1, none⟩ = _ from y1) (And.intro (show w2.drew.cell? ⟨w.heap.size, 2, none⟩ = _ from y2) (HQB.out w2.drew (Below.refl _ _).drew))
      clear HQ hok
      clear htt
      go_wp2_with fail
      first
        | go_region_held3 (fun w' => w'.cell? ⟨w.heap.size, 1, none⟩ = some (.slice RA Rn Rc) ∧ w'.cell? ⟨w.heap.size, 2, none⟩ = some (.int .u64 (v3 : Int)) ∧ (binOp .eql 88 (.pointer (some ⟨t', 0, none⟩)) (.pointer (some ⟨t, 0, none⟩))).run Try.prog w' = .ok (.bool true) w')
            (first
              | go_keep
              | exact hk5
              | exact hk0)
            (first
              | (go_at_call 98
                 refine HRP.out.mono ?_
                 rintro e w5 ⟨A', n', c', rfl, hE', hnc', hn', hb5⟩
                 have hd5 : Below w2.heap.size w2 w5 := (Below.refl _ w2).drew.trans hb5
                 have HH := hide (And.intro hE' (And.intro hnc' (And.intro hn' hd5)))
                 have hk5 := And.intro ((hd5.cell (p := ⟨w.heap.size, 1, none⟩) hal).trans y1) (And.intro ((hd5.cell (p := ⟨w.heap.size, 2, none⟩) hal).trans y2) (HQB.out w5 hd5))
                 clear hE' hnc' hn' hb5))
        | fail
      all_goals
        go_wp2
        go_ret3
        obtain ⟨hE', hnc', hn', hb4⟩ := HH.out
        exact ⟨t', A', n', c', rfl, now_put HS.out HKK.out HES.out HZ.out rfl (HT'.out.stay hb4) HMEM.out hE' hnc', by omega, below_then HC2.out hb4, .inr (HXS.out t' w2 _ hb4 HX.out)⟩
    · have hne : t' ≠ t := fun h => hvv (uniq_val HSO.out hin (HTT.out.1 h))
      have ev : ((v3 : Int) == (v : Int)) = false := by simp; omega
      clear h1 hr hrv hin hvv
      have hq0 := HQ.out w2 (Below.refl _ _)
      rw [show decide (t' = t) = false by simp [hne]] at hq0
      have HQB := hide (fun W hW => by have := HQ.out W hW; rw [show decide (t' = t) = false by simp [hne]] at this; exact this)
      have hk0 := And.intro (show w2.drew.cell? ⟨w.heap.size, 1, none⟩ = _ from y1) (And.intro (show w2.drew.cell? ⟨w.heap.size, 2, none⟩ = _ from y2) (HQB.out w2.drew (Below.refl _ _).drew))
      clear HQ hok
      clear hne
      go_wp2_with fail
      first
        | go_region_held3 (fun w' => w'.cell? ⟨w.heap.size, 1, none⟩ = some (.slice RA Rn Rc) ∧ w'.cell? ⟨w.heap.size, 2, none⟩ = some (.int .u64 (v : Int)) ∧ (binOp .eql 88 (.pointer (some ⟨t', 0, none⟩)) (.pointer (some ⟨t, 0, none⟩))).run Try.prog w' = .ok (.bool false) w')
            (first
              | go_keep
              | exact hk5
              | exact hk0)
            (first
              | (go_at_call 98
                 refine HRP.out.mono ?_
                 rintro e w5 ⟨A', n', c', rfl, hE', hnc', hn', hb5⟩
                 have hd5 : Below w2.heap.size w2 w5 := (Below.refl _ w2).drew.trans hb5
                 have HH := hide (And.intro hE' (And.intro hnc' (And.intro hn' hd5)))
                 have hk5 := And.intro ((hd5.cell (p := ⟨w.heap.size, 1, none⟩) hal).trans y1) (And.intro ((hd5.cell (p := ⟨w.heap.size, 2, none⟩) hal).trans y2) (HQB.out w5 hd5))
                 clear hE' hnc' hn' hb5))
        | fail
      all_goals
        go_wp2
        go_ret3
        obtain ⟨hE', hnc', hn', hb4⟩ := HH.out
        exact ⟨t', A', n', c', rfl, now_put HS.out HKK.out HES.out HZ.out rfl (HT'.out.stay hb4) HMEM.out hE' hnc', by omega, below_then HC2.out hb4, .inr (HXS.out t' w2 _ hb4 HX.out)⟩
end
section
open Go.RowKit
theorem ptr_eq_nil7 (w : World) : (binOp .neq 54 (.pointer none) (.pointer none)).run Try.prog w = .ok (.bool false) w := by kernel_rfl
set_option maxHeartbeats 4000000 in
set_option maxRecDepth 100000 in
theorem shared_yes {w : World} {k g g' m m' : Nat} {pre pre' : List Nat} {ks ks' : List Kid} (hF : Fork w k g m pre ks) (hF' : Fork w k g' m' pre' ks') (hk : k ≤ 16) (but : Nat) (hsame : ∀ z, z ≠ but → ptrOf (kidAt ks z) = ptrOf (kidAt ks' z)) :
    Calls Try.prog 77 #[.pointer (some ⟨g, 0, none⟩), .pointer (some ⟨g', 0, none⟩), .int .i64 (but : Int)] w fun e w' => e = .returned (.bool true) ∧ Below w.heap.size w w' := by
  obtain ⟨A, c, gs, hp, hS, hB⟩ := hF.head
  have HS1 := hide (nd_shape_fork_t hB hp hk hS)
  have HS2 := hide (fun (W : World) (hW : Below w.heap.size w W) => by
    obtain ⟨A', c', gs', hp', hS', hB'⟩ := (hF'.stay hW).head
    exact nd_shape_fork_t hB' hp' hk hS')
  clear hp hS hB
  go_enter Try.func77, Try.ntmps77
  go_wp2_with fail
  refine HS1.out.mono ?_
  rintro e w1 ⟨B1, d1, C1, f1, rfl, -, hR1, hb1, -, hT1⟩
  go_wp2_with fail
  refine (HS2.out w1 hb1).mono ?_
  rintro e w2 ⟨B2, d2, C2, f2, rfl, -, hR2, hb2, -, hT2⟩
  have hal3 := below_alloc hb2 (Nat.le_refl _) (.cells #[.int .i64 (m : Int), .slice B1 k d1, .slice C1 ks.length f1, .bool (denseB k ks.length), .int .u64 0] 83)
  have hN3 := Blk.new w2 83 #[.int .i64 (m : Int), .slice B1 k d1, .slice C1 ks.length f1, .bool (denseB k ks.length), .int .u64 0]
  have ha3 := (Below.refl w2.heap.size w2).alloc (Nat.le_refl _) (.cells #[.int .i64 (m : Int), .slice B1 k d1, .slice C1 ks.length f1, .bool (denseB k ks.length), .int .u64 0] 83)
  have hs3 : (w2.alloc (.cells #[.int .i64 (m : Int), .slice B1 k d1, .slice C1 ks.length f1, .bool (denseB k ks.length), .int .u64 0] 83)).heap.size = w2.heap.size + 1 := by simp
  have ha4 := (Below.refl _ _).alloc (Nat.le_refl (w2.alloc (.cells #[.int .i64 (m : Int), .slice B1 k d1, .slice C1 ks.length f1, .bool (denseB k ks.length), .int .u64 0] 83)).heap.size) (.cells #[.int .i64 (m' : Int), .slice B2 k d2, .slice C2 ks'.length f2, .bool (denseB k ks'.length), .int .u64 0] 83)
  have hN4 := Blk.new (w2.alloc (.cells #[.int .i64 (m : Int), .slice B1 k d1, .slice C1 ks.length f1, .bool (denseB k ks.length), .int .u64 0] 83)) 83 #[.int .i64 (m' : Int), .slice B2 k d2, .slice C2 ks'.length f2, .bool (denseB k ks'.length), .int .u64 0]
  rw [hs3] at hN4
  have hkl : ks.length ≤ 65536 := by
    obtain ⟨A, c, gs, hp, hS, hB⟩ := hF.head
    have h1 := len_le_of_ok hS.ok
    have h2 := pow16 hS.2.1
    simp [kidTh] at h1
    omega
  have hkl' : ks'.length ≤ 65536 := by
    obtain ⟨A, c, gs, hp, hS, hB⟩ := hF'.head
    have h1 := len_le_of_ok hS.ok
    have h2 := pow16 hS.2.1
    simp [kidTh] at h1
    omega
  have HR1 := hide (((hR1.below hb2).below ha3).below ha4)
  have HR2 := hide ((hR2.below ha3).below ha4)
  have HN3 := hide (hN3.below ha4)
  have HN4 := hide hN4
  have HB4 := hide (below_then (below_then (below_then hb1 hb2) ha3) ha4)
  have HF := hide hF
  have HF' := hide hF'
  have HSAME := hide hsame
  clear hal3 hN3 ha3 hs3 ha4 hN4 hR1 hR2 hb1 hb2 hT1 hT2 hF hF' hsame HS1 HS2
  go_upto_region 2 with fail
  generalize (w2.alloc (.cells #[.int .i64 (m : Int), .slice B1 k d1, .slice C1 ks.length f1, .bool (denseB k ks.length), .int .u64 0] 83)).alloc (.cells #[.int .i64 (m' : Int), .slice B2 k d2, .slice C2 ks'.length f2, .bool (denseB k ks'.length), .int .u64 0] 83) = w4 at *
  generalize w2.heap.size = q1 at *
  obtain ⟨n1, hn1⟩ : ∃ n1, n1 = ks.length := ⟨_, rfl⟩
  obtain ⟨n2, hn2⟩ : ∃ n2, n2 = ks'.length := ⟨_, rfl⟩
  rw [← hn1] at HR1 HN3 hkl ⊢
  rw [← hn2] at HR2 HN4 hkl' ⊢
  have HL1 := hide hn1
  have HL2 := hide hn2
  clear hn1 hn2
  go_wp2
  go_loopw [9] (fun x9 wr => ∃ (j : Nat), x9 = .int .i64 (j : Int) ∧ j ≤ n1 ∧ Below w4.heap.size w4 wr) (fun x _ => n1 - (intOf x).toNat)
  case atStart => exact ⟨0, rfl, Nat.zero_le _, Below.refl _ _⟩
  case round =>
    obtain ⟨j, rfl, hj, hbr⟩ := hrel
    have HBR9 := hide hbr
    rename World => wr
    by_cases hjn : j < n1
    · obtain ⟨kq, hkq⟩ : ∃ kq, ks[j]? = some kq := ⟨ks[j]'(by have := HL1.out; omega), List.getElem?_eq_getElem _⟩
      obtain ⟨b, o, hCe, hbl, u, hu, c0⟩ := (HR1.out.below hbr).one hjn
      rw [List.getElem?_map, hkq] at hu
      simp at hu
      rw [← hu] at c0
      have hNr := HN3.out.below hbr
      have hq := hNr.lt
      have y2 := hNr.cell 2
      simp at y2
      subst hCe
      have hj0 : (0 : Int) ≤ (j : Int) := by omega
      have hjn' : (j : Int) < (n1 : Int) := by omega
      by_cases hzb : kq.at_ = but
      · have en : ((kq.at_ : Int) != (but : Int)) = false := by simp; omega
        clear hbr hu hkq hNr hzb
        go_wp2_with fail
        refine wp_region_held_drew (S := (fun w' => w'.cell? ⟨q1, 2, none⟩ = some (.slice (some ⟨b, o, none⟩) n1 f1) ∧ w'.cell? ⟨b, o + j, none⟩ = some (.int .i64 (kq.at_ : Int)))) (by kernel_rfl) (And.intro (show wr.drew.cell? ⟨q1, 2, none⟩ = _ from y2) (show wr.drew.cell? ⟨b, o + j, none⟩ = _ from c0)) (fun hHeld => ?_)
        refine wpAnyH_take (i := 0) (oi := { dst := some 22, op := _, type := _, pos := _, after := _, guard := _ }) (v := ?_) rfl (by kernel_rfl) (by kernel_rfl) (by kernel_rfl) (fun _ _ _ h => h) (Or.inl ⟨by rfl, ?_⟩) (by assumption) ?_
        rotate_left 1
        · intro wS hSw
          try dsimp only at hSw
          go_simp
          all_goals with_reducible rfl
        try simp only [Act.put, List.setIfInBounds_toArray, List.set_cons_zero, List.set_cons_succ]
        refine wpAnyH_take (i := 1) (oi := { dst := some 23, op := _, type := _, pos := _, after := _, guard := _ }) (v := ?_) rfl (by kernel_rfl) (by kernel_rfl) (by kernel_rfl) (fun _ _ _ h => h) (Or.inl ⟨by rfl, ?_⟩) (by assumption) ?_
        rotate_left 1
        · intro wS hSw
          try dsimp only at hSw
          go_simp
          all_goals with_reducible rfl
        try simp only [Act.put, List.setIfInBounds_toArray, List.set_cons_zero, List.set_cons_succ]
        refine wpAnyH_take (i := 2) (oi := { dst := some 24, op := _, type := _, pos := _, after := _, guard := _ }) (v := ?_) rfl (by kernel_rfl) (by kernel_rfl) (by kernel_rfl) (fun _ _ _ h => h) (Or.inl ⟨by rfl, ?_⟩) (by assumption) ?_
        rotate_left 1
        · intro wS hSw
          try dsimp only at hSw
          go_simp
          all_goals with_reducible rfl
        try simp only [Act.put, List.setIfInBounds_toArray, List.set_cons_zero, List.set_cons_succ]
        refine wpAnyH_take (i := 3) (oi := { dst := some 25, op := _, type := _, pos := _, after := _, guard := _ }) (v := ?_) rfl (by kernel_rfl) (by kernel_rfl) (by kernel_rfl) (fun _ _ _ h => h) (Or.inl ⟨by rfl, ?_⟩) (by assumption) ?_
        rotate_left 1
        · intro wS hSw
          try dsimp only at hSw
          go_simp
          all_goals with_reducible rfl
        try simp only [Act.put, List.setIfInBounds_toArray, List.set_cons_zero, List.set_cons_succ]
        refine wpAnyH_take (i := 4) (oi := { dst := some 26, op := _, type := _, pos := _, after := _, guard := _ }) (v := ?_) rfl (by kernel_rfl) (by kernel_rfl) (by kernel_rfl) (fun _ _ _ h => h) (Or.inl ⟨by rfl, ?_⟩) (by assumption) ?_
        rotate_left 1
        · intro wS hSw
          try dsimp only at hSw
          go_simp
          all_goals with_reducible rfl
        try simp only [Act.put, List.setIfInBounds_toArray, List.set_cons_zero, List.set_cons_succ]
        refine wpAnyH_take (i := 5) (oi := { dst := some 27, op := _, type := _, pos := _, after := _, guard := _ }) (v := ?_) rfl (by kernel_rfl) (by kernel_rfl) (by kernel_rfl) (fun _ _ _ h => h) (Or.inl ⟨by rfl, ?_⟩) (by assumption) ?_
        rotate_left 1
        · intro wS hSw
          try dsimp only at hSw
          go_simp
          all_goals with_reducible rfl
        try simp only [Act.put, List.setIfInBounds_toArray, List.set_cons_zero, List.set_cons_succ]
        refine wpAnyH_take (i := 6) (oi := { dst := some 28, op := _, type := _, pos := _, after := _, guard := _ }) (v := ?_) rfl (by kernel_rfl) (by kernel_rfl) (by kernel_rfl) (fun _ _ _ h => h) (Or.inl ⟨by rfl, ?_⟩) (by assumption) ?_
        rotate_left 1
        · intro wS hSw
          try dsimp only at hSw
          go_simp
          all_goals with_reducible rfl
        try simp only [Act.put, List.setIfInBounds_toArray, List.set_cons_zero, List.set_cons_succ]
        refine wpAnyH_take (i := 7) (oi := { dst := some 29, op := _, type := _, pos := _, after := _, guard := _ }) (v := ?_) rfl (by kernel_rfl) (by kernel_rfl) (by kernel_rfl) (fun _ _ _ h => h) (Or.inl ⟨by rfl, ?_⟩) (by assumption) ?_
        rotate_left 1
        · intro wS hSw
          try dsimp only at hSw
          go_simp
          all_goals with_reducible rfl
        try simp only [Act.put, List.setIfInBounds_toArray, List.set_cons_zero, List.set_cons_succ]
        refine wpAnyH_take (i := 8) (oi := { dst := some 30, op := _, type := _, pos := _, after := _, guard := _ }) (v := undef) rfl (by kernel_rfl) (by kernel_rfl) (by kernel_rfl) (fun _ _ _ h => h) (Or.inr ⟨by rfl, rfl⟩) (by assumption) ?_
        try simp only [Act.put, List.setIfInBounds_toArray, List.set_cons_zero, List.set_cons_succ]
        refine wpAnyH_take (i := 9) (oi := { dst := some 31, op := _, type := _, pos := _, after := _, guard := _ }) (v := undef) rfl (by kernel_rfl) (by kernel_rfl) (by kernel_rfl) (fun _ _ _ h => h) (Or.inr ⟨by rfl, rfl⟩) (by assumption) ?_
        try simp only [Act.put, List.setIfInBounds_toArray, List.set_cons_zero, List.set_cons_succ]
        refine wpAnyH_take (i := 10) (oi := { dst := some 32, op := _, type := _, pos := _, after := _, guard := _ }) (v := undef) rfl (by kernel_rfl) (by kernel_rfl) (by kernel_rfl) (fun _ _ _ h => h) (Or.inr ⟨by rfl, rfl⟩) (by assumption) ?_
        try simp only [Act.put, List.setIfInBounds_toArray, List.set_cons_zero, List.set_cons_succ]
        refine wpAnyH_take (i := 11) (oi := { dst := some 33, op := _, type := _, pos := _, after := _, guard := _ }) (v := undef) rfl (by kernel_rfl) (by kernel_rfl) (by kernel_rfl) (fun _ _ _ h => h) (Or.inr ⟨by rfl, rfl⟩) (by assumption) ?_
        try simp only [Act.put, List.setIfInBounds_toArray, List.set_cons_zero, List.set_cons_succ]
        refine wpAnyH_take (i := 12) (oi := { dst := some 34, op := _, type := _, pos := _, after := _, guard := _ }) (v := undef) rfl (by kernel_rfl) (by kernel_rfl) (by kernel_rfl) (fun _ _ _ h => h) (Or.inr ⟨by rfl, rfl⟩) (by assumption) ?_
        try simp only [Act.put, List.setIfInBounds_toArray, List.set_cons_zero, List.set_cons_succ]
        refine wpAnyH_take (i := 13) (oi := { dst := some 35, op := _, type := _, pos := _, after := _, guard := _ }) (v := undef) rfl (by kernel_rfl) (by kernel_rfl) (by kernel_rfl) (fun _ _ _ h => h) (Or.inr ⟨by rfl, rfl⟩) (by assumption) ?_
        try simp only [Act.put, List.setIfInBounds_toArray, List.set_cons_zero, List.set_cons_succ]
        refine wpAnyH_take (i := 14) (oi := { dst := some 36, op := _, type := _, pos := _, after := _, guard := _ }) (v := undef) rfl (by kernel_rfl) (by kernel_rfl) (by kernel_rfl) (fun _ _ _ h => h) (Or.inr ⟨by rfl, rfl⟩) (by assumption) ?_
        try simp only [Act.put, List.setIfInBounds_toArray, List.set_cons_zero, List.set_cons_succ]
        refine wpAnyH_take (i := 15) (oi := { dst := some 37, op := _, type := _, pos := _, after := _, guard := _ }) (v := undef) rfl (by kernel_rfl) (by kernel_rfl) (by kernel_rfl) (fun _ _ _ h => h) (Or.inr ⟨by rfl, rfl⟩) (by assumption) ?_
        try simp only [Act.put, List.setIfInBounds_toArray, List.set_cons_zero, List.set_cons_succ]
        refine wpAnyH_take (i := 16) (oi := { dst := some 38, op := _, type := _, pos := _, after := _, guard := _ }) (v := undef) rfl (by kernel_rfl) (by kernel_rfl) (by kernel_rfl) (fun _ _ _ h => h) (Or.inr ⟨by rfl, rfl⟩) (by assumption) ?_
        try simp only [Act.put, List.setIfInBounds_toArray, List.set_cons_zero, List.set_cons_succ]
        refine wpAnyH_take (i := 17) (oi := { dst := some 39, op := _, type := _, pos := _, after := _, guard := _ }) (v := undef) rfl (by kernel_rfl) (by kernel_rfl) (by kernel_rfl) (fun _ _ _ h => h) (Or.inr ⟨by rfl, rfl⟩) (by assumption) ?_
        try simp only [Act.put, List.setIfInBounds_toArray, List.set_cons_zero, List.set_cons_succ]
        refine wpAnyH_take (i := 18) (oi := { dst := some 40, op := _, type := _, pos := _, after := _, guard := _ }) (v := undef) rfl (by kernel_rfl) (by kernel_rfl) (by kernel_rfl) (fun _ _ _ h => h) (Or.inr ⟨by rfl, rfl⟩) (by assumption) ?_
        try simp only [Act.put, List.setIfInBounds_toArray, List.set_cons_zero, List.set_cons_succ]
        refine wpAnyH_take (i := 19) (oi := { dst := some 41, op := _, type := _, pos := _, after := _, guard := _ }) (v := undef) rfl (by kernel_rfl) (by kernel_rfl) (by kernel_rfl) (fun _ _ _ h => h) (Or.inr ⟨by rfl, rfl⟩) (by assumption) ?_
        try simp only [Act.put, List.setIfInBounds_toArray, List.set_cons_zero, List.set_cons_succ]
        refine wpAnyH_take (i := 20) (oi := { dst := some 42, op := _, type := _, pos := _, after := _, guard := _ }) (v := undef) rfl (by kernel_rfl) (by kernel_rfl) (by kernel_rfl) (fun _ _ _ h => h) (Or.inr ⟨by rfl, rfl⟩) (by assumption) ?_
        try simp only [Act.put, List.setIfInBounds_toArray, List.set_cons_zero, List.set_cons_succ]
        refine wpAnyH_take (i := 21) (oi := { dst := some 43, op := _, type := _, pos := _, after := _, guard := _ }) (v := undef) rfl (by kernel_rfl) (by kernel_rfl) (by kernel_rfl) (fun _ _ _ h => h) (Or.inr ⟨by rfl, rfl⟩) (by assumption) ?_
        try simp only [Act.put, List.setIfInBounds_toArray, List.set_cons_zero, List.set_cons_succ]
        refine wpAnyH_take (i := 22) (oi := { dst := some 44, op := _, type := _, pos := _, after := _, guard := _ }) (v := undef) rfl (by kernel_rfl) (by kernel_rfl) (by kernel_rfl) (fun _ _ _ h => h) (Or.inr ⟨by rfl, rfl⟩) (by assumption) ?_
        try simp only [Act.put, List.setIfInBounds_toArray, List.set_cons_zero, List.set_cons_succ]
        refine wpAnyH_take (i := 23) (oi := { dst := some 45, op := _, type := _, pos := _, after := _, guard := _ }) (v := ?_) rfl (by kernel_rfl) (by kernel_rfl) (by kernel_rfl) (fun _ _ _ h => h) (Or.inl ⟨by rfl, ?_⟩) (by assumption) ?_
        rotate_left 1
        · intro wS hSw
          try dsimp only at hSw
          go_simp
          all_goals with_reducible rfl
        try simp only [Act.put, List.setIfInBounds_toArray, List.set_cons_zero, List.set_cons_succ]
        refine wpAnyH_done (by kernel_rfl) ?_ _
        go_wp2
        go_roundw
        case rel => exact ⟨j + 1, by go_num, by omega, HBR9.out.drew⟩
        case measure => simp [intOf]; omega
      · have en : ((kq.at_ : Int) != (but : Int)) = true := by simp; omega
        have hk1 : ∀ X : World, Below wr.heap.size wr X → Calls Try.prog 44 #[.pointer (some ⟨g, 0, none⟩), .int .i64 (kq.at_ : Int)] X fun e w' => e = .returned (ptrOf (kidAt ks kq.at_)) ∧ Below X.heap.size X w' := by
          intro X hX
          have hFX := HF.out.stay (below_then HB4.out (below_then hbr hX))
          obtain ⟨A', c', gs', hp', hS', hB'⟩ := hFX.head
          have h9 := nd_kid hB' hS' (kq.at_ : Int)
          rw [kid_ptr hFX] at h9
          exact h9
        have hk2 : ∀ X : World, Below wr.heap.size wr X → Calls Try.prog 44 #[.pointer (some ⟨g', 0, none⟩), .int .i64 (kq.at_ : Int)] X fun e w' => e = .returned (ptrOf (kidAt ks kq.at_)) ∧ Below X.heap.size X w' := by
          intro X hX
          have hFX := HF'.out.stay (below_then HB4.out (below_then hbr hX))
          obtain ⟨A', c', gs', hp', hS', hB'⟩ := hFX.head
          have h9 := nd_kid hB' hS' (kq.at_ : Int)
          rw [kid_ptr hFX, ← HSAME.out _ hzb] at h9
          exact h9
        obtain ⟨xp, hxp⟩ : ∃ xp, ptrOf (kidAt ks kq.at_) = .pointer xp := ⟨_, rfl⟩
        rw [hxp] at hk1 hk2
        have hpq : ∀ W, (binOp .neq 54 (.pointer xp) (.pointer xp)).run Try.prog W = .ok (.bool false) W := fun W => by
          cases xp with
          | none => exact ptr_eq_nil7 W
          | some a => exact ptr_same_neq a W
        have HK1 := hide hk1
        have HK2 := hide hk2
        clear hbr hu hkq hNr hzb hk1 hk2 hxp
        go_wp2_with fail
        refine wp_region_held_drew (S := (fun w' => w'.cell? ⟨q1, 2, none⟩ = some (.slice (some ⟨b, o, none⟩) n1 f1) ∧ w'.cell? ⟨b, o + j, none⟩ = some (.int .i64 (kq.at_ : Int)))) (by kernel_rfl) (And.intro (show wr.drew.cell? ⟨q1, 2, none⟩ = _ from y2) (show wr.drew.cell? ⟨b, o + j, none⟩ = _ from c0)) (fun hHeld => ?_)
        refine wpAnyH_take (i := 0) (oi := { dst := some 22, op := _, type := _, pos := _, after := _, guard := _ }) (v := ?_) rfl (by kernel_rfl) (by kernel_rfl) (by kernel_rfl) (fun _ _ _ h => h) (Or.inl ⟨by rfl, ?_⟩) (by assumption) ?_
        rotate_left 1
        · intro wS hSw
          try dsimp only at hSw
          go_simp
          all_goals with_reducible rfl
        try simp only [Act.put, List.setIfInBounds_toArray, List.set_cons_zero, List.set_cons_succ]
        refine wpAnyH_take (i := 1) (oi := { dst := some 23, op := _, type := _, pos := _, after := _, guard := _ }) (v := ?_) rfl (by kernel_rfl) (by kernel_rfl) (by kernel_rfl) (fun _ _ _ h => h) (Or.inl ⟨by rfl, ?_⟩) (by assumption) ?_
        rotate_left 1
        · intro wS hSw
          try dsimp only at hSw
          go_simp
          all_goals with_reducible rfl
        try simp only [Act.put, List.setIfInBounds_toArray, List.set_cons_zero, List.set_cons_succ]
        refine wpAnyH_take (i := 2) (oi := { dst := some 24, op := _, type := _, pos := _, after := _, guard := _ }) (v := ?_) rfl (by kernel_rfl) (by kernel_rfl) (by kernel_rfl) (fun _ _ _ h => h) (Or.inl ⟨by rfl, ?_⟩) (by assumption) ?_
        rotate_left 1
        · intro wS hSw
          try dsimp only at hSw
          go_simp
          all_goals with_reducible rfl
        try simp only [Act.put, List.setIfInBounds_toArray, List.set_cons_zero, List.set_cons_succ]
        refine wpAnyH_take (i := 3) (oi := { dst := some 25, op := _, type := _, pos := _, after := _, guard := _ }) (v := ?_) rfl (by kernel_rfl) (by kernel_rfl) (by kernel_rfl) (fun _ _ _ h => h) (Or.inl ⟨by rfl, ?_⟩) (by assumption) ?_
        rotate_left 1
        · intro wS hSw
          try dsimp only at hSw
          go_simp
          all_goals with_reducible rfl
        try simp only [Act.put, List.setIfInBounds_toArray, List.set_cons_zero, List.set_cons_succ]
        refine wpAnyH_take (i := 4) (oi := { dst := some 26, op := _, type := _, pos := _, after := _, guard := _ }) (v := ?_) rfl (by kernel_rfl) (by kernel_rfl) (by kernel_rfl) (fun _ _ _ h => h) (Or.inl ⟨by rfl, ?_⟩) (by assumption) ?_
        rotate_left 1
        · intro wS hSw
          try dsimp only at hSw
          go_simp
          all_goals with_reducible rfl
        try simp only [Act.put, List.setIfInBounds_toArray, List.set_cons_zero, List.set_cons_succ]
        refine wpAnyH_take (i := 5) (oi := { dst := some 27, op := _, type := _, pos := _, after := _, guard := _ }) (v := ?_) rfl (by kernel_rfl) (by kernel_rfl) (by kernel_rfl) (fun _ _ _ h => h) (Or.inl ⟨by rfl, ?_⟩) (by assumption) ?_
        rotate_left 1
        · intro wS hSw
          try dsimp only at hSw
          go_simp
          all_goals with_reducible rfl
        try simp only [Act.put, List.setIfInBounds_toArray, List.set_cons_zero, List.set_cons_succ]
        refine wpAnyH_take (i := 6) (oi := { dst := some 28, op := _, type := _, pos := _, after := _, guard := _ }) (v := ?_) rfl (by kernel_rfl) (by kernel_rfl) (by kernel_rfl) (fun _ _ _ h => h) (Or.inl ⟨by rfl, ?_⟩) (by assumption) ?_
        rotate_left 1
        · intro wS hSw
          try dsimp only at hSw
          go_simp
          all_goals with_reducible rfl
        try simp only [Act.put, List.setIfInBounds_toArray, List.set_cons_zero, List.set_cons_succ]
        refine wpAnyH_take (i := 7) (oi := { dst := some 29, op := _, type := _, pos := _, after := _, guard := _ }) (v := ?_) rfl (by kernel_rfl) (by kernel_rfl) (by kernel_rfl) (fun _ _ _ h => h) (Or.inl ⟨by rfl, ?_⟩) (by assumption) ?_
        rotate_left 1
        · intro wS hSw
          try dsimp only at hSw
          go_simp
          all_goals with_reducible rfl
        try simp only [Act.put, List.setIfInBounds_toArray, List.set_cons_zero, List.set_cons_succ]
        refine wpAnyH_take (i := 8) (oi := { dst := some 30, op := _, type := _, pos := _, after := _, guard := _ }) (v := ?_) rfl (by kernel_rfl) (by kernel_rfl) (by kernel_rfl) (fun _ _ _ h => h) (Or.inl ⟨by rfl, ?_⟩) (by assumption) ?_
        rotate_left 1
        · intro wS hSw
          try dsimp only at hSw
          go_simp
          all_goals with_reducible rfl
        try simp only [Act.put, List.setIfInBounds_toArray, List.set_cons_zero, List.set_cons_succ]
        refine wpAnyH_take (i := 9) (oi := { dst := some 31, op := _, type := _, pos := _, after := _, guard := _ }) (v := ?_) rfl (by kernel_rfl) (by kernel_rfl) (by kernel_rfl) (fun _ _ _ h => h) (Or.inl ⟨by rfl, ?_⟩) (by assumption) ?_
        rotate_left 1
        · intro wS hSw
          try dsimp only at hSw
          go_simp
          all_goals with_reducible rfl
        try simp only [Act.put, List.setIfInBounds_toArray, List.set_cons_zero, List.set_cons_succ]
        refine wpAnyH_take (i := 10) (oi := { dst := some 32, op := _, type := _, pos := _, after := _, guard := _ }) (v := ?_) rfl (by kernel_rfl) (by kernel_rfl) (by kernel_rfl) (fun _ _ _ h => h) (Or.inl ⟨by rfl, ?_⟩) (by assumption) ?_
        rotate_left 1
        · intro wS hSw
          try dsimp only at hSw
          go_simp
          all_goals with_reducible rfl
        try simp only [Act.put, List.setIfInBounds_toArray, List.set_cons_zero, List.set_cons_succ]
        refine wpAnyH_take (i := 11) (oi := { dst := some 33, op := _, type := _, pos := _, after := _, guard := _ }) (v := ?_) rfl (by kernel_rfl) (by kernel_rfl) (by kernel_rfl) (fun _ _ _ h => h) (Or.inl ⟨by rfl, ?_⟩) (by assumption) ?_
        rotate_left 1
        · intro wS hSw
          try dsimp only at hSw
          go_simp
          all_goals with_reducible rfl
        try simp only [Act.put, List.setIfInBounds_toArray, List.set_cons_zero, List.set_cons_succ]
        refine wpAnyH_take (i := 12) (oi := { dst := some 34, op := _, type := _, pos := _, after := _, guard := _ }) (v := ?_) rfl (by kernel_rfl) (by kernel_rfl) (by kernel_rfl) (fun _ _ _ h => h) (Or.inl ⟨by rfl, ?_⟩) (by assumption) ?_
        rotate_left 1
        · intro wS hSw
          try dsimp only at hSw
          go_simp
          all_goals with_reducible rfl
        try simp only [Act.put, List.setIfInBounds_toArray, List.set_cons_zero, List.set_cons_succ]
        refine wpAnyH_take (i := 13) (oi := { dst := some 35, op := _, type := _, pos := _, after := _, guard := _ }) (v := ?_) rfl (by kernel_rfl) (by kernel_rfl) (by kernel_rfl) (fun _ _ _ h => h) (Or.inl ⟨by rfl, ?_⟩) (by assumption) ?_
        rotate_left 1
        · intro wS hSw
          try dsimp only at hSw
          go_simp
          all_goals with_reducible rfl
        try simp only [Act.put, List.setIfInBounds_toArray, List.set_cons_zero, List.set_cons_succ]
        refine wpAnyH_take (i := 15) (oi := { dst := some 37, op := _, type := _, pos := _, after := _, guard := _ }) (v := ?_) rfl (by kernel_rfl) (by kernel_rfl) (by kernel_rfl) (fun _ _ _ h => h) (Or.inl ⟨by rfl, ?_⟩) (by assumption) ?_
        rotate_left 1
        · intro wS hSw
          try dsimp only at hSw
          go_simp
          all_goals with_reducible rfl
        try simp only [Act.put, List.setIfInBounds_toArray, List.set_cons_zero, List.set_cons_succ]
        refine wpAnyH_take (i := 16) (oi := { dst := some 38, op := _, type := _, pos := _, after := _, guard := _ }) (v := ?_) rfl (by kernel_rfl) (by kernel_rfl) (by kernel_rfl) (fun _ _ _ h => h) (Or.inl ⟨by rfl, ?_⟩) (by assumption) ?_
        rotate_left 1
        · intro wS hSw
          try dsimp only at hSw
          go_simp
          all_goals with_reducible rfl
        try simp only [Act.put, List.setIfInBounds_toArray, List.set_cons_zero, List.set_cons_succ]
        refine wpAnyH_take (i := 17) (oi := { dst := some 39, op := _, type := _, pos := _, after := _, guard := _ }) (v := ?_) rfl (by kernel_rfl) (by kernel_rfl) (by kernel_rfl) (fun _ _ _ h => h) (Or.inl ⟨by rfl, ?_⟩) (by assumption) ?_
        rotate_left 1
        · intro wS hSw
          try dsimp only at hSw
          go_simp
          all_goals with_reducible rfl
        try simp only [Act.put, List.setIfInBounds_toArray, List.set_cons_zero, List.set_cons_succ]
        refine wpAnyH_take (i := 18) (oi := { dst := some 40, op := _, type := _, pos := _, after := _, guard := _ }) (v := ?_) rfl (by kernel_rfl) (by kernel_rfl) (by kernel_rfl) (fun _ _ _ h => h) (Or.inl ⟨by rfl, ?_⟩) (by assumption) ?_
        rotate_left 1
        · intro wS hSw
          try dsimp only at hSw
          go_simp
          all_goals with_reducible rfl
        try simp only [Act.put, List.setIfInBounds_toArray, List.set_cons_zero, List.set_cons_succ]
        refine wpAnyH_take (i := 19) (oi := { dst := some 41, op := _, type := _, pos := _, after := _, guard := _ }) (v := ?_) rfl (by kernel_rfl) (by kernel_rfl) (by kernel_rfl) (fun _ _ _ h => h) (Or.inl ⟨by rfl, ?_⟩) (by assumption) ?_
        rotate_left 1
        · intro wS hSw
          try dsimp only at hSw
          go_simp
          all_goals with_reducible rfl
        try simp only [Act.put, List.setIfInBounds_toArray, List.set_cons_zero, List.set_cons_succ]
        refine wpAnyH_take (i := 20) (oi := { dst := some 42, op := _, type := _, pos := _, after := _, guard := _ }) (v := ?_) rfl (by kernel_rfl) (by kernel_rfl) (by kernel_rfl) (fun _ _ _ h => h) (Or.inl ⟨by rfl, ?_⟩) (by assumption) ?_
        rotate_left 1
        · intro wS hSw
          try dsimp only at hSw
          go_simp
          all_goals with_reducible rfl
        try simp only [Act.put, List.setIfInBounds_toArray, List.set_cons_zero, List.set_cons_succ]
        refine wpAnyH_ready (rs := [14]) (by kernel_rfl) (by simp) ?_
        refine AllReadyH.cons (o := { dst := some 36, op := _, type := _, pos := _, after := _, guard := _ }) rfl (fun K hK => ?_) AllReadyH.nil
        go_simp
        go_at_call 44
        refine (HK1.out wr.drew (Below.refl _ wr).drew).mono ?_
        rintro e w5 ⟨rfl, hb5⟩
        have hd5 : Below wr.heap.size wr w5 := (Below.refl _ wr).drew.trans hb5
        have hk5 := And.intro ((hd5.cell (p := ⟨q1, 2, none⟩) hq).trans y2) ((hd5.cell (p := ⟨b, o + j, none⟩) hbl).trans c0)
        try go_wp2_with fail
        refine hK.out _ _ ?_ (fun hHeld => ?_)
        · exact hk5
        clear hK K
        try simp only [Act.put, List.setIfInBounds_toArray, List.set_cons_zero, List.set_cons_succ]
        refine wpAnyH_ready (rs := [21]) (by kernel_rfl) (by simp) ?_
        refine AllReadyH.cons (o := { dst := some 43, op := _, type := _, pos := _, after := _, guard := _ }) rfl (fun K hK => ?_) AllReadyH.nil
        go_simp
        go_at_call 44
        refine (HK2.out w5 hd5).mono ?_
        rintro e w6 ⟨rfl, hb6⟩
        have hd6 : Below wr.heap.size wr w6 := below_then hd5 hb6
        have hk6 := And.intro ((hd6.cell (p := ⟨q1, 2, none⟩) hq).trans y2) ((hd6.cell (p := ⟨b, o + j, none⟩) hbl).trans c0)
        try go_wp2_with fail
        refine hK.out _ _ ?_ (fun hHeld => ?_)
        · exact hk6
        clear hK K
        try simp only [Act.put, List.setIfInBounds_toArray, List.set_cons_zero, List.set_cons_succ]
        refine wpAnyH_take (i := 22) (oi := { dst := some 44, op := _, type := _, pos := _, after := _, guard := _ }) (v := ?_) rfl (by kernel_rfl) (by kernel_rfl) (by kernel_rfl) (fun _ _ _ h => h) (Or.inl ⟨by rfl, ?_⟩) (by assumption) ?_
        rotate_left 1
        · intro wS hSw
          try dsimp only at hSw
          go_simp
          all_goals with_reducible rfl
        try simp only [Act.put, List.setIfInBounds_toArray, List.set_cons_zero, List.set_cons_succ]
        refine wpAnyH_take (i := 23) (oi := { dst := some 45, op := _, type := _, pos := _, after := _, guard := _ }) (v := ?_) rfl (by kernel_rfl) (by kernel_rfl) (by kernel_rfl) (fun _ _ _ h => h) (Or.inl ⟨by rfl, ?_⟩) (by assumption) ?_
        rotate_left 1
        · intro wS hSw
          try dsimp only at hSw
          go_simp
          all_goals with_reducible rfl
        try simp only [Act.put, List.setIfInBounds_toArray, List.set_cons_zero, List.set_cons_succ]
        refine wpAnyH_done (by kernel_rfl) ?_ _
        go_wp2
        go_roundw
        case rel => exact ⟨j + 1, by go_num, by omega, below_then HBR9.out hd6⟩
        case measure => simp [intOf]; omega
    · have e9 : decide ((j : Int) < (n1 : Int)) = false := by simp; omega
      have y2 := (HN3.out.below hbr).cell 2
      simp at y2
      clear hbr
      have HBX := hide HBR9.out
      go_wp2
      go_loopw [10] (fun x9 wr => ∃ (j : Nat), x9 = .int .i64 (j : Int) ∧ j ≤ n2 ∧ Below w4.heap.size w4 wr) (fun x _ => n2 - (intOf x).toNat)
      case atStart => exact ⟨0, rfl, Nat.zero_le _, HBX.out⟩
      case round =>
        obtain ⟨j, rfl, hj, hbr⟩ := hrel
        have HBR10 := hide hbr
        rename World => wr
        by_cases hjn : j < n2
        · obtain ⟨kq, hkq⟩ : ∃ kq, ks'[j]? = some kq := ⟨ks'[j]'(by have := HL2.out; omega), List.getElem?_eq_getElem _⟩
          obtain ⟨b, o, hCe, hbl, u, hu, c0⟩ := (HR2.out.below hbr).one hjn
          rw [List.getElem?_map, hkq] at hu
          simp at hu
          rw [← hu] at c0
          have hNr := HN4.out.below hbr
          have hq := hNr.lt
          have y2 := hNr.cell 2
          simp at y2
          subst hCe
          have hj0 : (0 : Int) ≤ (j : Int) := by omega
          have hjn' : (j : Int) < (n2 : Int) := by omega
          by_cases hzb : kq.at_ = but
          · have en : ((kq.at_ : Int) != (but : Int)) = false := by simp; omega
            clear hbr hu hkq hNr hzb
            go_wp2_with fail
            refine wp_region_held_drew (S := (fun w' => w'.cell? ⟨q1 + 1, 2, none⟩ = some (.slice (some ⟨b, o, none⟩) n2 f2) ∧ w'.cell? ⟨b, o + j, none⟩ = some (.int .i64 (kq.at_ : Int)))) (by kernel_rfl) (And.intro (show wr.drew.cell? ⟨q1 + 1, 2, none⟩ = _ from y2) (show wr.drew.cell? ⟨b, o + j, none⟩ = _ from c0)) (fun hHeld => ?_)
            refine wpAnyH_take (i := 0) (oi := { dst := some 53, op := _, type := _, pos := _, after := _, guard := _ }) (v := ?_) rfl (by kernel_rfl) (by kernel_rfl) (by kernel_rfl) (fun _ _ _ h => h) (Or.inl ⟨by rfl, ?_⟩) (by assumption) ?_
            rotate_left 1
            · intro wS hSw
              try dsimp only at hSw
              go_simp
              all_goals with_reducible rfl
            try simp only [Act.put, List.setIfInBounds_toArray, List.set_cons_zero, List.set_cons_succ]
            refine wpAnyH_take (i := 1) (oi := { dst := some 54, op := _, type := _, pos := _, after := _, guard := _ }) (v := ?_) rfl (by kernel_rfl) (by kernel_rfl) (by kernel_rfl) (fun _ _ _ h => h) (Or.inl ⟨by rfl, ?_⟩) (by assumption) ?_
            rotate_left 1
            · intro wS hSw
              try dsimp only at hSw
              go_simp
              all_goals with_reducible rfl
            try simp only [Act.put, List.setIfInBounds_toArray, List.set_cons_zero, List.set_cons_succ]
            refine wpAnyH_take (i := 2) (oi := { dst := some 55, op := _, type := _, pos := _, after := _, guard := _ }) (v := ?_) rfl (by kernel_rfl) (by kernel_rfl) (by kernel_rfl) (fun _ _ _ h => h) (Or.inl ⟨by rfl, ?_⟩) (by assumption) ?_
            rotate_left 1
            · intro wS hSw
              try dsimp only at hSw
              go_simp
              all_goals with_reducible rfl
            try simp only [Act.put, List.setIfInBounds_toArray, List.set_cons_zero, List.set_cons_succ]
            refine wpAnyH_take (i := 3) (oi := { dst := some 56, op := _, type := _, pos := _, after := _, guard := _ }) (v := ?_) rfl (by kernel_rfl) (by kernel_rfl) (by kernel_rfl) (fun _ _ _ h => h) (Or.inl ⟨by rfl, ?_⟩) (by assumption) ?_
            rotate_left 1
            · intro wS hSw
              try dsimp only at hSw
              go_simp
              all_goals with_reducible rfl
            try simp only [Act.put, List.setIfInBounds_toArray, List.set_cons_zero, List.set_cons_succ]
            refine wpAnyH_take (i := 4) (oi := { dst := some 57, op := _, type := _, pos := _, after := _, guard := _ }) (v := ?_) rfl (by kernel_rfl) (by kernel_rfl) (by kernel_rfl) (fun _ _ _ h => h) (Or.inl ⟨by rfl, ?_⟩) (by assumption) ?_
            rotate_left 1
            · intro wS hSw
              try dsimp only at hSw
              go_simp
              all_goals with_reducible rfl
            try simp only [Act.put, List.setIfInBounds_toArray, List.set_cons_zero, List.set_cons_succ]
            refine wpAnyH_take (i := 5) (oi := { dst := some 58, op := _, type := _, pos := _, after := _, guard := _ }) (v := ?_) rfl (by kernel_rfl) (by kernel_rfl) (by kernel_rfl) (fun _ _ _ h => h) (Or.inl ⟨by rfl, ?_⟩) (by assumption) ?_
            rotate_left 1
            · intro wS hSw
              try dsimp only at hSw
              go_simp
              all_goals with_reducible rfl
            try simp only [Act.put, List.setIfInBounds_toArray, List.set_cons_zero, List.set_cons_succ]
            refine wpAnyH_take (i := 6) (oi := { dst := some 59, op := _, type := _, pos := _, after := _, guard := _ }) (v := ?_) rfl (by kernel_rfl) (by kernel_rfl) (by kernel_rfl) (fun _ _ _ h => h) (Or.inl ⟨by rfl, ?_⟩) (by assumption) ?_
            rotate_left 1
            · intro wS hSw
              try dsimp only at hSw
              go_simp
              all_goals with_reducible rfl
            try simp only [Act.put, List.setIfInBounds_toArray, List.set_cons_zero, List.set_cons_succ]
            refine wpAnyH_take (i := 7) (oi := { dst := some 60, op := _, type := _, pos := _, after := _, guard := _ }) (v := ?_) rfl (by kernel_rfl) (by kernel_rfl) (by kernel_rfl) (fun _ _ _ h => h) (Or.inl ⟨by rfl, ?_⟩) (by assumption) ?_
            rotate_left 1
            · intro wS hSw
              try dsimp only at hSw
              go_simp
              all_goals with_reducible rfl
            try simp only [Act.put, List.setIfInBounds_toArray, List.set_cons_zero, List.set_cons_succ]
            refine wpAnyH_take (i := 8) (oi := { dst := some 61, op := _, type := _, pos := _, after := _, guard := _ }) (v := undef) rfl (by kernel_rfl) (by kernel_rfl) (by kernel_rfl) (fun _ _ _ h => h) (Or.inr ⟨by rfl, rfl⟩) (by assumption) ?_
            try simp only [Act.put, List.setIfInBounds_toArray, List.set_cons_zero, List.set_cons_succ]
            refine wpAnyH_take (i := 9) (oi := { dst := some 62, op := _, type := _, pos := _, after := _, guard := _ }) (v := undef) rfl (by kernel_rfl) (by kernel_rfl) (by kernel_rfl) (fun _ _ _ h => h) (Or.inr ⟨by rfl, rfl⟩) (by assumption) ?_
            try simp only [Act.put, List.setIfInBounds_toArray, List.set_cons_zero, List.set_cons_succ]
            refine wpAnyH_take (i := 10) (oi := { dst := some 63, op := _, type := _, pos := _, after := _, guard := _ }) (v := undef) rfl (by kernel_rfl) (by kernel_rfl) (by kernel_rfl) (fun _ _ _ h => h) (Or.inr ⟨by rfl, rfl⟩) (by assumption) ?_
            try simp only [Act.put, List.setIfInBounds_toArray, List.set_cons_zero, List.set_cons_succ]
            refine wpAnyH_take (i := 11) (oi := { dst := some 64, op := _, type := _, pos := _, after := _, guard := _ }) (v := undef) rfl (by kernel_rfl) (by kernel_rfl) (by kernel_rfl) (fun _ _ _ h => h) (Or.inr ⟨by rfl, rfl⟩) (by assumption) ?_
            try simp only [Act.put, List.setIfInBounds_toArray, List.set_cons_zero, List.set_cons_succ]
            refine wpAnyH_take (i := 12) (oi := { dst := some 65, op := _, type := _, pos := _, after := _, guard := _ }) (v := undef) rfl (by kernel_rfl) (by kernel_rfl) (by kernel_rfl) (fun _ _ _ h => h) (Or.inr ⟨by rfl, rfl⟩) (by assumption) ?_
            try simp only [Act.put, List.setIfInBounds_toArray, List.set_cons_zero, List.set_cons_succ]
            refine wpAnyH_take (i := 13) (oi := { dst := some 66, op := _, type := _, pos := _, after := _, guard := _ }) (v := undef) rfl (by kernel_rfl) (by kernel_rfl) (by kernel_rfl) (fun _ _ _ h => h) (Or.inr ⟨by rfl, rfl⟩) (by assumption) ?_
            try simp only [Act.put, List.setIfInBounds_toArray, List.set_cons_zero, List.set_cons_succ]
            refine wpAnyH_take (i := 14) (oi := { dst := some 67, op := _, type := _, pos := _, after := _, guard := _ }) (v := undef) rfl (by kernel_rfl) (by kernel_rfl) (by kernel_rfl) (fun _ _ _ h => h) (Or.inr ⟨by rfl, rfl⟩) (by assumption) ?_
            try simp only [Act.put, List.setIfInBounds_toArray, List.set_cons_zero, List.set_cons_succ]
            refine wpAnyH_take (i := 15) (oi := { dst := some 68, op := _, type := _, pos := _, after := _, guard := _ }) (v := undef) rfl (by kernel_rfl) (by kernel_rfl) (by kernel_rfl) (fun _ _ _ h => h) (Or.inr ⟨by rfl, rfl⟩) (by assumption) ?_
            try simp only [Act.put, List.setIfInBounds_toArray, List.set_cons_zero, List.set_cons_succ]
            refine wpAnyH_take (i := 16) (oi := { dst := some 69, op := _, type := _, pos := _, after := _, guard := _ }) (v := undef) rfl (by kernel_rfl) (by kernel_rfl) (by kernel_rfl) (fun _ _ _ h => h) (Or.inr ⟨by rfl, rfl⟩) (by assumption) ?_
            try simp only [Act.put, List.setIfInBounds_toArray, List.set_cons_zero, List.set_cons_succ]
            refine wpAnyH_take (i := 17) (oi := { dst := some 70, op := _, type := _, pos := _, after := _, guard := _ }) (v := undef) rfl (by kernel_rfl) (by kernel_rfl) (by kernel_rfl) (fun _ _ _ h => h) (Or.inr ⟨by rfl, rfl⟩) (by assumption) ?_
            try simp only [Act.put, List.setIfInBounds_toArray, List.set_cons_zero, List.set_cons_succ]
            refine wpAnyH_take (i := 18) (oi := { dst := some 71, op := _, type := _, pos := _, after := _, guard := _ }) (v := undef) rfl (by kernel_rfl) (by kernel_rfl) (by kernel_rfl) (fun _ _ _ h => h) (Or.inr ⟨by rfl, rfl⟩) (by assumption) ?_
            try simp only [Act.put, List.setIfInBounds_toArray, List.set_cons_zero, List.set_cons_succ]
            refine wpAnyH_take (i := 19) (oi := { dst := some 72, op := _, type := _, pos := _, after := _, guard := _ }) (v := undef) rfl (by kernel_rfl) (by kernel_rfl) (by kernel_rfl) (fun _ _ _ h => h) (Or.inr ⟨by rfl, rfl⟩) (by assumption) ?_
            try simp only [Act.put, List.setIfInBounds_toArray, List.set_cons_zero, List.set_cons_succ]
            refine wpAnyH_take (i := 20) (oi := { dst := some 73, op := _, type := _, pos := _, after := _, guard := _ }) (v := undef) rfl (by kernel_rfl) (by kernel_rfl) (by kernel_rfl) (fun _ _ _ h => h) (Or.inr ⟨by rfl, rfl⟩) (by assumption) ?_
            try simp only [Act.put, List.setIfInBounds_toArray, List.set_cons_zero, List.set_cons_succ]
            refine wpAnyH_take (i := 21) (oi := { dst := some 74, op := _, type := _, pos := _, after := _, guard := _ }) (v := undef) rfl (by kernel_rfl) (by kernel_rfl) (by kernel_rfl) (fun _ _ _ h => h) (Or.inr ⟨by rfl, rfl⟩) (by assumption) ?_
            try simp only [Act.put, List.setIfInBounds_toArray, List.set_cons_zero, List.set_cons_succ]
            refine wpAnyH_take (i := 22) (oi := { dst := some 75, op := _, type := _, pos := _, after := _, guard := _ }) (v := undef) rfl (by kernel_rfl) (by kernel_rfl) (by kernel_rfl) (fun _ _ _ h => h) (Or.inr ⟨by rfl, rfl⟩) (by assumption) ?_
            try simp only [Act.put, List.setIfInBounds_toArray, List.set_cons_zero, List.set_cons_succ]
            refine wpAnyH_take (i := 23) (oi := { dst := some 76, op := _, type := _, pos := _, after := _, guard := _ }) (v := ?_) rfl (by kernel_rfl) (by kernel_rfl) (by kernel_rfl) (fun _ _ _ h => h) (Or.inl ⟨by rfl, ?_⟩) (by assumption) ?_
            rotate_left 1
            · intro wS hSw
              try dsimp only at hSw
              go_simp
              all_goals with_reducible rfl
            try simp only [Act.put, List.setIfInBounds_toArray, List.set_cons_zero, List.set_cons_succ]
            refine wpAnyH_done (by kernel_rfl) ?_ _
            go_wp2
            go_roundw
            case rel => exact ⟨j + 1, by go_num, by omega, HBR10.out.drew⟩
            case measure => simp [intOf]; omega
          · have en : ((kq.at_ : Int) != (but : Int)) = true := by simp; omega
            have hk1 : ∀ X : World, Below wr.heap.size wr X → Calls Try.prog 44 #[.pointer (some ⟨g, 0, none⟩), .int .i64 (kq.at_ : Int)] X fun e w' => e = .returned (ptrOf (kidAt ks kq.at_)) ∧ Below X.heap.size X w' := by
              intro X hX
              have hFX := HF.out.stay (below_then HB4.out (below_then hbr hX))
              obtain ⟨A', c', gs', hp', hS', hB'⟩ := hFX.head
              have h9 := nd_kid hB' hS' (kq.at_ : Int)
              rw [kid_ptr hFX] at h9
              exact h9
            have hk2 : ∀ X : World, Below wr.heap.size wr X → Calls Try.prog 44 #[.pointer (some ⟨g', 0, none⟩), .int .i64 (kq.at_ : Int)] X fun e w' => e = .returned (ptrOf (kidAt ks kq.at_)) ∧ Below X.heap.size X w' := by
              intro X hX
              have hFX := HF'.out.stay (below_then HB4.out (below_then hbr hX))
              obtain ⟨A', c', gs', hp', hS', hB'⟩ := hFX.head
              have h9 := nd_kid hB' hS' (kq.at_ : Int)
              rw [kid_ptr hFX, ← HSAME.out _ hzb] at h9
              exact h9
            obtain ⟨xp, hxp⟩ : ∃ xp, ptrOf (kidAt ks kq.at_) = .pointer xp := ⟨_, rfl⟩
            rw [hxp] at hk1 hk2
            have hpq : ∀ W, (binOp .neq 54 (.pointer xp) (.pointer xp)).run Try.prog W = .ok (.bool false) W := fun W => by
              cases xp with
              | none => exact ptr_eq_nil7 W
              | some a => exact ptr_same_neq a W
            have HK1 := hide hk1
            have HK2 := hide hk2
            clear hbr hu hkq hNr hzb hk1 hk2 hxp
            go_wp2_with fail
            refine wp_region_held_drew (S := (fun w' => w'.cell? ⟨q1 + 1, 2, none⟩ = some (.slice (some ⟨b, o, none⟩) n2 f2) ∧ w'.cell? ⟨b, o + j, none⟩ = some (.int .i64 (kq.at_ : Int)))) (by kernel_rfl) (And.intro (show wr.drew.cell? ⟨q1 + 1, 2, none⟩ = _ from y2) (show wr.drew.cell? ⟨b, o + j, none⟩ = _ from c0)) (fun hHeld => ?_)
            refine wpAnyH_take (i := 0) (oi := { dst := some 53, op := _, type := _, pos := _, after := _, guard := _ }) (v := ?_) rfl (by kernel_rfl) (by kernel_rfl) (by kernel_rfl) (fun _ _ _ h => h) (Or.inl ⟨by rfl, ?_⟩) (by assumption) ?_
            rotate_left 1
            · intro wS hSw
              try dsimp only at hSw
              go_simp
              all_goals with_reducible rfl
            try simp only [Act.put, List.setIfInBounds_toArray, List.set_cons_zero, List.set_cons_succ]
            refine wpAnyH_take (i := 1) (oi := { dst := some 54, op := _, type := _, pos := _, after := _, guard := _ }) (v := ?_) rfl (by kernel_rfl) (by kernel_rfl) (by kernel_rfl) (fun _ _ _ h => h) (Or.inl ⟨by rfl, ?_⟩) (by assumption) ?_
            rotate_left 1
            · intro wS hSw
              try dsimp only at hSw
              go_simp
              all_goals with_reducible rfl
            try simp only [Act.put, List.setIfInBounds_toArray, List.set_cons_zero, List.set_cons_succ]
            refine wpAnyH_take (i := 2) (oi := { dst := some 55, op := _, type := _, pos := _, after := _, guard := _ }) (v := ?_) rfl (by kernel_rfl) (by kernel_rfl) (by kernel_rfl) (fun _ _ _ h => h) (Or.inl ⟨by rfl, ?_⟩) (by assumption) ?_
            rotate_left 1
            · intro wS hSw
              try dsimp only at hSw
              go_simp
              all_goals with_reducible rfl
            try simp only [Act.put, List.setIfInBounds_toArray, List.set_cons_zero, List.set_cons_succ]
            refine wpAnyH_take (i := 3) (oi := { dst := some 56, op := _, type := _, pos := _, after := _, guard := _ }) (v := ?_) rfl (by kernel_rfl) (by kernel_rfl) (by kernel_rfl) (fun _ _ _ h => h) (Or.inl ⟨by rfl, ?_⟩) (by assumption) ?_
            rotate_left 1
            · intro wS hSw
              try dsimp only at hSw
              go_simp
              all_goals with_reducible rfl
            try simp only [Act.put, List.setIfInBounds_toArray, List.set_cons_zero, List.set_cons_succ]
            refine wpAnyH_take (i := 4) (oi := { dst := some 57, op := _, type := _, pos := _, after := _, guard := _ }) (v := ?_) rfl (by kernel_rfl) (by kernel_rfl) (by kernel_rfl) (fun _ _ _ h => h) (Or.inl ⟨by rfl, ?_⟩) (by assumption) ?_
            rotate_left 1
            · intro wS hSw
              try dsimp only at hSw
              go_simp
              all_goals with_reducible rfl
            try simp only [Act.put, List.setIfInBounds_toArray, List.set_cons_zero, List.set_cons_succ]
            refine wpAnyH_take (i := 5) (oi := { dst := some 58, op := _, type := _, pos := _, after := _, guard := _ }) (v := ?_) rfl (by kernel_rfl) (by kernel_rfl) (by kernel_rfl) (fun _ _ _ h => h) (Or.inl ⟨by rfl, ?_⟩) (by assumption) ?_
            rotate_left 1
            · intro wS hSw
              try dsimp only at hSw
              go_simp
              all_goals with_reducible rfl
            try simp only [Act.put, List.setIfInBounds_toArray, List.set_cons_zero, List.set_cons_succ]
            refine wpAnyH_take (i := 6) (oi := { dst := some 59, op := _, type := _, pos := _, after := _, guard := _ }) (v := ?_) rfl (by kernel_rfl) (by kernel_rfl) (by kernel_rfl) (fun _ _ _ h => h) (Or.inl ⟨by rfl, ?_⟩) (by assumption) ?_
            rotate_left 1
            · intro wS hSw
              try dsimp only at hSw
              go_simp
              all_goals with_reducible rfl
            try simp only [Act.put, List.setIfInBounds_toArray, List.set_cons_zero, List.set_cons_succ]
            refine wpAnyH_take (i := 7) (oi := { dst := some 60, op := _, type := _, pos := _, after := _, guard := _ }) (v := ?_) rfl (by kernel_rfl) (by kernel_rfl) (by kernel_rfl) (fun _ _ _ h => h) (Or.inl ⟨by rfl, ?_⟩) (by assumption) ?_
            rotate_left 1
            · intro wS hSw
              try dsimp only at hSw
              go_simp
              all_goals with_reducible rfl
            try simp only [Act.put, List.setIfInBounds_toArray, List.set_cons_zero, List.set_cons_succ]
            refine wpAnyH_take (i := 8) (oi := { dst := some 61, op := _, type := _, pos := _, after := _, guard := _ }) (v := ?_) rfl (by kernel_rfl) (by kernel_rfl) (by kernel_rfl) (fun _ _ _ h => h) (Or.inl ⟨by rfl, ?_⟩) (by assumption) ?_
            rotate_left 1
            · intro wS hSw
              try dsimp only at hSw
              go_simp
              all_goals with_reducible rfl
            try simp only [Act.put, List.setIfInBounds_toArray, List.set_cons_zero, List.set_cons_succ]
            refine wpAnyH_take (i := 9) (oi := { dst := some 62, op := _, type := _, pos := _, after := _, guard := _ }) (v := ?_) rfl (by kernel_rfl) (by kernel_rfl) (by kernel_rfl) (fun _ _ _ h => h) (Or.inl ⟨by rfl, ?_⟩) (by assumption) ?_
            rotate_left 1
            · intro wS hSw
              try dsimp only at hSw
              go_simp
              all_goals with_reducible rfl
            try simp only [Act.put, List.setIfInBounds_toArray, List.set_cons_zero, List.set_cons_succ]
            refine wpAnyH_take (i := 10) (oi := { dst := some 63, op := _, type := _, pos := _, after := _, guard := _ }) (v := ?_) rfl (by kernel_rfl) (by kernel_rfl) (by kernel_rfl) (fun _ _ _ h => h) (Or.inl ⟨by rfl, ?_⟩) (by assumption) ?_
            rotate_left 1
            · intro wS hSw
              try dsimp only at hSw
              go_simp
              all_goals with_reducible rfl
            try simp only [Act.put, List.setIfInBounds_toArray, List.set_cons_zero, List.set_cons_succ]
            refine wpAnyH_take (i := 11) (oi := { dst := some 64, op := _, type := _, pos := _, after := _, guard := _ }) (v := ?_) rfl (by kernel_rfl) (by kernel_rfl) (by kernel_rfl) (fun _ _ _ h => h) (Or.inl ⟨by rfl, ?_⟩) (by assumption) ?_
            rotate_left 1
            · intro wS hSw
              try dsimp only at hSw
              go_simp
              all_goals with_reducible rfl
            try simp only [Act.put, List.setIfInBounds_toArray, List.set_cons_zero, List.set_cons_succ]
            refine wpAnyH_take (i := 12) (oi := { dst := some 65, op := _, type := _, pos := _, after := _, guard := _ }) (v := ?_) rfl (by kernel_rfl) (by kernel_rfl) (by kernel_rfl) (fun _ _ _ h => h) (Or.inl ⟨by rfl, ?_⟩) (by assumption) ?_
            rotate_left 1
            · intro wS hSw
              try dsimp only at hSw
              go_simp
              all_goals with_reducible rfl
            try simp only [Act.put, List.setIfInBounds_toArray, List.set_cons_zero, List.set_cons_succ]
            refine wpAnyH_take (i := 13) (oi := { dst := some 66, op := _, type := _, pos := _, after := _, guard := _ }) (v := ?_) rfl (by kernel_rfl) (by kernel_rfl) (by kernel_rfl) (fun _ _ _ h => h) (Or.inl ⟨by rfl, ?_⟩) (by assumption) ?_
            rotate_left 1
            · intro wS hSw
              try dsimp only at hSw
              go_simp
              all_goals with_reducible rfl
            try simp only [Act.put, List.setIfInBounds_toArray, List.set_cons_zero, List.set_cons_succ]
            refine wpAnyH_take (i := 15) (oi := { dst := some 68, op := _, type := _, pos := _, after := _, guard := _ }) (v := ?_) rfl (by kernel_rfl) (by kernel_rfl) (by kernel_rfl) (fun _ _ _ h => h) (Or.inl ⟨by rfl, ?_⟩) (by assumption) ?_
            rotate_left 1
            · intro wS hSw
              try dsimp only at hSw
              go_simp
              all_goals with_reducible rfl
            try simp only [Act.put, List.setIfInBounds_toArray, List.set_cons_zero, List.set_cons_succ]
            refine wpAnyH_take (i := 16) (oi := { dst := some 69, op := _, type := _, pos := _, after := _, guard := _ }) (v := ?_) rfl (by kernel_rfl) (by kernel_rfl) (by kernel_rfl) (fun _ _ _ h => h) (Or.inl ⟨by rfl, ?_⟩) (by assumption) ?_
            rotate_left 1
            · intro wS hSw
              try dsimp only at hSw
              go_simp
              all_goals with_reducible rfl
            try simp only [Act.put, List.setIfInBounds_toArray, List.set_cons_zero, List.set_cons_succ]
            refine wpAnyH_take (i := 17) (oi := { dst := some 70, op := _, type := _, pos := _, after := _, guard := _ }) (v := ?_) rfl (by kernel_rfl) (by kernel_rfl) (by kernel_rfl) (fun _ _ _ h => h) (Or.inl ⟨by rfl, ?_⟩) (by assumption) ?_
            rotate_left 1
            · intro wS hSw
              try dsimp only at hSw
              go_simp
              all_goals with_reducible rfl
            try simp only [Act.put, List.setIfInBounds_toArray, List.set_cons_zero, List.set_cons_succ]
            refine wpAnyH_take (i := 18) (oi := { dst := some 71, op := _, type := _, pos := _, after := _, guard := _ }) (v := ?_) rfl (by kernel_rfl) (by kernel_rfl) (by kernel_rfl) (fun _ _ _ h => h) (Or.inl ⟨by rfl, ?_⟩) (by assumption) ?_
            rotate_left 1
            · intro wS hSw
              try dsimp only at hSw
              go_simp
              all_goals with_reducible rfl
            try simp only [Act.put, List.setIfInBounds_toArray, List.set_cons_zero, List.set_cons_succ]
            refine wpAnyH_take (i := 19) (oi := { dst := some 72, op := _, type := _, pos := _, after := _, guard := _ }) (v := ?_) rfl (by kernel_rfl) (by kernel_rfl) (by kernel_rfl) (fun _ _ _ h => h) (Or.inl ⟨by rfl, ?_⟩) (by assumption) ?_
            rotate_left 1
            · intro wS hSw
              try dsimp only at hSw
              go_simp
              all_goals with_reducible rfl
            try simp only [Act.put, List.setIfInBounds_toArray, List.set_cons_zero, List.set_cons_succ]
            refine wpAnyH_take (i := 20) (oi := { dst := some 73, op := _, type := _, pos := _, after := _, guard := _ }) (v := ?_) rfl (by kernel_rfl) (by kernel_rfl) (by kernel_rfl) (fun _ _ _ h => h) (Or.inl ⟨by rfl, ?_⟩) (by assumption) ?_
            rotate_left 1
            · intro wS hSw
              try dsimp only at hSw
              go_simp
              all_goals with_reducible rfl
            try simp only [Act.put, List.setIfInBounds_toArray, List.set_cons_zero, List.set_cons_succ]
            refine wpAnyH_ready (rs := [14]) (by kernel_rfl) (by simp) ?_
            refine AllReadyH.cons (o := { dst := some 67, op := _, type := _, pos := _, after := _, guard := _ }) rfl (fun K hK => ?_) AllReadyH.nil
            go_simp
            go_at_call 44
            refine (HK1.out wr.drew (Below.refl _ wr).drew).mono ?_
            rintro e w5 ⟨rfl, hb5⟩
            have hd5 : Below wr.heap.size wr w5 := (Below.refl _ wr).drew.trans hb5
            have hk5 := And.intro ((hd5.cell (p := ⟨q1 + 1, 2, none⟩) hq).trans y2) ((hd5.cell (p := ⟨b, o + j, none⟩) hbl).trans c0)
            try go_wp2_with fail
            refine hK.out _ _ ?_ (fun hHeld => ?_)
            · exact hk5
            clear hK K
            try simp only [Act.put, List.setIfInBounds_toArray, List.set_cons_zero, List.set_cons_succ]
            refine wpAnyH_ready (rs := [21]) (by kernel_rfl) (by simp) ?_
            refine AllReadyH.cons (o := { dst := some 74, op := _, type := _, pos := _, after := _, guard := _ }) rfl (fun K hK => ?_) AllReadyH.nil
            go_simp
            go_at_call 44
            refine (HK2.out w5 hd5).mono ?_
            rintro e w6 ⟨rfl, hb6⟩
            have hd6 : Below wr.heap.size wr w6 := below_then hd5 hb6
            have hk6 := And.intro ((hd6.cell (p := ⟨q1 + 1, 2, none⟩) hq).trans y2) ((hd6.cell (p := ⟨b, o + j, none⟩) hbl).trans c0)
            try go_wp2_with fail
            refine hK.out _ _ ?_ (fun hHeld => ?_)
            · exact hk6
            clear hK K
            try simp only [Act.put, List.setIfInBounds_toArray, List.set_cons_zero, List.set_cons_succ]
            refine wpAnyH_take (i := 22) (oi := { dst := some 75, op := _, type := _, pos := _, after := _, guard := _ }) (v := ?_) rfl (by kernel_rfl) (by kernel_rfl) (by kernel_rfl) (fun _ _ _ h => h) (Or.inl ⟨by rfl, ?_⟩) (by assumption) ?_
            rotate_left 1
            · intro wS hSw
              try dsimp only at hSw
              go_simp
              all_goals with_reducible rfl
            try simp only [Act.put, List.setIfInBounds_toArray, List.set_cons_zero, List.set_cons_succ]
            refine wpAnyH_take (i := 23) (oi := { dst := some 76, op := _, type := _, pos := _, after := _, guard := _ }) (v := ?_) rfl (by kernel_rfl) (by kernel_rfl) (by kernel_rfl) (fun _ _ _ h => h) (Or.inl ⟨by rfl, ?_⟩) (by assumption) ?_
            rotate_left 1
            · intro wS hSw
              try dsimp only at hSw
              go_simp
              all_goals with_reducible rfl
            try simp only [Act.put, List.setIfInBounds_toArray, List.set_cons_zero, List.set_cons_succ]
            refine wpAnyH_done (by kernel_rfl) ?_ _
            go_wp2
            go_roundw
            case rel => exact ⟨j + 1, by go_num, by omega, below_then HBR10.out hd6⟩
            case measure => simp [intOf]; omega
        · have e9 : decide ((j : Int) < (n2 : Int)) = false := by simp; omega
          have y2 := (HN4.out.below hbr).cell 2
          simp at y2
          clear hbr
          go_wp2
          go_ret
          exact ⟨rfl, below_then HB4.out HBR10.out⟩
end
section
open Go.RowKit
set_option maxHeartbeats 2000000 in
set_option maxRecDepth 100000 in
theorem hung_on {w : World} {t k : Nat} {fs : List PF} {top bot : Option (Nat × NT)} {p : List Nat} {A B : Option Addr} {c d n : Nat} (hT : TreeBlk w t k (top.map fun y => ⟨y.1, 0, none⟩)) (hk : k ≤ 16) (hp : Pt w A k p) (hW : Way p fs top bot) (hF : ∀ f ∈ fs, Fork w k f.g f.lv f.pre f.ks) (hl : fs.length ≤ 64) (hn : n = fs.length) (hR : Rw w 1 B n (ptrs (fs.map (·.g)))) :
    Calls Try.prog 78 #[.pointer (some ⟨t, 0, none⟩), .slice B n d, .slice A k c] w fun e w' => e = .returned (ptrOf bot) ∧ Below w.heap.size w w' := by
  rcases (show fs = [] ∨ ∃ fs0 f, fs = fs0 ++ [f] from (List.eq_nil_or_concat fs).imp id fun ⟨a, b, h⟩ => ⟨a, b, by rw [h, List.concat_eq_append]⟩) with rfl | ⟨fs0, f, rfl⟩
  · have hb : top = bot := hW
    subst hb
    simp at hn
    subst hn
    have HR := hide (tr_root hT)
    unfold ptrOf
    clear hT hp hW hF hR
    go_enter Try.func78, Try.ntmps78
    go_wp2_with fail
    refine HR.out.mono ?_
    rintro e w1 ⟨rfl, rfl⟩
    go_wp2
    go_ret
    exact ⟨rfl, Below.refl _ _⟩
  · obtain ⟨-, -, hbot⟩ := hW.cut
    have hFk := hF f (by simp)
    have hn2 : n = fs0.length + 1 := by simpa using hn
    obtain ⟨j, hj⟩ : ∃ j, j = fs0.length := ⟨_, rfl⟩
    obtain ⟨b, o, rfl, hbl, u, hu, k0⟩ := hR.one (i := j) (by omega)
    have hu2 : u = .pointer (some ⟨f.g, 0, none⟩) := by
      have : (ptrs ((fs0 ++ [f]).map (·.g)))[j]? = some (.pointer (some ⟨f.g, 0, none⟩)) := by
        rw [hj]; simp [ptrs]
      rw [this] at hu
      injection hu with hu
      exact hu.symm
    rw [hu2] at k0
    have hl0 : j ≤ 65536 := by simp at hl; omega
    obtain ⟨e2, hin, hi0, hi7, hin', hn0, e5, e6⟩ := idx1 (j := j) (n := n) (by rw [hn2, hj]) hl0
    have ne0 : ((n : Int) == 0) = false := by
      clear e5 e6
      simp; omega
    have hflv : f.lv < 64 := hFk.fk.lv
    have HL := hide (nd_level hFk.node)
    have HA := hide (ref_addr A k c f.lv p w hp (by clear e5 e6; omega) hflv)
    have hkid : Calls Try.prog 44 #[.pointer (some ⟨f.g, 0, none⟩), .int .i64 (addrOf p f.lv : Int)] w fun e w' => e = .returned (ptrOf bot) ∧ Below w.heap.size w w' := by
      obtain ⟨A', c', gs', hp', hS', hB'⟩ := hFk.head
      have h9 := nd_kid hB' hS' (addrOf p f.lv : Int)
      rw [kid_ptr hFk, ← hbot] at h9
      exact h9
    unfold ptrOf at hkid ⊢
    have HK := hide hkid
    clear hT hp hW hF hR hbot hFk hn hn2 hu hu2 hkid hj hl
    go_enter Try.func78, Try.ntmps78
    go_wp2_with fail
    refine HL.out.mono ?_
    rintro e w1 ⟨rfl, rfl⟩
    go_wp2_with fail
    refine HA.out.mono ?_
    rintro e w1 ⟨rfl, rfl⟩
    go_wp2_with fail
    refine HK.out.mono ?_
    rintro e w1 ⟨rfl, hb1⟩
    have HB1 := hide hb1
    clear hb1
    go_wp2
    go_ret
    exact ⟨rfl, HB1.out⟩
end
section
open Go.RowKit
theorem Way.app {p : List Nat} : ∀ {fs : List PF} {top bot : Option (Nat × NT)} {f : PF}, Way p fs top bot → bot = some (f.g, f.nt) → part f.pre p ≤ (f.lv : Int) → Way p (fs ++ [f]) top (kidAt f.ks (addrOf p f.lv)) := fun h hb hc => Way.snoc h hb hc
/-- Two forks at one level with the very same kids but one. -/
def Twin (p : List Nat) (f f2 : PF) : Prop := f2.lv = f.lv ∧ ∀ z, z ≠ addrOf p f.lv → ptrOf (kidAt f.ks z) = ptrOf (kidAt f2.ks z)
/-- The path behind an act. -/
structure After (w' : World) (k : Nat) (p : List Nat) (fs : List PF) (t' : Nat) (top2 : Option (Nat × NT)) (fs2 : List PF) (bot2 : Option (Nat × NT)) (gs2 : List Nat) (below2 : Option (Nat × NT)) : Prop where
  tree : TreeBlk w' t' k (top2.map fun y => ⟨y.1, 0, none⟩)
  way : Way p fs2 top2 bot2
  forks : ∀ f ∈ fs2, Fork w' k f.g f.lv f.pre f.ks
  end_ : PathEnd w' k p fs2 bot2 gs2 below2
theorem UpRel.twin {p : List Nat} {fs fs' : List PF} {x : Nat × NT} {i : Nat} {f f' : PF} (h : UpRel p fs fs' x) (h1 : fs[i]? = some f) (h2 : fs'[i]? = some f') : Twin p f f' := by
  obtain ⟨a, b, q, hq, hks⟩ := h.at_ h1 h2
  refine ⟨a, fun z hz => ?_⟩
  rw [hks, kidAt_insK_ne (by rw [hq]; exact hz)]
/-- Behind a Put that changed the tree. -/
theorem after_put {w w' : World} {k v t t' : Nat} {p : List Nat} {fs : List PF} {top bot below : Option (Nat × NT)} {gs : List Nat} (hp : Zp k p) (hW : Way p fs top bot) (hE : PathEnd w k p fs bot gs below) (hF : ∀ f ∈ fs, FK k f) (hne : t' ≠ t) (h : PutSh k p v fs bot below t t' w') :
    ∃ (top2 : Option (Nat × NT)) (fs2 : List PF) (bot2 : Option (Nat × NT)) (gs2 : List Nat) (below2 : Option (Nat × NT)), After w' k p fs t' top2 fs2 bot2 gs2 below2 ∧ (∀ (i : Nat) (f f2 : PF), fs[i]? = some f → fs2[i]? = some f2 → Twin p f f2) ∧
      ((gs2.length ≤ gs.length + 1 ∧ gs.length ≤ gs2.length) ∨ (gs2.length = gs.length + 2 ∧ gs = fs.map (·.g) ∧ ∃ (y : Nat × NT) (f2 : PF), bot = some y ∧ fs2[fs.length]? = some f2 ∧ gs2[fs.length]? = some f2.g ∧ Zp k y.2.pre ∧ ∃ nt, kidAt f2.ks (addrOf y.2.pre f2.lv) = some (y.1, nt))) := by
  rcases h with h | ⟨fs', x, h1, h2, h3, h4, h5⟩
  · exact absurd h hne
  have hlen := h2.len
  have hway := h2.way hW.covers
  rcases h5 with ⟨hx, hbe⟩ | ⟨y, mm, g4, hbe, hbo, hlv, hpt, hzy, hn4, hfk, hx⟩
  · obtain ⟨xg, xn⟩ := x
    simp only at hx h4
    subst hx
    refine ⟨some (pTop fs' _), fs', some _, _, none, ⟨h1, hway, h3, .leaf xg v h4⟩, fun i f f2 a b => h2.twin a b, .inl ?_⟩
    cases hE with
    | none => simp; omega
    | leaf g v0 hn => simp; omega
    | miss y hn hm => cases hbe
  · obtain ⟨xg, xn⟩ := x
    simp only at hx h4 hfk
    have hgs : gs = fs.map (·.g) := by
      cases hE with
      | none => rfl
      | leaf g v0 hn => cases hbe
      | miss z hn hm => rfl
    have hne' : addrOf y.2.pre mm ≠ addrOf p mm := by
      have := (part_spec y.2.pre p (by rw [hzy.1, hp.1]) hzy.2 hp.2).2.2.2
      rw [hpt] at this
      exact this (by omega)
    have hpk : pairK y.1 g4 y.2.lv (-1) y.2.pre p y.2.es [(p, v)] mm = insK (insK [] ⟨addrOf y.2.pre mm, y.1, y.2.lv, y.2.pre, y.2.es⟩) ⟨addrOf p mm, g4, -1, p, [(p, v)]⟩ := rfl
    have hkp : kidAt (pairK y.1 g4 y.2.lv (-1) y.2.pre p y.2.es [(p, v)] mm) (addrOf p mm) = some (g4, ⟨-1, p, [(p, v)]⟩) := by
      rw [hpk]
      exact kidAt_insK (q := ⟨addrOf p mm, g4, -1, p, [(p, v)]⟩)
    have hky : kidAt (pairK y.1 g4 y.2.lv (-1) y.2.pre p y.2.es [(p, v)] mm) (addrOf y.2.pre mm) = some (y.1, ⟨y.2.lv, y.2.pre, y.2.es⟩) := by
      rw [hpk, kidAt_insK_ne (q := ⟨addrOf p mm, g4, -1, p, [(p, v)]⟩) hne']
      exact kidAt_insK (q := ⟨addrOf y.2.pre mm, y.1, y.2.lv, y.2.pre, y.2.es⟩)
    have hcv : part (cut (mm + 1) y.2.pre) p ≤ (mm : Int) := by
      refine (part_le_iff (zp_cut hzy) hp _ (by omega)).2 fun b hb => ?_
      rw [addr_cut_hi _ (by omega)]
      have := (part_spec y.2.pre p (by rw [hzy.1, hp.1]) hzy.2 hp.2).2.2.1
      rw [hpt] at this
      exact this b hb
    have hw2 := Way.snoc (f := (⟨xg, mm, cut (mm + 1) y.2.pre, pairK y.1 g4 y.2.lv (-1) y.2.pre p y.2.es [(p, v)] mm⟩ : PF)) hway (by rw [hx]; rfl) hcv
    simp only at hw2
    rw [hkp] at hw2
    refine ⟨some (pTop fs' _), fs' ++ [⟨xg, mm, cut (mm + 1) y.2.pre, pairK y.1 g4 y.2.lv (-1) y.2.pre p y.2.es [(p, v)] mm⟩], _, _, none, ⟨h1, hw2, fun f hf => ?_, .leaf g4 v hn4⟩, fun i f f2 a b => ?_, .inr ⟨?_, hgs, y, ⟨xg, mm, cut (mm + 1) y.2.pre, pairK y.1 g4 y.2.lv (-1) y.2.pre p y.2.es [(p, v)] mm⟩, hbo, ?_, ?_, hzy, _, hky⟩⟩
    · rcases List.mem_append.1 hf with hf | hf
      · exact h3 f hf
      · rw [List.mem_singleton] at hf
        subst hf
        exact hfk
    · have hi := (List.getElem?_eq_some_iff.1 a).1
      rw [List.getElem?_append_left (by omega)] at b
      exact h2.twin a b
    · rw [hgs]; simp; omega
    · rw [← hlen]; simp
    · rw [← hlen]; simp
/-- Behind a Del. -/
theorem after_del {w w' : World} {k t' : Nat} {p : List Nat} {fs : List PF} {top bot below : Option (Nat × NT)} {g v0 : Nat} (hp : Zp k p) (hW : Way p fs top bot) (hF : ∀ f ∈ fs, FK k f) (h : DelSh k p fs t' w') :
    ∃ (top2 : Option (Nat × NT)) (fs2 : List PF) (bot2 : Option (Nat × NT)) (gs2 : List Nat) (below2 : Option (Nat × NT)), After w' k p fs t' top2 fs2 bot2 gs2 below2 ∧ (∀ (i : Nat) (f f2 : PF), fs[i]? = some f → fs2[i]? = some f2 → Twin p f f2) ∧
      ((gs2.length ≤ fs.length ∧ fs.length ≤ gs2.length) ∨ (gs2.length + 1 = fs.length ∧ gs2 = fs2.map (·.g) ∧ ∃ (fs0 : List PF) (f : PF) (r : Kid) (nt : NT), fs = fs0 ++ [f] ∧ delK f.ks (addrOf p f.lv) = [r] ∧ bot2 = some (r.blk, nt))) := by
  rcases h with ⟨rfl, hT⟩ | ⟨fs0, f, fs', x, rfl, h1, h2, h3, h4, h5⟩
  · exact ⟨none, [], none, _, _, ⟨hT, rfl, fun f hf => (by cases hf), .none⟩, fun i f f2 a => by simp at a, .inl (by simp)⟩
  obtain ⟨c1, c2, c3⟩ := hW.cut
  have hf := hF f (by simp)
  have hlen := h2.len
  have hway := h2.way c1.covers
  rcases h5 with ⟨r, hr, hx⟩ | ⟨hfk, hx⟩
  · subst hx
    have hrm : r ∈ f.ks ∧ r.at_ ≠ addrOf p f.lv := mem_delK.1 (by rw [hr]; simp)
    have hmiss : r.lv < part r.pre p := by
      rcases Int.lt_or_le r.lv (part r.pre p) with h | h
      · exact h
      · exfalso
        have hlow := hf.low r hrm.1
        have := (part_le_iff (hf.ksz r hrm.1) hp _ (hf.up r hrm.1)).1 h f.lv hlow
        rw [(hf.at_ r hrm.1).1] at this
        exact hrm.2 this
    refine ⟨some (pTop fs' _), fs', some _, _, some _, ⟨h1, hway, h3, .miss (r.blk, ⟨r.lv, r.pre, r.es⟩) h4 hmiss⟩, fun i a b ha hb => ?_, .inr ⟨by simp; omega, rfl, fs0, f, r, _, rfl, hr, rfl⟩⟩
    have hi := (List.getElem?_eq_some_iff.1 hb).1
    rw [List.getElem?_append_left (by omega)] at ha
    exact h2.twin ha hb
  · obtain ⟨xg, xn⟩ := x
    simp only at hx hfk h4
    have hw2 := Way.snoc (f := (⟨xg, f.lv, f.pre, delK f.ks (addrOf p f.lv)⟩ : PF)) hway (by rw [hx]; rfl) c2
    simp only at hw2
    rw [kidAt_delK] at hw2
    refine ⟨some (pTop fs' _), fs' ++ [⟨xg, f.lv, f.pre, delK f.ks (addrOf p f.lv)⟩], none, _, none, ⟨h1, hw2, fun a ha => ?_, .none⟩, fun i a b ha hb => ?_, .inl (by simp; omega)⟩
    · rcases List.mem_append.1 ha with ha | ha
      · exact h3 a ha
      · rw [List.mem_singleton] at ha
        subst ha
        exact hfk
    · rcases Nat.lt_or_ge i fs0.length with hi | hi
      · rw [List.getElem?_append_left hi] at ha
        rw [List.getElem?_append_left (by omega)] at hb
        exact h2.twin ha hb
      · have hil := (List.getElem?_eq_some_iff.1 ha).1
        simp at hil
        obtain rfl : i = fs0.length := by omega
        rw [List.getElem?_append_right (by omega)] at ha
        rw [List.getElem?_append_right (by omega)] at hb
        rw [show fs0.length - fs'.length = 0 by omega] at hb
        simp at ha hb
        subst ha hb
        exact ⟨rfl, fun z hz => by rw [kidAt_delK_ne hz]⟩
end
section
open Go.RowKit
theorem PathEnd.stay {w w' : World} {k : Nat} {p : List Nat} {fs : List PF} {bot below : Option (Nat × NT)} {gs : List Nat} (h : PathEnd w k p fs bot gs below) (hb : Below w.heap.size w w') : PathEnd w' k p fs bot gs below := by
  cases h with
  | none => exact .none
  | leaf g v hn => exact .leaf g v (hn.stay hb)
  | miss x hn hm => exact .miss x (hn.stay hb) hm
theorem After.stay {w w' : World} {k t' : Nat} {p : List Nat} {fs fs2 : List PF} {top2 bot2 below2 : Option (Nat × NT)} {gs2 : List Nat} (h : After w k p fs t' top2 fs2 bot2 gs2 below2) (hb : Below w.heap.size w w') : After w' k p fs t' top2 fs2 bot2 gs2 below2 :=
  ⟨Blk.below h.tree hb, h.way, fun f hf => (h.forks f hf).stay hb, h.end_.stay hb⟩
set_option maxHeartbeats 1000000 in
set_option maxRecDepth 100000 in
theorem tr_Path_on {w : World} {t k : Nat} {fs : List PF} {top bot below : Option (Nat × NT)} {gs : List Nat} (hT : TreeBlk w t k (top.map fun y => ⟨y.1, 0, none⟩)) (hk1 : 1 ≤ k) (hk : k ≤ 16) {A : Option Addr} {c : Nat} {p : List Nat} (hp : Pt w A k p) (hW : Way p fs top bot) (hF : ∀ f ∈ fs, Fork w k f.g f.lv f.pre f.ks) (hl : fs.length ≤ 64) (hend : PathEnd w k p fs bot gs below) :
    Calls Try.prog 72 #[.pointer (some ⟨t, 0, none⟩), .slice A k c] w fun e w' => ∃ (B : Option Addr) (d : Nat), e = .returned (.tuple #[.slice B gs.length d, .int .i64 0]) ∧ w'.ownsRow w.heap.size 54 1 (.slice B gs.length d) gs.length (ptrs gs) ∧ Below w.heap.size w w' := by
  have HC := hide (tr_check hT A c)
  have HP := hide (tr_path_on (c := c) hT hk1 hk hp hW hF hl hend)
  clear hT hp hW hF hend
  go_enter Try.func72, Try.ntmps72
  go_wp2_with fail
  refine HC.out.mono ?_
  rintro e w1 ⟨rfl, rfl⟩
  go_wp2_with fail
  refine HP.out.mono ?_
  rintro e w1 ⟨B, d, rfl, h5, h6⟩
  have H := hide (And.intro h5 h6)
  unfold ptrOf
  clear h5 h6
  go_wp2
  go_ret2
  exact ⟨B, d, rfl, H.out.1, H.out.2⟩
/-- The new path is not longer than it may be. -/
theorem After.len {w : World} {k t' : Nat} {p : List Nat} {fs fs2 : List PF} {top2 bot2 below2 : Option (Nat × NT)} {gs2 : List Nat} (h : After w k p fs t' top2 fs2 bot2 gs2 below2) (hT : TopOk w k top2) : fs2.length ≤ 64 := by
  cases fs2 with
  | nil => simp
  | cons f fs2 =>
    have h0 := h.way.1
    have hW := h.way
    rw [h0] at hW
    have hi := (hT _ h0).info
    have := Way.len (fun f hf => (h.forks f hf).fk) hi.2.2.1 hW
    have := hi.2.2.2.1
    omega
set_option maxRecDepth 100000 in
open Go.ChangeShapes Go.WideShapes in
/-- An act that came in by value. -/
theorem open_act7 {H : Type} {enc : TypeId × Value → H} {w : World} {v : Value} {d : DataW H} {ps : List MemPlace}
    (h : DataW.Trod enc Try.prog w 0 (fun _ => true) true 94 v d ps) : ∃ (u0 u1 u2 : Value) (r : TA), v.cells.toList = [u0, u1, u2] ∧ [u0, u1, u2] = tav r ∧ r.ok w := by
  obtain ⟨fuel, hd⟩ := h
  obtain ⟨yb, y0, y1, n', -, hl, gb, g0, g1⟩ := Go.Deep.trod_struct3 Try.underlying94 hd
  generalize v.cells.toList = cs at *
  have hl2 : cs.length = 3 := hl
  match cs, hl2 with
  | [ub, u0, u1], _ =>
    obtain ⟨b, eb, -⟩ := DataW.trod_bool Try.underlying4 gb
    have eb' : ub = .bool b := by
      rw [show Try.prog.cellsOf 4 = 1 by kernel_rfl] at eb
      simpa using eb
    have g0' : DataW.trod enc Try.prog w 0 (fun _ => true) true n' 30 [u0] = some y0 := by
      rw [show Try.prog.cellsOf 30 = 1 by kernel_rfl] at g0
      simpa using g0
    obtain ⟨z, e1, -, hw⟩ := DataW.trod_int Try.underlying28 g1
    have e1' : u1 = .int .u64 z := by
      rw [show Try.prog.cellsOf 28 = 1 by kernel_rfl] at e1
      simpa using e1
    have hz := wf_u64 hw
    have hz1 : u1 = .int .u64 ((z.toNat : Nat) : Int) := by rw [e1', Int.toNat_of_nonneg hz.1]
    rcases Go.Deep.open_slice Try.underlying30 g0' with ⟨h0, _⟩ | ⟨a, l, c, _, _, _, _, h0, _⟩
    · have h0' : u0 = .slice none 0 0 := by simpa using h0
      exact ⟨ub, u0, u1, ⟨b, none, 0, 0, [], z.toNat⟩, rfl, by rw [h0', hz1, eb']; rfl, pt_nil w, Nat.le_refl _, Nat.zero_le _, by show z.toNat < 18446744073709551616; omega⟩
    · have h0' : u0 = .slice (some a) l c := by simpa using h0
      rw [h0'] at g0'
      obtain ⟨p, q1, q2, q3⟩ := open_point' g0'
      exact ⟨ub, u0, u1, ⟨b, some a, l, c, p, z.toNat⟩, rfl, by rw [h0', hz1, eb']; rfl, q1, q2, q3, by show z.toNat < 18446744073709551616; omega⟩
end
section
open Go.RowKit
/-- What an act of these two kinds leaves to be looked at. -/
def ActSh (d : Bool) (k v : Nat) (p : List Nat) (fs : List PF) (bot below : Option (Nat × NT)) (t t' : Nat) (w' : World) : Prop := if d then DelSh k p fs t' w' else PutSh k p v fs bot below t t' w'
theorem done_sh {w : World} {t n c k : Nat} {A : Option Addr} {rows : List ER} {es : List Ent} {r : TA} {fs : List PF} {top bot below : Option (Nat × NT)} {gs : List Nat} (hT : TreeOf w k t es) (hB : TreeBlk w t k (top.map fun y => ⟨y.1, 0, none⟩)) (htes : esOf top = es) (hE : EntsAt w A n rows) (hnc : n ≤ c) (hS : SortR k rows) (hkk : ∀ r ∈ rows, r.n = k) (hes : ents rows = es) (hn : n ≤ 1000) (hr : r.ok w) (hrn : r.n = k)
    (hW : Way r.p fs top bot) (hF : ∀ f ∈ fs, Fork w k f.g f.lv f.pre f.ks) (hl : fs.length ≤ 64) (hend : PathEnd w k r.p fs bot gs below) :
    Calls Try.prog 63 #[.pointer (some ⟨t, 0, none⟩), .slice A n c, .agg #[.bool r.d, .slice r.A r.n r.c, .int .u64 (r.v : Int)]] w (DoneOutX w k t n (ActSh r.d k r.v r.p fs bot below t)) := by
  obtain ⟨d, RA, Rn, Rc, p, v⟩ := r
  obtain ⟨h1, h2, h3, h4⟩ := hr
  simp only at hrn h1 h2 h3 h4 hW hend ⊢
  subst hrn
  cases d with
  | true =>
    exact done_del_x (X := ActSh true Rn v p fs bot below t) hT hE hnc hS hkk hes hn h1 h2 h3 h4 (fun t' W W' hb h => DelSh.stay h hb) fun W hWb =>
      (tr_del_on (c := Rc) (hT.stay hWb) (Blk.below hB hWb) htes (h1.below hWb) hW (fun f hf => (hF f hf).stay hWb) hl (hend.stay hWb)).mono fun e w' h => h
  | false =>
    exact done_put_x (X := ActSh false Rn v p fs bot below t) hT hE hnc hS hkk hes hn h1 h2 h3 h4 (fun t' W W' hb h => PutSh.stay h hb) fun W hWb =>
      (tr_put_on (c := Rc) (hT.stay hWb) (Blk.below hB hWb) htes (h1.below hWb) h4 hW (fun f hf => (hF f hf).stay hWb) hl (hend.stay hWb)).mono fun e w' h => h
/-- A node on a path is a fork of it, or the entry at its end. -/
theorem PathEnd.at_or {w : World} {k : Nat} {p : List Nat} {fs : List PF} {bot below : Option (Nat × NT)} {gs : List Nat} (h : PathEnd w k p fs bot gs below) {i g : Nat} (hg : gs[i]? = some g) : (∃ f, fs[i]? = some f ∧ g = f.g) ∨ ∃ v, NodeOf w k g (-1) p [(p, v)] := by
  have key : ∀ (i g : Nat), (fs.map (·.g))[i]? = some g → ∃ f, fs[i]? = some f ∧ g = f.g := by
    intro i g h1
    rw [List.getElem?_map] at h1
    obtain ⟨f, hf, rfl⟩ := Option.map_eq_some_iff.1 h1
    exact ⟨f, hf, rfl⟩
  cases h with
  | none => exact .inl (key i g hg)
  | miss x hn hm => exact .inl (key i g hg)
  | leaf g' v hn =>
    rcases Nat.lt_or_ge i fs.length with hi | hi
    · rw [List.getElem?_append_left (by simpa using hi)] at hg
      exact .inl (key i g hg)
    · rw [List.getElem?_append_right (by simpa using hi)] at hg
      have h1 := (List.getElem?_eq_some_iff.1 hg).1
      simp at h1
      rw [show i - (fs.map (·.g)).length = 0 by simp; omega] at hg
      simp at hg
      rw [← hg]
      exact .inr ⟨v, hn⟩
theorem PathEnd.bot_node {w : World} {k : Nat} {p : List Nat} {fs : List PF} {bot below : Option (Nat × NT)} {gs : List Nat} (h : PathEnd w k p fs bot gs below) {y : Nat × NT} (hb : bot = some y) : NodeOf w k y.1 y.2.lv y.2.pre y.2.es := by
  cases h with
  | none => cases hb
  | leaf g v hn => injection hb with hb; rw [← hb]; exact hn
  | miss x hn hm => injection hb with hb; rw [← hb]; exact hn
theorem After.len2 {w : World} {k t' : Nat} {p : List Nat} {fs fs2 : List PF} {top2 bot2 below2 : Option (Nat × NT)} {gs2 : List Nat} (h : After w k p fs t' top2 fs2 bot2 gs2 below2) : fs2.length ≤ 64 := by
  cases fs2 with
  | nil => simp
  | cons f fs2 =>
    have h0 := h.way.1
    have hW := h.way
    rw [h0] at hW
    have hi := (h.forks f List.mem_cons_self).node.info
    have := Way.len (x := (f.g, f.nt)) (fun f hf => (h.forks f hf).fk) hi.2.2.1 hW
    have := hi.2.2.2.1
    simp only [PF.nt] at *
    omega
/-- How the two paths end. -/
inductive EndIs (w' : World) (k : Nat) (p : List Nat) (d : Bool) (fs fs2 : List PF) (bot bot2 : Option (Nat × NT)) (gs gs2 : List Nat) : Prop
  | near (h : gs2.length ≤ gs.length + 1) (h2 : gs.length ≤ gs2.length + 1)
  | more (hd : d = false) (h : gs2.length = gs.length + 2) (hg : gs = fs.map (·.g)) (y : Nat × NT) (f2 : PF) (hb : bot = some y) (hf : fs2[fs.length]? = some f2) (hg2 : gs2[fs.length]? = some f2.g) (hz : Zp k y.2.pre) (nt : NT) (hk : kidAt f2.ks (addrOf y.2.pre f2.lv) = some (y.1, nt))
  | less (hd : d = true) (h : gs2.length + 2 = gs.length) (hge : gs.length = fs.length + 1) (hg : gs2 = fs2.map (·.g)) (fs0 : List PF) (f : PF) (r : Kid) (nt : NT) (hf : fs = fs0 ++ [f]) (hr : delK f.ks (addrOf p f.lv) = [r]) (hb : bot2 = some (r.blk, nt))
/-- The path behind an act of either kind. -/
theorem after_act {w w' : World} {d : Bool} {k v t t' : Nat} {p : List Nat} {fs : List PF} {top bot below : Option (Nat × NT)} {gs : List Nat} (hp : Zp k p) (hW : Way p fs top bot) (hE : PathEnd w k p fs bot gs below) (hF : ∀ f ∈ fs, FK k f) (hne : t' ≠ t) (h : ActSh d k v p fs bot below t t' w') :
    ∃ (top2 : Option (Nat × NT)) (fs2 : List PF) (bot2 : Option (Nat × NT)) (gs2 : List Nat) (below2 : Option (Nat × NT)), After w' k p fs t' top2 fs2 bot2 gs2 below2 ∧ (∀ (i : Nat) (f f2 : PF), fs[i]? = some f → fs2[i]? = some f2 → Twin p f f2) ∧ EndIs w' k p d fs fs2 bot bot2 gs gs2 := by
  have hlen := hE.len hp
  cases d with
  | true =>
    obtain ⟨top2, fs2, bot2, gs2, below2, h1, h2, h3⟩ := after_del (w := w) (below := below) (g := 0) (v0 := 0) hp hW hF h
    refine ⟨top2, fs2, bot2, gs2, below2, h1, h2, ?_⟩
    rcases h3 with ⟨a, b⟩ | ⟨a, b, fs0, f, r, nt, c1, c2, c3⟩
    · exact .near (by omega) (by omega)
    · rcases Nat.eq_or_lt_of_le hlen.2.1 with h4 | h4
      · exact .near (by omega) (by omega)
      · exact .less rfl (by omega) (by omega) b fs0 f r nt c1 c2 c3
  | false =>
    obtain ⟨top2, fs2, bot2, gs2, below2, h1, h2, h3⟩ := after_put hp hW hE hF hne h
    refine ⟨top2, fs2, bot2, gs2, below2, h1, h2, ?_⟩
    rcases h3 with ⟨a, b⟩ | ⟨a, b, y, f2, c1, c2, c3, c4, nt, c5⟩
    · exact .near (by omega) (by omega)
    · exact .more rfl a b y f2 c1 c2 c3 c4 nt c5
theorem open_act7' {H : Type} {enc : TypeId × Value → H} {w : World} {v : Value} {d : DataW H} {ps : List MemPlace}
    (h : DataW.Trod enc Try.prog w 0 (fun _ => true) true 94 v d ps) : ∃ r : TA, v.cells.toList = tav r ∧ r.ok w := by
  obtain ⟨u0, u1, u2, r, h1, h2, h3⟩ := open_act7 h
  exact ⟨r, h1.trans h2, h3⟩
end
end Go.Proofs.Ytkknfnjojamgjaa
