/- A drawn region whose stores write cells that it has loaded: a condition on the world that lapses with the store. -/
import Derived.Test.YtlgdllohmmmegaaBaA
import Derived.Deep.RegionHeld3
set_option linter.unusedSimpArgs false
set_option linter.unusedVariables false
namespace Go.Proofs.Ytlgdllohmmmegaa
open Go.RowKit
section
variable {P : Program} {ops : Array Oper} {Q : Exit → Act → World → Prop} {md : Region.Mode} {C C1 C2 : World → Prop} {b1 b2 : Nat}
/-- C; and, as long as number b1 has not come up, C1; as long as number b2 has not, C2. -/
def Sta (C C1 C2 : World → Prop) (b1 b2 : Nat) (l : Array Bool) (w : World) : Prop := C w ∧ (l.getD b1 true = false → C1 w) ∧ (l.getD b2 true = false → C2 w)
def wpStore (P : Program) (md : Region.Mode) (ops : Array Oper) (Q : Exit → Act → World → Prop) (C C1 C2 : World → Prop) (b1 b2 : Nat) : Nat → Array Bool → Act → World → Prop
  | 0, l, a, w => Region.ready md ops l = [] ∧ Q .normal a w
  | n + 1, l, a, w => (Region.ready md ops l = [] → Q .normal a w) ∧
    ∀ i ∈ Region.ready md ops l, wpOp P ops Q i (fun a' w' => Sta C C1 C2 b1 b2 (l.setIfInBounds i true) w' ∧ wpStore P md ops Q C C1 C2 b1 b2 n (l.setIfInBounds i true) a' w') a w
theorem wpStore_any : ∀ (n : Nat) (l : Array Bool) (a : Act) (w : World), wpStore P md ops Q C C1 C2 b1 b2 n l a w → wpAny P md ops Q n l a w
  | 0, _, _, _, h => h
  | n + 1, _, _, _, h => ⟨h.1, fun i hi => wpOp_mono (fun a' w' h' => wpStore_any n _ a' w' h'.2) (h.2 i hi)⟩
theorem Sta.unset {l : Array Bool} {i : Nat} {w : World} (h1 : b1 ≠ i) (h2 : b2 ≠ i) : Sta C C1 C2 b1 b2 (l.setIfInBounds i true) w ↔ Sta C C1 C2 b1 b2 l w := by
  unfold Sta
  rw [getD_set_ne true (Ne.symm h1), getD_set_ne true (Ne.symm h2)]
/-- Number b waits for number i. -/
def waits (md : Region.Mode) (ops : Array Oper) (b i : Nat) : Bool := match ops[b]? with
  | some o => o.after.any fun e => Region.binds md e && e.on == i
  | none => false
theorem waits_not {b i : Nat} {l : Array Bool} (h : waits md ops b i = true) (hi : l.getD i true = false) : b ∉ Region.ready md ops l := by
  intro hb
  obtain ⟨_, o, ho, hall⟩ := mem_ready.1 hb
  unfold waits at h
  rw [ho] at h
  simp only [Array.any_eq_true, Bool.and_eq_true, beq_iff_eq] at h
  obtain ⟨k, hk, hb1, hb2⟩ := h
  have := hall _ (Array.getElem_mem hk) hb1
  rw [hb2] at this
  rcases Nat.lt_or_ge i l.size with h' | h'
  · simp [h'] at hi this
    rw [hi] at this
    cases this
  · simp [Array.getElem?_eq_none h'] at hi this
def Now (C C1 C2 : World → Prop) (u1 u2 : Bool) (w : World) : Prop := C w ∧ (u1 = true → C1 w) ∧ (u2 = true → C2 w)
theorem wpStore_first {i : Nat} {oi : Oper} {v : Value} (u1 u2 : Bool) (hi : ops[i]? = some oi) (hsel : ∀ (j : Nat) (o : Oper) cs b, ops[j]? = some o → o.op ≠ .select cs b)
    (hQ : ∀ c a w, Q (.panic c) (a.put oi.dst v) w → Q (.panic c) a w) (hn1 : b1 ≠ i) (hn2 : b2 ≠ i)
    (h1 : u1 = true → waits md ops b1 i = true) (h2 : u2 = true → waits md ops b2 i = true) :
    ∀ (n : Nat) (l : Array Bool) (a : Act) (w : World),
      (∀ j oj, ops[j]? = some oj → j ≠ i → l.getD j true = false → (∀ e ∈ oj.after, Region.binds md e = true → e.on ≠ i) → oi.apart ops oj = true) →
      (u1 = true → l.getD b1 true = false) → (u2 = true → l.getD b2 true = false) →
      i ∈ Region.ready md ops l → YieldsIf P ops (Now C C1 C2 u1 u2) oi v a → Sta C C1 C2 b1 b2 l w →
      wpStore P md ops Q C C1 C2 b1 b2 n (l.setIfInBounds i true) (a.put oi.dst v) w → wpStore P md ops Q C C1 C2 b1 b2 (n + 1) l a w := by
  have now : ∀ {l : Array Bool} {w : World}, (u1 = true → l.getD b1 true = false) → (u2 = true → l.getD b2 true = false) → Sta C C1 C2 b1 b2 l w → Now C C1 C2 u1 u2 w :=
    fun g1 g2 hs => ⟨hs.1, fun h => hs.2.1 (g1 h), fun h => hs.2.2 (g2 h)⟩
  intro n
  induction n with
  | zero =>
    intro l a w _ g1 g2 hr hy hS H
    refine ⟨fun h => (by rw [h] at hr; cases hr), fun j hj => ?_⟩
    by_cases hji : j = i
    · subst hji
      exact hy.wpOp hi (now g1 g2 hS) ⟨(Sta.unset hn1 hn2).2 hS, H⟩
    · have := ready_mono hj hji
      rw [H.1] at this
      cases this
  | succ n ih =>
    intro l a w hfree g1 g2 hr hy hS H
    refine ⟨fun h => (by rw [h] at hr; cases hr), fun j hj => ?_⟩
    by_cases hji : j = i
    · subst hji
      exact hy.wpOp hi (now g1 g2 hS) ⟨(Sta.unset hn1 hn2).2 hS, H⟩
    · have k1 := H.2 j (ready_mono hj hji)
      obtain ⟨hjun, oj, hoj, hall⟩ := mem_ready.1 hj
      have hiun := (mem_ready.1 hr).1
      have hnot : ∀ e ∈ oj.after, Region.binds md e = true → e.on ≠ i := fun e he hb heq => by
        have q1 := hall e he hb
        rw [heq] at q1
        rcases Nat.lt_or_ge i l.size with h' | h'
        · simp [h'] at hiun q1
          rw [hiun] at q1
          cases q1
        · simp [Array.getElem?_eq_none h'] at hiun q1
      have k2 := wpOp_putIf hoj (hfree j oj hoj hji hjun hnot) (fun cs b => hsel i oi cs b hi) (fun cs b => hsel j oj cs b hoj) hQ hy k1
      have hfree' : ∀ k ok, ops[k]? = some ok → k ≠ i → (l.setIfInBounds j true).getD k true = false →
          (∀ e ∈ ok.after, Region.binds md e = true → e.on ≠ i) → oi.apart ops ok = true := fun k ok hk hki hun hno => by
        refine hfree k ok hk hki ?_ hno
        by_cases hjk : j = k
        · subst hjk
          exact hjun
        · rw [getD_set_ne true hjk] at hun
          exact hun
      have g1' : u1 = true → (l.setIfInBounds j true).getD b1 true = false := fun h => by
        rw [getD_set_ne true (fun e => waits_not (h1 h) hiun (by rw [← e]; exact hj))]
        exact g1 h
      have g2' : u2 = true → (l.setIfInBounds j true).getD b2 true = false := fun h => by
        rw [getD_set_ne true (fun e => waits_not (h2 h) hiun (by rw [← e]; exact hj))]
        exact g2 h
      refine wpOp_mono (fun a' w' k3 => ?_) k2
      have k4 := k3.2.1
      rw [Array.setIfInBounds_comm _ _ (Ne.symm hji)] at k4
      have k5 := (Sta.unset hn1 hn2).1 k4
      refine ⟨k5, ih (l.setIfInBounds j true) a' w' hfree' g1' g2' (ready_mono hr (Ne.symm hji)) k3.1 k5 ?_⟩
      rw [Array.setIfInBounds_comm _ _ hji]
      exact k3.2.2
/-- Number i first: u1, u2 say which of C1 and C2 it needs. -/
theorem wpStore_take {i : Nat} {oi : Oper} {v : Value} {n : Nat} {l : Array Bool} {a : Act} {w : World} (u1 u2 : Bool) (hi : ops[i]? = some oi)
    (hs : Region.noSelect ops = true) (hf : Region.free md ops l i = true) (hr : (Region.ready md ops l).contains i = true)
    (hb : (b1 != i && b2 != i && (!u1 || (waits md ops b1 i && !l.getD b1 true)) && (!u2 || (waits md ops b2 i && !l.getD b2 true))) = true)
    (hQ : ∀ c a w, Q (.panic c) (a.put oi.dst v) w → Q (.panic c) a w) (hy : YieldsIf P ops (Now C C1 C2 u1 u2) oi v a) (hS : Sta C C1 C2 b1 b2 l w)
    (h : Sta C C1 C2 b1 b2 (l.setIfInBounds i true) w → wpStore P md ops Q C C1 C2 b1 b2 n (l.setIfInBounds i true) (a.put oi.dst v) w) : wpStore P md ops Q C C1 C2 b1 b2 (n + 1) l a w := by
  simp only [Bool.and_eq_true, bne_iff_ne, ne_eq, Bool.or_eq_true, Bool.not_eq_true'] at hb
  obtain ⟨⟨⟨q1, q2⟩, q3⟩, q4⟩ := hb
  exact wpStore_first u1 u2 hi (Region.noSelect_spec hs) hQ q1 q2 (fun e => by rcases q3 with q | q; rw [e] at q; cases q; exact q.1) (fun e => by rcases q4 with q | q; rw [e] at q; cases q; exact q.1) n l a w (Region.free_spec hi hf)
    (fun e => by rcases q3 with q | q; rw [e] at q; cases q; exact q.2) (fun e => by rcases q4 with q | q; rw [e] at q; cases q; exact q.2) (by simpa using hr) hy hS (h ((Sta.unset q1 q2).2 hS))
theorem wpStore_done {l : Array Bool} {a : Act} {w : World} (hr : Region.ready md ops l = []) (h : Q .normal a w) : ∀ n, wpStore P md ops Q C C1 C2 b1 b2 n l a w
  | 0 => ⟨hr, h⟩
  | _ + 1 => ⟨fun _ => h, by rw [hr]; simp⟩
/-- One that may come up alone. -/
theorem wpStore_one {n : Nat} {l : Array Bool} {a : Act} {w : World} {i : Nat} {o : Oper} (hr : Region.ready md ops l = [i]) (ho : ops[i]? = some o)
    (h : ∀ K' : Act → World → Prop, Shut (∀ a w, Sta C C1 C2 b1 b2 (l.setIfInBounds i true) w → (Sta C C1 C2 b1 b2 (l.setIfInBounds i true) w → wpStore P md ops Q C C1 C2 b1 b2 n (l.setIfInBounds i true) a w) → K' a w) →
      if Region.wanted o (yielded ops a.tmps) = true then Oper.wp P o a w K' Q else K' (a.put o.dst undef) w) : wpStore P md ops Q C C1 C2 b1 b2 (n + 1) l a w := by
  refine ⟨fun h0 => (by rw [hr] at h0; cases h0), fun j hj => ?_⟩
  rw [hr, List.mem_singleton] at hj
  subst hj
  exact wpOp_step ho fun K' hK => h K' fun a w hS hW => hK a w ⟨hS, hW hS⟩
/-- One of two. -/
theorem wpStore_two {n : Nat} {l : Array Bool} {a : Act} {w : World} {i j : Nat} {o o' : Oper} (hr : Region.ready md ops l = [i, j]) (ho : ops[i]? = some o) (ho' : ops[j]? = some o')
    (h : ∀ K' : Act → World → Prop, Shut (∀ a w, Sta C C1 C2 b1 b2 (l.setIfInBounds i true) w → (Sta C C1 C2 b1 b2 (l.setIfInBounds i true) w → wpStore P md ops Q C C1 C2 b1 b2 n (l.setIfInBounds i true) a w) → K' a w) →
      if Region.wanted o (yielded ops a.tmps) = true then Oper.wp P o a w K' Q else K' (a.put o.dst undef) w)
    (h' : ∀ K' : Act → World → Prop, Shut (∀ a w, Sta C C1 C2 b1 b2 (l.setIfInBounds j true) w → (Sta C C1 C2 b1 b2 (l.setIfInBounds j true) w → wpStore P md ops Q C C1 C2 b1 b2 n (l.setIfInBounds j true) a w) → K' a w) →
      if Region.wanted o' (yielded ops a.tmps) = true then Oper.wp P o' a w K' Q else K' (a.put o'.dst undef) w) : wpStore P md ops Q C C1 C2 b1 b2 (n + 1) l a w := by
  refine ⟨fun h0 => (by rw [hr] at h0; cases h0), fun k hk => ?_⟩
  rw [hr, List.mem_cons, List.mem_singleton] at hk
  rcases hk with rfl | rfl
  · exact wpOp_step ho fun K' hK => h K' fun a w hS hW => hK a w ⟨hS, hW hS⟩
  · exact wpOp_step ho' fun K' hK => h' K' fun a w hS hW => hK a w ⟨hS, hW hS⟩
theorem wp_region_store {id : Nat} {a : Act} {w : World} (b1 b2 : Nat) (C C1 C2 : World → Prop) (hm : P.follows .mixedOrders = true) (hS : C w.drew ∧ C1 w.drew ∧ C2 w.drew)
    (h : Sta C C1 C2 b1 b2 (Array.replicate ops.size false) w.drew → wpStore P .any ops Q C C1 C2 b1 b2 ops.size (Array.replicate ops.size false) a w.drew) : (Code.region id ops true).wp P Q a w :=
  wp_region_any hm (wpStore_any _ _ _ _ (h ⟨hS.1, fun _ => hS.2.1, fun _ => hS.2.2⟩))
end
end Go.Proofs.Ytlgdllohmmmegaa
