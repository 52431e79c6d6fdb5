/- A loop over an iterator with bound arguments: the rule for the caller. -/
import Derived.RangeFuncFrom
import Derived.RangeFuncLeaves
import Derived.RangeFuncCalls
import Derived.Test.YtlgdllohmmmegaaProg
set_option linter.unusedSimpArgs false
set_option linter.unusedVariables false
namespace Go.Proofs.Ytlgdllohmmmegaa
open Go.RowKit
/-- What an iterator with bound arguments does, of a fixed list of elements, wherever what lies below n0 lies as it lay. -/
def Gives {α : Type} (F : Fence) (n : Nat) (P : Program) (g : Nat) (fi : Array Value) (encs : α → Array Value) (xs : List α) (n0 : Nat) (w0 : World) : Prop :=
  ∀ (l : Nat) (J Jx : List α → World → Prop) (W : World), (∀ pre W1, J pre W1 → Below n0 w0 W1) →
    (∀ pre x W1, (pre ++ [x]) <+: xs → J pre W1 → YieldAt F (n - 1) P l (encs x) W1 fun e W' => (e = .returned (.bool true) ∧ J (pre ++ [x]) W') ∨ (e = .returned (.bool false) ∧ Jx (pre ++ [x]) W')) →
    J [] W → CallsIn F n P g (fi ++ #[.func (.yield l) #[] #[]]) W fun e W' => (∃ v, e = .returned v) ∧ (J xs W' ∨ ∃ pre, pre <+: xs ∧ Jx pre W')
section
variable {F : Fence} {n : Nat} {P : Program}
theorem range_bound {α : Type} {g : Operand} {ps : Array Tmp} {assign body : Code} {Q : Exit → Act → World → Prop} {a : Act} {w : World}
    (hro : F.round = none) (h1 : 1 ≤ n) {gf : Nat} {fi : Array Value} (hg : a.eval g = .func (.func gf) fi #[]) (hF : F.fn gf) (eg : ∀ args w, (callFunc gf args).run P w = .ok (.enter gf args) w)
    {encs : α → Array Value} (hps : ∀ x, (encs x).size = ps.size) {xs : List α} {n0 : Nat} {w0 : World} (hseq : Gives F (n - 1) P gf fi encs xs n0 w0)
    (I : List α → World → Prop) (Ix : Code → List α → World → Prop) (hI : OwnFrom w.heap.size I) (hIx : ∀ c, OwnFrom w.heap.size (Ix c)) (hIb : ∀ pre W, I pre W → Below n0 w0 W) (h0 : I [] w)
    (hround : ∀ (l : Nat) (pre : List α) (x : α) (W : World), I pre W → (pre ++ [x]) <+: xs →
      assign.wpIn (F.inRound l) (n - 1 - 1) P (Exit.then (fun a1 W1 => W1 = W ∧ ∀ W2, I pre W2 → body.wpIn (F.inRound l) (n - 1 - 1) P (ownPostK (fun _ _ => True) I Ix (pre ++ [x]) W2) a1 W2) (fun _ _ _ => False)) { tmps := (ps.zip (encs x)).foldl (fun t (p, v) => t.setIfInBounds p v) a.tmps, defers := [] } W)
    (hdone : ∀ (D : Nat) (W : World), w.heap.size ≤ D → I xs W → W.heap[D]? = some (.deferred (some [])) → Q .normal { a with defers := { target := .collected D, args := #[] } :: a.defers } W)
    (hstop : ∀ (D : Nat) (c : Code) (pre : List α) (W : World), w.heap.size ≤ D → pre <+: xs → Ix c pre W → W.heap[D]? = some (.deferred (some [])) → c.wpIn F n P Q { a with defers := { target := .collected D, args := #[] } :: a.defers } W) :
    (Code.rangeFunc g ps assign body).wpIn F n P Q a w := by
  refine wpIn_rangeFunc fun fn hfn => ?_
  rw [hro]
  let D := w.heap.size
  let rec_ : LoopState → Option Code → Loop := fun st pe => { state := st, pending := pe, fn := fn, tmps := a.tmps, params := ps, assign := assign, body := body, defers := D }
  have ent := run_enterLoop_outer (w := w) (P := P) fn a.tmps ps assign body
  generalize hW1 : (w.alloc (.deferred (some []))).alloc (.loop { state := .ready, pending := none, fn := fn, tmps := a.tmps, params := ps, assign := assign, body := body, defers := w.heap.size }) = W1 at ent
  have hL : W1.heap[D + 1]? = some (.loop (rec_ .ready none)) := by
    rw [← hW1]
    have := World.alloc_heap_new (w.alloc (.deferred (some []))) (.loop (rec_ .ready none))
    rw [World.size_alloc] at this
    exact this
  have hK : W1.heap[D]? = some (.deferred (some [])) := by
    rw [← hW1]
    exact (Below.heap_alloc _ _ _ (by simp [D])).trans (World.alloc_heap_new w _)
  have hI1 : I [] W1 := by
    rw [← hW1]
    exact hI.alloc _ (hI.alloc _ h0)
  refine ⟨D + 1, [{ target := .collected D, args := #[] }], W1, { target := .fn (.func gf) #[], args := fi ++ #[.func (.yield (D + 1)) #[] #[]] }, W1, gf, fi ++ #[.func (.yield (D + 1)) #[] #[]], W1, ent, ?_, ?_, ?_, fun _ => h1, ?_⟩
  · simp only [resolve, hg]
    simp [go_sem]
  · intro f' hf'
    simp [Target.leads] at hf'
    subst hf'
    exact hF
  · simp [invoke, go_sem, eg]
  · -- the book-keeping: the loop's record and the block of the rounds' deferred calls
    have put1 : ∀ {W : World} {s : LoopState} {pe : Option Code} (o : Obj), W.heap[D + 1]? = some (.loop (rec_ s pe)) → ((W.putObj (D + 1) o).heap[D + 1]? = some o) := fun o h => World.putObj_heap_same (Array.getElem?_eq_some_iff.1 h).1
    have put2 : ∀ {W : World} (o : Obj), W.heap[D]? = some (.deferred (some [])) → (W.putObj (D + 1) o).heap[D]? = some (.deferred (some [])) := fun o h => (World.putObj_heap_other (by omega)).trans h
    refine (hseq (D + 1)
      (fun pre W => I pre W ∧ W.heap[D + 1]? = some (.loop (rec_ .ready none)) ∧ W.heap[D]? = some (.deferred (some [])))
      (fun pre W => ∃ c, Ix c pre W ∧ W.heap[D + 1]? = some (.loop (rec_ .done (some c))) ∧ W.heap[D]? = some (.deferred (some [])))
      W1 (fun pre W h => hIb pre W h.1) ?_ ⟨hI1, hL, hK⟩).mono ?_
    · rintro pre x W hx ⟨hi, hl, hk⟩
      refine ⟨fn, _, assign, body, run_yield (P := P) (args := encs x) hl (hps x), roundIn_of_wpIn hfn (wpIn_mono (hround _ pre x W hi hx) fun e a1 W1 hp0 => ?_)⟩
      have hnorm : e = .normal := by cases e <;> first | rfl | exact False.elim hp0
      subst hnorm
      obtain ⟨hw, hbody⟩ := hp0
      subst W1
      refine ⟨_, run_beginRound hl rfl, ?_⟩
      have hl2 := put1 (.loop { rec_ .ready none with state := .busy }) hl
      have hk2 := put2 (.loop { rec_ .ready none with state := .busy }) hk
      have hi2 : I pre (W.putObj (D + 1) (.loop { rec_ .ready none with state := .busy })) := hI.putObj _ hi (by simp [D]) hl rfl
      refine wpIn_mono (hbody _ hi2) ?_
      rintro e a3 W3 hp
      have late : ∀ (jump : Option Code), KeepsOthers (W.putObj (D + 1) (.loop { rec_ .ready none with state := .busy })) W3 →
          (Instr.endRound (D + 1) jump).run P W3 = .ok (.bool jump.isNone) (W3.putObj (D + 1) (.loop (rec_ (if jump.isNone then .ready else .done) jump))) ∧
          W3.heap[D + 1]? = some (.loop (rec_ .busy none)) ∧
          (W3.putObj (D + 1) (.loop (rec_ (if jump.isNone then .ready else .done) jump))).heap[D + 1]? = some (.loop (rec_ (if jump.isNone then .ready else .done) jump)) ∧
          (W3.putObj (D + 1) (.loop (rec_ (if jump.isNone then .ready else .done) jump))).heap[D]? = some (.deferred (some [])) := fun jump hk3 => by
        have hl3 : W3.heap[D + 1]? = some (.loop (rec_ .busy none)) := hk3.same _ _ hl2 rfl
        exact ⟨run_endRound (P := P) jump hl3, hl3, put1 _ hl3, put2 _ (hk3.same _ _ hk2 rfl)⟩
      cases e with
      | normal =>
        obtain ⟨hk3, -, hi3⟩ := hp
        obtain ⟨r1, r2, r3, r4⟩ := late none hk3
        exact ⟨_, _, r1, .inl ⟨rfl, hI.putObj _ hi3 (by simp [D]) r2 rfl, r3, r4⟩⟩
      | ret =>
        obtain ⟨hk3, hi3⟩ := hp
        obtain ⟨r1, r2, r3, r4⟩ := late (some .ret) hk3
        exact ⟨_, _, r1, .inr ⟨rfl, .ret, (hIx _).putObj _ hi3 (by simp [D]) r2 rfl, r3, r4⟩⟩
      | exit id =>
        obtain ⟨hk3, hi3⟩ := hp
        obtain ⟨r1, r2, r3, r4⟩ := late (some (.exit id)) hk3
        exact ⟨_, _, r1, .inr ⟨rfl, .exit id, (hIx _).putObj _ hi3 (by simp [D]) r2 rfl, r3, r4⟩⟩
      | goto t =>
        obtain ⟨hk3, hi3⟩ := hp
        obtain ⟨r1, r2, r3, r4⟩ := late (some (.goto t)) hk3
        exact ⟨_, _, r1, .inr ⟨rfl, .goto t, (hIx _).putObj _ hi3 (by simp [D]) r2 rfl, r3, r4⟩⟩
      | panic ch => exact hp.elim
      | outgrown => exact hp.elim
    · rintro e W2 ⟨⟨v, rfl⟩, ⟨hi, hl, hk⟩ | ⟨pre, hpre, c, hi, hl, hk⟩⟩
      · exact ⟨none, _, run_endLoop (P := P) hl (by simp [rec_]), hdone D _ (Nat.le_refl _) (hI.putObj _ hi (by simp [D]) hl rfl) (put2 _ hk)⟩
      · exact ⟨some c, _, run_endLoop (P := P) hl (by simp [rec_]), hstop D c pre _ (Nat.le_refl _) hpre ((hIx c).putObj _ hi (by simp [D]) hl rfl) (put2 _ hk)⟩
end
end Go.Proofs.Ytlgdllohmmmegaa
