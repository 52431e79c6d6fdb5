/- A tree has one list of entries; how long a list is with one entry more. -/
import Derived.Test.YtfkpanpageeklaaTrD
set_option linter.unusedSimpArgs false
set_option linter.unusedVariables false
namespace Go.Proofs.Ytfkpanpageeklaa
open Go.RowKit
/-- Two contracts on one call speak of one end. -/
theorem calls_agree {P : Program} {f : FuncId} {args : Array Value} {w : World} {R R' : Value → World → Prop}
    (h : Calls P f args w fun | .returned v, w' => R v w' | _, _ => False) (h' : Calls P f args w fun | .returned v, w' => R' v w' | _, _ => False) (hi : P.inits.idxOf? f = none) :
    ∃ v w', R v w' ∧ R' v w' := by
  obtain ⟨n, v, w1, e1, r1⟩ := h.done hi
  obtain ⟨m, v', w2, e2, r2⟩ := h'.done hi
  have a := runN_ended e1 m
  have b := runN_ended e2 n
  rw [Nat.add_comm, a] at b
  injection b with ho hw
  injection ho with hv
  subst hv hw
  exact ⟨_, _, r1, r2⟩
def GetSays (p : List Nat) (es : List Ent) (x : Value) : Prop :=
  (∃ v : Nat, x = .tuple #[.int .u64 (v : Int), .bool true, .int .i64 0] ∧ (p, v) ∈ es) ∨ (x = .tuple #[.int .u64 0, .bool false, .int .i64 0] ∧ ∀ v, (p, v) ∉ es)
theorem get_says {w : World} {t k c : Nat} {es : List Ent} (hT : TreeOf w k t es) {A : Option Addr} {p : List Nat} (hp : Pt w A k p) :
    Calls Try.prog 26 #[.pointer (some ⟨t, 0, none⟩), .slice A k c] w fun | .returned x, _ => GetSays p es x | _, _ => False :=
  (tr_get hT hp).mono fun e w' ⟨h, _⟩ => by
    rcases h with ⟨v, rfl, hv⟩ | ⟨rfl, hv⟩
    · exact .inl ⟨v, rfl, hv⟩
    · exact .inr ⟨rfl, hv⟩
theorem tree_mem {w : World} {t k : Nat} {es es' : List Ent} (h : TreeOf w k t es) (h' : TreeOf w k t es') {p : List Nat} {v : Nat} (hm : (p, v) ∈ es) : (p, v) ∈ es' := by
  have hz := (h.sorted.2 _ hm).1
  have hb : Below w.heap.size w (w.alloc (.cells (u64s p).toArray 50)) := (Below.refl _ _).alloc (Nat.le_refl _) _
  have hp : Pt (w.alloc (.cells (u64s p).toArray 50)) (some ⟨w.heap.size, 0, none⟩) k p := ⟨hz.1, Rw.of_blk (Blk.new w _ _) (by simp [u64s, hz.1]) (fun j u hu => by simpa using hu), hz.2⟩
  obtain ⟨x, w', r1, r2⟩ := calls_agree (get_says (c := 0) (h.stay hb) hp) (get_says (c := 0) (h'.stay hb) hp) (by kernel_rfl)
  rcases r1 with ⟨v1, rfl, h1⟩ | ⟨rfl, h1⟩
  · rcases r2 with ⟨v2, h2, h3⟩ | ⟨h2, h3⟩
    · injection h2 with h2
      simp only [Array.mk.injEq, List.cons.injEq, Value.int.injEq, true_and, and_true] at h2
      have h4 : v1 = v2 := by omega
      rw [uniq_val h.sorted.1 hm h1, h4]
      exact h3
    · simp at h2
  · exact absurd hm (h1 v)
theorem tree_uniq {w : World} {t k : Nat} {es es' : List Ent} (h : TreeOf w k t es) (h' : TreeOf w k t es') : es = es' :=
  sorted_ext h.sorted.1 h'.sorted.1 fun ⟨p, v⟩ => ⟨tree_mem h h', tree_mem h' h⟩
theorem sorted_nodup {es : List Ent} (h : Zsorted es) : es.Nodup := List.Pairwise.imp (fun {a b} hab => by rintro rfl; exact zlt_irrefl _ hab) h
theorem grow_len {p : List Nat} {v : Nat} {es es' : List Ent} (h : Zsorted es) (h' : Zsorted es') (hm : ∀ x, x ∈ es' ↔ x = (p, v) ∨ (x ∈ es ∧ x.1 ≠ p)) (hne : ∀ x ∈ es, x.1 ≠ p) : es'.length = es.length + 1 := by
  have hnd : ((p, v) :: es).Nodup := List.nodup_cons.2 ⟨fun h0 => hne _ h0 rfl, sorted_nodup h⟩
  have := ((List.perm_ext_iff_of_nodup (sorted_nodup h') hnd).2 fun x => by
    rw [hm, List.mem_cons]
    exact ⟨fun h => h.imp id (·.1), fun h => h.imp id (fun h => ⟨h, hne x h⟩)⟩).length_eq
  simpa using this
end Go.Proofs.Ytfkpanpageeklaa
