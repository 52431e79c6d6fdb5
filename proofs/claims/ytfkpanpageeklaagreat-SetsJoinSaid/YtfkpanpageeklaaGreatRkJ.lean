/- rank: two trees, one behind the other, as one. -/
import Derived.Test.YtfkpanpageeklaaGreatRkU
import Derived.Test.YtfkpanpageeklaaGreatWkE
set_option linter.unusedSimpArgs false
set_option linter.unusedVariables false
namespace Go.Proofs.YtfkpanpageeklaaGreat
open Go.RowKit
set_option maxHeartbeats 1000000 in
set_option maxRecDepth 100000 in
theorem tr_of_some {w : World} {k g : Nat} {lv : Int} {pre : List Nat} {es : List Ent} (hN : NodeOf w k g lv pre es) (h1 : 1 ≤ k) (h2 : k ≤ 16) : Calls Tryz.prog 44 #[.int .i64 (k : Int), .pointer (some ⟨g, 0, none⟩)] w fun e w' => e = .returned (.tuple #[.pointer (some ⟨w.heap.size, 0, none⟩), .int .i64 0]) ∧ TreeBlk w' w.heap.size k (some ⟨g, 0, none⟩) ∧ Below w.heap.size w w' := by
  have e1 : decide ((k : Int) < 1) = false := by simp; omega
  have e2 : decide ((16 : Int) < (k : Int)) = false := by simp; omega
  have HK := hide (nd_k hN)
  clear hN
  go_enter Tryz.func44, Tryz.ntmps44
  go_wp2_with fail
  refine HK.out.mono ?_
  rintro e w1 ⟨rfl, rfl⟩
  go_wp2
  go_ret2
  exact ⟨rfl, Blk.new w _ _, (Below.refl _ _).alloc (Nat.le_refl _) _⟩
set_option maxHeartbeats 1000000 in
set_option maxRecDepth 100000 in
theorem zb_cmp_bad (A B : Option Addr) (n c m d : Nat) (w : World) (h : rightB n = false ∨ n ≠ m) : Calls Tryz.prog 115 #[.slice A n c, .slice B m d] w fun e w' => e = .returned (.tuple #[.int .i64 0, .int .i64 2]) ∧ w = w' := by
  have HP := hide (zb_part_bad A B n c m d w h)
  clear h
  go_enter Tryz.func115, Tryz.ntmps115
  go_wp2_with fail
  refine HP.out.mono ?_
  rintro e w' ⟨rfl, rfl⟩
  go_wp2
  go_ret2
  exact ⟨rfl, rfl⟩
/-- The last of the one is not ahead of the first of the other. -/
def Clash (ea eb : List Ent) : Prop := ∃ x y, ea.getLast? = some x ∧ eb.head? = some y ∧ 0 ≤ cmp x.1 y.1
theorem last_le {es : List Ent} (hs : Zsorted es) {x : Ent} (hl : es.getLast? = some x) {y : Ent} (hy : y ∈ es) : y = x ∨ Zlt y.1 x.1 := by
  obtain ⟨i, hi, rfl⟩ := List.mem_iff_getElem.1 hy
  rw [List.getLast?_eq_getElem?] at hl
  have hl2 := (List.getElem?_eq_some_iff.1 hl).2
  rcases Nat.lt_or_ge i (es.length - 1) with h | h
  · right
    have := List.pairwise_iff_getElem.1 hs i (es.length - 1) hi (by omega) h
    rw [hl2] at this
    exact this
  · left
    have : i = es.length - 1 := by omega
    subst this
    exact hl2
theorem head_le {es : List Ent} (hs : Zsorted es) {x : Ent} (hl : es.head? = some x) {y : Ent} (hy : y ∈ es) : y = x ∨ Zlt x.1 y.1 := by
  cases es with
  | nil => simp at hl
  | cons z zs =>
    simp at hl
    subst hl
    rcases List.mem_cons.1 hy with h | h
    · exact .inl h
    · exact .inr ((List.pairwise_cons.1 hs).1 y h)
theorem clear_order {k : Nat} {ea eb : List Ent} (ha : Zsorted ea ∧ ∀ e ∈ ea, Zp k e.1 ∧ e.2 < 2 ^ 64) (hb : Zsorted eb ∧ ∀ e ∈ eb, Zp k e.1 ∧ e.2 < 2 ^ 64) (hc : ¬ Clash ea eb) : ∀ x ∈ ea, ∀ y ∈ eb, Zlt x.1 y.1 := by
  intro x hx y hy
  have h1 : ∃ l, ea.getLast? = some l := by
    cases h : ea.getLast? with
    | none => rw [List.getLast?_eq_none_iff] at h; subst h; simp at hx
    | some l => exact ⟨l, rfl⟩
  have h2 : ∃ f, eb.head? = some f := by
    cases h : eb.head? with
    | none => rw [List.head?_eq_none_iff] at h; subst h; simp at hy
    | some l => exact ⟨l, rfl⟩
  obtain ⟨l, hl⟩ := h1
  obtain ⟨f, hf⟩ := h2
  have hlm := List.mem_of_getLast? hl
  have hfm := List.mem_of_head? hf
  have hlf := cmp_neg (ha.2 l hlm).1 (hb.2 f hfm).1 (fun h => hc ⟨l, f, hl, hf, h⟩)
  have h3 : Zlt x.1 f.1 := by
    rcases last_le ha.1 hl hx with rfl | h
    · exact hlf
    · exact zlt_trans h hlf
  rcases head_le hb.1 hf hy with rfl | h
  · exact h3
  · exact zlt_trans h3 h
theorem sorted_app {ea eb : List Ent} (ha : Zsorted ea) (hb : Zsorted eb) (h : ∀ x ∈ ea, ∀ y ∈ eb, Zlt x.1 y.1) : Zsorted (ea ++ eb) := List.pairwise_append.2 ⟨ha, hb, h⟩
theorem of_top {w : World} {k : Nat} {top : Option (Nat × NT)} (hk1 : 1 ≤ k) (hk : k ≤ 16) (hT : TopOk w k top) :
    Calls Tryz.prog 44 #[.int .i64 (k : Int), ptrOf top] w fun e w' => (∃ t, e = .returned (.tuple #[.pointer (some ⟨t, 0, none⟩), .int .i64 0]) ∧ TreeOf w' k t (esOf top)) ∧ Below w.heap.size w w' := by
  cases top with
  | none =>
    refine (tr_of_nil k w hk1 hk).mono ?_
    rintro e w' ⟨rfl, hB, hb⟩
    exact ⟨⟨_, rfl, hk1, hk, .inl ⟨hB, rfl⟩⟩, hb⟩
  | some x =>
    refine (tr_of_some (hT x rfl) hk1 hk).mono ?_
    rintro e w' ⟨rfl, hB, hb⟩
    exact ⟨⟨_, rfl, hk1, hk, .inr ⟨_, _, _, hB, (hT x rfl).stay hb⟩⟩, hb⟩
def JoinOut (w : World) (k : Nat) (ea eb : List Ent) (e : Ending) (w' : World) : Prop :=
  ((Clash ea eb ∧ e = .returned (.tuple #[.pointer none, .int .i64 7])) ∨ (¬ Clash ea eb ∧ ∃ t, e = .returned (.tuple #[.pointer (some ⟨t, 0, none⟩), .int .i64 0]) ∧ TreeOf w' k t (ea ++ eb))) ∧ Below w.heap.size w w'
end Go.Proofs.YtfkpanpageeklaaGreat
