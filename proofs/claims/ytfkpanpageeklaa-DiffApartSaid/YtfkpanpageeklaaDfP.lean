/- diff: plain laws. -/
import Derived.Test.YtfkpanpageeklaaPlD
set_option linter.unusedSimpArgs false
set_option linter.unusedVariables false
namespace Go.Proofs.Ytfkpanpageeklaa
/-- The changes at a list's points, where these are all at which two lists differ. -/
def chgP (A B : List Ent) (p : List Nat) : Option CE := if getE A p = getE B p then none else some (chgAt A B p)
theorem chgP_some {A B : List Ent} {p : List Nat} {c : CE} (h : chgP A B p = some c) : getE A p ≠ getE B p ∧ c = chgAt A B p := by
  unfold chgP at h
  split at h
  · cases h
  · rename_i h1
    injection h with h
    exact ⟨h1, h.symm⟩
theorem chgs_pts {A B : List Ent} {P : List (List Nat)} (hs : P.Pairwise Zlt) (hm : ∀ p, getE A p ≠ getE B p → p ∈ P) : Chgs A B (P.filterMap (chgP A B)) := by
  refine ⟨?_, fun c => ?_⟩
  · refine List.Pairwise.filterMap _ ?_ hs
    intro p q hpq c hc d hd
    rw [(chgP_some hc).2, (chgP_some hd).2]
    exact hpq
  · rw [List.mem_filterMap]
    constructor
    · rintro ⟨p, hp, hc⟩
      obtain ⟨h1, rfl⟩ := chgP_some hc
      exact ⟨h1, rfl⟩
    · rintro ⟨h1, h2⟩
      refine ⟨c.p, hm _ h1, ?_⟩
      unfold chgP
      rw [if_neg h1, ← h2]
theorem Chgs.len_of {A B : List Ent} {L : List CE} (h : Chgs A B L) {M : List CE} (hM : Chgs A B M) : L.length = M.length := by rw [h.uniq hM]
/-- A direction: the changes from one list to another, or back. -/
def ChgD (d : Bool) (A B : List Ent) (L : List CE) : Prop := if d then Chgs A B L else Chgs B A L
theorem ChgD.append {d : Bool} {A1 B1 A2 B2 : List Ent} {L1 L2 : List CE} (h1 : ChgD d A1 B1 L1) (h2 : ChgD d A2 B2 L2) (haa : Ahead A1 A2) (hab : Ahead A1 B2) (hba : Ahead B1 A2) (hbb : Ahead B1 B2) : ChgD d (A1 ++ A2) (B1 ++ B2) (L1 ++ L2) := by
  cases d with
  | true => exact Chgs.append h1 h2 haa hab hba hbb
  | false => exact Chgs.append h1 h2 hbb hba hab haa
theorem ChgD.nil (d : Bool) : ChgD d [] [] [] := by
  cases d <;> exact Chgs.same []
def asE (d : Bool) (e : Ent) : CE := if d then goneE e else comeE e
theorem ChgD.all {d : Bool} {A : List Ent} (hs : Zsorted A) : ChgD d A [] (A.map (asE d)) := by
  cases d with
  | true => exact Chgs.gone hs
  | false => exact Chgs.come hs
theorem len_le_of_sub {α : Type} [DecidableEq α] : ∀ {L M : List α}, L.Nodup → (∀ x ∈ L, x ∈ M) → L.length ≤ M.length
  | [], _, _, _ => Nat.zero_le _
  | x :: L, M, hn, hs => by
    rw [List.nodup_cons] at hn
    have h1 : x ∈ M := hs x List.mem_cons_self
    have h2 := len_le_of_sub (L := L) (M := M.erase x) hn.2 fun y hy => (List.mem_erase_of_ne (by rintro rfl; exact hn.1 hy)).2 (hs y (List.mem_cons_of_mem _ hy))
    rw [List.length_erase_of_mem h1] at h2
    have h3 := List.length_pos_of_mem h1
    simp only [List.length_cons]
    omega
theorem Chgs.nodup {A B : List Ent} {L : List CE} (h : Chgs A B L) : (L.map CE.p).Nodup := by
  unfold List.Nodup
  rw [List.pairwise_map]
  exact h.sorted.imp fun {a b} (hab : Zlt a.p b.p) (e : a.p = b.p) => zlt_irrefl b.p (by rw [e] at hab; exact hab)
/-- No shorter way round. -/
theorem Chgs.chain {A B C : List Ent} {L M N : List CE} (h : Chgs A C L) (hM : Chgs A B M) (hN : Chgs B C N) : ∀ c ∈ L, (∃ d ∈ M, d.p = c.p) ∨ ∃ d ∈ N, d.p = c.p := by
  intro c hc
  have h1 := ((h.mem c).1 hc).1
  by_cases h2 : getE A c.p = getE B c.p
  · right
    exact ⟨chgAt B C c.p, (hN.mem _).2 ⟨fun h3 => h1 (h2.trans h3), rfl⟩, rfl⟩
  · left
    exact ⟨chgAt A B c.p, (hM.mem _).2 ⟨h2, rfl⟩, rfl⟩
theorem Chgs.chain_len {A B C : List Ent} {L M N : List CE} (h : Chgs A C L) (hM : Chgs A B M) (hN : Chgs B C N) : L.length ≤ M.length + N.length := by
  have h1 := len_le_of_sub (M := M.map CE.p ++ N.map CE.p) h.nodup fun p hp => by
    obtain ⟨c, hc, rfl⟩ := List.mem_map.1 hp
    rw [List.mem_append, List.mem_map, List.mem_map]
    exact h.chain hM hN c hc
  simpa using h1
theorem Chgs.len_le {A B : List Ent} {L : List CE} (h : Chgs A B L) : L.length ≤ A.length + B.length := by
  have h1 := len_le_of_sub (M := A.map (·.1) ++ B.map (·.1)) h.nodup fun p hp => by
    obtain ⟨c, hc, rfl⟩ := List.mem_map.1 hp
    rw [List.mem_append, List.mem_map, List.mem_map]
    rcases ne_some ((h.mem c).1 hc).1 with h2 | h2
    · obtain ⟨v, hv⟩ := Option.ne_none_iff_exists'.1 h2
      exact .inl ⟨(c.p, v), getE_mem hv, rfl⟩
    · obtain ⟨v, hv⟩ := Option.ne_none_iff_exists'.1 h2
      exact .inr ⟨(c.p, v), getE_mem hv, rfl⟩
  simpa using h1
end Go.Proofs.Ytfkpanpageeklaa
