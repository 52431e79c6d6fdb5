/- The nodes on a point's path and their lists: plain laws. -/
import Derived.Test.YtkknfnjojamgjaaTr28
set_option linter.unusedSimpArgs false
set_option linter.unusedVariables false
namespace Go.Proofs.Ytkknfnjojamgjaa
open Go.RowKit
section
variable {w : World} {k : Nat} {p : List Nat} {fs : List PF} {top bot below : Option (Nat × NT)} {gs : List Nat}
theorem PathEnd.len (h : PathEnd w k p fs bot gs below) (hp : Zp k p) : gs.length = (pathEs p fs bot).length ∧ fs.length ≤ gs.length ∧ gs.length ≤ fs.length + 1 := by
  unfold pathEs
  cases h with
  | none => simp [tailEs]
  | leaf g v hn => simp [tailEs, part_self hp]
  | miss x hn hm => simp [tailEs, show ¬ part x.2.pre p ≤ x.2.lv by omega]
theorem PathEnd.node (h : PathEnd w k p fs bot gs below) (hF : ∀ f ∈ fs, Fork w k f.g f.lv f.pre f.ks) (hp : Zp k p) {i g : Nat} {es : List Ent} (hg : gs[i]? = some g) (he : (pathEs p fs bot)[i]? = some es) : ∃ lv pre, NodeOf w k g lv pre es := by
  have key : ∀ (i g : Nat) (es : List Ent), (fs.map (·.g))[i]? = some g → (fs.map fun f => kidEs f.ks)[i]? = some es → ∃ lv pre, NodeOf w k g lv pre es := by
    intro i g es h1 h2
    rw [List.getElem?_map] at h1 h2
    obtain ⟨f, hf, rfl⟩ := Option.map_eq_some_iff.1 h1
    rw [hf] at h2
    injection h2 with h2
    rw [← h2]
    exact ⟨_, _, (hF f (List.mem_of_getElem? hf)).node⟩
  unfold pathEs at he
  cases h with
  | none =>
    rw [show tailEs p Option.none = [] from rfl, List.append_nil] at he
    exact key i g es hg he
  | leaf g' v hn =>
    rw [show tailEs p (some (g', ⟨-1, p, [(p, v)]⟩)) = [[(p, v)]] from if_pos (by rw [part_self hp]; exact Int.le_refl _)] at he
    rcases Nat.lt_or_ge i fs.length with hi | hi
    · rw [List.getElem?_append_left (by simpa using hi)] at hg he
      exact key i g es hg he
    · rw [List.getElem?_append_right (by simpa using hi)] at hg he
      have h1 := (List.getElem?_eq_some_iff.1 hg).1
      simp at h1
      rw [show i - (fs.map (·.g)).length = 0 by simp; omega] at hg
      rw [show i - (fs.map fun f => kidEs f.ks).length = 0 by simp; omega] at he
      simp at hg he
      rw [← hg, ← he]
      exact ⟨_, _, hn⟩
  | miss x hn hm =>
    rw [show tailEs p (some x) = [] from if_neg (by omega), List.append_nil] at he
    exact key i g es hg he
/-- The first one is the root. -/
theorem PathEnd.first (h : PathEnd w k p fs bot gs below) (hW : Way p fs top bot) {g : Nat} (hg : gs[0]? = some g) : ∃ nt, top = some (g, nt) := by
  cases fs with
  | nil =>
    have hb : top = bot := hW
    subst hb
    cases h with
    | none => simp at hg
    | leaf g' v hn => simp at hg; subst hg; exact ⟨_, rfl⟩
    | miss x hn hm => simp at hg
  | cons f fs =>
    have ht := hW.1
    have : g = f.g := by
      cases h with
      | none => simp at hg; exact hg.symm
      | leaf g' v hn => simp at hg; exact hg.symm
      | miss x hn hm => simp at hg; exact hg.symm
    rw [this]
    exact ⟨_, ht⟩
theorem Way.at_drop : ∀ {fs : List PF} {top : Option (Nat × NT)} (i : Nat), Way p fs top bot → i < fs.length → ∃ cur, Way p (fs.drop i) cur bot
  | fs, top, 0, h, _ => ⟨top, by simpa using h⟩
  | [], top, i + 1, h, hi => by simp at hi
  | f :: fs, top, i + 1, h, hi => by
    obtain ⟨cur, hc⟩ := Way.at_drop i h.2.2 (by
      rcases Nat.lt_or_ge i fs.length with h1 | h1
      · exact h1
      · simp at hi; omega)
    exact ⟨cur, by simpa using hc⟩
/-- Each later one is the kid of the one ahead of it. -/
theorem PathEnd.kid (h : PathEnd w k p fs bot gs below) (hW : Way p fs top bot) {i g : Nat} (hg : gs[i + 1]? = some g) : ∃ f, fs[i]? = some f ∧ gs[i]? = some f.g ∧ ∃ nt, kidAt f.ks (addrOf p f.lv) = some (g, nt) := by
  have hlen : gs.length ≤ fs.length + 1 := by cases h <;> simp
  have hgl := (List.getElem?_eq_some_iff.1 hg).1
  have hif : i < fs.length := by omega
  obtain ⟨f, hf⟩ : ∃ f, fs[i]? = some f := ⟨fs[i], List.getElem?_eq_getElem hif⟩
  obtain ⟨cur, hc⟩ := hW.at_drop i hif
  obtain ⟨-, -, hn⟩ := hc.drop_ hf
  refine ⟨f, hf, ?_, ?_⟩
  · cases h with
    | none => rw [List.getElem?_map, hf]; rfl
    | leaf g' v hn => rw [List.getElem?_append_left (by simpa using hif), List.getElem?_map, hf]; rfl
    | miss x hn hm => rw [List.getElem?_map, hf]; rfl
  · rcases Nat.lt_or_ge (i + 1) fs.length with hi1 | hi1
    · obtain ⟨f', hf'⟩ : ∃ f', fs[i + 1]? = some f' := ⟨fs[i + 1], List.getElem?_eq_getElem hi1⟩
      obtain ⟨h1, -, -⟩ := hn.drop_ hf'
      have : g = f'.g := by
        cases h with
        | none => rw [List.getElem?_map, hf'] at hg; injection hg with hg; exact hg.symm
        | leaf g' v hn => rw [List.getElem?_append_left (by simpa using hi1), List.getElem?_map, hf'] at hg; injection hg with hg; exact hg.symm
        | miss x hn hm => rw [List.getElem?_map, hf'] at hg; injection hg with hg; exact hg.symm
      rw [this]
      exact ⟨_, h1⟩
    · rw [List.drop_of_length_le hi1] at hn
      have hn' : kidAt f.ks (addrOf p f.lv) = bot := hn
      rw [hn']
      cases h with
      | none => rw [List.getElem?_eq_none (by simpa using hi1)] at hg; cases hg
      | leaf g' v hn =>
        rw [List.getElem?_append_right (by simpa using hi1)] at hg
        rw [show i + 1 - (fs.map (·.g)).length = 0 by simp; omega] at hg
        simp at hg
        rw [← hg]
        exact ⟨_, rfl⟩
      | miss x hn hm => rw [List.getElem?_eq_none (by simpa using hi1)] at hg; cases hg
end
end Go.Proofs.Ytkknfnjojamgjaa
