/- Nodes: Pair, With, Without. -/
import Derived.Test.YtlgdllohmmmegaaNdB
set_option linter.unusedSimpArgs false
set_option linter.unusedVariables false
namespace Go.Proofs.Ytlgdllohmmmegaa
section
open Go.RowKit
end
section
open Go.RowKit
/-- What two kids make. -/
def pairK (g g' : Nat) (lv lv' : Int) (pre pre' : List Nat) (es es' : List Ent) (m : Nat) : List Kid :=
  insK (insK [] ⟨addrOf pre m, g, lv, pre, es⟩) ⟨addrOf pre' m, g', lv', pre', es'⟩
theorem pairK_eq {g g' : Nat} {lv lv' : Int} {pre pre' : List Nat} {es es' : List Ent} {m : Nat} (h : addrOf pre m ≠ addrOf pre' m) :
    pairK g g' lv lv' pre pre' es es' m = if addrOf pre m < addrOf pre' m then [⟨addrOf pre m, g, lv, pre, es⟩, ⟨addrOf pre' m, g', lv', pre', es'⟩] else [⟨addrOf pre' m, g', lv', pre', es'⟩, ⟨addrOf pre m, g, lv, pre, es⟩] := by
  unfold pairK insK
  by_cases h1 : addrOf pre m < addrOf pre' m
  · have h2 : ¬ addrOf pre' m < addrOf pre m := by omega
    simp [h1, h2]
  · have h2 : addrOf pre' m < addrOf pre m := by omega
    simp [h1, h2]
end
section
open Go.RowKit
end
section
open Go.RowKit
theorem filt_len {ks : List Kid} (a : Nat) (h : ks.Pairwise fun q r => q.at_ < r.at_) :
    ks.length ≤ (ks.filter fun r => decide (r.at_ < a)).length + (ks.filter fun r => decide (a < r.at_)).length + 1 := by
  induction ks with
  | nil => simp
  | cons r t ih =>
    obtain ⟨h1, h2⟩ := List.pairwise_cons.1 h
    have ih := ih h2
    rcases Nat.lt_trichotomy r.at_ a with hlt | heq | hgt
    · rw [List.filter_cons_of_pos (by simpa using hlt), List.filter_cons_of_neg (by simp; omega)]
      simp only [List.length_cons]
      omega
    · have hall : (t.filter fun r => decide (a < r.at_)) = t := by
        rw [List.filter_eq_self]
        intro x hx
        have := h1 x hx
        simp; omega
      rw [List.filter_cons_of_neg (by simp; omega), List.filter_cons_of_neg (by simp; omega), hall]
      simp only [List.length_cons]
      omega
    · rw [List.filter_cons_of_neg (by simp; omega), List.filter_cons_of_pos (by simpa using hgt)]
      simp only [List.length_cons]
      omega
theorem insK_len {ks : List Kid} (q : Kid) (h : ks.Pairwise fun q r => q.at_ < r.at_) : ks.length ≤ (insK ks q).length := by
  have := filt_len q.at_ h
  unfold insK
  simp only [List.length_append, List.length_cons, List.length_nil]
  omega
end
section
open Go.RowKit
theorem delK_len {ks : List Kid} {a : Nat} (h : ks.Pairwise fun q r => q.at_ < r.at_) (hm : ∃ q ∈ ks, q.at_ = a) : (delK ks a).length + 1 = ks.length := by
  induction ks with
  | nil => obtain ⟨q, hq, _⟩ := hm; cases hq
  | cons r t ih =>
    obtain ⟨h1, h2⟩ := List.pairwise_cons.1 h
    unfold delK
    by_cases hr : r.at_ = a
    · have hall : (t.filter fun x => decide (x.at_ ≠ a)) = t := by
        rw [List.filter_eq_self]
        intro x hx
        have := h1 x hx
        simp; omega
      rw [List.filter_cons_of_neg (by simp [hr]), hall]
      simp
    · obtain ⟨q, hq, hqa⟩ := hm
      have hqt : q ∈ t := by
        rcases List.mem_cons.1 hq with rfl | hq
        · exact absurd hqa hr
        · exact hq
      have := ih h2 ⟨q, hqt, hqa⟩
      unfold delK at this
      rw [List.filter_cons_of_pos (by simp [hr])]
      simp only [List.length_cons]
      omega
theorem mem_delK {ks : List Kid} {a : Nat} {r : Kid} : r ∈ delK ks a ↔ r ∈ ks ∧ r.at_ ≠ a := by
  unfold delK
  rw [List.mem_filter]
  simp
end
end Go.Proofs.Ytlgdllohmmmegaa
