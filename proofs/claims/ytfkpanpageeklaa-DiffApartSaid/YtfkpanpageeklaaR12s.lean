/- pantileref12: the same changes? -/
import Derived.Test.YtfkpanpageeklaaDfA
import Derived.Test.YtfkpanpageeklaaWkA
set_option linter.unusedSimpArgs false
set_option linter.unusedVariables false
namespace Go.Proofs.Ytfkpanpageeklaa
open Go.RowKit
/-- A slice of changes. -/
def ChgsAt (w : World) (A : Option Addr) (n : Nat) (rows : List CR) : Prop := Rw w 5 A n (rows.flatMap chv) ∧ ∀ r ∈ rows, r.ok w
section
variable {w w' : World} {A : Option Addr} {n : Nat} {rows : List CR}
theorem ChgsAt.below (h : ChgsAt w A n rows) (hb : Below w.heap.size w w') : ChgsAt w' A n rows := ⟨h.1.below hb, fun r hr => (h.2 r hr).below hb⟩
theorem ChgsAt.len (h : ChgsAt w A n rows) : rows.length = n := by
  have := h.1.1
  rw [flat_length chv_len] at this
  omega
theorem ChgsAt.at_ {i : Nat} (h : ChgsAt w A n rows) (hi : i < n) :
    ∃ b o r, A = some ⟨b, o, none⟩ ∧ b < w.heap.size ∧ rows[i]? = some r ∧ r.ok w ∧ w.cell? ⟨b, o + i * 5, none⟩ = some (.slice r.A r.n r.c) ∧ w.cell? ⟨b, o + i * 5 + 1, none⟩ = some (.bool r.had) ∧ w.cell? ⟨b, o + i * 5 + 2, none⟩ = some (.bool r.has) ∧ w.cell? ⟨b, o + i * 5 + 3, none⟩ = some (.int .u64 (r.old : Int)) ∧ w.cell? ⟨b, o + i * 5 + 4, none⟩ = some (.int .u64 (r.new : Int)) := by
  obtain ⟨b, o, r, hA, hb, hr, hc⟩ := h.1.elem chv_len hi (by omega)
  exact ⟨b, o, r, hA, hb, hr, h.2 r (List.mem_of_getElem? hr), hc 0 _ rfl, by rw [Nat.add_assoc]; exact hc 1 _ rfl, by rw [Nat.add_assoc]; exact hc 2 _ rfl, by rw [Nat.add_assoc]; exact hc 3 _ rfl, by rw [Nat.add_assoc]; exact hc 4 _ rfl⟩
theorem ChgsAt.of_own {base c : Nat} (h : w.ownsRow base 70 5 (.slice A rows.length c) rows.length (rows.flatMap chv)) (hr : ∀ r ∈ rows, r.ok w) : ChgsAt w A rows.length rows := ⟨(own_rw h).2, hr⟩
end
set_option maxHeartbeats 8000000 in
set_option maxRecDepth 100000 in
theorem ref12_same {w : World} {A B : Option Addr} {n c d : Nat} {ra rb : List CR} (hA : ChgsAt w A n ra) (hB : ChgsAt w B n rb) (he : ces ra = ces rb) (hn : n ≤ 200000) (hna : ∀ r ∈ ra, r.n ≤ 65536) (hnb : ∀ r ∈ rb, r.n ≤ 65536) :
    Calls Try.prog 17 #[.slice A n c, .slice B n d] w fun e w' => e = .returned (.bool true) ∧ Below w.heap.size w w' := by
  have HA := hide hA
  have HB := hide hB
  have HE := hide he
  have HNA := hide hna
  have HNB := hide hnb
  have e1 : ((n : Int) != (n : Int)) = false := by simp
  clear hA hB he hna hnb
  go_enter Try.func17, Try.ntmps17
  go_wp2
  go_loopw [5] (fun x wr => ∃ (j : Nat), x = .int .i64 (j : Int) ∧ j ≤ n ∧ Below w.heap.size w wr) (fun x _ => n - (intOf x).toNat)
  case atStart => exact ⟨0, rfl, Nat.zero_le _, Below.refl _ _⟩
  case round =>
    obtain ⟨j, rfl, hj, hb⟩ := hrel
    have HBL := hide hb
    rename World => wz
    by_cases hjn : j < n
    · obtain ⟨b1, o1, r, rfl, hb1, hr, hok1, x0, x1, x2, x3, x4⟩ := (HA.out.below hb).at_ hjn
      obtain ⟨b2, o2, s, rfl, hb2, hs, hok2, y0, y1, y2, y3, y4⟩ := (HB.out.below hb).at_ hjn
      have hrn := HNA.out r (List.mem_of_getElem? hr)
      have hsn := HNB.out s (List.mem_of_getElem? hs)
      have hce : r.ce = s.ce := by
        have h1 := congrArg (fun l : List CE => l[j]?) HE.out
        simp only [ces, List.getElem?_map, hr, hs, Option.map_some, Option.some.injEq] at h1
        exact h1
      unfold CR.ce at hce
      injection hce with hp1 hp2 hp3 hp4 hp5
      have hsp := fun (W : World) (hW : Below wz.heap.size wz W) => same_pt (c := r.c) (d := s.c) (hok1.1.below hW) (hok2.1.below hW) (by omega) (by omega)
      rw [hp1, show decide (s.p = s.p) = true by simp] at hsp
      have HSP := hide hsp
      rw [hp2] at x1
      rw [hp3] at x2
      rw [hp4] at x3
      rw [hp5] at x4
      have f1 : (s.had != s.had) = false := by simp
      have f2 : (s.has != s.has) = false := by simp
      have f3 : ((s.old : Int) != (s.old : Int)) = false := by simp
      have f4 : ((s.new : Int) != (s.new : Int)) = false := by simp
      clear hr hs hok1 hok2 hb hp1 hp2 hp3 hp4 hp5 hsp hrn hsn
      go_wp2_with fail
      go_region_held3 (fun w' => w'.cell? ⟨b1, o1 + j * 5, none⟩ = some (.slice r.A r.n r.c) ∧ w'.cell? ⟨b1, o1 + j * 5 + 1, none⟩ = some (.bool s.had) ∧ w'.cell? ⟨b1, o1 + j * 5 + 2, none⟩ = some (.bool s.has) ∧ w'.cell? ⟨b1, o1 + j * 5 + 3, none⟩ = some (.int .u64 (s.old : Int)) ∧ w'.cell? ⟨b1, o1 + j * 5 + 4, none⟩ = some (.int .u64 (s.new : Int)) ∧ w'.cell? ⟨b2, o2 + j * 5, none⟩ = some (.slice s.A s.n s.c) ∧ w'.cell? ⟨b2, o2 + j * 5 + 1, none⟩ = some (.bool s.had) ∧ w'.cell? ⟨b2, o2 + j * 5 + 2, none⟩ = some (.bool s.has) ∧ w'.cell? ⟨b2, o2 + j * 5 + 3, none⟩ = some (.int .u64 (s.old : Int)) ∧ w'.cell? ⟨b2, o2 + j * 5 + 4, none⟩ = some (.int .u64 (s.new : Int)))
        (first
          | go_keep
          | exact hk5)
        (first
          | (go_at_call 39
             refine (HSP.out wz.drew (Below.refl _ wz).drew).mono ?_
             rintro e w5 ⟨rfl, hb5⟩
             have hd5 : Below wz.heap.size wz w5 := (Below.refl _ wz).drew.trans hb5
             have hk5 := And.intro ((hd5.cell (p := ⟨b1, o1 + j * 5, none⟩) hb1).trans x0) (And.intro ((hd5.cell (p := ⟨b1, o1 + j * 5 + 1, none⟩) hb1).trans x1) (And.intro ((hd5.cell (p := ⟨b1, o1 + j * 5 + 2, none⟩) hb1).trans x2) (And.intro ((hd5.cell (p := ⟨b1, o1 + j * 5 + 3, none⟩) hb1).trans x3) (And.intro ((hd5.cell (p := ⟨b1, o1 + j * 5 + 4, none⟩) hb1).trans x4) (And.intro ((hd5.cell (p := ⟨b2, o2 + j * 5, none⟩) hb2).trans y0) (And.intro ((hd5.cell (p := ⟨b2, o2 + j * 5 + 1, none⟩) hb2).trans y1) (And.intro ((hd5.cell (p := ⟨b2, o2 + j * 5 + 2, none⟩) hb2).trans y2) (And.intro ((hd5.cell (p := ⟨b2, o2 + j * 5 + 3, none⟩) hb2).trans y3) (((hd5.cell (p := ⟨b2, o2 + j * 5 + 4, none⟩) hb2).trans y4))))))))))))
      all_goals
        go_wp2
        go_roundw
        case rel => exact ⟨j + 1, by go_num, by omega, below_then HBL.out hd5⟩
        case measure => simp [intOf]; omega
    · go_wp2
      go_ret
      exact ⟨rfl, HBL.out⟩
end Go.Proofs.Ytfkpanpageeklaa
