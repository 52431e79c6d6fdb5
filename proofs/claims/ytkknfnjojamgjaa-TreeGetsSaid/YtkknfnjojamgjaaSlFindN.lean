/- slots.find at *pantile/node.Node. -/
import Derived.Test.YtkknfnjojamgjaaProg
import Derived.Test.YtkknfnjojamgjaaCells
set_option linter.unusedSimpArgs false
set_option linter.unusedVariables false
namespace Go.Proofs.Ytkknfnjojamgjaa
open Go.RowKit
def IsX_n (cs : List Cl) : Prop := ∀ c ∈ cs, ∃ y, c.x = .pointer y
set_option maxHeartbeats 1000000 in
set_option maxRecDepth 100000 in
theorem find_n (g : Nat) (v0 v1 : Value) (A : Option Addr) (n c : Nat) (cs : List Cl) (addr : Int) (w : World) (hB : Blk w g 178 #[v0, v1, .slice A n c]) (hR : Rw w 3 A n (clv cs)) (hX : IsX_n cs) (hS : Rising cs) (hn : n ≤ 70000) :
    Calls Try.prog 137 #[.pointer (some ⟨g, 0, none⟩), .int .i64 addr] w fun e w' => ∃ at_ ok, e = .returned (.tuple #[.int .i64 (at_ : Nat), .bool ok]) ∧ Found cs addr at_ ok ∧ Below w.heap.size w w' := by
  have h2 : w.cell? ⟨g, 2, none⟩ = some (.slice A n c) := hB.cell 2
  go_enter Try.func137, Try.ntmps137
  go_wp2
  refine wp_scope_goto 0 (fun a' w' => ∃ (lo hi : Nat) (u2 u3 u4 u5 u8 u9 u10 u11 u12 u13 u14 u15 u16 u17 u18 u19 u20 u21 u22 u23 u24 u25 u26 u27 u28 u29 u30 u31 u32 u33 u34 u35 u36 u37 u38 u39 u40 u41 u42 u43 u44 u45 u46 u47 : Value), a' = { tmps := #[.pointer (some ⟨g, 0, none⟩), .int .i64 addr, u2, u3, u4, u5, .int .i64 (lo : Nat), .int .i64 (hi : Nat), u8, u9, u10, u11, u12, u13, u14, u15, u16, u17, u18, u19, u20, u21, u22, u23, u24, u25, u26, u27, u28, u29, u30, u31, u32, u33, u34, u35, u36, u37, u38, u39, u40, u41, u42, u43, u44, u45, u46, u47], defers := [] } ∧ lo ≤ hi ∧ hi ≤ n ∧ (∀ (i : Nat) (c : Cl), cs[i]? = some c → i < lo → (c.a : Int) < addr) ∧ (∀ (i : Nat) (c : Cl), cs[i]? = some c → hi ≤ i → addr < (c.a : Int)) ∧ Below w.heap.size w w') (fun a' _ => (intOf (a'.tmps.getD 7 undef) - intOf (a'.tmps.getD 6 undef)).toNat) rfl rfl ?_ ?_
  · go_wp2
    go_quiet (fail)
    exact ⟨0, n, _, _, _, _, _, _, _, _, _, _, _, _, _, _, _, _, _, _, _, _, _, _, _, _, _, _, _, _, _, _, _, _, _, _, _, _, _, _, _, _, _, _, _, _, rfl, Nat.zero_le _, Nat.le_refl _, fun _ _ _ h => absurd h (by omega), fun i c h hle => absurd (List.getElem?_eq_some_iff.1 h).1 (by have := hR.1; rw [clv_length] at this; omega), below_drewN (Below.refl _ _) _⟩
  · rintro a' wr ⟨lo, hi, u2, u3, u4, u5, u8, u9, u10, u11, u12, u13, u14, u15, u16, u17, u18, u19, u20, u21, u22, u23, u24, u25, u26, u27, u28, u29, u30, u31, u32, u33, u34, u35, u36, u37, u38, u39, u40, u41, u42, u43, u44, u45, u46, u47, rfl, hlo, hhi, hl, hh, hb⟩
    have hlen := hR.1
    rw [clv_length] at hlen
    have hB1 := hB.below hb
    have hR1 := hR.below hb
    by_cases hlt : lo < hi
    · obtain ⟨b, o, d, rfl, hbl, hd, k0, k1, k2⟩ := hR1.cl (i := (lo + hi) / 2) (by omega)
      have H2 := hB1.cell 2
      simp at H2
      obtain ⟨y, hy⟩ := hX d (List.mem_of_getElem? hd)
      rw [hy] at k1
      have HD := hide hd
      have HL := hide hlen
      have Hl := hide hl
      have Hh := hide hh
      clear hd hlen hl hh h2 hy
      have hb1 : Below w.heap.size w (wr.alloc (.cells #[.int .i64 (d.a : Int), .pointer y, .bool d.h] 182)) := below_alloc hb (Nat.le_refl _) _
      have HB := hide hb1
      clear hb1
      rcases Int.lt_trichotomy (d.a : Int) addr with hc | hc | hc
      · have e1 : ((d.a : Int) == addr) = false := by simp; omega
        go_wp2
        go_step3
        refine ⟨rfl, ⟨(lo + hi) / 2 + 1, hi, _, _, _, _, _, _, _, _, _, _, _, _, _, _, _, _, _, _, _, _, _, _, _, _, _, _, _, _, _, _, _, _, _, _, _, _, _, _, _, _, _, _, _, _, rfl, by omega, hhi, below_step hS HD.out hc, Hh.out, HB.out⟩, ?_⟩
        simp [intOf]
        omega
      · have e1 : ((d.a : Int) == addr) = true := by simp; omega
        have hF := hide (found_eq hS HD.out hc)
        have HC := hide hc
        clear hc
        go_wp2
        go_quiet (fail)
        go_wp2
        simp only [Exit.jump]
        go_ret2
        exact ⟨(lo + hi) / 2, d.h, rfl, hF.out, below_drewN HB.out _⟩
      · have e1 : ((d.a : Int) == addr) = false := by simp; omega
        go_wp2
        go_step3
        refine ⟨rfl, ⟨lo, (lo + hi) / 2, _, _, _, _, _, _, _, _, _, _, _, _, _, _, _, _, _, _, _, _, _, _, _, _, _, _, _, _, _, _, _, _, _, _, _, _, _, _, _, _, _, _, _, _, rfl, by omega, by omega, Hl.out, above_step hS HD.out hc, HB.out⟩, ?_⟩
        simp [intOf]
        omega
    · have he : lo = hi := by omega
      have hF := hide (found_end (by omega) hl (fun i c hi' hle => hh i c hi' (by omega)))
      clear hl hh he hlen
      have h3 : decide (hi ≤ lo) = true := by simp; omega
      go_wp2
      simp only [Exit.jump]
      go_ret2
      exact ⟨lo, false, rfl, hF.out, hb⟩
end Go.Proofs.Ytkknfnjojamgjaa
