/- pantilelaw12.Two: two trees, the second one behind more acts. -/
import Derived.Test.YtfkpanpageeklaaTrD
set_option linter.unusedSimpArgs false
set_option linter.unusedVariables false
namespace Go.Proofs.Ytfkpanpageeklaa
open Go.RowKit
set_option maxHeartbeats 8000000 in
set_option maxRecDepth 100000 in
theorem two12 {w : World} {k n c m d : Nat} {A B : Option Addr} {acts acts2 : List TA} (hk1 : 1 ≤ k) (hk : k ≤ 16) (hE : ActsAt w A n acts) (hE2 : ActsAt w B m acts2) (hn : n ≤ 100) (hm : m ≤ 100) :
    Calls Try.prog 13 #[.int .i64 (k : Int), .slice A n c, .slice B m d] w fun e w' => ∃ (t u : Nat) (A1 A2 : Option Addr) (n1 c1 n2 c2 : Nat), e = .returned (.tuple #[.pointer (some ⟨t, 0, none⟩), .pointer (some ⟨u, 0, none⟩), .slice A1 n1 c1, .slice A2 n2 c2, .bool true]) ∧ Now w' k t A1 n1 c1 ∧ Now w' k u A2 n2 c2 ∧ n1 ≤ n ∧ n2 ≤ n + m ∧ Below w.heap.size w w' := by
  have HG := hide (grown7 (c := c) hk1 hk hE hn)
  have HE := hide hE2
  clear hE hE2
  go_enter Try.func13, Try.ntmps13
  go_wp2_with fail
  refine HG.out.mono ?_
  rintro e w1 ⟨t, A1, n1, c1, rfl, hN1, hn1, hb1⟩
  have HN1 := hide hN1
  have HB1 := hide hb1
  clear hN1 hb1 HG
  go_wp2
  go_loopw [13, 14, 15, 16] (fun x13 x14 x15 x16 wr => ∃ (j u : Nat) (A2 : Option Addr) (n2 c2 : Nat), x13 = .bool true ∧ x14 = .pointer (some ⟨u, 0, none⟩) ∧ x15 = .slice A2 n2 c2 ∧ x16 = .int .i64 (j : Int) ∧ j ≤ m ∧ n2 ≤ n + j ∧ Now wr k t A1 n1 c1 ∧ Now wr k u A2 n2 c2 ∧ Below w.heap.size w wr) (fun _ _ _ x _ => m - (intOf x).toNat)
  case atStart => exact ⟨0, t, A1, n1, c1, rfl, rfl, rfl, rfl, Nat.zero_le _, by omega, HN1.out, HN1.out, HB1.out⟩
  case round =>
    obtain ⟨j, u, A2, n2, c2, rfl, rfl, rfl, rfl, hj, hnj, hNt, hNu, hb⟩ := hrel
    have HNt := hide hNt
    have HNu := hide hNu
    have HBr := hide hb
    rename World => wz
    by_cases hjn : j < m
    · obtain ⟨b, o, r, rfl, hbl, hr, hok, k0, k1, k2⟩ := (HE.out.below hb).at_ hjn
      have HD := hide (done7 hNu (by omega) hok)
      clear hNt hNu hb hr hok
      go_wp2_with fail
      refine HD.out.mono ?_
      rintro e w5 ⟨t', A5, n5, c5, rfl, hN5, hn5, hb5⟩
      have HH := hide (And.intro (HNt.out.stay hb5) (And.intro hN5 (below_then HBr.out hb5)))
      clear hN5 hb5 HD k0 k1 k2
      go_wp2
      go_roundw
      case rel => exact ⟨j + 1, t', A5, n5, c5, rfl, rfl, rfl, by go_num, by omega, by omega, HH.out.1, HH.out.2.1, HH.out.2.2⟩
      case measure => simp [intOf]; omega
    · have e9 : decide ((j : Int) < (m : Int)) = false := by simp; omega
      clear hNt hNu hb
      go_wp2
      (try simp only [Exit.inBlock, Exit.then])
      refine bodyPost_ret (v := .tuple #[.pointer (some ⟨t, 0, none⟩), .pointer (some ⟨u, 0, none⟩), .slice A1 n1 c1, .slice A2 n2 c2, .bool true]) (by simp [results, Try.results13]) rfl ?_
      exact ⟨t, u, A1, A2, n1, c1, n2, c2, rfl, HNt.out, HNu.out, hn1, by omega, HBr.out⟩
end Go.Proofs.Ytfkpanpageeklaa
