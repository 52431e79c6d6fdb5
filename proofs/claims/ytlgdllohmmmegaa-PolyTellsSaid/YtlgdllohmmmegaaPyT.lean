/- poly: outlines turned; the example; openings. -/
import Derived.Test.YtlgdllohmmmegaaPyQ
import Derived.Test.YtlgdllohmmmegaaRwN
import Derived.Test.YtlgdllohmmmegaaEnA
import Derived.OpenShut
import Derived.ChangeOld
set_option linter.unusedSimpArgs false
set_option linter.unusedVariables false
namespace Go.Proofs.Ytlgdllohmmmegaa
open Go.RowKit
theorem info_l : (Try.prog.info? 23).map (fun i => (i.zero, i.size, i.bytes)) = some (some (.slice none 0 0), 1, 24) := by kernel_rfl
theorem lpv_one (rows : List LP) : ∀ u ∈ rows.flatMap lpv, u.oneCell' = true := by
  intro u hu
  obtain ⟨r, _, hu⟩ := List.mem_flatMap.1 hu
  rw [lpv, List.mem_singleton] at hu
  subst hu
  rfl
set_option maxHeartbeats 8000000 in
set_option maxRecDepth 100000 in
theorem ref28_turned {w : World} {A : Option Addr} {n c : Nat} {rows : List LP} (h : LpsAt w A n rows) (hn : n ≤ 1000) :
    Calls Try.prog 9 #[.slice A n c] w fun e w' => (∃ (A' : Option Addr) (c' : Nat), e = .returned (.slice A' n c') ∧ LpsAt w' A' n rows.reverse) ∧ Below w.heap.size w w' := by
  have hal := (Below.refl w.heap.size w).alloc (Nat.le_refl _) (.cells #[] 23)
  have HAL := hide hal
  have HA := hide h
  have HOW := hide (own_empty w 23 1)
  have e0 : wrap64 ((n : Int) - 1) = (n : Int) - 1 := by unfold wrap64; omega
  clear h hal
  go_enter Try.func9, Try.ntmps9
  go_wp2
  go_loopw [3, 4] (fun x3 x4 wr => ∃ (j i : Nat) (A5 : Option Addr) (c5 : Nat), x3 = .slice A5 j c5 ∧ x4 = .int .i64 ((i : Int) - 1) ∧ i + j = n ∧ wr.ownsRow w.heap.size 23 1 (.slice A5 j c5) j ((rows.reverse.take j).flatMap lpv) ∧ Below w.heap.size w wr) (fun _ x4 _ => (intOf x4 + 1).toNat)
  case atStart => exact ⟨0, n, _, 0, rfl, rfl, by omega, HOW.out, HAL.out⟩
  case round =>
    obtain ⟨j, i, A5, c5, rfl, rfl, hij, ho, hb⟩ := hrel
    rename World => wz
    have HO := hide ho
    have HBz := hide hb
    cases i with
    | succ i =>
      have hi1 : ((i + 1 : Nat) : Int) - 1 = (i : Int) := by omega
      rw [hi1]
      obtain ⟨b, o, q, rfl, hbl, hq, hqo, x0⟩ := (HA.out.below hb).at_ (show i < n by omega)
      have hiN : (i : Int) < (n : Int) := by omega
      have e1 : wrap64 ((i : Int) - 1) = (i : Int) - 1 := by unfold wrap64; omega
      have HQ := hide (show rows.reverse.take (j + 1) = rows.reverse.take j ++ [q] by
        have hl := HA.out.len
        rw [List.take_add_one, List.getElem?_reverse (by omega), show rows.length - 1 - j = i by omega, hq]
        rfl)
      have HO4 := hide (own_below HO.out ((Below.refl wz.heap.size wz).alloc (Nat.le_refl _) (.cells #[.slice q.A q.n q.c] 23)))
      have HB4 := hide (below_then HBz.out ((Below.refl wz.heap.size wz).alloc (Nat.le_refl _) (.cells #[.slice q.A q.n q.c] 23)))
      clear hbl hq hqo ho hb hi1
      go_wp2_with (first
        | (at_builtin
           refine app_bn _ rfl (.tmp 13) (.tmp 18) _ rfl w.heap.size 23 _ 1 24 Try.underlying22 info_l rfl (by omega) _ j _ rfl HO4.out (some ⟨wz.heap.size, 0, none⟩) 1 1 [.slice q.A q.n q.c] rfl w HB4.out (Nat.le_refl _) (Rw.new1 wz 23 #[.slice q.A q.n q.c] (sz := 1) rfl) (fun u hu => by rw [List.mem_singleton] at hu; rw [hu]; rfl) (by unfold maxLen; omega) (by omega) ?_
           intro v6 w6 ho6 hb6 hg6 hv6
           obtain ⟨A6, c6, rfl, -, -⟩ := Rw.of_own ho6
           have HO6 := hide ho6
           have HB6 := hide hb6
           clear ho6 hb6 hg6 hv6)
        | fail)
      go_wp2
      go_roundw
      case rel => exact ⟨j + 1, i, A6, c6, by simp, by first | rfl | simp, by omega, by rw [HQ.out, List.flatMap_append]; exact HO6.out, HB6.out⟩
      case measure => (simp [intOf]; try omega)
    | zero =>
      obtain rfl : j = n := by omega
      have HF := hide (show LpsAt wz A5 j rows.reverse from by
        have hl : rows.reverse.take j = rows.reverse := List.take_of_length_le (by rw [List.length_reverse, HA.out.len]; exact Nat.le_refl _)
        rw [hl] at ho
        exact ⟨(own_rw ho).2, fun r hr => (HA.out.2 r (List.mem_reverse.1 hr)).below hb⟩)
      have hi1 : ((0 : Nat) : Int) - 1 = -1 := by omega
      rw [hi1]
      clear ho hb
      go_wp2
      go_ret
      exact ⟨⟨A5, c5, rfl, HF.out⟩, HBz.out⟩
section
open Go.ChangeShapes Go.WideShapes
set_option maxRecDepth 100000 in
theorem open_lps {H : Type} {enc : TypeId × Value → H} {w : World} {A : Option Addr} {len cap : Nat} {d : DataW H} {ps : List MemPlace}
    (h : DataW.Trod enc Try.prog w 0 (fun _ => true) true 22 (.slice A len cap) d ps) :
    ∃ rows : List LP, LpsAt w A len rows ∧ len ≤ cap ∧ cap ≤ maxLen := by
  obtain ⟨fuel, h⟩ := h
  obtain ⟨rows, -, hok, h1, h2, h3⟩ := open_elems (sz := 1) lpv (fun r => LP.ok w r) lpv_len (by omega) Try.underlying22 (by kernel_rfl) (fun n cs d hd => by
    rcases Go.Deep.open_slice Try.underlying23 hd with ⟨h0, _⟩ | ⟨a, l, c, _, _, _, _, h0, _⟩
    · exact ⟨⟨none, 0, 0, []⟩, h0, pt_nil w, Nat.le_refl _, Nat.zero_le _⟩
    · rw [h0] at hd
      obtain ⟨p, q1, q2, q3⟩ := open_point' hd
      exact ⟨⟨some a, l, c, p⟩, h0, q1, q2, q3⟩) h
  exact ⟨rows, ⟨h1, hok⟩, h2, h3⟩
end
theorem pt_two_new (w : World) (a b : Nat) (ha : a < 2 ^ 64) (hb : b < 2 ^ 64) : Pt (w.alloc (.cells #[.int .u64 (a : Int), .int .u64 (b : Int)] 43)) (some ⟨w.heap.size, 0, none⟩) 2 [a, b] := by
  refine ⟨rfl, ?_, fun x hx => ?_⟩
  · exact Rw.of_blk (Blk.new w _ _) rfl (fun j u hu => by rw [Nat.zero_add]; simpa [u64s] using hu)
  · rcases List.mem_cons.1 hx with rfl | hx
    · exact ha
    · rw [List.mem_singleton] at hx
      subst hx
      exact hb
theorem lit_rows (w : World) : LpsAt (((((w.alloc (.cells #[.int .u64 0, .int .u64 0] 43)).alloc (.cells #[.int .u64 4, .int .u64 0] 43)).alloc (.cells #[.int .u64 4, .int .u64 4] 43)).alloc (.cells #[.int .u64 0, .int .u64 4] 43)).alloc (.cells #[.slice (some ⟨w.heap.size, 0, none⟩) 2 2, .slice (some ⟨w.heap.size + 1, 0, none⟩) 2 2, .slice (some ⟨w.heap.size + 1 + 1, 0, none⟩) 2 2, .slice (some ⟨w.heap.size + 1 + 1 + 1, 0, none⟩) 2 2] 23)) (some ⟨w.heap.size + 1 + 1 + 1 + 1, 0, none⟩) 4 [⟨some ⟨w.heap.size, 0, none⟩, 2, 2, [0, 0]⟩, ⟨some ⟨w.heap.size + 1, 0, none⟩, 2, 2, [4, 0]⟩, ⟨some ⟨w.heap.size + 1 + 1, 0, none⟩, 2, 2, [4, 4]⟩, ⟨some ⟨w.heap.size + 1 + 1 + 1, 0, none⟩, 2, 2, [0, 4]⟩] ∧ Below w.heap.size w (((((w.alloc (.cells #[.int .u64 0, .int .u64 0] 43)).alloc (.cells #[.int .u64 4, .int .u64 0] 43)).alloc (.cells #[.int .u64 4, .int .u64 4] 43)).alloc (.cells #[.int .u64 0, .int .u64 4] 43)).alloc (.cells #[.slice (some ⟨w.heap.size, 0, none⟩) 2 2, .slice (some ⟨w.heap.size + 1, 0, none⟩) 2 2, .slice (some ⟨w.heap.size + 1 + 1, 0, none⟩) 2 2, .slice (some ⟨w.heap.size + 1 + 1 + 1, 0, none⟩) 2 2] 23)) := by
  have B : ∀ (W : World) (o : Obj), Below W.heap.size W (W.alloc o) := fun W o => (Below.refl _ _).alloc (Nat.le_refl _) o
  have p1 := pt_two_new w 0 0 (by omega) (by omega)
  have p2 := pt_two_new (w.alloc (.cells #[.int .u64 0, .int .u64 0] 43)) 4 0 (by omega) (by omega)
  have p3 := pt_two_new ((w.alloc (.cells #[.int .u64 0, .int .u64 0] 43)).alloc (.cells #[.int .u64 4, .int .u64 0] 43)) 4 4 (by omega) (by omega)
  have p4 := pt_two_new (((w.alloc (.cells #[.int .u64 0, .int .u64 0] 43)).alloc (.cells #[.int .u64 4, .int .u64 0] 43)).alloc (.cells #[.int .u64 4, .int .u64 4] 43)) 0 4 (by omega) (by omega)
  have q1 := (((p1.below (B _ (.cells #[.int .u64 4, .int .u64 0] 43))).below (B _ (.cells #[.int .u64 4, .int .u64 4] 43))).below (B _ (.cells #[.int .u64 0, .int .u64 4] 43))).below (B _ (.cells #[.slice (some ⟨w.heap.size, 0, none⟩) 2 2, .slice (some ⟨w.heap.size + 1, 0, none⟩) 2 2, .slice (some ⟨w.heap.size + 1 + 1, 0, none⟩) 2 2, .slice (some ⟨w.heap.size + 1 + 1 + 1, 0, none⟩) 2 2] 23))
  have q2 := ((p2.below (B _ (.cells #[.int .u64 4, .int .u64 4] 43))).below (B _ (.cells #[.int .u64 0, .int .u64 4] 43))).below (B _ (.cells #[.slice (some ⟨w.heap.size, 0, none⟩) 2 2, .slice (some ⟨w.heap.size + 1, 0, none⟩) 2 2, .slice (some ⟨w.heap.size + 1 + 1, 0, none⟩) 2 2, .slice (some ⟨w.heap.size + 1 + 1 + 1, 0, none⟩) 2 2] 23))
  have q3 := (p3.below (B _ (.cells #[.int .u64 0, .int .u64 4] 43))).below (B _ (.cells #[.slice (some ⟨w.heap.size, 0, none⟩) 2 2, .slice (some ⟨w.heap.size + 1, 0, none⟩) 2 2, .slice (some ⟨w.heap.size + 1 + 1, 0, none⟩) 2 2, .slice (some ⟨w.heap.size + 1 + 1 + 1, 0, none⟩) 2 2] 23))
  have q4 := p4.below (B _ (.cells #[.slice (some ⟨w.heap.size, 0, none⟩) 2 2, .slice (some ⟨w.heap.size + 1, 0, none⟩) 2 2, .slice (some ⟨w.heap.size + 1 + 1, 0, none⟩) 2 2, .slice (some ⟨w.heap.size + 1 + 1 + 1, 0, none⟩) 2 2] 23))
  have k5 := Rw.of_blk (sz := 1) (n := 4) (k := 0) (Blk.new ((((w.alloc (.cells #[.int .u64 0, .int .u64 0] 43)).alloc (.cells #[.int .u64 4, .int .u64 0] 43)).alloc (.cells #[.int .u64 4, .int .u64 4] 43)).alloc (.cells #[.int .u64 0, .int .u64 4] 43)) 23 #[.slice (some ⟨w.heap.size, 0, none⟩) 2 2, .slice (some ⟨w.heap.size + 1, 0, none⟩) 2 2, .slice (some ⟨w.heap.size + 1 + 1, 0, none⟩) 2 2, .slice (some ⟨w.heap.size + 1 + 1 + 1, 0, none⟩) 2 2]) (vs := [.slice (some ⟨w.heap.size, 0, none⟩) 2 2, .slice (some ⟨w.heap.size + 1, 0, none⟩) 2 2, .slice (some ⟨w.heap.size + 1 + 1, 0, none⟩) 2 2, .slice (some ⟨w.heap.size + 1 + 1 + 1, 0, none⟩) 2 2]) rfl (fun j u hu => by rw [Nat.zero_add]; simpa using hu)
  simp only [World.size_alloc] at q2 q3 q4 k5
  refine ⟨⟨k5, fun r hr => ?_⟩, below_alloc (below_alloc (below_alloc (below_alloc (B w _) (Nat.le_refl _) _) (Nat.le_refl _) _) (Nat.le_refl _) _) (Nat.le_refl _) _⟩
  simp only [List.mem_cons, List.not_mem_nil, or_false] at hr
  rcases hr with rfl | rfl | rfl | rfl
  · exact ⟨q1, Nat.le_refl _, by show 2 ≤ maxLen; unfold maxLen; omega⟩
  · exact ⟨q2, Nat.le_refl _, by show 2 ≤ maxLen; unfold maxLen; omega⟩
  · exact ⟨q3, Nat.le_refl _, by show 2 ≤ maxLen; unfold maxLen; omega⟩
  · exact ⟨q4, Nat.le_refl _, by show 2 ≤ maxLen; unfold maxLen; omega⟩
theorem lit_facts : rightL [[0, 0], [4, 0], [4, 4], [0, 4]] = true ∧ areaL [[0, 0], [4, 0], [4, 4], [0, 4]] = 32 ∧ windsL [[0, 0], [4, 0], [4, 4], [0, 4]] [1, 1] = 1 ∧ onL [[0, 0], [4, 0], [4, 4], [0, 4]] [4, 2] = true := by
  refine ⟨by decide, by decide, by decide, by decide⟩
set_option maxHeartbeats 8000000 in
set_option maxRecDepth 100000 in
theorem awake28 (w : World) : Calls Try.prog 5 #[] w fun e w' => e = .returned (.bool true) ∧ Below w.heap.size w w' := by
  obtain ⟨hL, hB⟩ := lit_rows w
  have HL := hide hL
  have HB := hide hB
  obtain ⟨f1, f2, f3, f4⟩ := lit_facts
  have HF := hide (And.intro f1 (And.intro f2 (And.intro f3 f4)))
  clear hL hB f1 f2 f3 f4
  go_enter Try.func5, Try.ntmps5
  go_wp2_with fail
  generalize (((((w.alloc (.cells #[.int .u64 0, .int .u64 0] 43)).alloc (.cells #[.int .u64 4, .int .u64 0] 43)).alloc (.cells #[.int .u64 4, .int .u64 4] 43)).alloc (.cells #[.int .u64 0, .int .u64 4] 43)).alloc (.cells #[.slice (some ⟨w.heap.size, 0, none⟩) 2 2, .slice (some ⟨w.heap.size + 1, 0, none⟩) 2 2, .slice (some ⟨w.heap.size + 1 + 1, 0, none⟩) 2 2, .slice (some ⟨w.heap.size + 1 + 1 + 1, 0, none⟩) 2 2] 23)) = w5 at *
  have har := py_area (c := 4) HL.out (by omega) HF.out.1
  rw [show areaL (List.map LP.p [⟨some ⟨w.heap.size, 0, none⟩, 2, 2, [0, 0]⟩, ⟨some ⟨w.heap.size + 1, 0, none⟩, 2, 2, [4, 0]⟩, ⟨some ⟨w.heap.size + 1 + 1, 0, none⟩, 2, 2, [4, 4]⟩, ⟨some ⟨w.heap.size + 1 + 1 + 1, 0, none⟩, 2, 2, [0, 4]⟩]) = 32 from HF.out.2.1] at har
  have HAR := hide har
  clear har
  refine HAR.out.mono ?_
  rintro e w6 ⟨rfl, hb⟩
  have HB6 := hide (below_then HB.out hb)
  have HL6 := hide (HL.out.below hb)
  clear hb HAR
  have hp := pt_two_new w6 1 1 (by omega) (by omega)
  have hq := (Below.refl w6.heap.size w6).alloc (Nat.le_refl _) (.cells #[.int .u64 1, .int .u64 1] 43)
  have hwi := py_Winds (c := 4) (d := 2) (HL6.out.below hq) (by omega) hp HF.out.1 (by decide)
  rw [show windsL (List.map LP.p [⟨some ⟨w.heap.size, 0, none⟩, 2, 2, [0, 0]⟩, ⟨some ⟨w.heap.size + 1, 0, none⟩, 2, 2, [4, 0]⟩, ⟨some ⟨w.heap.size + 1 + 1, 0, none⟩, 2, 2, [4, 4]⟩, ⟨some ⟨w.heap.size + 1 + 1 + 1, 0, none⟩, 2, 2, [0, 4]⟩]) [1, 1] = 1 from HF.out.2.2.1] at hwi
  have HWI := hide hwi
  have HB7 := hide (below_then HB6.out hq)
  have HL7 := hide (HL6.out.below hq)
  clear hp hq hwi
  go_wp2_with fail
  refine HWI.out.mono ?_
  rintro e w8 ⟨rfl, hb⟩
  have HB8 := hide (below_then HB7.out hb)
  have HL8 := hide (HL7.out.below hb)
  clear hb HWI
  have hp := pt_two_new w8 4 2 (by omega) (by omega)
  have hq := (Below.refl w8.heap.size w8).alloc (Nat.le_refl _) (.cells #[.int .u64 4, .int .u64 2] 43)
  have hon := py_On (c := 4) (d := 2) (HL8.out.below hq) (by omega) hp
  rw [show (rightL (List.map LP.p [⟨some ⟨w.heap.size, 0, none⟩, 2, 2, [0, 0]⟩, ⟨some ⟨w.heap.size + 1, 0, none⟩, 2, 2, [4, 0]⟩, ⟨some ⟨w.heap.size + 1 + 1, 0, none⟩, 2, 2, [4, 4]⟩, ⟨some ⟨w.heap.size + 1 + 1 + 1, 0, none⟩, 2, 2, [0, 4]⟩]) && (small [4, 2] && onL (List.map LP.p [⟨some ⟨w.heap.size, 0, none⟩, 2, 2, [0, 0]⟩, ⟨some ⟨w.heap.size + 1, 0, none⟩, 2, 2, [4, 0]⟩, ⟨some ⟨w.heap.size + 1 + 1, 0, none⟩, 2, 2, [4, 4]⟩, ⟨some ⟨w.heap.size + 1 + 1 + 1, 0, none⟩, 2, 2, [0, 4]⟩]) [4, 2])) = true by rw [show onL (List.map LP.p [⟨some ⟨w.heap.size, 0, none⟩, 2, 2, [0, 0]⟩, ⟨some ⟨w.heap.size + 1, 0, none⟩, 2, 2, [4, 0]⟩, ⟨some ⟨w.heap.size + 1 + 1, 0, none⟩, 2, 2, [4, 4]⟩, ⟨some ⟨w.heap.size + 1 + 1 + 1, 0, none⟩, 2, 2, [0, 4]⟩]) [4, 2] = true from HF.out.2.2.2, show rightL (List.map LP.p [⟨some ⟨w.heap.size, 0, none⟩, 2, 2, [0, 0]⟩, ⟨some ⟨w.heap.size + 1, 0, none⟩, 2, 2, [4, 0]⟩, ⟨some ⟨w.heap.size + 1 + 1, 0, none⟩, 2, 2, [4, 4]⟩, ⟨some ⟨w.heap.size + 1 + 1 + 1, 0, none⟩, 2, 2, [0, 4]⟩]) = true from HF.out.1]; decide, show onCode (List.map LP.p [⟨some ⟨w.heap.size, 0, none⟩, 2, 2, [0, 0]⟩, ⟨some ⟨w.heap.size + 1, 0, none⟩, 2, 2, [4, 0]⟩, ⟨some ⟨w.heap.size + 1 + 1, 0, none⟩, 2, 2, [4, 4]⟩, ⟨some ⟨w.heap.size + 1 + 1 + 1, 0, none⟩, 2, 2, [0, 4]⟩]) [4, 2] = 0 by unfold onCode; rw [show rightL (List.map LP.p [⟨some ⟨w.heap.size, 0, none⟩, 2, 2, [0, 0]⟩, ⟨some ⟨w.heap.size + 1, 0, none⟩, 2, 2, [4, 0]⟩, ⟨some ⟨w.heap.size + 1 + 1, 0, none⟩, 2, 2, [4, 4]⟩, ⟨some ⟨w.heap.size + 1 + 1 + 1, 0, none⟩, 2, 2, [0, 4]⟩]) = true from HF.out.1]; decide] at hon
  have HON := hide hon
  have HB9 := hide (below_then HB8.out hq)
  clear hp hq hon
  go_wp2_with fail
  refine HON.out.mono ?_
  rintro e w10 ⟨rfl, hb⟩
  have HF2 := hide (below_then HB9.out hb)
  clear hb HON
  go_wp2
  go_ret
  exact ⟨rfl, HF2.out⟩
end Go.Proofs.Ytlgdllohmmmegaa
