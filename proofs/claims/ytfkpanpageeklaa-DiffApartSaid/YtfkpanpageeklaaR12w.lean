/- pantileref12: both sides swapped. -/
import Derived.Test.YtfkpanpageeklaaR12b
set_option linter.unusedSimpArgs false
set_option linter.unusedVariables false
namespace Go.Proofs.Ytfkpanpageeklaa
open Go.RowKit
def CR.sw (r : CR) : CR := ⟨r.A, r.n, r.c, r.p, r.has, r.had, r.new, r.old⟩
theorem sw_ces (rows : List CR) : ces (rows.map CR.sw) = (ces rows).map CE.swap := by
  unfold ces
  rw [List.map_map, List.map_map]
  rfl
set_option maxHeartbeats 8000000 in
set_option maxRecDepth 100000 in
theorem ref12_swapped {w : World} {A : Option Addr} {c : Nat} {rows : List CR} (hA : ChgsAt w A rows.length rows) (hn : rows.length ≤ 100000) :
    Calls Try.prog 18 #[.slice A rows.length c] w fun e w' => ∃ (A' : Option Addr) (c' : Nat), e = .returned (.slice A' rows.length c') ∧ ChgsAt w' A' rows.length (rows.map CR.sw) ∧ Below w.heap.size w w' := by
  have hal := (Below.refl w.heap.size w).alloc (Nat.le_refl _) (.cells #[] 70)
  have HAL := hide hal
  have HA := hide hA
  have HOW := hide (own_empty w 70 5)
  clear hA hal
  obtain ⟨n, hn0⟩ : ∃ n, n = rows.length := ⟨_, rfl⟩
  have HN0 := hide hn0
  rw [← hn0] at HA hn
  rw [← hn0]
  clear hn0
  go_enter Try.func18, Try.ntmps18
  go_wp2
  go_loopw [3, 4] (fun x3 x4 wr => ∃ (j : Nat) (A5 : Option Addr) (c5 : Nat), x3 = .slice A5 j c5 ∧ x4 = .int .i64 (j : Int) ∧ j ≤ n ∧ wr.ownsRow w.heap.size 70 5 (.slice A5 j c5) j (((rows.take j).map CR.sw).flatMap chv) ∧ Below w.heap.size w wr) (fun _ x4 _ => n - (intOf x4).toNat)
  case atStart => exact ⟨0, _, 0, rfl, rfl, Nat.zero_le _, HOW.out, HAL.out⟩
  case round =>
    obtain ⟨j, A5, c5, rfl, rfl, hj, ho, hb⟩ := hrel
    rename World => wz
    have HO := hide ho
    have HBz := hide hb
    by_cases hjn : j < n
    · obtain ⟨b, o, q, rfl, hbl, hq, hqo, X0, X1, X2, X3, X4⟩ := HA.out.at_ hjn
      have HKP := hide (fun (W : World) (hW : Below w.heap.size w W) => And.intro ((hW.cell (p := ⟨b, o + j * 5, none⟩) hbl).trans X0) (And.intro ((hW.cell (p := ⟨b, o + j * 5 + 1, none⟩) hbl).trans X1) (And.intro ((hW.cell (p := ⟨b, o + j * 5 + 2, none⟩) hbl).trans X2) (And.intro ((hW.cell (p := ⟨b, o + j * 5 + 3, none⟩) hbl).trans X3) ((hW.cell (p := ⟨b, o + j * 5 + 4, none⟩) hbl).trans X4)))))
      obtain ⟨x0, x1, x2, x3, x4⟩ := HKP.out wz hb
      clear X0 X1 X2 X3 X4
      have HQ := hide hq
      have hd : Below wz.heap.size wz wz.drew := (Below.refl _ _).drew
      have HN1 := hide (Rw.new1 wz.drew 70 #[.slice q.A q.n q.c, .bool q.has, .bool q.had, .int .u64 (q.new : Int), .int .u64 (q.old : Int)] (sz := 5) rfl)
      have hd2 := below_alloc hd (Nat.le_refl _) (.cells #[.slice q.A q.n q.c, .bool q.has, .bool q.had, .int .u64 (q.new : Int), .int .u64 (q.old : Int)] 70)
      have HO4 := hide (own_below HO.out hd2)
      have HB4 := hide (below_then HBz.out hd2)
      clear hq hqo hbl ho hb hd hd2
      go_wp2_with fail
      go_region_held3 (fun w' => w'.cell? ⟨b, o + j * 5, none⟩ = some (.slice q.A q.n q.c) ∧ w'.cell? ⟨b, o + j * 5 + 1, none⟩ = some (.bool q.had) ∧ w'.cell? ⟨b, o + j * 5 + 2, none⟩ = some (.bool q.has) ∧ w'.cell? ⟨b, o + j * 5 + 3, none⟩ = some (.int .u64 (q.old : Int)) ∧ w'.cell? ⟨b, o + j * 5 + 4, none⟩ = some (.int .u64 (q.new : Int)))
        (first
          | go_keep
          | exact hk6)
        (first
          | (refine step_app_n _ (by rfl) (.tmp 12) (.tmp 39) _ (by rfl) w.heap.size 70 _ 5 48 Try.underlying36 info_c rfl (by omega) _ j _ (by rfl) HO4.out (some ⟨wz.heap.size, 0, none⟩) 1 1 [.slice q.A q.n q.c, .bool q.has, .bool q.had, .int .u64 (q.new : Int), .int .u64 (q.old : Int)] (by rfl) w HB4.out (Nat.le_refl _) HN1.out (fun u hu => by simp only [List.mem_cons, List.not_mem_nil, or_false] at hu; rcases hu with rfl | rfl | rfl | rfl | rfl <;> rfl) (by unfold maxLen; omega) (by omega) ?_
             intro v6 w6 ho6 hb6 hg6 hv6
             obtain ⟨A6, c6, rfl, -, -⟩ := Rw.of_own ho6
             have HO6 := hide ho6
             have hk6 := HKP.out _ hb6
             have HB6 := hide hb6
             clear ho6 hb6 hg6 hv6))
      all_goals
        go_wp2
        go_roundw
        case rel => exact ⟨j + 1, A6, c6, by simp, by go_num, by omega, by
          have h1 : (rows.take (j + 1)) = rows.take j ++ [q] := by
            rw [List.take_add_one, HQ.out]
            rfl
          rw [h1, List.map_append, List.flatMap_append]
          exact HO6.out, HB6.out⟩
        case measure => simp [intOf]; omega
    · obtain rfl : j = n := by omega
      have HF := hide (show ∃ (A' : Option Addr) (c' : Nat), Ending.returned (.slice A5 j c5) = .returned (.slice A' j c') ∧ ChgsAt wz A' j (rows.map CR.sw) ∧ Below w.heap.size w wz from by
        have hl : rows.take j = rows := List.take_of_length_le (by rw [HN0.out]; omega)
        rw [hl] at ho
        refine ⟨A5, c5, rfl, ⟨(own_rw ho).2, fun r hr => ?_⟩, hb⟩
        obtain ⟨q, hq, rfl⟩ := List.mem_map.1 hr
        obtain ⟨g1, g2, g3, g4, g5⟩ := (HA.out.2 q hq).below hb
        exact ⟨g1, g2, g3, g5, g4⟩)
      clear ho hb
      go_wp2
      go_ret
      exact HF.out
end Go.Proofs.Ytfkpanpageeklaa
