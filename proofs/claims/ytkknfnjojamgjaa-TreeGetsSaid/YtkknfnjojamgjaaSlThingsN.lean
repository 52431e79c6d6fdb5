/- slots.things at *pantile/node.Node. -/
import Derived.Test.YtkknfnjojamgjaaSlFindN
import Derived.Test.YtkknfnjojamgjaaApp
set_option linter.unusedSimpArgs false
set_option linter.unusedVariables false
namespace Go.Proofs.Ytkknfnjojamgjaa
open Go.RowKit
theorem info_cell_n : (Try.prog.info? 182).map (fun i => (i.zero, i.size, i.bytes)) = some (some (.agg #[.int .i64 0, (.pointer none), .bool false]), 3, 24) := by kernel_rfl
theorem isx_one_n {cs : List Cl} (h : IsX_n cs) : ∀ c ∈ cs, c.x.oneCell' = true := by
  intro c hc
  obtain ⟨y, hy⟩ := h c hc
  rw [hy]
  rfl
set_option maxHeartbeats 1000000 in
set_option maxRecDepth 100000 in
theorem things_n (g : Nat) (v0 v1 : Value) (A : Option Addr) (n c : Nat) (cs : List Cl) (w : World) (hB : Blk w g 178 #[v0, v1, .slice A n c]) (hR : Rw w 3 A n (clv cs)) (hX : IsX_n cs) (hn : n ≤ 70000) :
    Calls Try.prog 129 #[.pointer (some ⟨g, 0, none⟩)] w fun e w' => ∃ v, e = .returned v ∧ w'.ownsRow w.heap.size 182 3 v (live cs).length (clv (live cs)) ∧ Below w.heap.size w w' := by
  have h2 : w.cell? ⟨g, 2, none⟩ = some (.slice A n c) := hB.cell 2
  have hlen := hR.1
  rw [clv_length] at hlen
  have HL := hide hlen
  clear hlen
  go_enter Try.func129, Try.ntmps129
  go_wp2
  clear h2
  go_loopw [3, 11] (fun v i wr => ∃ (k : Nat), k ≤ n ∧ i = .int .i64 k ∧ wr.ownsRow w.heap.size 182 3 v (live (cs.take k)).length (clv (live (cs.take k))) ∧ Below w.heap.size w wr) (fun _ i _ => n - (intOf i).toNat)
  case atStart => exact ⟨0, by omega, rfl, own_nil _ _ _ _, Below.refl _ _⟩
  case round =>
    obtain ⟨k, hk, rfl, ho, hb⟩ := hrel
    by_cases hlt : k < n
    · obtain ⟨b, o, d, rfl, hbl, hd, k0, k1, k2⟩ := (hR.below hb).cl hlt
      obtain ⟨y, hy⟩ := hX d (List.mem_of_getElem? hd)
      have h1 := vals_one d (isx_one_n hX d (List.mem_of_getElem? hd))
      have hT := live_take cs k d hd
      have hle : (live (cs.take k)).length ≤ n := by have := live_len cs k; have := HL.out; omega
      cases hh : d.h with
      | false =>
        rw [hh] at k2 hT
        rw [hy] at k1
        have HT := hide hT
        clear hT hd hy hh
        go_wp2
        go_roundw
        case rel => exact ⟨k + 1, by omega, by go_num, by rw [HT.out]; simpa using ho.alloc _, below_alloc hb (Nat.le_refl _) _⟩
        case measure => simp [intOf]; omega
      | true =>
        rw [hh] at k2 hT
        rw [hy] at k1
        have hv : d.vals = [.int .i64 (d.a : Int), .pointer y, .bool true] := by simp [Cl.vals, hh, hy]
        rw [hv] at h1
        have HT := hide hT
        have HV := hide hv
        clear hT hd hy hh hv
        go_wp2_with (at_builtin
                     refine app_any _ rfl (.tmp 17) (.tmp 19) _ rfl w.heap.size 182 _ 3 24 Try.underlying176 info_cell_n rfl (by omega) _ _ _ rfl ((ho.alloc _).alloc _) (some ⟨wr.heap.size + 1, 0, none⟩) 1 1 [.int .i64 (d.a : Int), .pointer y, .bool true] rfl ?hr h1 ?c1 ?c2 ?c3 ?_
                     case hr => exact Rw.of_blk (t := 182) (cs := #[.int .i64 (d.a : Int), .pointer y, .bool true]) (by simpa using Blk.new (wr.alloc _) _ _) rfl (fun j u h => by simpa using h)
                     case c1 => simp only [maxLen]; omega
                     case c2 => omega
                     case c3 => exact (below_alloc (below_alloc hb (Nat.le_refl _) _) (Nat.le_refl _) _).size
                     intro v' w' ho' hg' _)
        go_roundw
        case rel =>
          refine ⟨k + 1, by omega, by go_num, ?_, ?_⟩
          · rw [HT.out]
            simpa [clv_append, clv_cons, clv_nil, HV.out] using ho'
          · exact (below_alloc (below_alloc hb (Nat.le_refl _) _) (Nat.le_refl _) _).grown hg' (below_alloc (below_alloc hb (Nat.le_refl _) _) (Nat.le_refl _) _).size (own_base ho)
        case measure => simp [intOf]; omega
    · go_wp2
      go_ret
      rw [List.take_of_length_le (by have := HL.out; omega)] at ho
      exact ⟨_, rfl, ho, hb⟩
end Go.Proofs.Ytkknfnjojamgjaa
