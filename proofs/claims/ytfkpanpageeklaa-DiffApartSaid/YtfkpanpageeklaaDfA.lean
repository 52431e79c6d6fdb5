/- diff: changes in memory; tell, gone, come. -/
import Derived.Test.YtfkpanpageeklaaWkB
import Derived.Test.YtfkpanpageeklaaDfP
set_option linter.unusedSimpArgs false
set_option linter.unusedVariables false
namespace Go.Proofs.Ytfkpanpageeklaa
open Go.RowKit
/-- A change in memory. -/
structure CR where
  A : Option Addr
  n : Nat
  c : Nat
  p : List Nat
  had : Bool
  has : Bool
  old : Nat
  new : Nat
def chv (r : CR) : List Value := [.slice r.A r.n r.c, .bool r.had, .bool r.has, .int .u64 (r.old : Int), .int .u64 (r.new : Int)]
def CR.ce (r : CR) : CE := ⟨r.p, r.had, r.has, r.old, r.new⟩
theorem chv_len (r : CR) : (chv r).length = 5 := rfl
def CR.ok (w : World) (r : CR) : Prop := Pt w r.A r.n r.p ∧ r.n ≤ r.c ∧ r.c ≤ maxLen ∧ r.old < 2 ^ 64 ∧ r.new < 2 ^ 64
def CR.okT (w : World) (r : CR) : Prop := r.ok w ∧ TyRow w 50 r.A r.n
def ces (rows : List CR) : List CE := rows.map CR.ce
theorem ces_append (a b : List CR) : ces (a ++ b) = ces a ++ ces b := List.map_append
theorem ces_len (a : List CR) : (ces a).length = a.length := List.length_map _
section
variable {w w' : World} {r : CR}
theorem CR.okT.keep (h : r.okT w) (hk : Keep 50 w w') : r.okT w' := ⟨⟨⟨h.1.1.1, h.1.1.2.1.keep h.2 hk, h.1.1.2.2⟩, h.1.2⟩, h.2.keep hk⟩
theorem CR.ok.below (h : r.ok w) (hb : Below w.heap.size w w') : r.ok w' := ⟨h.1.below hb, h.2⟩
end
theorem info_c : (Try.prog.info? 70).map (fun i => (i.zero, i.size, i.bytes)) = some (some (.agg #[.slice none 0 0, .bool false, .bool false, .int .u64 0, .int .u64 0]), 5, 48) := by kernel_rfl
def ColC (B : Nat) (w : World) (bo : Nat) (rows : List CR) : Prop := Col 36 70 5 chv B w bo rows
/-- All blocks stay but those of changes. -/
def KeepC (w w' : World) : Prop := ∀ t, t ≠ 36 → t ≠ 70 → Keep t w w'
theorem KeepC.refl (w : World) : KeepC w w := fun t _ _ => Keep.refl t w
theorem KeepC.trans {w w' w'' : World} (h : KeepC w w') (h' : KeepC w' w'') : KeepC w w'' := fun t h1 h2 => (h t h1 h2).trans (h' t h1 h2)
theorem KeepC.below {w w' : World} (hb : Below w.heap.size w w') : KeepC w w' := fun t _ _ => Keep.below hb
theorem KeepC.u64 {w w' : World} (h : KeepC w w') : Keep 50 w w' := h _ (by decide) (by decide)
def tellV (bo : Nat) : Value := .func (.func 36) #[] #[.pointer (some ⟨bo, 0, none⟩)]
def TellOut (w0 w : World) (bo : Nat) (rows : List CR) (r : CR) (e : Ending) (w' : World) : Prop :=
  e = .returned (.tuple #[]) ∧ ColC w0.heap.size w' bo (rows ++ [r]) ∧ KeepC w w' ∧ Below w0.heap.size w0 w'
set_option maxHeartbeats 2000000 in
set_option maxRecDepth 100000 in
theorem df_tell {w0 w : World} {bo : Nat} {rows : List CR} (r : CR) (hC : ColC w0.heap.size w bo rows) (hb : Below w0.heap.size w0 w) (hl : rows.length ≤ 200000) :
    Calls Try.prog 36 #[.agg #[.slice r.A r.n r.c, .bool r.had, .bool r.has, .int .u64 (r.old : Int), .int .u64 (r.new : Int)], .pointer (some ⟨bo, 0, none⟩)] w (TellOut w0 w bo rows r) := by
  have hbo := hC.1
  have hal1 := (Below.refl w.heap.size w).alloc (Nat.le_refl _) (.cells #[.slice r.A r.n r.c, .bool r.had, .bool r.has, .int .u64 (r.old : Int), .int .u64 (r.new : Int)] 70)
  have hal2 := below_alloc hal1 (Nat.le_refl _) (.cells #[.slice r.A r.n r.c, .bool r.had, .bool r.has, .int .u64 (r.old : Int), .int .u64 (r.new : Int)] 70)
  have hC1 := Col.below hC hal1
  have hC2 := Col.below hC hal2
  obtain ⟨A, c, q1, q2, q3, q4, q5⟩ := hC1.cell
  obtain ⟨A', c', q1', q2', q3', q4', q5'⟩ := hC2.cell
  have hq : A' = A ∧ c' = c := by
    have h1 := (q4.alloc (.cells #[.slice r.A r.n r.c, .bool r.had, .bool r.has, .int .u64 (r.old : Int), .int .u64 (r.new : Int)] 70)).eq_ q4'
    have := congrArg (fun a => a[0]?) h1.2
    simp at this
    exact ⟨this.1.symm, this.2.symm⟩
  obtain ⟨rfl, rfl⟩ := hq
  have HC := hide hC2
  have HQ4 := hide q4'
  have HQ5 := hide q5'
  have hbb := hb.trans (hal2.mono hb.size)
  have HB := hide hbb
  have HK2 := hide (KeepC.below hal2)
  have hsz := hb.size
  clear hC hb hal1 hal2 hC1 hC2 q4 q5 q1' q2' q3' q4' q5' hbb q3 q2
  go_enter Try.func36, Try.ntmps36
  go_wp2_with (first
    | (at_builtin
       refine app_b _ rfl (.tmp 3) (.tmp 5) _ rfl w0.heap.size 70 _ 5 48 Try.underlying36 info_c rfl (by omega) _ rows.length _ rfl HQ5.out (some ⟨w.heap.size + 1, 0, none⟩) 1 1 (chv r) rfl w0 HB.out (Nat.le_refl _) ?h1 ?h2 (by unfold maxLen; omega) (by omega) ?_
       case h1 =>
         have := Rw.new1 (w.alloc (.cells #[.slice r.A r.n r.c, .bool r.had, .bool r.has, .int .u64 (r.old : Int), .int .u64 (r.new : Int)] 70)) 70 #[.slice r.A r.n r.c, .bool r.had, .bool r.has, .int .u64 (r.old : Int), .int .u64 (r.new : Int)] (sz := 5) rfl
         simp at this
         exact this
       case h2 =>
         intro u hu
         simp only [chv, List.mem_cons, List.not_mem_nil, or_false] at hu
         rcases hu with rfl | rfl | rfl | rfl | rfl <;> rfl
       intro v5 w5 ho5 hb5 hg5
       obtain ⟨A5, c5, rfl, -, -⟩ := Rw.of_own ho5
       obtain ⟨s1, s2, s3⟩ := Col.step HC.out.1 HQ4.out HQ5.out (by decide) hg5 ho5
       have HS2 := hide s2
       have HS3 := hide (HK2.out.trans s3)
       have HB5 := hide (hb5.setCell (p := ⟨bo, 0, none⟩) hbo (.slice A5 (rows.length + 1) c5))
       have z0 := s1.cell 0
       have z1 := s1.frozen 0
       simp at z0
       clear ho5 hb5 hg5 s1 s2 s3)
    | fail)
  go_wp2
  go_end0
  exact ⟨rfl, HS2.out, HS3.out, HB5.out⟩
/-- gone, come. -/
def asV (d : Bool) : Value := .func (.func (if d then 59 else 58)) #[] #[]
def asR (d : Bool) (r : ER) : CR := ⟨r.A, r.n, r.c, r.p, d, !d, if d then r.v else 0, if d then 0 else r.v⟩
theorem asR_ce (d : Bool) (r : ER) : (asR d r).ce = asE d r.e := by cases d <;> rfl
theorem asR_ok {w : World} {r : ER} (d : Bool) (h : r.okT w) : (asR d r).okT w := by
  obtain ⟨⟨h1, h2, h3, h4⟩, h5⟩ := h
  cases d with
  | true => exact ⟨⟨h1, h2, h3, h4, by show 0 < 2 ^ 64; omega⟩, h5⟩
  | false => exact ⟨⟨h1, h2, h3, by show 0 < 2 ^ 64; omega, h4⟩, h5⟩
set_option maxHeartbeats 1000000 in
set_option maxRecDepth 100000 in
theorem df_gone (w : World) (r : ER) : Calls Try.prog 59 #[.agg #[.slice r.A r.n r.c, .int .u64 (r.v : Int)]] w fun e w' => e = .returned (.agg #[.slice r.A r.n r.c, .bool true, .bool false, .int .u64 (r.v : Int), .int .u64 0]) ∧ Below w.heap.size w w' := by
  have hb := below_alloc ((Below.refl w.heap.size w).alloc (Nat.le_refl _) (.cells #[.slice r.A r.n r.c, .int .u64 (r.v : Int)] 63)) (Nat.le_refl _) (.cells #[.slice r.A r.n r.c, .bool true, .bool false, .int .u64 (r.v : Int), .int .u64 0] 70)
  have HB := hide hb
  have hN := Blk.new (w.alloc (.cells #[.slice r.A r.n r.c, .int .u64 (r.v : Int)] 63)) 70 #[.slice r.A r.n r.c, .bool true, .bool false, .int .u64 (r.v : Int), .int .u64 0]
  have g0 := hN.cell 0
  have g1 := hN.cell 1
  have g2 := hN.cell 2
  have g3 := hN.cell 3
  have g4 := hN.cell 4
  simp at g0 g1 g2 g3 g4
  clear hb hN
  go_enter Try.func59, Try.ntmps59
  go_wp2
  (try simp only [Exit.inBlock, Exit.then])
  refine bodyPost_ret (v := .agg #[.slice r.A r.n r.c, .bool true, .bool false, .int .u64 (r.v : Int), .int .u64 0]) (by simp [results, Try.results59, go_sem, g0, g1, g2, g3, g4]) rfl ⟨rfl, HB.out⟩
set_option maxHeartbeats 1000000 in
set_option maxRecDepth 100000 in
theorem df_come (w : World) (r : ER) : Calls Try.prog 58 #[.agg #[.slice r.A r.n r.c, .int .u64 (r.v : Int)]] w fun e w' => e = .returned (.agg #[.slice r.A r.n r.c, .bool false, .bool true, .int .u64 0, .int .u64 (r.v : Int)]) ∧ Below w.heap.size w w' := by
  have hb := below_alloc ((Below.refl w.heap.size w).alloc (Nat.le_refl _) (.cells #[.slice r.A r.n r.c, .int .u64 (r.v : Int)] 63)) (Nat.le_refl _) (.cells #[.slice r.A r.n r.c, .bool false, .bool true, .int .u64 0, .int .u64 (r.v : Int)] 70)
  have HB := hide hb
  have hN := Blk.new (w.alloc (.cells #[.slice r.A r.n r.c, .int .u64 (r.v : Int)] 63)) 70 #[.slice r.A r.n r.c, .bool false, .bool true, .int .u64 0, .int .u64 (r.v : Int)]
  have g0 := hN.cell 0
  have g1 := hN.cell 1
  have g2 := hN.cell 2
  have g3 := hN.cell 3
  have g4 := hN.cell 4
  simp at g0 g1 g2 g3 g4
  clear hb hN
  go_enter Try.func58, Try.ntmps58
  go_wp2
  (try simp only [Exit.inBlock, Exit.then])
  refine bodyPost_ret (v := .agg #[.slice r.A r.n r.c, .bool false, .bool true, .int .u64 0, .int .u64 (r.v : Int)]) (by simp [results, Try.results58, go_sem, g0, g1, g2, g3, g4]) rfl ⟨rfl, HB.out⟩
end Go.Proofs.Ytfkpanpageeklaa
