/- append(s, make([]T, m)...) where it grows (turned from the kit's printed words), and copy, for elements of several cells. -/
import Derived.Test.YtkknfnjojamgjaaApp
import Derived.Test.YtkknfnjojamgjaaCells
import Derived.Laws.CopyOwn
import Derived.Laws.CopyRow
import Derived.Lib.Overlaps
set_option linter.unusedSimpArgs false
set_option linter.unusedVariables false
namespace Go.Proofs.Ytkknfnjojamgjaa
open Go.RowKit
section
variable {P : Program}
theorem run_append_zeros_grow (w : World) (t ti ty e : TypeId) (i : TypeInfo) (z : Value) (size bytes : Nat) (ht : P.underlying t = some (.slice e)) {k : IntKind} (hti : P.underlying ti = some (.int k)) (hi : P.info? e = some i) (hz : i.zero = some z)
    (hsize : i.size = size) (hby : i.bytes = bytes) (hzs : z.cells.size = size) (hsz : 0 < size) (hb0 : 0 < bytes)
    (A : Option Addr) (n cap : Nat) (xs : List Value) (hread : Rw w size A n xs) (kx : IntKind) (m : Nat) (h1 : ∀ u ∈ (Builtin.zeroCells z.cells m).toList, u.oneCell' = true)
    (hbytes : (n + m) * bytes ≤ 140737488355328) (hcap : cap < n + m) :
    ∃ v' w', (Builtin.append_ #[t, ti] ty #[.slice A n cap, .int kx m]).run P w = .ok v' w' ∧ w'.ownsRow w.heap.size e size v' (n + m) (xs ++ (Builtin.zeroCells z.cells m).toList) ∧ Below w.heap.size w w' := by
  subst hsize
  subst hby
  have hle : n + m ≤ 140737488355328 := Nat.le_trans (Nat.le_mul_of_pos_right _ hb0) hbytes
  have h63 : n + m ≤ maxLen := by simp only [maxLen]; omega
  have hw : IntKind.i64.wrap (m : Int) = m := by rw [IntKind.wrap_i64]; omega
  have hw0 : IntKind.i64.wrap 0 = 0 := by rw [IntKind.wrap_i64]; rfl
  have hneg : ¬ ((m : Int) < 0) := by omega
  have hmb : m * i.bytes ≤ 140737488355328 := Nat.le_trans (Nat.mul_le_mul_right _ (Nat.le_add_left m n)) hbytes
  have hbig : ¬ (281474976710656 < (m : Int) * (i.bytes : Int)) := by
    rw [← Int.natCast_mul]
    omega
  have hsn : i.size ≠ 0 := by omega
  obtain ⟨news, hnews⟩ : ∃ news, news = (Builtin.zeroCells z.cells m).toList := ⟨_, rfl⟩
  rw [← hnews] at h1 ⊢
  have hl : news.length = m * i.size := by rw [hnews, Array.length_toList, size_zeroCells, hzs]
  have hna : Builtin.zeroCells z.cells m = news.toArray := by rw [hnews]
  have hlen : (xs ++ news).length = (n + m) * i.size := by rw [List.length_append, hread.1, hl, Nat.add_mul]
  have hnil : m = 0 → news = [] := fun h => List.eq_nil_of_length_eq_zero (by rw [hl, h, Nat.zero_mul])
  have grown : ∀ (old : Nat), old < n + m → ∀ (row : Option Nat),
      (w.drew.alloc (.cells (xs.toArray ++ news.toArray ++ Builtin.zeroCells z.cells (grownCap w (n + m) old e - (n + m))) e)).ownsRow w.heap.size e i.size
        (.slice (some ⟨w.heap.size, 0, none⟩) (n + m) (grownCap w (n + m) old e)) (n + m) (xs ++ news) ∧
      w.grownBy (w.drew.alloc (.cells (xs.toArray ++ news.toArray ++ Builtin.zeroCells z.cells (grownCap w (n + m) old e - (n + m))) e)) row := by
    intro old ho row
    have hge := grownCap_ge w (n + m) old e
    have hcm : grownCap w (n + m) old e ≤ maxLen := grownCap_le_maxLen w (n + m) old e h63
    refine ⟨⟨hlen, .inr ⟨w.heap.size, _, _, rfl, Nat.le_refl _, heap_alloc_new w.drew _, hge, hcm, ?_, ?_⟩⟩, ⟨rfl, rfl, rfl, by simp, fun k hk _ => heap_alloc_old w.drew _ hk⟩⟩
    · simp only [Array.size_append, List.size_toArray, size_zeroCells, hzs, hread.1, hl, ← Nat.add_mul]
      congr 1
      omega
    · simp only [Array.toList_append, List.append_assoc]
      rw [← List.append_assoc, ← hlen]
      exact List.take_left
  have runs : ∀ (A : Option Addr) (cap : Nat), cap < n + m → (Builtin.firstCells i.size n (.slice A n cap)).run P w.drew = .ok xs.toArray w.drew → (Builtin.append_ #[t, ti] ty #[.slice A n cap, .int kx m]).run P w =
      .ok (.slice (some ⟨w.heap.size, 0, none⟩) (n + m) (grownCap w (n + m) cap e)) (w.drew.alloc (.cells (xs.toArray ++ news.toArray ++ Builtin.zeroCells z.cells (grownCap w (n + m) cap e - (n + m))) e)) := by
    intro A cap hcap hfo
    have hn : ¬ (n + m ≤ cap) := by omega
    have h63' : ¬ (9223372036854775807 < ((n : Int) + (m : Int))) := by omega
    have hfit := growslice_fits hcap hbytes
    have h48' : ¬ (281474976710656 < Builtin.nextslicecap (n + m) cap * i.bytes) := by omega
    by_cases hm : m = 0
    · have hnl := hnil hm
      subst hm
      rw [hnl]
      simp only [Nat.add_zero] at hn h63' h48' ⊢
      have h63'' : ¬ (9223372036854775807 < (n : Int)) := by omega
      simp [Builtin.append_, run_underlying ht, run_underlying hti, sizeOf, typeInfo, zeroValue, hi, hz, asInt, asIntOf, hw0, hn, h63'', h48', Question.forced, hfo, newRow, grownCap]
    · have hmz : ¬ (m * i.size = 0) := Nat.mul_ne_zero hm hsn
      simp [Builtin.append_, run_underlying ht, run_underlying hti, sizeOf, typeInfo, zeroValue, hi, hz, asInt, asIntOf, hw, hneg, hbig, hn, h63', h48', Question.forced, hfo, newRow, grownCap, hmz, hna]
      congr 2
      apply Array.ext'
      simp [List.append_assoc]
  have hgr := grown cap hcap none
  have hb : Below w.heap.size w (w.drew.alloc (.cells (xs.toArray ++ news.toArray ++ Builtin.zeroCells z.cells (grownCap w (n + m) cap e - (n + m))) e)) := (Below.refl _ _).drew.alloc (Nat.le_refl _) _
  refine ⟨_, _, runs A cap hcap ?_, hgr.1, hb⟩
  rcases Nat.eq_zero_or_pos n with h0 | h0
  · subst h0
    have hx : xs = [] := List.eq_nil_of_length_eq_zero (by simpa using hread.1)
    subst hx
    cases A with
    | none => simp [Builtin.firstCells]
    | some ad => exact run_firstCells_some (P := P) w.drew i.size 0 ad 0 cap [] (by simp) (by simp)
  · obtain ⟨b, o, rfl, _, hc⟩ := hread.2 h0
    refine run_firstCells_some (P := P) w.drew i.size n _ n cap xs hread.1 (fun j u hu => ?_)
    have := hc j u hu
    unfold Addr.add
    by_cases hj : j = 0
    · subst hj; simpa using this
    · simpa [hj] using this

theorem zeros_grow (w : World) {ops : Array Oper} {rest : List Oper} {o : Oper} {a : Act} {Q : Exit → Act → World → Prop} (hgd : o.guard = none) (s x : Operand) (t ti e : TypeId) (z : Value) (size bytes : Nat)
    (ho : o.op = .call { callee := .builtin .append, args := #[s, x], argTypes := #[t, ti] })
    (ht : P.underlying t = some (.slice e)) {k : IntKind} (hti : P.underlying ti = some (.int k)) (hinfo : (P.info? e).map (fun i => (i.zero, i.size, i.bytes)) = some (some z, size, bytes)) (hzs : z.cells.size = size) (hsz : 0 < size) (hb0 : 0 < bytes)
    (A : Option Addr) (n cap : Nat) (xs : List Value) (hs : a.eval s = .slice A n cap) (hread : Rw w size A n xs) (kx : IntKind) (m : Nat) (hx : a.eval x = .int kx m) (h1 : ∀ u ∈ (Builtin.zeroCells z.cells m).toList, u.oneCell' = true)
    (hbytes : (n + m) * bytes ≤ 140737488355328) (hcap : cap < n + m)
    (h : ∀ v' w', w'.ownsRow w.heap.size e size v' (n + m) (xs ++ (Builtin.zeroCells z.cells m).toList) → Below w.heap.size w w' → wpList P ops Q rest (a.put o.dst v') w') : wpList P ops Q (o :: rest) a w := by
  obtain ⟨i, hi, hz, hsize, hby⟩ := info_parts hinfo
  obtain ⟨v', w', hrun, h2, h3⟩ := run_append_zeros_grow (P := P) w t ti o.type e i z size bytes ht hti hi hz hsize hby hzs hsz hb0 A n cap xs hread kx m h1 hbytes hcap
  refine wpList_plain hgd fun K hK => ?_
  unfold Oper.wp execOp
  simp only [ho, resolve, invoke, builtin, Sem.run_bind, Sem.run_pure, Result.andThen_ok, List.map_toArray, List.map_cons, List.map_nil, hs, hx, hrun]
  exact hK _ _ (h v' w' h2 h3)
theorem run_copy_sz (w : World) (dT sT ty elem : TypeId) (sz : Nat) (g o dLen dCap : Nat) (a : Addr) (sLen sCap : Nat) (cur : Array Value) (t : TypeId) (cs : List Value)
    (hu : P.underlying dT = some (.slice elem)) (hs : (P.info? elem).map (·.size) = some sz)
    (hg : w.heap[g]? = some (.cells cur t (0, 0))) (hn : cs.length = Nat.min sLen dLen * sz)
    (hsrc : ∀ j v, cs[j]? = some v → w.cell? (a.add j) = some v) (hfit : o + cs.length ≤ cur.size) (h1 : ∀ v ∈ cs, v.oneCell' = true) :
    (Builtin.copy_ #[dT, sT] ty #[.slice (some ⟨g, o, none⟩) dLen dCap, .slice (some a) sLen sCap]).run P w =
      .ok (goInt (Nat.min sLen dLen)) (w.setRow g (cur.toList.take o ++ cs ++ cur.toList.drop (o + cs.length)).toArray) := by
  have hl := run_loadCells_list (P := P) w a cs hsrc
  have hst := run_storeCells_at P g o t cs 0 cur w hg (by simpa using hfit) h1
  cases hq : P.info? elem with
  | none => simp [hq] at hs
  | some i =>
    have hi : i.size = sz := by simpa [hq] using hs
    simp [Builtin.copy_, run_underlying hu, Builtin.lenOf, Builtin.firstCells, sizeOf, typeInfo, hq, hi, ← hn, hl, hst]
theorem take_splice {α : Type} (L cs : List α) (off k : Nat) (h : off + cs.length ≤ k) (hk : k ≤ L.length) : (L.take off ++ cs ++ L.drop (off + cs.length)).take k = splice (L.take k) off cs := by
  unfold splice
  rw [List.take_take, Nat.min_eq_left (by omega), List.append_assoc, List.take_append, List.take_of_length_le (l := L.take off) (by simp; omega)]
  congr 1
  rw [List.take_append, List.take_of_length_le (by simp; omega)]
  congr 1
  rw [List.drop_take]
  congr 1
  simp
  omega
/-- copy into a row of the call's own: from element i on. -/
theorem run_copy_own (w : World) (dT sT ty elem : TypeId) (sz base n cap g i dCap : Nat) (A : Option Addr) (m sCap dLen : Nat) (xs cs : List Value)
    (hu : P.underlying dT = some (.slice elem)) (hs : (P.info? elem).map (·.size) = some sz) (hO : w.ownsRow base elem sz (.slice (some ⟨g, 0, none⟩) n cap) n xs)
    (q : Nat) (hq : Nat.min m dLen = q) (hr : Rw w sz A q cs) (hm : 0 < q) (hd : i + dLen ≤ n) (h1 : ∀ v ∈ cs, v.oneCell' = true) :
    ∃ w', (Builtin.copy_ #[dT, sT] ty #[.slice (some ⟨g, i * sz, none⟩) dLen dCap, .slice A m sCap]).run P w = .ok (goInt q) w' ∧
      w'.ownsRow base elem sz (.slice (some ⟨g, 0, none⟩) n cap) n (splice xs (i * sz) cs) ∧ w.grownBy w' (some g) := by
  have hqd : q ≤ dLen := by rw [← hq]; exact Nat.min_le_right _ _
  obtain ⟨b, o, rfl, hb, hc⟩ := hr.2 hm
  rcases hO.2 with ⟨h', h0⟩ | ⟨g', cap', cur, h', hbg, hg, hnc, hcm, hcs, htake⟩
  · omega
  simp only [Value.slice.injEq, Option.some.injEq, Addr.mk.injEq, and_true, true_and] at h'
  obtain ⟨rfl, rfl⟩ := h'
  have hsrc : ∀ j v, cs[j]? = some v → w.cell? ((⟨b, o, none⟩ : Addr).add j) = some v := fun j v hv => by
    have := hc j v hv
    unfold Addr.add
    by_cases hj : j = 0
    · subst hj; simpa using this
    · simpa [hj] using this
  have e1 : i * sz + q * sz ≤ n * sz := by rw [← Nat.add_mul]; exact Nat.mul_le_mul_right _ (by omega)
  have e2 : n * sz ≤ cap * sz := Nat.mul_le_mul_right _ hnc
  have hfit : i * sz + cs.length ≤ cur.size := by rw [hr.1, hcs]; omega
  have hrun := run_copy_sz (P := P) w dT sT ty elem sz g (i * sz) dLen dCap ⟨b, o, none⟩ m sCap cur elem cs hu hs hg (by rw [hq]; exact hr.1) hsrc hfit h1
  rw [hq] at hrun
  refine ⟨_, hrun, ⟨?_, .inr ⟨g, cap, _, rfl, hbg, setRow_heap w g cur _ elem _ hg, hnc, hcm, ?_, ?_⟩⟩, ?_⟩
  · rw [length_splice _ _ _ (by rw [hO.1, hr.1]; omega)]; exact hO.1
  · simp only [List.size_toArray, List.length_append, List.length_take, List.length_drop, Array.length_toList]; omega
  · rw [← htake]
    exact take_splice _ _ _ _ (by rw [hr.1]; omega) (by rw [Array.length_toList, hcs]; omega)
  · refine ⟨rfl, rfl, rfl, by simp [World.setRow], fun k hk hne => ?_⟩
    simp only [World.setRow, Array.getElem?_modify]
    rw [if_neg (fun e => hne (by rw [e]))]
theorem copy_own (w : World) {ops : Array Oper} {rest : List Oper} {o : Oper} {a : Act} {Q : Exit → Act → World → Prop} (hgd : o.guard = none) (d s : Operand) (dT sT elem : TypeId)
    (ho : o.op = .call { callee := .builtin .copy, args := #[d, s], argTypes := #[dT, sT] }) (sz base n cap g i dCap : Nat) (A : Option Addr) (m sCap dLen : Nat) (xs cs : List Value)
    (hu : P.underlying dT = some (.slice elem)) (hs : (P.info? elem).map (·.size) = some sz) (hO : w.ownsRow base elem sz (.slice (some ⟨g, 0, none⟩) n cap) n xs)
    (hdv : a.eval d = .slice (some ⟨g, i * sz, none⟩) dLen dCap) (hsv : a.eval s = .slice A m sCap)
    (q : Nat) (hq : Nat.min m dLen = q) (hr : Rw w sz A q cs) (hm : 0 < q) (hd : i + dLen ≤ n) (h1 : ∀ v ∈ cs, v.oneCell' = true)
    (h : ∀ w', w'.ownsRow base elem sz (.slice (some ⟨g, 0, none⟩) n cap) n (splice xs (i * sz) cs) → w.grownBy w' (some g) → wpList P ops Q rest (a.put o.dst (goInt q)) w') : wpList P ops Q (o :: rest) a w := by
  obtain ⟨w', hrun, h2, h3⟩ := run_copy_own (P := P) w dT sT o.type elem sz base n cap g i dCap A m sCap dLen xs cs hu hs hO q hq hr hm hd h1
  refine wpList_plain hgd fun K hK => ?_
  unfold Oper.wp execOp
  simp only [ho, resolve, invoke, builtin, Sem.run_bind, Sem.run_pure, Result.andThen_ok, List.map_toArray, List.map_cons, List.map_nil, hdv, hsv, hrun]
  exact hK _ _ (h w' h2 h3)
def cutA (A : Option Addr) (c sz i : Nat) : Option Addr := if c = i then A else A.map (·.add (i * sz))
theorem cutA_some {g c sz i : Nat} (h : i < c) : cutA (some ⟨g, 0, none⟩) c sz i = some ⟨g, i * sz, none⟩ := by
  unfold cutA
  rw [if_neg (by omega)]
  by_cases h0 : i * sz = 0 <;> simp [Addr.add, h0]
theorem run_slice_lo {t e sz : Nat} (ht : P.underlying t = some (.slice e)) (hz : ∀ w, (sizeOf e).run P w = .ok sz w) (A : Option Addr) (n c i : Nat) (hi : i ≤ n) (w : World) :
    (Instr.slice t (.slice A n c) (some (.int .i64 (i : Int))) none none).run P w = .ok (.slice (cutA A c sz i) (n - i) (c - i)) w := by
  have h0 : (0 : Int) ≤ (i : Int) := by omega
  have h1 : (i : Int) ≤ (n : Int) := by omega
  simp [Instr.slice, run_underlying ht, Instr.sliceBounds, Instr.sliceBound, asIntOf, h0, h1, hz, cutA]
  intro h; omega
theorem run_slice_hi {t e sz : Nat} (ht : P.underlying t = some (.slice e)) (hz : ∀ w, (sizeOf e).run P w = .ok sz w) (g n c j : Nat) (hj : j ≤ c) (w : World) :
    (Instr.slice t (.slice (some ⟨g, 0, none⟩) n c) none (some (.int .i64 (j : Int))) none).run P w = .ok (.slice (some ⟨g, 0, none⟩) j c) w := by
  have h0 : (0 : Int) ≤ (j : Int) := by omega
  have h1 : (j : Int) ≤ (c : Int) := by omega
  simp [Instr.slice, run_underlying ht, Instr.sliceBounds, Instr.sliceBound, asIntOf, h0, h1, hz, Addr.add]
  intro h; omega
theorem own_extend {w : World} {base n cap g sz m : Nat} {e : TypeId} {xs : List Value} (h : w.ownsRow base e sz (.slice (some ⟨g, 0, none⟩) n cap) n xs) (hn : n ≤ m) (hm : m ≤ cap) :
    ∃ ys, ys.length = (m - n) * sz ∧ w.ownsRow base e sz (.slice (some ⟨g, 0, none⟩) m cap) m (xs ++ ys) := by
  rcases h.2 with ⟨h', h0⟩ | ⟨g', cap', cur, h', hbg, hg, hnc, hcm, hcs, htake⟩
  · cases h'
  · simp only [Value.slice.injEq, Option.some.injEq, Addr.mk.injEq, and_true, true_and] at h'
    obtain ⟨rfl, rfl⟩ := h'
    have e1 : n * sz ≤ m * sz := Nat.mul_le_mul_right _ hn
    have e2 : m * sz ≤ cap * sz := Nat.mul_le_mul_right _ hm
    have e3 : (m - n) * sz = m * sz - n * sz := Nat.sub_mul _ _ _
    have hl : ((cur.toList.drop (n * sz)).take ((m - n) * sz)).length = (m - n) * sz := by
      rw [List.length_take, List.length_drop, Array.length_toList]; omega
    refine ⟨(cur.toList.drop (n * sz)).take ((m - n) * sz), hl, ?_, .inr ⟨g, cap, cur, rfl, hbg, hg, hm, hcm, hcs, ?_⟩⟩
    · rw [List.length_append, h.1, hl]; omega
    · rw [← htake, ← List.take_add]; congr 1; omega
theorem Rw.take_ {w : World} {sz n i : Nat} {A : Option Addr} {vs : List Value} (h : Rw w sz A n vs) (hi : i ≤ n) : Rw w sz A i (vs.take (i * sz)) := by
  have e : i * sz ≤ n * sz := Nat.mul_le_mul_right _ hi
  refine ⟨by rw [List.length_take, h.1]; omega, fun h0 => ?_⟩
  obtain ⟨b, o, hA, hb, hc⟩ := h.2 (by omega)
  refine ⟨b, o, hA, hb, fun j u hu => hc j u ?_⟩
  rw [List.getElem?_take] at hu
  split at hu
  · exact hu
  · cases hu
theorem Rw.drop_ {w : World} {sz n i g : Nat} {vs : List Value} (h : Rw w sz (some ⟨g, 0, none⟩) n vs) (hi : i ≤ n) : Rw w sz (some ⟨g, i * sz, none⟩) (n - i) (vs.drop (i * sz)) := by
  refine ⟨by rw [List.length_drop, h.1, Nat.sub_mul], fun h0 => ?_⟩
  obtain ⟨b, o, hA, hb, hc⟩ := h.2 (by omega)
  injection hA with hA
  injection hA with h1 h2
  subst h1 h2
  refine ⟨g, i * sz, rfl, hb, fun j u hu => ?_⟩
  have := hc (i * sz + j) u (by rw [← hu, List.getElem?_drop])
  rw [Nat.zero_add] at this
  exact this
theorem clv_take (cs : List Cl) (i : Nat) : (clv cs).take (i * 3) = clv (cs.take i) := by
  rcases Nat.le_total i cs.length with h | h
  · conv => lhs; rw [← List.take_append_drop i cs, clv_append]
    exact List.take_left' (by rw [clv_length, List.length_take]; omega)
  · rw [List.take_of_length_le (by rw [clv_length]; omega), List.take_of_length_le h]
theorem clv_drop (cs : List Cl) (i : Nat) : (clv cs).drop (i * 3) = clv (cs.drop i) := by
  rcases Nat.le_total i cs.length with h | h
  · conv => lhs; rw [← List.take_append_drop i cs, clv_append]
    exact List.drop_left' (by rw [clv_length, List.length_take]; omega)
  · rw [List.drop_of_length_le (by rw [clv_length]; omega), List.drop_of_length_le h]; rfl
/-- A splice of whole cells. -/
theorem splice_clv (xs cs : List Cl) (i : Nat) : splice (clv xs) (i * 3) (clv cs) = clv (xs.take i ++ (cs ++ xs.drop (i + cs.length))) := by
  unfold splice
  rw [clv_take, clv_length, ← Nat.add_mul, clv_drop, clv_append, clv_append]
theorem own_lower {w : World} {base base' n : Nat} {e : TypeId} {sz : Nat} {v : Value} {xs : List Value} (h : w.ownsRow base e sz v n xs) (hb : base' ≤ base) : w.ownsRow base' e sz v n xs := by
  obtain ⟨h1, h2⟩ := h
  refine ⟨h1, ?_⟩
  rcases h2 with h2 | ⟨g, cap, cur, hv, hg, r⟩
  · exact .inl h2
  · exact .inr ⟨g, cap, cur, hv, Nat.le_trans hb hg, r⟩
theorem ins_lists {α : Type} (cs : List α) (c z : α) (n i m : Nat) (hl : cs.length = n) (hi : i < n) (hm : n + 1 = i + m) :
    ((cs.take i ++ List.replicate m z).take i ++ ([c] ++ (cs.take i ++ List.replicate m z).drop (i + 1))).take (i + 1) ++ (cs.drop i ++ ((cs.take i ++ List.replicate m z).take i ++ ([c] ++ (cs.take i ++ List.replicate m z).drop (i + 1))).drop (i + 1 + (cs.drop i).length)) = cs.take i ++ [c] ++ cs.drop i := by
  have ht : (cs.take i).length = i := by rw [List.length_take]; omega
  have e1 : (cs.take i ++ List.replicate m z).take i = cs.take i := List.take_left' ht
  rw [e1]
  have e2 : ∀ R : List α, (cs.take i ++ ([c] ++ R)).take (i + 1) = cs.take i ++ [c] := fun R => by
    rw [← List.append_assoc]
    exact List.take_left' (by simp [ht])
  rw [e2]
  have e3 : (cs.take i ++ ([c] ++ (cs.take i ++ List.replicate m z).drop (i + 1))).drop (i + 1 + (cs.drop i).length) = [] := by
    apply List.drop_eq_nil_of_le
    simp only [List.length_append, List.length_drop, List.length_replicate, ht, List.length_cons, List.length_nil]
    omega
  rw [e3, List.append_nil]
theorem ins_lists2 {α : Type} (cs ys : List α) (c : α) (n i : Nat) (hl : cs.length = n) (hy : ys.length = 1) (hi : i < n) :
    ((cs ++ ys).take (i + 1) ++ (cs.drop i ++ (cs ++ ys).drop (i + 1 + (cs.drop i).length))).take i ++ ([c] ++ ((cs ++ ys).take (i + 1) ++ (cs.drop i ++ (cs ++ ys).drop (i + 1 + (cs.drop i).length))).drop (i + 1)) = cs.take i ++ [c] ++ cs.drop i := by
  have e0 : (cs ++ ys).take (i + 1) = cs.take (i + 1) := by rw [List.take_append_of_le_length (by omega)]
  have e1 : (cs ++ ys).drop (i + 1 + (cs.drop i).length) = [] := List.drop_eq_nil_of_le (by simp; omega)
  rw [e0, e1, List.append_nil]
  have ht : (cs.take (i + 1)).length = i + 1 := by rw [List.length_take]; omega
  have e2 : (cs.take (i + 1) ++ cs.drop i).drop (i + 1) = cs.drop i := List.drop_left' ht
  have e3 : (cs.take (i + 1) ++ cs.drop i).take i = cs.take i := by
    rw [List.take_append_of_le_length (by omega), List.take_take, Nat.min_eq_left (by omega)]
  rw [e2, e3, List.append_assoc]
theorem splice_ins {α : Type} (A B Y c : List α) (s : Nat) (hY : Y.length = s) (hc : c.length = s) : splice (splice (A ++ B ++ Y) (A.length + s) B) A.length c = A ++ c ++ B := by
  have e1 : splice (A ++ B ++ Y) (A.length + s) B = (A ++ B ++ Y).take (A.length + s) ++ B := by
    unfold splice
    rw [List.drop_eq_nil_of_le (by simp; omega), List.append_nil]
  have hl : ((A ++ B ++ Y).take (A.length + s)).length = A.length + s := by simp; omega
  rw [e1]
  unfold splice
  rw [hc, List.drop_left' hl, List.take_append_of_le_length (by omega), List.take_take, Nat.min_eq_left (by omega), List.append_assoc, List.take_left' rfl, List.append_assoc]
/-- clear, of a part of a row of the call's own. -/
theorem run_clear_own (w : World) (t elem : TypeId) (z : Value) (sz base n cap g i m c' : Nat) (xs : List Value)
    (hu : P.underlying t = some (.slice elem)) (hv : ∀ w, (zeroValue elem).run P w = .ok z w) (hz : z.cells.size = sz) (hO : w.ownsRow base elem sz (.slice (some ⟨g, 0, none⟩) n cap) n xs)
    (hm : 0 < m) (hd : i + m ≤ n) (h1 : ∀ v ∈ (Builtin.zeroCells z.cells m).toList, v.oneCell' = true) :
    ∃ w', (∀ ty, (Builtin.clear_ #[t] ty #[.slice (some ⟨g, i * sz, none⟩) m c']).run P w = .ok (.tuple #[]) w') ∧
      w'.ownsRow base elem sz (.slice (some ⟨g, 0, none⟩) n cap) n (splice xs (i * sz) (Builtin.zeroCells z.cells m).toList) ∧ w.grownBy w' (some g) := by
  have hcl : (Builtin.zeroCells z.cells m).toList.length = m * sz := by rw [Array.length_toList, size_zeroCells, hz]
  generalize hcs : (Builtin.zeroCells z.cells m).toList = cs at *
  have hca : Builtin.zeroCells z.cells m = cs.toArray := by rw [← hcs]
  rcases hO.2 with ⟨h', h0⟩ | ⟨g', cap', cur, h', hbg, hg, hnc, hcm, hcs', htake⟩
  · cases h'
  simp only [Value.slice.injEq, Option.some.injEq, Addr.mk.injEq, and_true, true_and] at h'
  obtain ⟨rfl, rfl⟩ := h'
  have e1 : i * sz + m * sz ≤ n * sz := by rw [← Nat.add_mul]; exact Nat.mul_le_mul_right _ (by omega)
  have e2 : n * sz ≤ cap * sz := Nat.mul_le_mul_right _ hnc
  have hfit : i * sz + cs.length ≤ cur.size := by omega
  have hst := run_storeCells_at P g (i * sz) elem cs 0 cur w hg (by simpa using hfit) h1
  obtain ⟨m', rfl⟩ : ∃ m', m = m' + 1 := ⟨m - 1, by omega⟩
  refine ⟨w.setRow g (cur.toList.take (i * sz) ++ cs ++ cur.toList.drop (i * sz + cs.length)).toArray, ?_, ⟨?_, .inr ⟨g, cap, _, rfl, hbg, setRow_heap w g cur _ elem _ hg, hnc, hcm, ?_, ?_⟩⟩, ?_⟩
  · intro ty; simp [Builtin.clear_, run_underlying hu, hv, hca, hst]
  · rw [length_splice _ _ _ (by rw [hO.1]; omega)]; exact hO.1
  · simp only [List.size_toArray, List.length_append, List.length_take, List.length_drop, Array.length_toList]; omega
  · rw [← htake]
    exact take_splice _ _ _ _ (by omega) (by rw [Array.length_toList]; omega)
  · refine ⟨rfl, rfl, rfl, by simp [World.setRow], fun k hk hne => ?_⟩
    simp only [World.setRow, Array.getElem?_modify]
    rw [if_neg (fun e => hne (by rw [e]))]
theorem own_cut {w : World} {base n cap m g sz : Nat} {e : TypeId} {xs : List Value} (h : w.ownsRow base e sz (.slice (some ⟨g, 0, none⟩) n cap) n xs) (hm : m ≤ n) : w.ownsRow base e sz (.slice (some ⟨g, 0, none⟩) m cap) m (xs.take (m * sz)) := by
  have e1 : m * sz ≤ n * sz := Nat.mul_le_mul_right _ hm
  rcases h.2 with ⟨h', h0⟩ | ⟨g', cap', cur, h', hbg, hg, hnc, hcm, hcs, htake⟩
  · cases h'
  · simp only [Value.slice.injEq, Option.some.injEq, Addr.mk.injEq, and_true, true_and] at h'
    obtain ⟨rfl, rfl⟩ := h'
    refine ⟨by rw [List.length_take, h.1]; omega, .inr ⟨g, cap, cur, rfl, hbg, hg, by omega, hcm, hcs, ?_⟩⟩
    rw [← htake, List.take_take, Nat.min_eq_left e1]
end
end Go.Proofs.Ytkknfnjojamgjaa
