/- Rows beside one that grows. -/
import Derived.Test.YtlgdllohmmmegaaNdA
import Derived.Test.YtlgdllohmmmegaaKe
set_option linter.unusedSimpArgs false
set_option linter.unusedVariables false
namespace Go.Proofs.Ytlgdllohmmmegaa
open Go.RowKit
theorem rw_grown {w w' : World} {sz n : Nat} {A : Option Addr} {vs : List Value} {ob : Option Nat} (h : Rw w sz A n vs) (hg : w.grownBy w' ob) (hne : 0 < n → ∀ b o, A = some ⟨b, o, none⟩ → b < w.heap.size → ob ≠ some b) : Rw w' sz A n vs := by
  refine ⟨h.1, fun hn => ?_⟩
  obtain ⟨b, o, h1, hl, hc⟩ := h.2 hn
  refine ⟨b, o, h1, Nat.lt_of_lt_of_le hl hg.size, fun j u hu => ?_⟩
  rw [World.cell?_of_block (w := w) (a := ⟨b, o + j, none⟩) (hg.block b hl fun he => hne hn b o h1 hl he.symm)]
  exact hc j u hu
section
variable {P : Program} (w : World)
theorem step_app_n {ops : Array Oper} {o : Oper} {a : Act} {K : Act → World → Prop} {Q : Exit → Act → World → Prop} {E : Prop} (hgd : o.guard = none) (s x : Operand) (t : TypeId)
    (ho : o.op = .call { callee := .builtin .append, args := #[s, x], argTypes := #[t, t] })
    (base : Nat) (e : TypeId) (z : Value) (size bytes : Nat) (ht : P.underlying t = some (.slice e)) (hinfo : (P.info? e).map (fun i => (i.zero, i.size, i.bytes)) = some (some z, size, bytes)) (hzs : z.cells.size = size) (hsz : 0 < size)
    (v : Value) (n : Nat) (xs : List Value) (hs : a.eval s = v) (hown : w.ownsRow base e size v n xs)
    (A : Option Addr) (m c : Nat) (news : List Value) (hx : a.eval x = .slice A m c) (w0 : World) (hb : Below base w0 w) (hbase : base ≤ w0.heap.size) (hr : Rw w size A m news) (h1 : ∀ u ∈ news, u.oneCell' = true)
    (h63 : n + m ≤ maxLen) (hbytes : (n + m) * bytes ≤ 140737488355328)
    (h : ∀ v' w', w'.ownsRow base e size v' (n + m) (xs ++ news) → Below base w0 w' → w.grownBy w' v.ownBlock → (v'.ownBlock = v.ownBlock ∨ v'.ownBlock = some w.heap.size) → K (a.put o.dst v') w') :
    if Region.wanted o (yielded ops a.tmps) = true then Oper.wp P o a w K Q else E := by
  obtain ⟨i, hi, hz, hsize, hby⟩ := info_parts hinfo
  exact step_append_any w hgd s x t ho base e i z size bytes ht hi hz hsize hby hzs hsz v n xs hs hown A m c news hx hr h1 h63 hbytes (Nat.le_trans hbase hb.size) fun v' w' g1 g2 g3 => h v' w' g1 (below_own hb g2 (Nat.le_trans hbase hb.size) (own_base hown)) g2 g3
theorem app_bn {ops : Array Oper} {rest : List Oper} {o : Oper} {a : Act} {Q : Exit → Act → World → Prop} (hgd : o.guard = none) (s x : Operand) (t : TypeId)
    (ho : o.op = .call { callee := .builtin .append, args := #[s, x], argTypes := #[t, t] })
    (base : Nat) (e : TypeId) (z : Value) (size bytes : Nat) (ht : P.underlying t = some (.slice e)) (hinfo : (P.info? e).map (fun i => (i.zero, i.size, i.bytes)) = some (some z, size, bytes)) (hzs : z.cells.size = size) (hsz : 0 < size)
    (v : Value) (n : Nat) (xs : List Value) (hs : a.eval s = v) (hown : w.ownsRow base e size v n xs)
    (A : Option Addr) (m c : Nat) (news : List Value) (hx : a.eval x = .slice A m c) (w0 : World) (hb : Below base w0 w) (hbase : base ≤ w0.heap.size) (hr : Rw w size A m news) (h1 : ∀ u ∈ news, u.oneCell' = true)
    (h63 : n + m ≤ maxLen) (hbytes : (n + m) * bytes ≤ 140737488355328)
    (h : ∀ v' w', w'.ownsRow base e size v' (n + m) (xs ++ news) → Below base w0 w' → w.grownBy w' v.ownBlock → (v'.ownBlock = v.ownBlock ∨ v'.ownBlock = some w.heap.size) → wpList P ops Q rest (a.put o.dst v') w') : wpList P ops Q (o :: rest) a w := by
  obtain ⟨i, hi, hz, hsize, hby⟩ := info_parts hinfo
  exact wpList_append_any w hgd s x t ho base e i z size bytes ht hi hz hsize hby hzs hsz v n xs hs hown A m c news hx hr h1 h63 hbytes (Nat.le_trans hbase hb.size) fun v' w' g1 g2 g3 => h v' w' g1 (below_own hb g2 (Nat.le_trans hbase hb.size) (own_base hown)) g2 g3
end
/-- A growing row's block: the one it began with, or a later one. -/
def NewB (g0 base : Nat) (v : Value) : Prop := ∀ g, v.ownBlock = some g → g = g0 ∨ base ≤ g
theorem NewB.step {g0 base : Nat} {v v' : Value} {w : World} (h : NewB g0 base v) (hv : v'.ownBlock = v.ownBlock ∨ v'.ownBlock = some w.heap.size) (hb : base ≤ w.heap.size) : NewB g0 base v' := by
  intro g hg
  rcases hv with e | e
  · exact h g (e.symm.trans hg)
  · rw [e] at hg
    injection hg with hg
    exact .inr (by omega)
/-- A row that lies in neither stays. -/
theorem rw_beside {w w' w1 w2 : World} {sz n base0 : Nat} {A : Option Addr} {vs : List Value} {v : Value} {e : TypeId} (h : Rw w sz A n vs) (h2 : Rw w2 sz A n vs) (hs : 0 < sz) (hn : NewB base0 w2.heap.size v) (hg : w.grownBy w' v.ownBlock) (h0 : Blk w2 base0 e #[]) : Rw w' sz A n vs := by
  refine rw_grown h hg fun hn0 b o hA hbl hv => ?_
  obtain ⟨b', o', h1, hl, hc⟩ := h2.2 hn0
  rw [hA] at h1
  injection h1 with h1
  injection h1 with h3 h4
  subst h3 h4
  rcases hn b hv with rfl | hge
  · have hlen : 0 < vs.length := by
      rw [h2.1]
      exact Nat.mul_pos hn0 hs
    have := hc 0 vs[0] (List.getElem?_eq_getElem hlen)
    rw [h0.cell] at this
    simp at this
  · omega
end Go.Proofs.Ytlgdllohmmmegaa
