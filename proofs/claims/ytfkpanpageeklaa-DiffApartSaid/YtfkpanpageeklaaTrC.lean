/- Trees: Shapes, the document's shapes, Len, Is. -/
import Derived.Test.YtfkpanpageeklaaLaB
import Derived.Test.YtfkpanpageeklaaTrB
set_option linter.unusedSimpArgs false
set_option linter.unusedVariables false
namespace Go.Proofs.Ytfkpanpageeklaa
open Go.RowKit
/-- What a shape tells. -/
structure SC where
  lv : Int
  xs : List Int
  pl : List Int
  dn : Bool
  v : Int
structure SR where
  A : Option Addr
  k : Nat
  c : Nat
  C : Option Addr
  m : Nat
  f : Nat
  sc : SC
def shv (r : SR) : List Value := [.int .i64 r.sc.lv, .slice r.A r.k r.c, .slice r.C r.m r.f, .bool r.sc.dn, .int .u64 r.sc.v]
theorem shv_len (r : SR) : (shv r).length = 5 := rfl
/-- A row that stays where rows of other types grow above the base. -/
def Still (base : Nat) (w : World) (e : TypeId) (A : Option Addr) (n : Nat) : Prop := 0 < n → ∃ b o, A = some ⟨b, o, none⟩ ∧ b < w.heap.size ∧ (b < base ∨ ∃ cs fr, w.heap[b]? = some (.cells cs e fr))
theorem Still.below {base : Nat} {w w' : World} {e : TypeId} {A : Option Addr} {n : Nat} (h : Still base w e A n) (hb : Below w.heap.size w w') : Still base w' e A n := by
  intro hn
  obtain ⟨b, o, h1, hl, h2⟩ := h hn
  refine ⟨b, o, h1, Nat.lt_of_lt_of_le hl hb.size, ?_⟩
  rcases h2 with h2 | ⟨cs, fr, h2⟩
  · exact .inl h2
  · exact .inr ⟨cs, fr, (hb.block b hl).trans h2⟩
theorem Still.ty {base : Nat} {w : World} {e : TypeId} {A : Option Addr} {n : Nat} (h : TyRow w e A n) : Still base w e A n := by
  intro hn
  obtain ⟨b, o, cs, fr, h1, h2⟩ := h hn
  exact ⟨b, o, h1, (Array.getElem?_eq_some_iff.1 h2).1, .inr ⟨cs, fr, h2⟩⟩
theorem Still.mono {base base' : Nat} {w : World} {e : TypeId} {A : Option Addr} {n : Nat} (h : Still base w e A n) (hb : base ≤ base') : Still base' w e A n := by
  intro hn
  obtain ⟨b, o, h1, hl, h2⟩ := h hn
  refine ⟨b, o, h1, hl, ?_⟩
  rcases h2 with h2 | h2
  · exact .inl (by omega)
  · exact .inr h2
/-- The block of a row that stays is not the one that grows. -/
theorem Still.ne {base base' : Nat} {w : World} {e t : TypeId} {A : Option Addr} {n m sz : Nat} {v : Value} {xs : List Value} (h : Still base w e A n) (ho : w.ownsRow base' t sz v m xs) (hbb : base ≤ base') (hne : e ≠ t) (hn : 0 < n) :
    ∃ b o, A = some ⟨b, o, none⟩ ∧ b < w.heap.size ∧ some b ≠ v.ownBlock := by
  obtain ⟨b, o, h1, hl, h2⟩ := h hn
  refine ⟨b, o, h1, hl, fun hv => ?_⟩
  rcases ho.2 with ⟨rfl, _⟩ | ⟨g, cap, cur, rfl, hg, hh, _⟩
  · simp [Value.ownBlock] at hv
  · have hgb : b = g := by simpa [Value.ownBlock] using hv
    subst hgb
    rcases h2 with h2 | ⟨cs, fr, h2⟩
    · omega
    · rw [hh] at h2
      injection h2 with h2
      injection h2 with _ h2
      exact hne h2.symm
theorem Still.grown {base base' : Nat} {w w' : World} {e t : TypeId} {A : Option Addr} {n m sz : Nat} {v : Value} {xs : List Value} (h : Still base w e A n) (ho : w.ownsRow base' t sz v m xs) (hbb : base ≤ base') (hne : e ≠ t) (hg : w.grownBy w' v.ownBlock) : Still base w' e A n := by
  intro hn
  obtain ⟨b, o, h1, hl, h3⟩ := h.ne ho hbb hne hn
  obtain ⟨b', o', h1', hl', h2⟩ := h hn
  rw [h1] at h1'
  injection h1' with h1'
  injection h1' with h1' h1''
  subst h1'
  have hblk := hg.block b hl h3
  have hlt : b < w'.heap.size := by
    have h5 : w.heap[b]? = some w.heap[b] := by simp [hl]
    rw [← hblk] at h5
    exact (Array.getElem?_eq_some_iff.1 h5).1
  refine ⟨b, o, h1, hlt, ?_⟩
  rcases h2 with h2 | ⟨cs, fr, h2⟩
  · exact .inl h2
  · exact .inr ⟨cs, fr, hblk.trans h2⟩
theorem Rw.grown_still {base base' : Nat} {w w' : World} {e t : TypeId} {A : Option Addr} {n m sz : Nat} {v : Value} {xs vs : List Value} (hR : Rw w 1 A n vs) (h : Still base w e A n) (ho : w.ownsRow base' t sz v m xs) (hbb : base ≤ base') (hne : e ≠ t) (hg : w.grownBy w' v.ownBlock) : Rw w' 1 A n vs := by
  refine ⟨hR.1, fun hn => ?_⟩
  obtain ⟨b, o, h1, hl, h3⟩ := h.ne ho hbb hne hn
  obtain ⟨b', o', h1', hl', hc⟩ := hR.2 hn
  rw [h1] at h1'
  injection h1' with h1'
  injection h1' with h1' h1''
  subst h1' h1''
  have hblk := hg.block b hl h3
  have hlt : b < w'.heap.size := by
    have h5 : w.heap[b]? = some w.heap[b] := by simp [hl]
    rw [← hblk] at h5
    exact (Array.getElem?_eq_some_iff.1 h5).1
  refine ⟨b, o, h1, hlt, fun j u hu => ?_⟩
  rw [World.cell?_of_block (w := w) (a := ⟨b, o + j, none⟩) hblk]
  exact hc j u hu
def SR.ok (base : Nat) (w : World) (r : SR) : Prop :=
  Rw w 1 r.A r.k (r.sc.xs.map fun z => .int .u64 z) ∧ Rw w 1 r.C r.m (r.sc.pl.map fun z => .int .i64 z) ∧ r.k ≤ 65536 ∧ r.m ≤ 65536 ∧ Still base w 50 r.A r.k ∧ Still base w 3 r.C r.m
theorem SR.ok.below {base : Nat} {w w' : World} {r : SR} (h : r.ok base w) (hb : Below w.heap.size w w') : r.ok base w' :=
  ⟨h.1.below hb, h.2.1.below hb, h.2.2.1, h.2.2.2.1, h.2.2.2.2.1.below hb, h.2.2.2.2.2.below hb⟩
theorem SR.ok.grown {base base' : Nat} {w w' : World} {t : TypeId} {m sz : Nat} {v : Value} {xs : List Value} {r : SR} (h : r.ok base w) (ho : w.ownsRow base' t sz v m xs) (hbb : base ≤ base') (h1 : 50 ≠ t) (h2 : 3 ≠ t) (hg : w.grownBy w' v.ownBlock) : r.ok base w' :=
  ⟨h.1.grown_still h.2.2.2.2.1 ho hbb h1 hg, h.2.1.grown_still h.2.2.2.2.2 ho hbb h2 hg, h.2.2.1, h.2.2.2.1, h.2.2.2.2.1.grown ho hbb h1 hg, h.2.2.2.2.2.grown ho hbb h2 hg⟩
theorem own_pop {w : World} {base : Nat} {e : TypeId} {A : Option Addr} {n cap : Nat} {xs : List Value} {x : Value} (h : w.ownsRow base e 1 (.slice A (n + 1) cap) (n + 1) (xs ++ [x])) : w.ownsRow base e 1 (.slice A n cap) n xs := by
  have hl := h.1
  rcases h.2 with ⟨h0, _⟩ | ⟨g, cap', cur, hv, _⟩
  · cases h0
  · injection hv with h1 h2 h3
    subst h1
    exact ownsRow_pop (size := 1) (by simpa using hl) h
theorem own_lt_new {w : World} {base : Nat} {e : TypeId} {sz n g : Nat} {v : Value} {xs : List Value} (h : w.ownsRow base e sz v n xs) (hg : w.heap.size ≤ g) : some g ≠ v.ownBlock := by
  intro hv
  have := (h.lt g hv.symm).2
  omega
theorem idx1 {j n : Nat} (hn : n = j + 1) (hj : j ≤ 65536) : (n : Int) - 1 = (j : Int) ∧ j < n ∧ (0 : Int) ≤ (j : Int) ∧ (j : Int) ≤ 70368744177664 ∧ (j : Int) < (n : Int) ∧ (0 : Int) < (n : Int) ∧ IntKind.i64.wrap (j : Int) = (j : Int) ∧ wrap64 (j : Int) = (j : Int) :=
  ⟨by omega, by omega, by omega, by omega, by omega, by omega, by rw [IntKind.wrap_i64]; omega, by unfold wrap64; omega⟩
theorem wrap_m1 {m : Nat} (hm : m ≤ 65536) : IntKind.i64.wrap ((m : Int) - 1) = (m : Int) - 1 := by rw [IntKind.wrap_i64]; omega
theorem still_old {base : Nat} {w : World} {e : TypeId} {A : Option Addr} {n : Nat} {vs : List Value} (h : Rw w 1 A n vs) (hb : w.heap.size ≤ base) : Still base w e A n := by
  intro hn
  obtain ⟨b, o, h1, h2, _⟩ := h.2 hn
  exact ⟨b, o, h1, h2, .inl (by omega)⟩
/-- Entries in runs of one address. -/
def grp (m : Nat) : List Ent → List (List Ent)
  | [] => []
  | e :: l => match grp m l with
    | [] => [[e]]
    | [] :: gs => [e] :: gs
    | (f :: g) :: gs => if addrOf e.1 m = addrOf f.1 m then (e :: f :: g) :: gs else [e] :: (f :: g) :: gs
/-- The levels of a list's shapes. -/
def lvsN : Nat → List Ent → List Int
  | 0, _ => []
  | n + 1, es => match es with
    | [] => []
    | [_] => [-1]
    | e :: f :: l => part e.1 ((e :: f :: l).getLast (by simp)).1 :: (grp (part e.1 ((e :: f :: l).getLast (by simp)).1).toNat (e :: f :: l)).flatMap (lvsN n)
theorem grp_cons (m : Nat) (e : Ent) (l : List Ent) : grp m (e :: l) = match grp m l with
    | [] => [[e]]
    | [] :: gs => [e] :: gs
    | (f :: g) :: gs => if addrOf e.1 m = addrOf f.1 m then (e :: f :: g) :: gs else [e] :: (f :: g) :: gs := rfl
theorem grp_head (m : Nat) (f : Ent) (l : List Ent) : ∃ g gs, grp m (f :: l) = (f :: g) :: gs := by
  rw [grp_cons]
  cases grp m l with
  | nil => exact ⟨_, _, rfl⟩
  | cons x gs =>
    cases x with
    | nil => exact ⟨_, _, rfl⟩
    | cons y g =>
      by_cases h : addrOf f.1 m = addrOf y.1 m
      · simp only [h, if_true]; exact ⟨_, _, rfl⟩
      · simp only [h, if_false]; exact ⟨_, _, rfl⟩
theorem grp_run {m a : Nat} : ∀ (g : List Ent) (l : List Ent), g ≠ [] → (∀ e ∈ g, addrOf e.1 m = a) → (∀ f, l.head? = some f → addrOf f.1 m ≠ a) → grp m (g ++ l) = g :: grp m l
  | [], l, h, _, _ => absurd rfl h
  | [e], l, _, hg, hl => by
    show grp m (e :: l) = [e] :: grp m l
    rw [grp_cons]
    cases l with
    | nil => rfl
    | cons f l =>
      have hne : addrOf e.1 m ≠ addrOf f.1 m := by
        have h1 := hg e List.mem_cons_self
        have h2 := hl f rfl
        omega
      obtain ⟨g, gs, h3⟩ := grp_head m f l
      rw [h3]
      simp only [hne, if_false]
  | e :: f :: g, l, _, hg, hl => by
    have ih := grp_run (m := m) (a := a) (f :: g) l (by simp) (fun x hx => hg x (List.mem_cons_of_mem _ hx)) hl
    show grp m (e :: ((f :: g) ++ l)) = _
    rw [grp_cons, ih]
    have h1 := hg e List.mem_cons_self
    have h2 := hg f (by simp)
    simp only [h1, h2, if_true]
theorem grp_flat {m : Nat} : ∀ (Gs : List (List Ent)), (∀ g ∈ Gs, g ≠ []) → (∀ g ∈ Gs, ∀ e ∈ g, ∀ f ∈ g, addrOf e.1 m = addrOf f.1 m) → Gs.Pairwise (fun g h => ∀ e ∈ g, ∀ f ∈ h, addrOf e.1 m ≠ addrOf f.1 m) → grp m Gs.flatten = Gs
  | [], _, _, _ => rfl
  | g :: Gs, h1, h2, h3 => by
    have ih := grp_flat (m := m) Gs (fun g hg => h1 g (List.mem_cons_of_mem _ hg)) (fun g hg => h2 g (List.mem_cons_of_mem _ hg)) (List.pairwise_cons.1 h3).2
    obtain ⟨e, t, rfl⟩ := List.exists_cons_of_ne_nil (h1 g List.mem_cons_self)
    rw [List.flatten_cons, grp_run (a := addrOf e.1 m) (e :: t) Gs.flatten (by simp) (fun x hx => h2 _ List.mem_cons_self x hx e List.mem_cons_self) ?_, ih]
    intro f hf heq
    cases Gs with
    | nil => simp at hf
    | cons g' Gs =>
      obtain ⟨e', t', rfl⟩ := List.exists_cons_of_ne_nil (h1 g' (by simp))
      simp at hf
      subst hf
      exact (List.pairwise_cons.1 h3).1 _ List.mem_cons_self e List.mem_cons_self e' List.mem_cons_self heq.symm
/-- The first and the last entry of a fork part at its level; its kids' entries are the runs. -/
theorem FK.runs {k : Nat} {f : PF} (h : FK k f) (hne : ∀ q ∈ f.ks, q.es ≠ []) : (∀ (e g : Ent) (l : List Ent) (hl : kidEs f.ks = e :: g :: l), part e.1 ((e :: g :: l).getLast (by simp)).1 = (f.lv : Int)) ∧ grp f.lv (kidEs f.ks) = f.ks.map (·.es) := by
  have hk : kidEs f.ks = (f.ks.map (·.es)).flatten := by unfold kidEs; rw [List.flatMap_def]
  constructor
  · intro e g l hl
    have h2 := h.two
    have hs := h.sort
    have h0 := h
    obtain ⟨q, ks', hks⟩ : ∃ q ks', f.ks = q :: ks' := List.exists_cons_of_length_pos (by omega)
    have hlen : ks' ≠ [] := by
      intro h3
      rw [hks, h3] at h2
      simp at h2
    obtain ⟨r, hr⟩ : ∃ r, r = ks'.getLast hlen := ⟨_, rfl⟩
    have hrm : r ∈ ks' := by rw [hr]; exact List.getLast_mem hlen
    have hqr : q.at_ < r.at_ := by
      rw [hks] at hs
      exact (List.pairwise_cons.1 hs).1 r hrm
    have hqne := hne q (by rw [hks]; exact List.mem_cons_self)
    have hrne := hne r (by rw [hks]; exact List.mem_cons_of_mem _ hrm)
    have he : e ∈ q.es := by
      obtain ⟨x, t, hx⟩ := List.exists_cons_of_ne_nil hqne
      have h4 := hl
      rw [hks] at h4
      unfold kidEs at h4
      rw [List.flatMap_cons, hx] at h4
      injection h4 with h4 _
      rw [hx, ← h4]
      exact List.mem_cons_self
    have hz : ((e :: g :: l).getLast (by simp)) ∈ r.es := by
      have h5 : kidEs f.ks ≠ [] := by rw [hl]; simp
      have h6 : (e :: g :: l).getLast (by simp) = (kidEs f.ks).getLast h5 := by simp only [hl]
      rw [h6]
      have h7 : kidEs f.ks = kidEs (q :: ks'.dropLast) ++ r.es := by
        have h8 : f.ks = (q :: ks'.dropLast) ++ [r] := by rw [hks, List.cons_append, hr, List.dropLast_concat_getLast]
        conv => lhs; rw [h8]
        unfold kidEs
        rw [List.flatMap_append]
        simp
      have h9 : (kidEs f.ks).getLast h5 = r.es.getLast hrne := by
        simp only [h7]
        rw [List.getLast_append_of_ne_nil _ hrne]
      rw [h9]
      exact List.getLast_mem hrne
    obtain ⟨a1, a2, a3⟩ := h.es q (by rw [hks]; exact List.mem_cons_self) e he
    obtain ⟨b1, b2, b3⟩ := h.es r (by rw [hks]; exact List.mem_cons_of_mem _ hrm) _ hz
    exact part_unique a1 b1 (fun b hb => by rw [a3 b hb, b3 b hb]) (by rw [a2, b2]; omega)
  · rw [hk]
    refine grp_flat _ (fun g hg => ?_) (fun g hg e he f' hf' => ?_) ?_
    · obtain ⟨q, hq, rfl⟩ := List.mem_map.1 hg
      exact hne q hq
    · obtain ⟨q, hq, rfl⟩ := List.mem_map.1 hg
      rw [(h.es q hq e he).2.1, (h.es q hq f' hf').2.1]
    · rw [List.pairwise_map]
      refine h.sort.imp_of_mem ?_
      intro q r hq hr hqr e he f' hf'
      rw [(h.es q hq e he).2.1, (h.es r hr f' hf').2.1]
      omega
theorem pick_all {α β : Type} {P : α → β → Prop} : ∀ (l : List α), (∀ a ∈ l, ∃ b, P a b) → ∃ bs : List β, bs.length = l.length ∧ ∀ (i : Nat) (a : α) (b : β), l[i]? = some a → bs[i]? = some b → P a b
  | [], _ => ⟨[], rfl, fun i a b h => by simp at h⟩
  | a :: l, h => by
    obtain ⟨b, hb⟩ := h a List.mem_cons_self
    obtain ⟨bs, h1, h2⟩ := pick_all l fun a ha => h a (List.mem_cons_of_mem _ ha)
    refine ⟨b :: bs, by simp [h1], fun i x y hx hy => ?_⟩
    cases i with
    | zero => simp at hx hy; rw [← hx, ← hy]; exact hb
    | succ i => exact h2 i x y (by simpa using hx) (by simpa using hy)
theorem kid_count : ∀ (ks : List Kid), (∀ q ∈ ks, q.es ≠ []) → ks.length ≤ (kidEs ks).length
  | [], _ => by simp
  | q :: ks, h => by
    have h1 := kid_count ks fun q hq => h q (List.mem_cons_of_mem _ hq)
    have h2 := List.length_pos_iff.2 (h q List.mem_cons_self)
    unfold kidEs at h1 ⊢
    rw [List.flatMap_cons, List.length_append, List.length_cons]
    omega
theorem sum_len : ∀ (ks : List Kid) (Ls : List (List SC)), Ls.length = ks.length → (∀ (i : Nat) (q : Kid) (L : List SC), ks[i]? = some q → Ls[i]? = some L → L.length + 1 ≤ 2 * q.es.length) → Ls.flatten.length + ks.length ≤ 2 * (kidEs ks).length
  | [], [], _, _ => by simp
  | [], _ :: _, h, _ => by simp at h
  | _ :: _, [], h, _ => by simp at h
  | q :: ks, L :: Ls, h, hk => by
    have h1 := sum_len ks Ls (by simpa using h) fun i q' L' h1 h2 => hk (i + 1) q' L' (by simpa using h1) (by simpa using h2)
    have h2 := hk 0 q L rfl rfl
    unfold kidEs at h1 ⊢
    simp only [List.flatten_cons, List.flatMap_cons, List.length_append, List.length_cons]
    omega
theorem lv_flat : ∀ (ks : List Kid) (Ls : List (List SC)) (n : Nat), Ls.length = ks.length → (∀ (i : Nat) (q : Kid) (L : List SC), ks[i]? = some q → Ls[i]? = some L → L.map (·.lv) = lvsN n q.es) → Ls.flatten.map (·.lv) = (ks.map (·.es)).flatMap (lvsN n)
  | [], [], _, _, _ => by simp
  | [], _ :: _, _, h, _ => by simp at h
  | _ :: _, [], _, h, _ => by simp at h
  | q :: ks, L :: Ls, n, h, hk => by
    have h1 := lv_flat ks Ls n (by simpa using h) fun i q' L' h1 h2 => hk (i + 1) q' L' (by simpa using h1) (by simpa using h2)
    have h2 := hk 0 q L rfl rfl
    rw [List.flatten_cons, List.map_append, h2, h1, List.map_cons, List.flatMap_cons]
theorem sr_len {b : Nat} {w : World} {r : SR} (h : r.ok b w) : r.sc.xs.length = r.k ∧ r.sc.pl.length = r.m := by
  have h1 := h.1.1
  have h2 := h.2.1.1
  simp at h1 h2
  exact ⟨h1, h2⟩
theorem sums_fld0 (x0 x1 x2 x3 : Value) (w : World) : (Instr.field 102 (.agg #[x0, x1, x2, x3]) 0).run Try.prog w = .ok x0 w := by kernel_rfl
set_option maxHeartbeats 1000000 in
set_option maxRecDepth 100000 in
theorem tr_len_of {w : World} {t : Option Addr} {root : Option Addr} {c s mn mx : Nat} (hR : Calls Try.prog 30 #[.pointer t] w fun e w' => e = .returned (.pointer root) ∧ w = w')
    (hS : Calls Try.prog 55 #[.pointer root] w fun e w' => e = .returned (Sum4.val ⟨c, s, mn, mx⟩) ∧ Below w.heap.size w w') (hc : c ≤ 65536) :
    Calls Try.prog 31 #[.pointer t] w fun e w' => e = .returned (.int .i64 (c : Int)) ∧ Below w.heap.size w w' := by
  have HR := hide hR
  have HS := hide hS
  have q0 := sums_fld0 (.int .u64 (c : Int)) (.int .u64 (s : Int)) (.int .u64 (mn : Int)) (.int .u64 (mx : Int))
  have ew : IntKind.i64.wrap (c : Int) = (c : Int) := by rw [IntKind.wrap_i64]; omega
  have ew2 : wrap64 (c : Int) = (c : Int) := by unfold wrap64; omega
  clear hR hS
  unfold Sum4.val at HS
  go_enter Try.func31, Try.ntmps31
  go_wp2_with fail
  refine HR.out.mono ?_
  rintro e w1 ⟨rfl, rfl⟩
  go_wp2_with fail
  refine HS.out.mono ?_
  rintro e w1 ⟨rfl, hb1⟩
  have HB := hide hb1
  clear hb1
  go_wp2
  go_ret
  exact ⟨rfl, HB.out⟩
theorem tr_len {w : World} {k t : Nat} {es : List Ent} (h : TreeOf w k t es) (hes : es.length ≤ 65536) : Calls Try.prog 31 #[.pointer (some ⟨t, 0, none⟩)] w fun e w' => e = .returned (.int .i64 (es.length : Nat)) ∧ Below w.heap.size w w' := by
  obtain ⟨h1, h2, ⟨hT, rfl⟩ | ⟨g, lv, pre, hT, hN⟩⟩ := h
  · exact tr_len_of (c := 0) (s := 0) (mn := 0) (mx := 0) (tr_root hT) (nd_sums_nil w) (by omega)
  · obtain ⟨A, c, v, kids, hB, -⟩ := hN.head
    have hS := nd_sums hB
    have hl : es.length % 2 ^ 64 = es.length := Nat.mod_eq_of_lt (by omega)
    have he : sumsOf es = ⟨es.length, (es.map (·.2)).sum % 2 ^ 64, minL (es.map (·.2)), maxL (es.map (·.2))⟩ := by unfold sumsOf; rw [hl]
    rw [he] at hS
    exact tr_len_of (tr_root hT) hS hes
theorem tr_len_nil (w : World) : Calls Try.prog 31 #[.pointer none] w fun e w' => e = .returned (.int .i64 0) ∧ Below w.heap.size w w' :=
  tr_len_of (c := 0) (s := 0) (mn := 0) (mx := 0) (tr_root_nil w) (nd_sums_nil w) (by omega)
end Go.Proofs.Ytfkpanpageeklaa
