/- Append in two common forms (a copy of a row onto an empty literal; one more element), as steps of a walk; what is read is handed on held. No condition. -/
import Derived.Test.YtebhclgnpnlekaaO
import Derived.Deep.QuietTactic
namespace Go.Proofs.Ytebhclgnpnlekaa.B
open Go.RowKit

/-- A call that leaves the world alone, inside a quiet region. -/
theorem quiet_left {P : Program} {f : FuncId} {args : Array Value} {w : World} {n : Nat} {v : Value}
    (h : Calls P f args (w.drewN n) fun e w' => e = .returned v ∧ w.drewN n = w') : Calls P f args (w.drewN n) fun e w'' => e = .returned v ∧ ∃ m, w'' = w.drewN m :=
  h.mono fun _ _ ⟨he, hm⟩ => ⟨he, n, hm.symm⟩
namespace Rep
/-- Elements that stand in a row, wherever that is: their own data is read in blocks of J. -/
def RowV {α : Type} (d : Rep α) (J : Nat → Prop) (w : World) (A : Option Addr) (xs : List α) : Prop :=
  xs.length ≤ maxLen ∧ (0 < xs.length → ∃ ad, A = some ad ∧ ∀ i x, xs[i]? = some x → ∃ cs, d.K J w x cs ∧ ∀ j u, cs[j]? = some u → w.cell? (ad.add (i * d.sz + j)) = some u)
theorem Row.v {α : Type} {d : Rep α} {J : Nat → Prop} {w : World} {A : Option Addr} {xs : List α} (h : Row d J w A xs) : RowV d J w A xs :=
  ⟨h.1, fun h0 => by obtain ⟨ad, e, _, _, hc⟩ := h.2 h0; exact ⟨ad, e, hc⟩⟩
theorem rowV_lt {α : Type} {d : Rep α} {J : Nat → Prop} {w : World} {A : Option Addr} {xs : List α} (h : RowV d J w A xs) : RowV d (fun k => J k ∧ k < w.heap.size) w A xs :=
  ⟨h.1, fun h0 => by
    obtain ⟨ad, e, hc⟩ := h.2 h0
    exact ⟨ad, e, fun i x hx => by obtain ⟨cs, hk, hcs⟩ := hc i x hx; exact ⟨cs, d.move (fun k hk hl => ⟨⟨hk, hl⟩, rfl⟩) hk, hcs⟩⟩⟩
/-- One element in a box. -/
theorem rowV_box {α : Type} {d : Rep α} {I : Nat → Prop} {w : World} {x : α} {cs : List Value} (e : TypeId) (h : d.K I w x cs) : RowV d I (w.alloc (.cells cs.toArray e)) (some ⟨w.heap.size, 0, none⟩) [x] := by
  obtain ⟨h1, h2⟩ := row_box e h
  refine ⟨h1, fun h0 => ?_⟩
  obtain ⟨ad, ea, _, _, hc⟩ := h2 h0
  cases ea
  refine ⟨_, rfl, fun i y hi => ?_⟩
  have hi0 : i = 0 := by
    have := (List.getElem?_eq_some_iff.1 hi).1
    simpa using this
  subst hi0
  have hy : x = y := by simpa using hi
  subst hy
  refine ⟨cs, d.move (fun k hk hlt => ⟨hk, Below.heap_alloc w _ k hlt⟩) h, fun j u hu => ?_⟩
  have e1 : (⟨w.heap.size, 0, none⟩ : Addr).add (0 * d.sz + j) = ⟨w.heap.size, j, none⟩ := by
    unfold Addr.add
    split
    · simp_all
    · simp
  rw [e1, World.cell?_alloc_mark]
  simpa using hu
section
variable {P : Program}
/-- append's run: a row that is read, behind a row of one's own. -/
theorem run_appendV {α : Type} {d : Rep α} (t ty e : TypeId) (z : Value) (bytes : Nat) (ht : P.underlying t = some (.slice e)) (hinfo : (P.info? e).map (fun i => (i.zero, i.size, i.bytes)) = some (some z, d.sz, bytes)) (hzs : z.cells.size = d.sz) (hsz : 0 < d.sz) (hb0 : 0 < bytes)
    {W : World} {base : Nat} {I J : Nat → Prop} {v : Value} {xs ys : List α} {A : Option Addr} {c : Nat} (HO : Own d e base I W v xs) (HR : RowV d J W A ys) (hJ : ∀ k, J k → k < W.heap.size → some k ≠ v.ownBlock)
    (hnil : A = none → c = 0) (hbase : base ≤ W.heap.size) (hl : (xs.length + ys.length) * bytes ≤ 140737488355328) :
    ∃ v1 w1, (Builtin.append_ #[t, t] ty #[v, .slice A ys.length c]).run P W = .ok v1 w1 ∧ Own d e base (fun k => I k ∨ J k) w1 v1 (xs ++ ys) ∧ W.grownBy w1 v.ownBlock ∧ (v1.ownBlock = v.ownBlock ∨ v1.ownBlock = some W.heap.size) := by
  obtain ⟨i0, hi, hzz⟩ := Option.map_eq_some_iff.1 hinfo
  simp only [Prod.mk.injEq] at hzz
  obtain ⟨hz0, hz1, hz2⟩ := hzz
  obtain ⟨cells, ho, hx⟩ := HO
  have hlen : xs.length + ys.length ≤ 140737488355328 := Nat.le_trans (Nat.le_mul_of_pos_right _ hb0) hl
  have hblk := ho.lt
  rcases A with _ | ad
  · have h0 : ys = [] := by
      rcases ys with _ | ⟨y, ys⟩
      · rfl
      · obtain ⟨ad, h, _⟩ := HR.2 (by simp)
        cases h
    subst h0
    obtain rfl := hnil rfl
    refine ⟨v, W, ?_, ⟨cells, by simpa using ho, fun i x hi => ?_⟩, World.grownBy.refl W _, .inl rfl⟩
    · exact run_append_owned_none (P := P) (w := W) base t ty e i0 d.sz ht hi v xs.length cells ho
    · obtain ⟨cs, hk, hc⟩ := hx i x (by simpa using hi)
      exact ⟨cs, d.move (fun k hk _ => ⟨⟨.inl hk.1, hk.2⟩, rfl⟩) hk, hc⟩
  · have hq : ∃ news : List Value, news.length = ys.length * d.sz ∧ (∀ j u, news[j]? = some u → W.cell? (ad.add j) = some u) ∧ (∀ u ∈ news, u.oneCell' = true) ∧
        ∀ i x, ys[i]? = some x → ∃ cs, d.K (fun k => J k ∧ some k ≠ v.ownBlock) W x cs ∧ ∀ j u, cs[j]? = some u → news[i * d.sz + j]? = some u := by
      have key : ∀ (ys : List α) (o : Nat), (∀ i x, ys[i]? = some x → ∃ cs, d.K (fun k => J k ∧ some k ≠ v.ownBlock) W x cs ∧ ∀ j u, cs[j]? = some u → W.cell? (ad.add ((o + i) * d.sz + j)) = some u) →
          ∃ news : List Value, news.length = ys.length * d.sz ∧ (∀ j u, news[j]? = some u → W.cell? (ad.add (o * d.sz + j)) = some u) ∧ (∀ u ∈ news, u.oneCell' = true) ∧
            ∀ i x, ys[i]? = some x → ∃ cs, d.K (fun k => J k ∧ some k ≠ v.ownBlock) W x cs ∧ ∀ j u, cs[j]? = some u → news[i * d.sz + j]? = some u := by
        intro ys
        induction ys with
        | nil => intro o _; exact ⟨[], by simp, fun j u h => by simp at h, fun u h => by simp at h, fun i x h => by simp at h⟩
        | cons y ys ih =>
          intro o h
          obtain ⟨cs, hk, hc⟩ := h 0 y rfl
          obtain ⟨news, n1, n2, n3, n4⟩ := ih (o + 1) (fun i x hi => by
            obtain ⟨cs, hk, hc⟩ := h (i + 1) x (by simpa using hi)
            exact ⟨cs, hk, fun j u hu => by have := hc j u hu; rwa [show o + (i + 1) = o + 1 + i by omega] at this⟩)
          have hcl := d.len hk
          refine ⟨cs ++ news, by rw [List.length_append, hcl, n1, List.length_cons, Nat.add_mul]; omega, fun j u hu => ?_, fun u hu => ?_, fun i x hi => ?_⟩
          · rw [List.getElem?_append] at hu
            split at hu
            · have := hc j u hu
              simpa using this
            · rename_i hge
              have := n2 _ u hu
              rw [hcl] at this hge
              rwa [show (o + 1) * d.sz + (j - d.sz) = o * d.sz + j by rw [Nat.add_mul]; omega] at this
          · rcases List.mem_append.1 hu with h | h
            · exact d.one hk u h
            · exact n3 u h
          · cases i with
            | zero =>
              have hy : y = x := by simpa using hi
              subst hy
              refine ⟨cs, hk, fun j u hu => ?_⟩
              have hj := (List.getElem?_eq_some_iff.1 hu).1
              rw [Nat.zero_mul, Nat.zero_add, List.getElem?_append_left hj]
              exact hu
            | succ i =>
              obtain ⟨cs', hk', hc'⟩ := n4 i x (by simpa using hi)
              refine ⟨cs', hk', fun j u hu => ?_⟩
              have := hc' j u hu
              rw [List.getElem?_append_right (by rw [hcl, Nat.add_mul]; omega), hcl]
              rwa [show (i + 1) * d.sz + j - d.sz = i * d.sz + j by rw [Nat.add_mul]; omega]
      rcases ys with _ | ⟨y, ys⟩
      · exact ⟨[], by simp, fun j u h => by simp at h, fun u h => by simp at h, fun i x h => by simp at h⟩
      · obtain ⟨ad', e', hc⟩ := HR.2 (by simp)
        cases e'
        obtain ⟨news, n1, n2, n3, n4⟩ := key (y :: ys) 0 (fun i x hi => by
          obtain ⟨cs, hk, hcs⟩ := hc i x hi
          exact ⟨cs, d.move (fun k hk hlt => ⟨⟨hk, hJ k hk hlt⟩, rfl⟩) hk, by simpa using hcs⟩)
        exact ⟨news, n1, by simpa using n2, n3, n4⟩
    obtain ⟨news, n1, n2, n3, n4⟩ := hq
    obtain ⟨v1, w1, hr, h2, h3, _, h5⟩ := run_append_own_at (P := P) W base t ty e i0 z d.sz bytes ht hi hz0 hz1 hz2 hzs hsz v xs.length cells ho ad ys.length c news n1 n2 n3 (by simp only [maxLen]; omega) hl hbase
    have hmv : ∀ (Q : Nat → Prop) (_ : ∀ k, Q k → I k ∨ J k), ∀ k, (Q k ∧ some k ≠ v.ownBlock) → k < W.heap.size → ((I k ∨ J k) ∧ some k ≠ v1.ownBlock) ∧ w1.heap[k]? = W.heap[k]? := by
      intro Q hQ k hk hlt
      refine ⟨⟨hQ k hk.1, ?_⟩, h3.block k hlt hk.2⟩
      rcases h5 with h5 | h5
      · rw [h5]; exact hk.2
      · rw [h5]; intro he; injection he with he; omega
    refine ⟨v1, w1, hr, ⟨cells ++ news, by rw [List.length_append]; exact h2, fun i x hi => ?_⟩, h3, h5⟩
    have hcl := ho.1
    rw [List.getElem?_append] at hi
    split at hi
    · obtain ⟨cs, hk, hc⟩ := hx i x hi
      refine ⟨cs, d.move (hmv I (fun k h => .inl h)) hk, fun j u hu => ?_⟩
      have := hc j u hu
      rw [List.getElem?_append_left (List.getElem?_eq_some_iff.1 this).1]
      exact this
    · rename_i hge
      obtain ⟨cs, hk, hc⟩ := n4 _ x hi
      refine ⟨cs, d.move (hmv J (fun k h => .inr h)) hk, fun j u hu => ?_⟩
      have := hc j u hu
      have hle : xs.length * d.sz ≤ i * d.sz := Nat.mul_le_mul_right _ (by omega)
      rw [List.getElem?_append_right (by rw [hcl]; omega), hcl]
      rwa [show i * d.sz + j - xs.length * d.sz = (i - xs.length) * d.sz + j by rw [Nat.sub_mul]; omega]

variable {ops : Array Oper} {rest : List Oper} {o : Oper} {a : Act} {Q : Exit → Act → World → Prop}
/-- append as a step of a walk, behind 'at_builtin'. -/
theorem wp_appendV {α : Type} (d : Rep α) (hgd : o.guard = none) (s x : Operand) (t e : TypeId) (z : Value) (bytes : Nat)
    (ho : o.op = .call { callee := .builtin .append, args := #[s, x], argTypes := #[t, t] })
    (ht : P.underlying t = some (.slice e)) (hinfo : (P.info? e).map (fun i => (i.zero, i.size, i.bytes)) = some (some z, d.sz, bytes)) (hzs : z.cells.size = d.sz) (hsz : 0 < d.sz) (hb0 : 0 < bytes)
    {W : World} (base : Nat) {I J : Nat → Prop} (v : Value) (xs ys : List α) (A : Option Addr) (m c : Nat) (hs : a.eval s = v) (hx : a.eval x = .slice A m c) (hm : m = ys.length)
    (HO : Own d e base I W v xs) (HR : RowV d J W A ys) (hJ : ∀ k, J k → k < W.heap.size → some k ≠ v.ownBlock) (hnil : A = none → c = 0) (hbase : base ≤ W.heap.size) (hl : (xs.length + ys.length) * bytes ≤ 140737488355328)
    (h : ∀ v1 w1, Own d e base (fun k => I k ∨ J k) w1 v1 (xs ++ ys) → W.grownBy w1 v.ownBlock → (v1.ownBlock = v.ownBlock ∨ v1.ownBlock = some W.heap.size) → wpList P ops Q rest (a.put o.dst v1) w1) :
    wpList P ops Q (o :: rest) a W := by
  subst hm
  obtain ⟨v1, w1, hr, hown, hg, hat⟩ := run_appendV t o.type e z bytes ht hinfo hzs hsz hb0 HO HR hJ hnil hbase hl
  refine wpList_plain hgd fun K hK => ?_
  unfold Oper.wp execOp
  simp only [ho, resolve, invoke, builtin, Sem.run_bind, Sem.run_pure, Result.andThen_ok, List.map_toArray, List.map_cons, List.map_nil, hs, hx, hr]
  exact hK _ _ (h v1 w1 hown hg hat)

theorem Own.len_form {α : Type} {d : Rep α} {e : TypeId} {base : Nat} {I : Nat → Prop} {w : World} {v : Value} {xs : List α} (h : Own d e base I w v xs) : ∃ A c, v = .slice A xs.length c ∧ xs.length ≤ c ∧ (A = none → c = 0) := by
  obtain ⟨A, c, hv, hc⟩ := h.form
  exact ⟨A, c, hv, hc, fun hA => h.cap_nil A xs.length c hv hA⟩

/-- What append leaves, frame and all. -/
structure Grown {α : Type} (d : Rep α) (e : TypeId) (base : Nat) (I : Nat → Prop) (w : World) (v : Value) (w1 : World) (A1 : Option Addr) (c1 : Nat) (zs : List α) : Prop where
  own : Own d e base I w1 (.slice A1 zs.length c1) zs
  le : zs.length ≤ c1
  nil : A1 = none → c1 = 0
  fr : Fr (fun k => v.ownBlock = some k) w w1
  at_ : (Value.slice A1 zs.length c1).ownBlock = v.ownBlock ∨ ∃ k, (Value.slice A1 zs.length c1).ownBlock = some k ∧ w.heap.size ≤ k
section
variable {α : Type} {d : Rep α} {e : TypeId} {base : Nat} {I : Nat → Prop} {w w1 : World} {v : Value} {A1 : Option Addr} {c1 : Nat} {zs : List α}
/-- Where all that is of one's own lies from base on. -/
theorem Grown.below (h : Grown d e base I w v w1 A1 c1 zs) (hv : ∀ k, v.ownBlock = some k → base ≤ k) (hb : base ≤ w.heap.size) : Below base w w1 :=
  ⟨h.fr.os, h.fr.tape, h.fr.output, h.fr.size, fun k hk => h.fr.block k (Nat.lt_of_lt_of_le hk hb) (fun e => by have := hv k e; omega)⟩
end

/-- A row, copied onto an empty literal: append([]T{}, xs...). -/
theorem wp_copy {α : Type} (d : Rep α) (hgd : o.guard = none) (s x : Operand) (t e : TypeId) (z : Value) (bytes : Nat)
    (ho : o.op = .call { callee := .builtin .append, args := #[s, x], argTypes := #[t, t] })
    (ht : P.underlying t = some (.slice e)) (hinfo : (P.info? e).map (fun i => (i.zero, i.size, i.bytes)) = some (some z, d.sz, bytes)) (hzs : z.cells.size = d.sz) (hsz : 0 < d.sz) (hb0 : 0 < bytes)
    {w0 : World} (I : Nat → Prop) (xs : List α) (A : Option Addr) (m c : Nat) (hs : a.eval s = .slice (some ⟨w0.heap.size, 0, none⟩) 0 0) (hx : a.eval x = .slice A m c) (hm : m = xs.length)
    (HR : Row d I w0 A xs) (hnil : A = none → c = 0) (hl : xs.length * bytes ≤ 140737488355328)
    (h : ∀ A1 c1 w1, Hold (Own d e w0.heap.size I w1 (.slice A1 xs.length c1) xs) → Hold (xs.length ≤ c1 ∧ (A1 = none → c1 = 0)) → Hold (Below w0.heap.size w0 w1) → wpList P ops Q rest (a.put o.dst (.slice A1 xs.length c1)) w1) :
    wpList P ops Q (o :: rest) a (w0.alloc (.cells #[] e)) := by
  refine wp_appendV d hgd s x t e z bytes ho ht hinfo hzs hsz hb0 w0.heap.size (I := nob) (J := fun k => I k ∧ k < w0.heap.size) _ [] xs A m c hs hx hm (Own.lit d e _ _ _ (Nat.le_refl _)) (Row.v (HR.move fun k hk hlt => ⟨⟨hk, hlt⟩, Below.heap_alloc _ _ k hlt⟩)) ?_ hnil (by simp) (by simpa using hl) ?_
  · intro k hk _ e
    injection e with e
    have : k = w0.heap.size := e
    omega
  · intro v1 w1 hown hg hat
    rw [List.nil_append] at hown
    obtain ⟨A1, c1, rfl, hl1, hn1⟩ := hown.len_form
    refine h A1 c1 w1 ⟨hown.mono fun k hk _ _ => (hk.resolve_left (fun h => h.elim)).1⟩ ⟨hl1, hn1⟩ ⟨⟨hg.os, hg.tape, hg.output, by have := hg.size; simp at this; omega, fun k hk => (hg.block k (by simp; omega) (by intro e; injection e with e; have : k = w0.heap.size := e; omega)).trans (Below.heap_alloc _ _ k hk)⟩⟩

/-- Any row that is read, behind one's own. -/
theorem wp_more {α : Type} (d : Rep α) (hgd : o.guard = none) (s x : Operand) (t e : TypeId) (z : Value) (bytes : Nat)
    (ho : o.op = .call { callee := .builtin .append, args := #[s, x], argTypes := #[t, t] })
    (ht : P.underlying t = some (.slice e)) (hinfo : (P.info? e).map (fun i => (i.zero, i.size, i.bytes)) = some (some z, d.sz, bytes)) (hzs : z.cells.size = d.sz) (hsz : 0 < d.sz) (hb0 : 0 < bytes)
    {w0 : World} (base : Nat) (I J : Nat → Prop) (v : Value) (xs ys zs : List α) (A : Option Addr) (m c : Nat) (hs : a.eval s = v) (hx : a.eval x = .slice A m c) (hm : m = ys.length) (hz : xs ++ ys = zs)
    (HO : Own d e base I w0 v xs) (HR : RowV d J w0 A ys) (hI : ∀ k, J k → k < w0.heap.size → I k ∧ some k ≠ v.ownBlock) (hnil : A = none → c = 0) (hbase : base ≤ w0.heap.size) (hl : (xs.length + ys.length) * bytes ≤ 140737488355328)
    (h : ∀ A1 c1 w1, Hold (Grown d e base I w0 v w1 A1 c1 zs) → wpList P ops Q rest (a.put o.dst (.slice A1 zs.length c1)) w1) :
    wpList P ops Q (o :: rest) a w0 := by
  subst hz
  refine wp_appendV d hgd s x t e z bytes ho ht hinfo hzs hsz hb0 base (I := I) (J := fun k => J k ∧ k < w0.heap.size) v xs ys A m c hs hx hm HO (rowV_lt HR) (fun k hk hl => (hI k hk.1 hl).2) hnil hbase hl ?_
  intro v1 w1 hown hg hat
  obtain ⟨A1, c1, rfl, hl1, hn1⟩ := hown.len_form
  exact h A1 c1 w1 ⟨⟨hown.mono fun k hk _ _ => hk.elim id (fun h => (hI k h.1 h.2).1), hl1, hn1, (Fr.refl _ w0).grown hg (fun k hk => .inl hk), hat.imp id fun h => ⟨_, h, Nat.le_refl _⟩⟩⟩

/-- One more element: append(xs, x). -/
theorem wp_push {α : Type} (d : Rep α) (hgd : o.guard = none) (s x : Operand) (t e : TypeId) (z : Value) (bytes : Nat)
    (ho : o.op = .call { callee := .builtin .append, args := #[s, x], argTypes := #[t, t] })
    (ht : P.underlying t = some (.slice e)) (hinfo : (P.info? e).map (fun i => (i.zero, i.size, i.bytes)) = some (some z, d.sz, bytes)) (hzs : z.cells.size = d.sz) (hsz : 0 < d.sz) (hb0 : 0 < bytes)
    {w0 : World} (base : Nat) (I J : Nat → Prop) (v : Value) (xs : List α) (y : α) (cs : List Value) (hs : a.eval s = v) (hx : a.eval x = .slice (some ⟨w0.heap.size, 0, none⟩) 1 1)
    (HO : Own d e base I w0 v xs) (HK : d.K J w0 y cs) (hI : ∀ k, J k → k < w0.heap.size → I k ∧ some k ≠ v.ownBlock) (hbase : base ≤ w0.heap.size) (hl : (xs.length + 1) * bytes ≤ 140737488355328)
    (h : ∀ A1 c1 w1, Hold (Grown d e base I w0 v w1 A1 c1 (xs ++ [y])) → wpList P ops Q rest (a.put o.dst (.slice A1 (xs.length + 1) c1)) w1) :
    wpList P ops Q (o :: rest) a (w0.alloc (.cells cs.toArray e)) := by
  have hlt : ∀ k, v.ownBlock = some k → k < w0.heap.size := fun k hk => (HO.block_lt k hk).2
  refine wp_appendV d hgd s x t e z bytes ho ht hinfo hzs hsz hb0 base (I := I) (J := fun k => J k ∧ k < w0.heap.size) v xs [y] _ 1 1 hs hx rfl
    (HO.alloc _) (rowV_box e (d.move (J := fun k => J k ∧ k < w0.heap.size) (fun k hk hl => ⟨⟨hk, hl⟩, rfl⟩) HK)) (fun k hk _ => (hI k hk.1 hk.2).2) (fun h => by cases h) (by simp; omega) (by simpa using hl) ?_
  intro v1 w1 hown hg hat
  obtain ⟨A1, c1, rfl, hl1, hn1⟩ := hown.len_form
  have hL : (xs ++ [y]).length = xs.length + 1 := by simp
  rw [hL] at hown hl1 hat ⊢
  refine h A1 c1 w1 ⟨⟨by rw [hL]; exact hown.mono fun k hk _ _ => hk.elim id (fun h => (hI k h.1 h.2).1), by rw [hL]; exact hl1, hn1, (Fr.alloc (Fr.refl _ w0) _).grown hg (fun k hk => .inl hk), by rw [hL]; exact hat.imp id fun h => ⟨_, h, by simp⟩⟩⟩
end
/-- A literal of elements, from its cells. -/
theorem row_cells {α : Type} {d : Rep α} {I : Nat → Prop} {w : World} (e : TypeId) (fr : Nat × Nat) (xs : List α) (cells : List Value) (hm : xs.length ≤ maxLen)
    (h : ∀ i x, xs[i]? = some x → ∃ cs, d.K I w x cs ∧ ∀ j u, cs[j]? = some u → cells[i * d.sz + j]? = some u) :
    Row d (fun k => I k ∨ k = w.heap.size) (w.alloc (.cells cells.toArray e fr)) (some ⟨w.heap.size, 0, none⟩) xs := by
  refine ⟨hm, fun h0 => ⟨_, rfl, .inr rfl, by simp, fun i x hi => ?_⟩⟩
  obtain ⟨cs, hk, hc⟩ := h i x hi
  refine ⟨cs, d.move (fun k hk hlt => ⟨.inl hk, Below.heap_alloc w _ k hlt⟩) hk, fun j u hu => ?_⟩
  have e1 : (⟨w.heap.size, 0, none⟩ : Addr).add (i * d.sz + j) = ⟨w.heap.size, i * d.sz + j, none⟩ := by
    unfold Addr.add
    split
    · simp_all
    · simp
  rw [e1, World.cell?_alloc_mark]
  simpa using hc j u hu
/-- Bytes that are read, as an element of a row. -/
theorem K_slice {α : Type} {d : Rep α} {I : Nat → Prop} {w : World} {A : Option Addr} {c : Nat} {xs : List α} (hl : xs.length ≤ c) (hn : A = none → c = 0) (hr : Row d I w A xs) : (slice d).K I w xs [.slice A xs.length c] := ⟨A, c, rfl, hl, hn, hr⟩
/-- A literal of numbers, as a row of one's own. -/
theorem own_lit {k : IntKind} (e : TypeId) (base : Nat) (I : Nat → Prop) (w : World) (xs : List Int) (hb : base ≤ w.heap.size) (hm : xs.length ≤ maxLen) (hw : ∀ x ∈ xs, (Lit.int k x).wf = true) :
    Own (int k) e base I (w.alloc (.cells (xs.map (Value.int k)).toArray e)) (.slice (some ⟨w.heap.size, 0, none⟩) xs.length xs.length) xs := by
  refine own_ints I ⟨by simp, .inr ⟨w.heap.size, xs.length, (xs.map (Value.int k)).toArray, rfl, hb, by show (w.heap.push _)[w.heap.size]? = _; simp, Nat.le_refl _, hm, by simp, ?_⟩⟩ hw
  simp
  exact List.take_of_length_le (by simp)
/-- Flat data of one's own, read behind another row. -/
theorem Own.flatV {α : Type} {d : Rep α} {e : TypeId} {base n c : Nat} {I : Nat → Prop} {w : World} {A : Option Addr} {xs : List α} (J : Nat → Prop) (hf : Flat d) (h : Own d e base I w (.slice A n c) xs) : RowV d J w A xs := by
  obtain ⟨h1, h2⟩ := h.row.v
  refine ⟨h1, fun h0 => ?_⟩
  obtain ⟨ad, e, hc⟩ := h2 h0
  exact ⟨ad, e, fun i x hx => by obtain ⟨cs, hk, hcs⟩ := hc i x hx; exact ⟨cs, hf hk, hcs⟩⟩
end Rep
end Go.Proofs.Ytebhclgnpnlekaa.B
