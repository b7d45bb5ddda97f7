/- Views, as they lie there; the least pair, step by step. No condition. -/
import Derived.Test.YtebhclgnpnlekaaChkJ
namespace Go.Proofs.Ytebhclgnpnlekaa.Chk
open Go.RowKit Go.Proofs.Ytebhclgnpnlekaa.B Go.Proofs.Ytebhclgnpnlekaa.Cmd Go.Proofs.Ytebhclgnpnlekaa.Agg Go.Proofs.Ytebhclgnpnlekaa.Ent Go.Proofs.Ytebhclgnpnlekaa.Ord
def viewRep : Rep ViewD where
  sz := 2
  K I w x cs := ∃ A c B d, cs = [.slice A x.1.length c, .slice B x.2.length d] ∧ x.1.length ≤ c ∧ (A = none → c = 0) ∧ x.2.length ≤ d ∧ (B = none → d = 0) ∧ Rep.Row qeRep I w A x.1 ∧ Rep.Row (Rep.int .i64) I w B x.2
  len h := by obtain ⟨A, c, B, d, rfl, _⟩ := h; rfl
  one h := by
    obtain ⟨A, c, B, d, rfl, _⟩ := h
    intro u hu
    simp only [List.mem_cons, List.not_mem_nil, or_false] at hu
    rcases hu with rfl | rfl <;> rfl
  move hm h := by
    obtain ⟨A, c, B, d, e, h1, h2, h3, h4, h5, h6⟩ := h
    exact ⟨A, c, B, d, e, h1, h2, h3, h4, h5.move hm, h6.move hm⟩
theorem opens_view : Rep.Opens Try.prog viewRep 114 := by
  have hO : Rep.Opens Try.prog (Rep.prod (Rep.slice qeRep) (Rep.prod (Rep.slice (Rep.int .i64)) Rep.unit)) 114 := by
    refine Rep.opens_struct Try.underlying114 (by kernel_rfl) ?_
    exact Rep.opensF_cons rfl (Rep.opens_slice Try.underlying90 (by kernel_rfl) (by decide) opens_qe) (Rep.opensF_cons rfl (Rep.opens_slice Try.underlying22 (by kernel_rfl) (by decide) (Rep.opens_int Try.underlying3 (by kernel_rfl))) (Rep.opensF_nil _))
  refine ⟨hO.1, fun H enc W fuel cs x h => ?_⟩
  obtain ⟨⟨a, b, u⟩, ha⟩ := hO.2 H enc W fuel cs x h
  obtain ⟨c1, d1, rfl, ⟨A, c, rfl, h1, h2, h3⟩, ⟨c2, d2, rfl, ⟨B, d, rfl, h4, h5, h6⟩, h7⟩⟩ := ha
  have h7' : d2 = [] := h7
  subst h7'
  exact ⟨(a, b), A, c, B, d, rfl, h1, h2, h4, h5, h3, h6⟩
/-- A view at a place of a row. -/
theorem row_view {I : Nat → Prop} {w : World} {A : Option Addr} {xs : List ViewD} (h : Rep.Row viewRep I w A xs) (i : Nat) (hi : i < xs.length) :
    ∃ ad p A1 c B d, A = some ad ∧ ad.add (i * 2) = p ∧ p.block < w.heap.size ∧ w.cell? p = some (.slice A1 (xs[i]).1.length c) ∧ w.cell? (p.add 1) = some (.slice B (xs[i]).2.length d) ∧ (xs[i]).1.length ≤ c ∧ (A1 = none → c = 0) ∧ (xs[i]).2.length ≤ d ∧ (B = none → d = 0) ∧ Rep.Row qeRep I w A1 (xs[i]).1 ∧ Rep.Row (Rep.int .i64) I w B (xs[i]).2 := by
  obtain ⟨ad, cs, e, _, hlt, ⟨A1, c, B, d, rfl, h1, h2, h3, h4, h5, h6⟩, hc⟩ := h.at i hi
  refine ⟨ad, _, A1, c, B, d, e, rfl, by rw [Rep.add_block]; exact hlt, ?_, ?_, h1, h2, h3, h4, h5, h6⟩
  · exact hc 0 _ rfl
  · rw [Rep.add_add]
    exact hc 1 _ rfl
/-- What is one's own, read behind another row. -/
theorem own_rowV {α : Type} {d : Rep α} {e : TypeId} {base n c : Nat} {I : Nat → Prop} {w : World} {A : Option Addr} {xs : List α} (h : Rep.Own d e base I w (.slice A n c) xs) : Rep.RowV d I w A xs := by
  have hr := h.row.1
  obtain ⟨cells, ho, hx⟩ := h
  refine ⟨hr, fun h0 => ?_⟩
  rcases ho.2 with ⟨hv, hn⟩ | ⟨g, cap, cur, hv, hb, hh, h1, h2, _⟩
  · omega
  · injection hv with e1 e2 e3
    subst e1
    refine ⟨_, rfl, fun i x hi => ?_⟩
    obtain ⟨cs, hk, hc⟩ := hx i x hi
    exact ⟨cs, d.move (fun k hk hlt => ⟨hk.1, rfl⟩) hk, fun j u hu => World.ownsRow.cells ho (g := g) (by rfl) _ _ (hc j u hu)⟩
theorem own_len (L : List QE) : (own L).length ≤ L.length := by
  have h1 := List.length_filter_le (fun e : QE => e.dn) (dd L)
  have h2 := dd_len L
  unfold own
  omega
theorem allOwn_len (l : List ViewD) (n : Nat) (h : ∀ v ∈ l, v.1.length ≤ n) : (allOwn l).length ≤ l.length * n := by
  unfold allOwn
  induction l with
  | nil => simp
  | cons v l ih =>
    have h1 := own_len v.1
    have h2 := h v (List.mem_cons_self ..)
    have h3 := ih (fun u hu => h u (List.mem_cons_of_mem _ hu))
    simp only [List.flatMap_cons, List.length_append, List.length_cons, Nat.add_mul, Nat.one_mul]
    omega
/-- A row of the call's own. -/
structure RO {α : Type} (d : Rep α) (T : TypeId) (I : Nat → Prop) (w0 w : World) (v : Value) (xs : List α) : Prop where
  own : Rep.Own d T w0.heap.size I w v xs
  bel : Below w0.heap.size w0 w
section
variable {α : Type} {d : Rep α} {T : TypeId} {I : Nat → Prop} {w0 w1 w w' : World} {v : Value} {xs : List α}
theorem RO.nil : RO d T I w0 w0 (.slice none 0 0) [] := ⟨Rep.Own.nil _ _ _ _ _, Below.refl _ _⟩
theorem RO.below (h : RO d T I w0 w v xs) (hb : Below w.heap.size w w') : RO d T I w0 w' v xs := ⟨h.own.below hb, h.bel.trans (hb.mono h.bel.size)⟩
theorem RO.form (h : RO d T I w0 w v xs) : ∃ A c, v = .slice A xs.length c ∧ xs.length ≤ c ∧ (A = none → c = 0) := h.own.len_form
theorem RO.lower (h : RO d T I w1 w v xs) (hb : Below w0.heap.size w0 w1) : RO d T I w0 w v xs := ⟨h.own.lower hb.size, hb.trans (h.bel.mono hb.size)⟩
theorem RO.grown {w2 : World} {A1 : Option Addr} {c1 : Nat} {zs : List α} (h : RO d T I w0 w v xs) (G : Rep.Grown d T w0.heap.size I w v w2 A1 c1 zs) : RO d T I w0 w2 (.slice A1 zs.length c1) zs :=
  ⟨G.own, h.bel.trans (G.below (fun k hk => (h.own.block_lt k hk).1) h.bel.size)⟩
end
/-! ### The least pair, step by step -/
def rowsOf (f : Nat) (xs ys : List QE) : List (Option Pair) := xs.flatMap fun a => ys.map fun b => fault f a b
theorem rowsOf_succ (f : Nat) (l m : List QE) (i : Nat) (hi : i < l.length) : rowsOf f (l.take (i + 1)) m = rowsOf f (l.take i) m ++ m.map (fault f l[i]) := by
  unfold rowsOf
  rw [List.take_succ_eq_append_getElem hi, List.flatMap_append]
  simp
theorem mapTake_succ {α β : Type} (g : α → β) (l : List α) (i : Nat) (hi : i < l.length) : (l.take (i + 1)).map g = (l.take i).map g ++ [g l[i]] := by
  rw [List.take_succ_eq_append_getElem hi, List.map_append]
  rfl
/-- Behind i marks, and k of the next one's. -/
def upto (f : Nat) (l : List QE) (i : Nat) : Option Pair := least (rowsOf f (l.take i) l)
theorem upto_zero (f : Nat) (l : List QE) : upto f l 0 = none := rfl
theorem upto_succ (f : Nat) (l : List QE) (i : Nat) (hi : i < l.length) : leastFrom (upto f l i) ((l.take l.length).map (fault f l[i])) = upto f l (i + 1) := by
  unfold upto least
  rw [rowsOf_succ f l l i hi, List.foldl_append, List.take_length]
  rfl
theorem upto_all (f : Nat) (l : List QE) : upto f l l.length = pairs f l := by
  unfold upto pairs pairsOf rowsOf
  rw [List.take_length]
theorem step_succ (o : Option Pair) (g : QE → Option Pair) (l : List QE) (k : Nat) (hk : k < l.length) : put (leastFrom o ((l.take k).map g)) (g l[k]) = leastFrom o ((l.take (k + 1)).map g) := by
  rw [mapTake_succ g l k hk, leastFrom_snoc]
/-- What one mark brings, that comes behind a. -/
def lateQ (a : QE) (had : List Int) (id : Int) (x : QE) : Option Pair := if x.er.c.sym = a.er.c.sym ∧ x.t < a.t ∧ had.contains x.id = false then some (x.id, id) else none
theorem lateAt_none {m : List QE} {had : List Int} {id : Int} (h : byS m id = none) : lateAt m had id = [some (id, 0)] := by unfold lateAt; rw [h]
theorem lateAt_some {m : List QE} {had : List Int} {id : Int} {a : QE} (h : byS m id = some a) : lateAt m had id = (if had.contains id = true then some (id, 0) else none) :: m.map (lateQ a had id) := by unfold lateAt; rw [h]; rfl
theorem first_cases (p : QE → Bool) (l : List QE) : (firstOf p l = -1 ∧ ∀ x ∈ l, p x = false) ∨ ∃ i : Nat, ∃ hi : i < l.length, firstOf p l = (i : Int) ∧ (∀ x ∈ l.take i, p x = false) ∧ p l[i] = true := by
  unfold firstOf
  cases h : l.findIdx? p with
  | none => exact .inl ⟨rfl, fun x hx => by simpa using List.findIdx?_eq_none_iff.1 h x hx⟩
  | some i =>
    obtain ⟨hi, h1, h2⟩ := List.findIdx?_eq_some_iff_getElem.1 h
    refine .inr ⟨i, hi, rfl, fun x hx => ?_, h1⟩
    obtain ⟨j, hj, rfl⟩ := List.getElem_of_mem hx
    have hj' : j < i := by rw [List.length_take] at hj; omega
    rw [List.getElem_take]
    simpa using h2 j hj'
theorem byS_first {m : List QE} {id : Int} (i : Nat) (hi : i < m.length) (h1 : ∀ x ∈ m.take i, isId id x = false) (h2 : isId id m[i] = true) : byS m id = some m[i] := by
  unfold byS
  have hs : m = m.take i ++ m[i] :: m.drop (i + 1) := by rw [List.getElem_cons_drop, List.take_append_drop]
  obtain ⟨y, hy⟩ : ∃ y, m[i] = y := ⟨_, rfl⟩
  rw [hy] at hs h2 ⊢
  rw [hs, List.find?_append, List.find?_eq_none.2 (by intro x hx; simp [h1 x hx]), List.find?_cons, h2]
  rfl
/-- Marks stand among marks: all that is known of a name's place. -/
theorem place (m : List QE) (id : Int) : (firstOf (isId id) m = -1 ∧ byS m id = none) ∨ ∃ i : Nat, ∃ hi : i < m.length, firstOf (isId id) m = (i : Int) ∧ byS m id = some m[i] ∧ m[i].id = id := by
  rcases first_cases (isId id) m with ⟨h, h'⟩ | ⟨i, hi, h, h1, h2⟩
  · refine .inl ⟨h, ?_⟩
    unfold byS
    exact List.find?_eq_none.2 (by intro x hx; simp [h' x hx])
  · exact .inr ⟨i, hi, h, byS_first i hi h1 h2, by simpa [isId] using h2⟩
/-- The document's answer: the least pair, and whether there is none. -/
def bestP (o : Option Pair) : Pair := o.getD (0, 0)
theorem put_doc (o : Option Pair) (p : Pair) (is : Bool) : put o (if is = true then some p else none) = if (is && (o.isNone || lessP p (bestP o))) = true then some p else o := by
  cases o <;> cases is <;> simp [put, bestP]
end Go.Proofs.Ytebhclgnpnlekaa.Chk
