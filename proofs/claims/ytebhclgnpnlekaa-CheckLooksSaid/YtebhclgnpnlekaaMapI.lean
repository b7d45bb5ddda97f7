/- A map of the call's own, by whole numbers: what stands at each number, whatever its elements are. No condition. -/
import Derived.Test.YtebhclgnpnlekaaB
import Derived.Maps.OwnSet
namespace Go.Proofs.Ytebhclgnpnlekaa.MapI
open Go.RowKit Go.Proofs.Ytebhclgnpnlekaa.B
open Go.Maps (Keyed IsMap)
variable {P : Program} {k e t : TypeId} {w w' : World} {b n : Nat} {g : Int → Option Value}
def held (v : Value) : Option (DataW Value × List MemPlace) := some (.held v, [])
/-- Block b is a map of at most n entries; at each number stands what g says. -/
def MapAt (P : Program) (k : TypeId) (w : World) (b n : Nat) (g : Int → Option Value) : Prop :=
  ∃ D : DataW Value, w.ownsMap P k held b n D ∧ IsMap D ∧ ∀ i : Int, Maps.has D (.int .i64 i) = (g i).isSome ∧ ∀ v, g i = some v → ∀ z, D.atKey (.int .i64 i) z = .held v
theorem MapAt.made (w : World) (P : Program) (k : TypeId) : MapAt P k (w.alloc (.map #[] 0)) w.heap.size 0 (fun _ => none) :=
  ⟨_, World.ownsMap_made w P k held, Maps.isMap_empty, fun _ => ⟨rfl, fun _ h => by cases h⟩⟩
theorem MapAt.lt (h : MapAt P k w b n g) : b < w.heap.size := by
  obtain ⟨D, h1, _⟩ := h
  exact h1.lt
theorem MapAt.keep (h : MapAt P k w b n g) (hb : w'.heap[b]? = w.heap[b]?) : MapAt P k w' b n g := by
  obtain ⟨D, ⟨es, clock, h0, r⟩, h2⟩ := h
  exact ⟨D, ⟨es, clock, hb.trans h0, r⟩, h2⟩
theorem MapAt.below (h : MapAt P k w b n g) (hb : Below w.heap.size w w') : MapAt P k w' b n g := h.keep (hb.block b h.lt)
theorem MapAt.fr {M : Nat → Prop} (h : MapAt P k w b n g) (hb : Fr M w w') (hm : ¬ M b) : MapAt P k w' b n g := h.keep (hb.block b h.lt hm)
theorem MapAt.alloc (h : MapAt P k w b n g) (o : Obj) : MapAt P k (w.alloc o) b n g := h.keep (Below.heap_alloc w o b h.lt)
theorem MapAt.drew (h : MapAt P k w b n g) : MapAt P k w.drew b n g := h
theorem MapAt.drewN (h : MapAt P k w b n g) (m : Nat) : MapAt P k (w.drewN m) b n g := h.keep rfl
theorem MapAt.mono (h : MapAt P k w b n g) {n' : Nat} (hn : n ≤ n') : MapAt P k w b n' g := by
  obtain ⟨D, h1, h2⟩ := h
  exact ⟨D, h1.mono hn, h2⟩
theorem held_inv {v v' : Value} {d : DataW Value} {ps : List MemPlace} (h : held v = some (d, ps)) (hd : d = .held v') : v = v' := by
  simp only [held, Option.some.injEq, Prod.mk.injEq] at h
  rw [← h.1] at hd
  injection hd
/-- 'v, ok := m[k]'. -/
theorem MapAt.look (h : MapAt P k w b n g) (hk : P.underlying k = some (.int .i64)) (ht : P.underlying t = some (.map k e)) {z : Value} (hz : (zeroValue e).run P w = .ok z w) (i : Int) (hi : (Lit.int .i64 i).wf = true) :
    (Instr.lookup t (.map (some b)) (.int .i64 i) true).run P w = .ok (.tuple #[(g i).getD z, .bool (g i).isSome]) w := by
  obtain ⟨D, h1, _, h2⟩ := h
  obtain ⟨v, ps, hrun, hv⟩ := h1.look_ok (Maps.int_keyed hk) ht hz (zd := .held z) (zp := []) rfl (Maps.keyOf_int_mk hk hi)
  rw [hrun, (h2 i).1]
  cases hg : g i with
  | none =>
    rw [Maps.atKey_of_not_has (by rw [(h2 i).1, hg]; rfl)] at hv
    rw [held_inv hv rfl]; rfl
  | some u =>
    rw [(h2 i).2 u hg] at hv
    rw [held_inv hv rfl]; rfl
/-- 'm[k]'. -/
theorem MapAt.look1 (h : MapAt P k w b n g) (hk : P.underlying k = some (.int .i64)) (ht : P.underlying t = some (.map k e)) {z : Value} (hz : (zeroValue e).run P w = .ok z w) (i : Int) (hi : (Lit.int .i64 i).wf = true) :
    (Instr.lookup t (.map (some b)) (.int .i64 i) false).run P w = .ok ((g i).getD z) w := by
  obtain ⟨D, h1, _, h2⟩ := h
  obtain ⟨v, ps, hrun, hv⟩ := h1.lookup (Maps.int_keyed hk) ht hz (zd := .held z) (zp := []) rfl (Maps.keyOf_int_mk hk hi)
  rw [hrun]
  cases hg : g i with
  | none =>
    rw [Maps.atKey_of_not_has (by rw [(h2 i).1, hg]; rfl)] at hv
    rw [held_inv hv rfl]; rfl
  | some u =>
    rw [(h2 i).2 u hg] at hv
    rw [held_inv hv rfl]; rfl
/-- 'm[k] = v'. -/
theorem MapAt.update (h : MapAt P k w b n g) (hk : P.underlying k = some (.int .i64)) (ht : P.underlying t = some (.map k e)) (hn : n < maxLen) (i : Int) (hi : (Lit.int .i64 i).wf = true) (v : Value) :
    ∃ w', (Instr.mapUpdate t (.map (some b)) (.int .i64 i) v).run P w = .ok () w' ∧ MapAt P k w' b (n + 1) (fun j => if j = i then some v else g j) ∧ Fr (fun x => x = b) w w' := by
  obtain ⟨D, h1, hm, h2⟩ := h
  obtain ⟨w', hrun, ho, hg⟩ := h1.update (Maps.int_keyed hk) ht hn (d := .held v) (ps := []) (Maps.keyOf_int_mk hk hi) rfl
  have hkey := (Maps.int_keyed hk).key (Maps.keyOf_int_mk hk hi)
  refine ⟨w', hrun, ⟨_, ho, hm.put _ _, fun j => ?_⟩, (Fr.refl _ w).grown hg (fun x hx => .inl (by injection hx with hx; exact hx.symm))⟩
  by_cases hj : j = i
  · subst hj
    show _ = (if j = j then some v else g j).isSome ∧ ∀ u, (if j = j then some v else g j) = some u → _
    rw [if_pos rfl]
    exact ⟨Maps.has_put_same hm hkey _, fun u hu z => by injection hu with hu; subst hu; exact Maps.atKey_put_same hm hkey _ _⟩
  · have hne : (Lit.int .i64 j) ≠ .int .i64 i := fun he => hj (by injection he)
    show _ = (if j = i then some v else g j).isSome ∧ ∀ u, (if j = i then some v else g j) = some u → _
    rw [if_neg hj]
    exact ⟨(Maps.has_put_other hne _).trans (h2 j).1, fun u hu z => (Maps.atKey_put_other hne _ _).trans ((h2 j).2 u hu z)⟩
/-! ### The operations -/
section
variable {ops : Array Oper} {rest : List Oper} {a : Act} {Q : Exit → Act → World → Prop} {dst : Option Tmp} {ty : TypeId} {pos : String} {after : Array Edge} {gd : Option (Nat × Bool)} {x y m : Operand}
theorem wpl_look (hm : a.eval m = .map (some b)) (i : Int) (hx : a.eval x = .int .i64 i) (h : MapAt P k w b n g) (hk : P.underlying k = some (.int .i64)) (ht : P.underlying t = some (.map k e)) {z : Value} (hz : (zeroValue e).run P w = .ok z w) (hi : (Lit.int .i64 i).wf = true) (hw : Region.wanted ⟨dst, .lookup t m x true, ty, pos, after, gd⟩ (yielded ops a.tmps) = true)
    (hK : wpList P ops Q rest (a.put dst (.tuple #[(g i).getD z, .bool (g i).isSome])) w) : wpList P ops Q (⟨dst, .lookup t m x true, ty, pos, after, gd⟩ :: rest) a w := by
  refine wpList_step fun K hK' => ?_
  rw [if_pos hw]
  unfold Oper.wp execOp
  simp only [hm, hx, Sem.run_bind, h.look hk ht hz i hi, Result.andThen_ok, Sem.run_pure]
  exact hK' _ _ hK
theorem wpl_look1 (hm : a.eval m = .map (some b)) (i : Int) (hx : a.eval x = .int .i64 i) (h : MapAt P k w b n g) (hk : P.underlying k = some (.int .i64)) (ht : P.underlying t = some (.map k e)) {z : Value} (hz : (zeroValue e).run P w = .ok z w) (hi : (Lit.int .i64 i).wf = true) (hw : Region.wanted ⟨dst, .lookup t m x false, ty, pos, after, gd⟩ (yielded ops a.tmps) = true)
    (hK : wpList P ops Q rest (a.put dst ((g i).getD z)) w) : wpList P ops Q (⟨dst, .lookup t m x false, ty, pos, after, gd⟩ :: rest) a w := by
  refine wpList_step fun K hK' => ?_
  rw [if_pos hw]
  unfold Oper.wp execOp
  simp only [hm, hx, Sem.run_bind, h.look1 hk ht hz i hi, Result.andThen_ok, Sem.run_pure]
  exact hK' _ _ hK
theorem wpl_update (hm : a.eval m = .map (some b)) (i : Int) (v : Value) (hx : a.eval x = .int .i64 i) (hy : a.eval y = v) (h : MapAt P k w b n g) (hk : P.underlying k = some (.int .i64)) (ht : P.underlying t = some (.map k e)) (hn : n < maxLen) (hi : (Lit.int .i64 i).wf = true) (hw : Region.wanted ⟨dst, .mapUpdate t m x y, ty, pos, after, gd⟩ (yielded ops a.tmps) = true)
    (hK : ∀ w', MapAt P k w' b (n + 1) (fun j => if j = i then some v else g j) → Fr (fun x => x = b) w w' → wpList P ops Q rest (a.put dst undef) w') : wpList P ops Q (⟨dst, .mapUpdate t m x y, ty, pos, after, gd⟩ :: rest) a w := by
  obtain ⟨w', hrun, r1, r2⟩ := h.update hk ht hn i hi v
  refine wpList_step fun K hK' => ?_
  rw [if_pos hw]
  unfold Oper.wp execOp
  simp only [hm, hx, hy, Sem.run_bind, hrun, Result.andThen_ok, Sem.run_pure]
  exact hK' _ _ (hK w' r1 r2)
end
end Go.Proofs.Ytebhclgnpnlekaa.MapI
