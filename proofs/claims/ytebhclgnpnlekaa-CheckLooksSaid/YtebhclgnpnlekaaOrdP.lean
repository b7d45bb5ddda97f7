/- What the queue of package order is made of: one more entry, one more name. No condition. -/
import Derived.Test.YtebhclgnpnlekaaOrdQ
namespace Go.Proofs.Ytebhclgnpnlekaa.Ord
open Go.RowKit Go.Proofs.Ytebhclgnpnlekaa.B Go.Proofs.Ytebhclgnpnlekaa.Cmd Go.Proofs.Ytebhclgnpnlekaa.Agg Go.Proofs.Ytebhclgnpnlekaa.Ent
section
variable {P : Program}
/-- append's run: one more element, out of its box. -/
theorem run_push {α : Type} {d : Rep α} (t ty e : TypeId) (z : Value) (bytes : Nat) (ht : P.underlying t = some (.slice e)) (hinfo : (P.info? e).map (fun i => (i.zero, i.size, i.bytes)) = some (some z, d.sz, bytes)) (hzs : z.cells.size = d.sz) (hsz : 0 < d.sz) (hb0 : 0 < bytes)
    {w0 : World} {base : Nat} {I J : Nat → Prop} {v : Value} {xs : List α} {y : α} {cs : List Value} (HO : Rep.Own d e base I w0 v xs) (HK : d.K J w0 y cs) (hI : ∀ k, J k → k < w0.heap.size → I k ∧ some k ≠ v.ownBlock) (hbase : base ≤ w0.heap.size) (hl : (xs.length + 1) * bytes ≤ 140737488355328) :
    ∃ A1 c1 w1, (Builtin.append_ #[t, t] ty #[v, .slice (some ⟨w0.heap.size, 0, none⟩) 1 1]).run P (w0.alloc (.cells cs.toArray e)) = .ok (.slice A1 (xs.length + 1) c1) w1 ∧ Rep.Grown d e base I w0 v w1 A1 c1 (xs ++ [y]) := by
  have hlt : ∀ k, v.ownBlock = some k → k < w0.heap.size := fun k hk => (HO.block_lt k hk).2
  obtain ⟨v1, w1, hr, hown, hg, hat⟩ := Rep.run_appendV (d := d) t ty e z bytes ht hinfo hzs hsz hb0 (W := w0.alloc (.cells cs.toArray e)) (base := base) (I := I) (J := fun k => J k ∧ k < w0.heap.size) (v := v) (xs := xs) (ys := [y]) (A := some ⟨w0.heap.size, 0, none⟩) (c := 1)
    (HO.alloc _) (Rep.rowV_box e (d.move (J := fun k => J k ∧ k < w0.heap.size) (fun k hk hl => ⟨⟨hk, hl⟩, rfl⟩) HK)) (fun k hk _ => (hI k hk.1 hk.2).2) (fun h => by cases h) (by simp; omega) (by simpa using hl)
  obtain ⟨A1, c1, rfl, hl1, hn1⟩ := hown.len_form
  have hL : (xs ++ [y]).length = xs.length + 1 := by simp
  rw [hL] at hown hl1 hat hr
  exact ⟨A1, c1, w1, hr, by rw [hL]; exact hown.mono fun k hk _ _ => hk.elim id (fun h => (hI k h.1 h.2).1), by rw [hL]; exact hl1, hn1, (Fr.alloc (Fr.refl _ w0) _).grown hg (fun k hk => .inl hk), by rw [hL]; exact hat.imp id fun h => ⟨_, h, by simp⟩⟩
section
variable {a : Act} {w w' : World} {Q : Exit → Act → World → Prop} {dst : Option Tmp} {ty : TypeId} {pos : String} {after : Array Edge} {gd : Option (Nat × Bool)} {K : Act → World → Prop}
theorem wp_value {o : Oper} {v : Value} (hr : (execOp a.eval o).run P w = .ok (.value v) w') (h : K (a.put o.dst v) w') : Oper.wp P o a w K Q := by
  unfold Oper.wp
  rw [hr]
  exact h
theorem wp_skip {o : Oper} (hr : (execOp a.eval o).run P w = .ok .skip w') (h : K (a.put o.dst undef) w') : Oper.wp P o a w K Q := by
  unfold Oper.wp
  rw [hr]
  exact h
/-- One more element, in a region that draws. -/
theorem wp_push1 {α : Type} (d : Rep α) {s x : Operand} (t e : TypeId) (z : Value) (bytes : Nat) (ht : P.underlying t = some (.slice e)) (hinfo : (P.info? e).map (fun i => (i.zero, i.size, i.bytes)) = some (some z, d.sz, bytes)) (hzs : z.cells.size = d.sz) (hsz : 0 < d.sz) (hb0 : 0 < bytes)
    {w0 : World} (base : Nat) (I J : Nat → Prop) (v : Value) (xs : List α) (y : α) (cs : List Value) (g : Nat) (hg : w0.heap.size = g) (hs : a.eval s = v) (hx : a.eval x = .slice (some ⟨g, 0, none⟩) 1 1) (HO : Rep.Own d e base I w0 v xs) (HK : d.K J w0 y cs) (hI : ∀ k, J k → k < w0.heap.size → I k ∧ some k ≠ v.ownBlock) (hbase : base ≤ w0.heap.size) (hl : (xs.length + 1) * bytes ≤ 140737488355328)
    (hw : w = w0.alloc (.cells cs.toArray e))
    (h : ∀ A1 c1 w1, Rep.Grown d e base I w0 v w1 A1 c1 (xs ++ [y]) → K (a.put dst (.slice A1 (xs.length + 1) c1)) w1) : Oper.wp P ⟨dst, .call { callee := .builtin .append, args := #[s, x], argTypes := #[t, t] }, ty, pos, after, gd⟩ a w K Q := by
  subst hg hw
  obtain ⟨A1, c1, w1, hr, G⟩ := run_push t ty e z bytes ht hinfo hzs hsz hb0 HO HK hI hbase hl
  unfold Oper.wp execOp
  simp only [resolve, invoke, builtin, Sem.run_bind, Sem.run_pure, Result.andThen_ok, List.map_toArray, List.map_cons, List.map_nil, hs, hx, hr]
  exact h A1 c1 w1 G
/-- A literal of one struct. -/
theorem wp_box1 {t e : TypeId} {x : Operand} {C : Array Value} (hu : P.underlying t = some (.slice e)) (hx : a.eval x = .agg C) (hf : P.builtSlice e 1 [(0, .agg C)] = some C) (g : Nat) (hg : w.heap.size = g)
    (h : K (a.put dst (.slice (some ⟨g, 0, none⟩) 1 1)) (w.alloc (.cells C e))) : Oper.wp P ⟨dst, .buildSlice t 1 #[(0, x)], ty, pos, after, gd⟩ a w K Q := by
  subst hg
  unfold Program.builtSlice at hf
  cases hie : P.info? e with
  | none => simp [hie] at hf
  | some ie =>
    simp only [hie] at hf
    cases hz : ie.zero with
    | none => simp [hz] at hf
    | some z =>
      simp only [hz] at hf
      by_cases hc : 1 * ie.size > 2 ^ 24 ∨ 1 * ie.size = 0
      · rw [if_pos hc] at hf; cases hf
      · rw [if_neg hc] at hf
        exact wp_buildSlice t e 1 #[(0, x)] rfl C ie z hu hie hz (fun h' => hc (Or.inl h')) (fun h' => hc (Or.inr h')) (by simpa [hx] using hf) h
theorem wpl_box1 {ops : Array Oper} {rest : List Oper} {t e : TypeId} {x : Operand} {C : Array Value} (hu : P.underlying t = some (.slice e)) (hx : a.eval x = .agg C) (hf : P.builtSlice e 1 [(0, .agg C)] = some C) (hw : Region.wanted ⟨dst, .buildSlice t 1 #[(0, x)], ty, pos, after, gd⟩ (yielded ops a.tmps) = true)
    (h : wpList P ops Q rest (a.put dst (.slice (some ⟨w.heap.size, 0, none⟩) 1 1)) (w.alloc (.cells C e))) : wpList P ops Q (⟨dst, .buildSlice t 1 #[(0, x)], ty, pos, after, gd⟩ :: rest) a w := by
  refine wpList_step fun K hK => ?_
  rw [if_pos hw]
  exact wp_box1 hu hx hf _ rfl (hK _ _ h)
/-- A struct that lies in a block: its load is taken first. -/
theorem ylh {ops : Array Oper} {x : Operand} {b n : Nat} {T T' : TypeId} {C : Array Value} {S : World → Prop} (hT : IsStruct P T n) (hx : a.eval x = .pointer (some ⟨b, 0, none⟩)) (hb : ∀ w, S w → w.heap[b]? = some (.cells C T' (0, 0))) (hs : C.size = n) (hw : Region.wanted ⟨dst, .load T x, ty, pos, after, gd⟩ (yielded ops a.tmps) = true) : YieldsIf P ops S ⟨dst, .load T x, ty, pos, after, gd⟩ (.agg C) a :=
  .inl ⟨hw, fun w hS => by
    unfold execOp
    simp only [hx, Sem.run_bind, load_run hT (hb w hS) hs, Result.andThen_ok, Sem.run_pure]⟩
/-- A map's element is set. -/
theorem wp_update {k e t : TypeId} {m x y : Operand} {b n : Nat} {f : Int → Option Value} (hm : a.eval m = .map (some b)) (i : Int) (v : Value) (hx : a.eval x = .int .i64 i) (hy : a.eval y = v) (h : MapI.MapAt P k w b n f) (hk : P.underlying k = some (.int .i64)) (ht : P.underlying t = some (.map k e)) (hn : n < maxLen) (hi : (Lit.int .i64 i).wf = true)
    (hK : ∀ w', MapI.MapAt P k w' b (n + 1) (fun j => if j = i then some v else f j) → Fr (fun x => x = b) w w' → K (a.put dst undef) w') : Oper.wp P ⟨dst, .mapUpdate t m x y, ty, pos, after, gd⟩ a w K Q := by
  obtain ⟨w', hrun, r1, r2⟩ := h.update hk ht hn i hi v
  unfold Oper.wp execOp
  simp only [hm, hx, hy, Sem.run_bind, hrun, Result.andThen_ok, Sem.run_pure]
  exact hK w' r1 r2
end
end
section
variable {w0 w w' : World} {B mb db : Nat} {v : Value} {X l : List QE} {had : List Int}
theorem QU.fr (h : QU w0 w B mb db v X l had) {M : Nat → Prop} (hf : Fr M w w') (hM : ∀ k, M k → w0.heap.size ≤ k) : Below w0.heap.size w0 w' :=
  ⟨hf.os.trans h.bel.os, hf.tape.trans h.bel.tape, hf.output.trans h.bel.output, Nat.le_trans h.bel.size hf.size, fun k hk => (hf.block k (Nat.lt_of_lt_of_le hk h.bel.size) (fun hm => by have := hM k hm; omega)).trans (h.bel.block k hk)⟩
theorem QU.ownMove (h : QU w0 w B mb db v X l had) {M : Nat → Prop} (hf : Fr M w w') (hM : ∀ k, M k → w0.heap.size ≤ k) (hv : ∀ k, v.ownBlock = some k → ¬ M k) : QO 70 w0 w' v X :=
  ⟨h.own.own.move (fun k hk => hf.block k (h.own.own.block_lt k hk).2 (hv k hk)) (fun k hk _ hlt => ⟨hk, hf.block k hlt (fun hm => by have := hM k hm; omega)⟩), h.fr hf hM⟩
theorem QU.drew (h : QU w0 w B mb db v X l had) : QU w0 w.drew B mb db v X l had := h.below ⟨rfl, rfl, rfl, Nat.le_refl _, fun _ _ => rfl⟩
/-- One more entry by its name. -/
theorem QU.put (h : QU w0 w B mb db v X l had) (e : QE) (hf : Fr (fun x => x = mb) w w') (hm : MapI.MapAt Try.prog 3 w' mb (l.length + 1) (entries (l ++ [e]))) : QU w0 w' B mb db v X (l ++ [e]) had :=
  ⟨(hf.block B h.lt h.sep.1).trans h.blk, h.ownMove hf (fun k hk => by subst hk; exact h.lm) (fun k hk => (h.off k hk).2.1), by rw [List.length_append, List.length_singleton]; exact hm, h.dn.fr hf (fun e => h.sep.2.2 e.symm), h.lB, h.lm, h.ld, h.sep, h.off⟩
theorem QU.same (h : QU w0 w B mb db v X l had) (e : QE) (hs : entries l = entries (l ++ [e])) : QU w0 w B mb db v X (l ++ [e]) had :=
  ⟨h.blk, h.own, by rw [List.length_append, List.length_singleton, ← hs]; exact h.by_.mono (by omega), h.dn, h.lB, h.lm, h.ld, h.sep, h.off⟩
/-- One more name that is delivered. -/
theorem QU.cnt (h : QU w0 w B mb db v X l had) (i : Int) (hf : Fr (fun x => x = db) w w') (hm : MapI.MapAt Try.prog 3 w' db (had.length + 1) (counts (had ++ [i]))) : QU w0 w' B mb db v X l (had ++ [i]) :=
  ⟨(hf.block B h.lt h.sep.2.1).trans h.blk, h.ownMove hf (fun k hk => by subst hk; exact h.ld) (fun k hk => (h.off k hk).2.2), h.by_.fr hf h.sep.2.2, by rw [List.length_append, List.length_singleton]; exact hm, h.lB, h.lm, h.ld, h.sep, h.off⟩
/-- One more entry in the row. -/
theorem QU.push (h : QU w0 w B mb db v X l had) {w1 : World} {A1 : Option Addr} {c1 : Nat} {Y : List QE} (G : Rep.Grown qeRep 70 w0.heap.size (fun k => k < w0.heap.size) w v w1 A1 c1 Y) : QU w0 (w1.setCell ⟨B, 0, none⟩ (.slice A1 Y.length c1)) B mb db (.slice A1 Y.length c1) Y l had := by
  have hB1 : w1.heap[B]? = some (.cells #[v, .map (some mb), .map (some db)] 163 (0, 0)) := (G.fr.block B h.lt (fun e => (h.off B e).1 rfl)).trans h.blk
  have hlt := h.lt
  have hmlt := h.by_.lt
  have hdlt := h.dn.lt
  have hmB1 := h.by_.fr G.fr (fun e => (h.off mb e).2.1 rfl)
  have hdB1 := h.dn.fr G.fr (fun e => (h.off db e).2.2 rfl)
  have hoff : ∀ k, (Value.slice A1 Y.length c1).ownBlock = some k → k ≠ B ∧ k ≠ mb ∧ k ≠ db := fun k hk => by
    rcases G.at_ with e | ⟨m, e, hm⟩
    · exact h.off k (by rw [← e]; exact hk)
    · rw [e] at hk
      cases hk
      exact ⟨by omega, by omega, by omega⟩
  have hb1 : Below w0.heap.size w0 w1 := h.bel.trans (G.below (fun k hk => (h.own.own.block_lt k hk).1) h.bel.size)
  have hset := setCell_eq_setRow w1 B 0 _ _ (0, 0) (.slice A1 Y.length c1) hB1
  have hfr : Fr (fun k => k = B) w1 (w1.setCell ⟨B, 0, none⟩ (.slice A1 Y.length c1)) := by rw [hset]; exact fr_setRow _ _ _
  refine ⟨?_, ⟨?_, ?_⟩, hmB1.fr hfr (fun e => h.sep.1 e.symm), hdB1.fr hfr (fun e => h.sep.2.1 e.symm), h.lB, h.lm, h.ld, h.sep, hoff⟩
  · rw [hset]
    exact setRow_heap w1 B _ _ _ (0, 0) hB1
  · exact G.own.move (fun k hk => hfr.block k (G.own.block_lt k hk).2 (hoff k hk).1) (fun k hk _ hlt2 => ⟨hk, hfr.block k hlt2 (fun e => by have := h.lB; subst e; omega)⟩)
  · exact ⟨hfr.os.trans hb1.os, hfr.tape.trans hb1.tape, hfr.output.trans hb1.output, Nat.le_trans hb1.size hfr.size, fun k hk => (hfr.block k (Nat.lt_of_lt_of_le hk hb1.size) (fun e => by have := h.lB; subst e; omega)).trans (hb1.block k hk)⟩
end
end Go.Proofs.Ytebhclgnpnlekaa.Ord
