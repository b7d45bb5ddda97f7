/- Rows of entries, as they lie there. No condition. -/
import Derived.Test.YtebhclgnpnlekaaOrdLaw
import Derived.Test.YtebhclgnpnlekaaEntRd
import Derived.Test.YtebhclgnpnlekaaAgg2
import Derived.Test.YtebhclgnpnlekaaPr1
import Derived.Test.YtebhclgnpnlekaaMapI
import Derived.Great.Walk
import Derived.StillTailTactics
import Derived.Deep.Cut
namespace Go.Proofs.Ytebhclgnpnlekaa.Ord
open Go.RowKit Go.Proofs.Ytebhclgnpnlekaa.B Go.Proofs.Ytebhclgnpnlekaa.Cmd Go.Proofs.Ytebhclgnpnlekaa.Agg Go.Proofs.Ytebhclgnpnlekaa.Ent
/-- What is known of an entry that lies there. -/
structure QF (I : Nat → Prop) (w : World) (x : QE) : Prop where
  c : x.er.c.wf
  t : (Lit.int .i64 x.er.v.t).wf = true
  len : x.er.v.n = x.ps.length
  row : Rep.Row cmdRep I w x.er.v.A x.ps
theorem QF.move {I J : Nat → Prop} {w w1 : World} {x : QE} (hm : ∀ k, I k → k < w.heap.size → J k ∧ w1.heap[k]? = w.heap[k]?) (h : QF I w x) : QF J w1 x := ⟨h.c, h.t, h.len, h.row.move hm⟩
theorem QF.below {I : Nat → Prop} {w w1 : World} {x : QE} (h : QF I w x) (hb : Below w.heap.size w w1) : QF I w1 x := ⟨h.c, h.t, h.len, h.row.below hb⟩
def qeRep : Rep QE where
  sz := 19
  K I w x cs := cs = x.er.cells.toList ∧ QF I w x
  len h := by rw [h.1]; rfl
  one h := by rw [h.1]; exact ER.ones _
  move hm h := ⟨h.1, h.2.move hm⟩
theorem opens_qe : Rep.Opens Try.prog qeRep 70 :=
  ⟨EntRd.opens_ent.1, fun H enc W fuel cs x h => by
    obtain ⟨a, ha⟩ := EntRd.opens_ent.2 H enc W fuel cs x h
    obtain ⟨e, lf, la, lw, hcs, hE⟩ := EntRd.ent_read (cs := cs.toArray) (by simpa using ha)
    exact ⟨⟨e, lw⟩, by rw [← hcs], hE.c, hE.v.wf, hE.v.len, hE.v.row⟩⟩
/-- An entry that lies at an address. -/
def QAt (w : World) (p : Addr) (x : QE) : Prop := ∀ (j : Nat) (u : Value), x.er.cells[j]? = some u → w.cell? (p.add j) = some u
theorem QAt.below {b : Nat} {w w1 : World} {p : Addr} {x : QE} (h : QAt w p x) (hb : Below b w w1) (hp : p.block < b) : QAt w1 p x := fun j u hu => (below_cell hb (by rw [Rep.add_block]; exact hp)).trans (h j u hu)
theorem row_qe {I : Nat → Prop} {w : World} {A : Option Addr} {xs : List QE} (h : Rep.Row qeRep I w A xs) (i : Nat) (hi : i < xs.length) : ∃ ad p, A = some ad ∧ ad.add (i * 19) = p ∧ p.block < w.heap.size ∧ QAt w p xs[i] ∧ QF I w xs[i] := by
  obtain ⟨ad, cs, e, _, hlt, ⟨rfl, hq⟩, hc⟩ := h.at i hi
  refine ⟨ad, _, e, rfl, by rw [Rep.add_block]; exact hlt, fun j u hu => ?_, hq⟩
  rw [Rep.add_add]
  exact hc j u (by simpa using hu)
/-- A row of entries of the call's own. -/
structure QO (T : TypeId) (w0 w : World) (v : Value) (xs : List QE) : Prop where
  own : Rep.Own qeRep T w0.heap.size (fun k => k < w0.heap.size) w v xs
  bel : Below w0.heap.size w0 w
theorem QO.nil (T : TypeId) (w0 : World) : QO T w0 w0 (.slice none 0 0) [] := ⟨Rep.Own.nil _ _ _ _ _, Below.refl _ _⟩
theorem QO.below {T : TypeId} {w0 w w' : World} {v : Value} {xs : List QE} (h : QO T w0 w v xs) (hb : Below w.heap.size w w') : QO T w0 w' v xs := ⟨h.own.below hb, h.bel.trans (hb.mono h.bel.size)⟩
theorem QO.form {T : TypeId} {w0 w : World} {v : Value} {xs : List QE} (h : QO T w0 w v xs) : ∃ A c, v = .slice A xs.length c ∧ xs.length ≤ c ∧ (A = none → c = 0) := h.own.len_form
section
variable {P : Program} {ops : Array Oper} {rest : List Oper} {a : Act} {Q : Exit → Act → World → Prop} {dst : Option Tmp} {T ty : TypeId} {pos : String} {after : Array Edge} {gd : Option (Nat × Bool)} {x : Operand} {n : Nat} {w : World}
/-- A struct that lies at an address. -/
theorem loadO_run {p : Addr} {cs : Array Value} (hT : IsStruct P T n) (hs : cs.size = n) (hc : ∀ (j : Nat) (v : Value), cs[j]? = some v → w.cell? (p.add j) = some v) : (Instr.loadAt T (.pointer (some p))).run P w = .ok (.agg cs) w := by
  obtain ⟨d, hu, hd⟩ := hT.und'
  have hl : (loadCells p n).run P w = .ok cs w := by
    have := run_loadCells_list (P := P) w p cs.toList (fun j v hv => hc j v (by simpa using hv))
    simpa [hs] using this
  cases hq : P.info? T with
  | none => have := hT.size; simp [hq] at this
  | some i =>
    have hsz : i.size = n := by have := hT.size; simpa [hq] using this
    have hagg : (isAgg T).run P w = .ok true w := by
      unfold isAgg
      rw [Sem.run_bind, run_underlying hu w]
      cases d <;> simp_all
    simp [Instr.loadAt, Instr.sureAddr, loadVar, Sem.run_bind, hagg, sizeOf, typeInfo, hq, hsz, hl]
theorem wpl_loadO {p : Addr} {cs : Array Value} (hT : IsStruct P T n) (hx : a.eval x = .pointer (some p)) (hs : cs.size = n) (hc : ∀ (j : Nat) (v : Value), cs[j]? = some v → w.cell? (p.add j) = some v) (hw : Region.wanted ⟨dst, .load T x, ty, pos, after, gd⟩ (yielded ops a.tmps) = true)
    (h : wpList P ops Q rest (a.put dst (.agg cs)) w) : wpList P ops Q (⟨dst, .load T x, ty, pos, after, gd⟩ :: rest) a w := by
  refine wpList_step fun K hK => ?_
  rw [if_pos hw]
  unfold Oper.wp execOp
  simp only [hx, Sem.run_bind, loadO_run hT hs hc, Result.andThen_ok, Sem.run_pure]
  exact hK _ _ h
end
theorem built_qe (e : ER) : Try.prog.builtSlice 70 1 [(0, .agg e.cells)] = some e.cells := by kernel_rfl
theorem built_qd (e : ER) : Try.prog.builtSlice 75 1 [(0, .agg e.cells)] = some e.cells := by kernel_rfl
theorem info_qe : (Try.prog.info? 70).map (fun i => (i.zero, i.size, i.bytes)) = some (some (.agg noER.cells), 19, 192) := by kernel_rfl
theorem info_qd : (Try.prog.info? 75).map (fun i => (i.zero, i.size, i.bytes)) = some (some (.agg noER.cells), 19, 192) := by kernel_rfl
theorem noER_sz : (Value.agg noER.cells).cells.size = qeRep.sz := rfl
theorem qe_sz0 : 0 < qeRep.sz := by decide
theorem zero_run (w : World) : (zeroValue 70).run Try.prog w = .ok (.agg noER.cells) w := by
  have h := zeroE
  cases hq : Try.prog.info? 70 with
  | none => simp [hq] at h
  | some i =>
    have : i.zero = some (.agg noER.cells) := by simpa [hq] using h
    simp [zeroValue, typeInfo, hq, this]
theorem zeroI_run (w : World) : (zeroValue 3).run Try.prog w = .ok (.int .i64 0) w := by
  have h : (Try.prog.info? 3).map (fun i => i.zero) = some (some (.int .i64 0)) := by kernel_rfl
  cases hq : Try.prog.info? 3 with
  | none => simp [hq] at h
  | some i =>
    have : i.zero = some (.int .i64 0) := by simpa [hq] using h
    simp [zeroValue, typeInfo, hq, this]
/-- The queue: what lies in its block and its maps. -/
structure QU (w0 w : World) (B mb db : Nat) (v : Value) (X l : List QE) (had : List Int) : Prop where
  blk : w.heap[B]? = some (.cells #[v, .map (some mb), .map (some db)] 163 (0, 0))
  own : QO 70 w0 w v X
  by_ : MapI.MapAt Try.prog 3 w mb l.length (entries l)
  dn : MapI.MapAt Try.prog 3 w db had.length (counts had)
  lB : w0.heap.size ≤ B
  lm : w0.heap.size ≤ mb
  ld : w0.heap.size ≤ db
  sep : B ≠ mb ∧ B ≠ db ∧ mb ≠ db
  off : ∀ k, v.ownBlock = some k → k ≠ B ∧ k ≠ mb ∧ k ≠ db
section
variable {w0 w w' : World} {B mb db : Nat} {v : Value} {X l : List QE} {had : List Int}
theorem QU.bel (h : QU w0 w B mb db v X l had) : Below w0.heap.size w0 w := h.own.bel
theorem QU.lt (h : QU w0 w B mb db v X l had) : B < w.heap.size := (Array.getElem?_eq_some_iff.1 h.blk).1
theorem QU.below (h : QU w0 w B mb db v X l had) (hb : Below w.heap.size w w') : QU w0 w' B mb db v X l had :=
  ⟨(hb.block B h.lt).trans h.blk, h.own.below hb, h.by_.below hb, h.dn.below hb, h.lB, h.lm, h.ld, h.sep, h.off⟩
theorem QU.cells (h : QU w0 w B mb db v X l had) : w.cell? ⟨B, 0, none⟩ = some v ∧ w.cell? ⟨B, 1, none⟩ = some (.map (some mb)) ∧ w.cell? ⟨B, 2, none⟩ = some (.map (some db)) := by
  refine ⟨?_, ?_, ?_⟩ <;> rw [cell_of_row w B _ _ _ (0, 0) h.blk] <;> rfl
theorem QU.fz (h : QU w0 w B mb db v X l had) (k : Nat) : w.frozen? ⟨B, k, none⟩ = false := by simp [World.frozen?, h.blk]
theorem QU.look (h : QU w0 w B mb db v X l had) (i : Int) (hi : (Lit.int .i64 i).wf = true) : (Instr.lookup 160 (.map (some mb)) (.int .i64 i) true).run Try.prog w = .ok (.tuple #[(entries l i).getD (.agg noER.cells), .bool (entries l i).isSome]) w :=
  h.by_.look Try.underlying3 Try.underlying160 (zero_run w) i hi
theorem QU.count (h : QU w0 w B mb db v X l had) (i : Int) (hi : (Lit.int .i64 i).wf = true) : (Instr.lookup 161 (.map (some db)) (.int .i64 i) false).run Try.prog w = .ok (.int .i64 (had.count i : Nat)) w := by
  rw [h.dn.look1 Try.underlying3 Try.underlying161 (zeroI_run w) i hi, counts_get]
end
end Go.Proofs.Ytebhclgnpnlekaa.Ord
