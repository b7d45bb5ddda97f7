/- Regions that draw their order, with more than one operation that may come up; structs in old memory. No condition. -/
import Derived.Test.YtebhclgnpnlekaaAgg
namespace Go.Proofs.Ytebhclgnpnlekaa.Agg
open Go.RowKit Go.Proofs.Ytebhclgnpnlekaa.B
variable {P : Program} {ops : Array Oper} {rest : List Oper} {a : Act} {w0 w : World} {Q : Exit → Act → World → Prop} {dst : Option Tmp} {T T' ty : TypeId} {pos : String} {after : Array Edge} {gd : Option (Nat × Bool)} {x y : Operand} {b n i o : Nat} {C C' : Array Value} {l : List (Nat × TypeId × Array Value)}
/-- One of those that may come up. -/
theorem rg_cons {md : Region.Mode} {S : World → Prop} {fuel : Nat} {listed : Array Bool} {rs : List Nat} (i : Nat) (dst : Option Tmp) (op : Op) (L : Array Bool) (hL : listed.setIfInBounds i true = L) (ho : ops[i]? = some ⟨dst, op, ty, pos, after, gd⟩) (hw : Region.wanted ⟨dst, op, ty, pos, after, gd⟩ (yielded ops a.tmps) = true)
    (h : ∀ K' : Act → World → Prop, Hold (∀ a' w', S w' → wpAnyH P md ops Q S fuel L a' w' → K' a' w') → Oper.wp P ⟨dst, op, ty, pos, after, gd⟩ a w K' Q) (hs : AllReadyH P md ops Q S fuel listed a w rs) : AllReadyH P md ops Q S fuel listed a w (i :: rs) :=
  AllReadyH.cons (o := ⟨dst, op, ty, pos, after, gd⟩) ho (fun K' hK => by
    rw [if_pos hw]
    exact h K' ⟨fun a' w' hS hW => hK.out a' w' hS (fun _ => by rw [hL]; exact hW)⟩) hs
theorem gateL (T : TypeId) (h : wpList P ops Q (⟨dst, .load T x, ty, pos, after, none⟩ :: rest) a w) : wpList P ops Q (⟨dst, .load T x, ty, pos, after, none⟩ :: rest) a w := h
theorem gateG (T : TypeId) {k : Nat × Bool} (h : wpList P ops Q (⟨dst, .load T x, ty, pos, after, some k⟩ :: rest) a w) : wpList P ops Q (⟨dst, .load T x, ty, pos, after, some k⟩ :: rest) a w := h
theorem gateS (T : TypeId) (h : wpList P ops Q (⟨dst, .store T x y, ty, pos, after, none⟩ :: rest) a w) : wpList P ops Q (⟨dst, .store T x y, ty, pos, after, none⟩ :: rest) a w := h
theorem gateA (T : TypeId) (h : wpList P ops Q (⟨dst, .alloc T, ty, pos, after, none⟩ :: rest) a w) : wpList P ops Q (⟨dst, .alloc T, ty, pos, after, none⟩ :: rest) a w := h
/-- A load of a whole struct, behind its guard. -/
theorem wp_load (hT : IsStruct P T n) (hx : a.eval x = .pointer (some ⟨b, 0, none⟩)) (hB : Bs w0 w l) (i : Nat) (hi : l[i]? = some (b, T', C)) (hs : C.size = n) {K : Act → World → Prop}
    (h : K (a.put dst (.agg C)) w) : Oper.wp P ⟨dst, .load T x, ty, pos, after, gd⟩ a w K Q := by
  unfold Oper.wp execOp
  simp only [hx, Sem.run_bind, load_run hT (hB.at_ i b T' C hi).1 hs, Result.andThen_ok, Sem.run_pure]
  exact h
/-- A load out of the middle, behind its guard. -/
theorem wp_loadF {V : Array Value} (hT : IsStruct P T n) (hx : a.eval x = .pointer (some ⟨b, o, none⟩)) (hB : Bs w0 w l) (i : Nat) (hi : l[i]? = some (b, T', C)) (hs : V.size = n) (hC : (C.toList.drop o).take n = V.toList) {K : Act → World → Prop}
    (h : K (a.put dst (.agg V)) w) : Oper.wp P ⟨dst, .load T x, ty, pos, after, gd⟩ a w K Q := by
  obtain ⟨d, hu, hd⟩ := hT.und'
  have hb := (hB.at_ i b T' C hi).1
  have hl := run_loadAt_mid (P := P) w b o T V.toList d (fun j v hv => by
    rw [cell_of_row w b (o + j) C T' (0, 0) hb]
    rw [← hC] at hv
    have hj : j < n := by
      have := (List.getElem?_eq_some_iff.1 hv).1
      rw [List.length_take] at this; omega
    rw [List.getElem?_take, if_pos hj, List.getElem?_drop] at hv
    simpa using hv) hu hd (by rw [hT.size]; simp [hs])
  simp only [Array.toArray_toList] at hl
  unfold Oper.wp execOp
  simp only [hx, Sem.run_bind, hl, Result.andThen_ok, Sem.run_pure]
  exact h
/-- What follows, said once for all ways there. -/
theorem share {M L : World → Nat → Nat → Prop} {G : Prop} (rest : ∀ W a b, L W a b → M W a b) (main : Hold (∀ W a b, L W a b → M W a b) → G) : G := main ⟨rest⟩
/-- A struct that lay there before the call. -/
theorem yl_old {S : World → Prop} {p : Addr} {cs : Array Value} (hT : IsStruct P T n) (hx : a.eval x = .pointer (some p)) (hs : cs.size = n) (hc : ∀ w', S w' → ∀ j v, cs[j]? = some v → w'.cell? (p.add j) = some v) (hw : Region.wanted ⟨dst, .load T x, ty, pos, after, gd⟩ (yielded ops a.tmps) = true) : YieldsIf P ops S ⟨dst, .load T x, ty, pos, after, gd⟩ (.agg cs) a :=
  .inl ⟨hw, fun w hS => by
    obtain ⟨d, hu, hd⟩ := hT.und'
    have hl : (loadCells p n).run P w = .ok cs w := by
      have := run_loadCells_list (P := P) w p cs.toList (fun j v hv => hc w hS j v (by simpa using hv))
      simpa [hs] using this
    have hv : (loadVar T p).run P w = .ok (.agg cs) w := by
      cases hq : P.info? T with
      | none => have := hT.size; simp [hq] at this
      | some i =>
        have hsz : i.size = n := by have := hT.size; simpa [hq] using this
        have hagg : (isAgg T).run P w = .ok true w := by
          unfold isAgg
          rw [Sem.run_bind, run_underlying hu w]
          cases d <;> simp_all
        simp [loadVar, Sem.run_bind, hagg, sizeOf, typeInfo, hq, hsz, hl]
    unfold execOp
    simp only [hx, Sem.run_bind, Instr.loadAt, Instr.sureAddr, Sem.run_pure, Result.andThen_ok, hv]⟩
theorem below_cell {b : Nat} {w w' : World} (h : Below b w w') {p : Addr} (hp : p.block < b) : w'.cell? p = w.cell? p := World.cell?_of_block (h.block _ hp)
end Go.Proofs.Ytebhclgnpnlekaa.Agg
