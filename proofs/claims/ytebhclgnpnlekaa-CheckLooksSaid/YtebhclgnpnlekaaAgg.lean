/- Structs of many fields, by value: a block of the call's own is read and written whole, whatever its cells are. No condition. -/
import Derived.Test.YtebhclgnpnlekaaB
import Derived.Deep.MidRow
import Derived.Laws.CopyRow
import Derived.Deep.RegionHeldLaw
namespace Go.Proofs.Ytebhclgnpnlekaa.Agg
open Go.RowKit Go.Proofs.Ytebhclgnpnlekaa.B
variable {P : Program}

/-- A struct's type, of n cells. -/
structure IsStruct (P : Program) (T : TypeId) (n : Nat) : Prop where
  mk :: (und : (match P.underlying T with | some (.struct _) => true | _ => false) = true) (size : (P.info? T).map (·.size) = some n)
theorem IsStruct.und' {T : TypeId} {n : Nat} (h : IsStruct P T n) : ∃ d, P.underlying T = some d ∧ d.isRow = true := by
  have := h.und
  split at this
  · rename_i fs e; exact ⟨_, e, rfl⟩
  · exact absurd this (by simp)

/-- What lies in the blocks that a call has made for itself, one behind the other. -/
structure Bs (w0 w : World) (l : List (Nat × TypeId × Array Value)) : Prop where
  below : Below w0.heap.size w0 w
  at_ : ∀ (i b : Nat) (T : TypeId) (C : Array Value), l[i]? = some (b, T, C) → w.heap[b]? = some (.cells C T (0, 0)) ∧ w0.heap.size ≤ b
  ne : ∀ (i j : Nat) (x y : Nat × TypeId × Array Value), l[i]? = some x → l[j]? = some y → x.1 = y.1 → i = j
theorem Bs.nil (w : World) : Bs w w [] := ⟨Below.refl _ _, fun i b T C h => by simp at h, fun i j x y h => by simp at h⟩
section
variable {w0 w w' : World} {l : List (Nat × TypeId × Array Value)} {i b : Nat} {T : TypeId} {C C' : Array Value}
theorem Bs.cell (h : Bs w0 w l) (i : Nat) (hi : l[i]? = some (b, T, C)) (k : Nat) : w.cell? ⟨b, k, none⟩ = C[k]? := by
  rw [cell_of_row w b k C T (0, 0) (h.at_ i b T C hi).1]
theorem Bs.fz (h : Bs w0 w l) (i : Nat) (hi : l[i]? = some (b, T, C)) (k : Nat) : w.frozen? ⟨b, k, none⟩ = false := by
  simp [World.frozen?, (h.at_ i b T C hi).1]
theorem Bs.lt (h : Bs w0 w l) (i : Nat) (hi : l[i]? = some (b, T, C)) : b < w.heap.size := (Array.getElem?_eq_some_iff.1 (h.at_ i b T C hi).1).1
theorem Bs.step (h : Bs w0 w l) (hb : Below w.heap.size w w') : Bs w0 w' l :=
  ⟨h.below.trans (hb.mono h.below.size), fun i b T C hi => ⟨(hb.block b (h.lt i hi)).trans (h.at_ i b T C hi).1, (h.at_ i b T C hi).2⟩, h.ne⟩
theorem Bs.put (h : Bs w0 w l) (hi : l[i]? = some (b, T, C)) (hf : Fr (fun k => k = b) w w') (hn : w'.heap[b]? = some (.cells C' T (0, 0))) : Bs w0 w' (l.set i (b, T, C')) := by
  have hil : i < l.length := (List.getElem?_eq_some_iff.1 hi).1
  have hb0 := (h.at_ i b T C hi).2
  refine ⟨?_, fun j c T' D hj => ?_, fun j k x y hj hk e => ?_⟩
  · exact ⟨hf.os.trans h.below.os, hf.tape.trans h.below.tape, hf.output.trans h.below.output, Nat.le_trans h.below.size hf.size, fun k hk => (hf.block k (Nat.lt_of_lt_of_le hk h.below.size) (by omega)).trans (h.below.block k hk)⟩
  · rw [List.getElem?_set] at hj
    by_cases e : i = j
    · subst e
      rw [if_pos rfl, if_pos hil] at hj
      cases hj
      exact ⟨hn, hb0⟩
    · rw [if_neg e] at hj
      have hj' := h.at_ j c T' D hj
      refine ⟨(hf.block c (h.lt j hj) (fun ec => e ?_)).trans hj'.1, hj'.2⟩
      exact (h.ne j i _ _ hj hi ec).symm
  · have key : ∀ (m : Nat) (z : Nat × TypeId × Array Value), (l.set i (b, T, C'))[m]? = some z → ∃ z', l[m]? = some z' ∧ z'.1 = z.1 := by
      intro m z hm
      rw [List.getElem?_set] at hm
      by_cases e : i = m
      · subst e
        rw [if_pos rfl, if_pos hil] at hm
        cases hm
        exact ⟨_, hi, rfl⟩
      · rw [if_neg e] at hm; exact ⟨z, hm, rfl⟩
    obtain ⟨x', hx, ex⟩ := key j x hj
    obtain ⟨y', hy, ey⟩ := key k y hk
    exact h.ne j k x' y' hx hy (by rw [ex, ey, e])
theorem Bs.alloc (h : Bs w0 w l) (C : Array Value) (T : TypeId) : Bs w0 (w.alloc (.cells C T)) (l ++ [(w.heap.size, T, C)]) := by
  refine ⟨h.below.alloc h.below.size _, fun i b T' D hi => ?_, fun i j x y hi hj e => ?_⟩
  · rw [List.getElem?_append] at hi
    split at hi
    · have := h.at_ i b T' D hi
      exact ⟨(Below.heap_alloc w _ b (h.lt i hi)).trans this.1, this.2⟩
    · rw [List.getElem?_singleton] at hi
      split at hi
      · cases hi; exact ⟨Array.getElem?_push_size .., h.below.size⟩
      · cases hi
  · have key : ∀ (m : Nat) (z : Nat × TypeId × Array Value), (l ++ [(w.heap.size, T, C)])[m]? = some z → (l[m]? = some z ∧ z.1 < w.heap.size) ∨ (m = l.length ∧ z.1 = w.heap.size) := by
      intro m z hm
      rw [List.getElem?_append] at hm
      split at hm
      · left; obtain ⟨b, T', D⟩ := z; exact ⟨hm, h.lt m hm⟩
      · right
        rw [List.getElem?_singleton] at hm
        split at hm
        · cases hm; exact ⟨by omega, rfl⟩
        · cases hm
    rcases key i x hi with ⟨h1, h2⟩ | ⟨h1, h2⟩ <;> rcases key j y hj with ⟨h3, h4⟩ | ⟨h3, h4⟩
    · exact h.ne i j x y h1 h3 e
    · omega
    · omega
    · omega
theorem Bs.drew (h : Bs w0 w l) : Bs w0 w.drew l := h.step ⟨rfl, rfl, rfl, Nat.le_refl _, fun _ _ => rfl⟩
theorem Bs.drewN (h : Bs w0 w l) (n : Nat) : Bs w0 (w.drewN n) l := h.step (below_drewN _ _)
theorem Bs.set (h : Bs w0 w l) (i : Nat) (hi : l[i]? = some (b, T, C)) (o : Nat) (u : Value) (hC : C.setIfInBounds o u = C') : Bs w0 (w.setCell ⟨b, o, none⟩ u) (l.set i (b, T, C')) := by
  have hb := (h.at_ i b T C hi).1
  rw [setCell_eq_setRow w b o C T (0, 0) u hb, hC]
  refine h.put hi ⟨rfl, rfl, rfl, by simp [World.setRow], fun k hk hn => ?_⟩ (setRow_heap w b C C' T (0, 0) hb)
  simp only [World.setRow]
  rw [Array.getElem?_modify, if_neg (fun e => hn e.symm)]
end

/-! ### The operations -/
section
variable {ops : Array Oper} {rest : List Oper} {a : Act} {w0 w : World} {Q : Exit → Act → World → Prop} {dst : Option Tmp} {T T' ty : TypeId} {pos : String} {after : Array Edge} {gd : Option (Nat × Bool)} {x y : Operand} {b n i o : Nat} {C C' : Array Value} {l : List (Nat × TypeId × Array Value)}
theorem load_run (hT : IsStruct P T n) (hb : w.heap[b]? = some (.cells C T' (0, 0))) (hs : C.size = n) : (Instr.loadAt T (.pointer (some ⟨b, 0, none⟩))).run P w = .ok (.agg C) w := by
  obtain ⟨d, hu, hd⟩ := hT.und'
  have := run_loadAt_mid (P := P) w b 0 T C.toList d (fun j v hv => by rw [cell_of_row w b (0 + j) C T' (0, 0) hb]; simpa using hv) hu hd (by rw [hT.size]; simp [hs])
  simpa using this
theorem store_run (hT : IsStruct P T n) (hb : w.heap[b]? = some (.cells C T' (0, 0))) (hs : C.size = n) (hs' : C'.size = n) (h1 : C'.all (·.oneCell') = true) :
    (Instr.storeAt T (.pointer (some ⟨b, 0, none⟩)) (.agg C')).run P w = .ok () (w.setRow b C') := by
  simp only [Instr.storeAt, Instr.sureAddr, Sem.run_bind, Sem.run_pure, Result.andThen]
  exact run_storeVar_row w b T' T C C' hb (by rw [hT.size, hs']) (by rw [hs, hs']) h1
theorem wpl_load (hT : IsStruct P T n) (hx : a.eval x = .pointer (some ⟨b, 0, none⟩)) (hB : Bs w0 w l) (i : Nat) (hi : l[i]? = some (b, T', C)) (hs : C.size = n) (hw : Region.wanted ⟨dst, .load T x, ty, pos, after, gd⟩ (yielded ops a.tmps) = true)
    (h : wpList P ops Q rest (a.put dst (.agg C)) w) : wpList P ops Q (⟨dst, .load T x, ty, pos, after, gd⟩ :: rest) a w := by
  refine wpList_step fun K hK => ?_
  rw [if_pos hw]
  unfold Oper.wp execOp
  simp only [hx, Sem.run_bind, load_run hT (hB.at_ i b T' C hi).1 hs, Result.andThen_ok, Sem.run_pure]
  exact hK _ _ h
theorem fr_setRow (w : World) (b : Nat) (C : Array Value) : Fr (fun k => k = b) w (w.setRow b C) := by
  refine ⟨rfl, rfl, rfl, by simp [World.setRow], fun k hk hn => ?_⟩
  simp only [World.setRow]
  rw [Array.getElem?_modify, if_neg (fun e => hn e.symm)]
theorem wpl_store (hT : IsStruct P T n) (hx : a.eval x = .pointer (some ⟨b, 0, none⟩)) (hy : a.eval y = .agg C') (hB : Bs w0 w l) (i : Nat) (hi : l[i]? = some (b, T', C)) (hs : C.size = n) (hs' : C'.size = n) (h1 : C'.all (·.oneCell') = true) (hw : Region.wanted ⟨dst, .store T x y, ty, pos, after, gd⟩ (yielded ops a.tmps) = true)
    (h : ∀ w', Bs w0 w' (l.set i (b, T', C')) → wpList P ops Q rest (a.put dst undef) w') : wpList P ops Q (⟨dst, .store T x y, ty, pos, after, gd⟩ :: rest) a w := by
  refine wpList_step fun K hK => ?_
  rw [if_pos hw]
  have hb := (hB.at_ i b T' C hi).1
  unfold Oper.wp execOp
  simp only [hx, hy, Sem.run_bind, store_run hT hb hs hs' h1, Result.andThen_ok, Sem.run_pure]
  exact hK _ _ (h _ (hB.put hi (fr_setRow w b C') (setRow_heap w b C C' T' (0, 0) hb)))
/-- Out of the middle. -/
theorem wpl_loadF {V : Array Value} (hT : IsStruct P T n) (hx : a.eval x = .pointer (some ⟨b, o, none⟩)) (hB : Bs w0 w l) (i : Nat) (hi : l[i]? = some (b, T', C)) (hs : V.size = n) (hC : (C.toList.drop o).take n = V.toList) (hw : Region.wanted ⟨dst, .load T x, ty, pos, after, gd⟩ (yielded ops a.tmps) = true)
    (h : wpList P ops Q rest (a.put dst (.agg V)) w) : wpList P ops Q (⟨dst, .load T x, ty, pos, after, gd⟩ :: rest) a w := by
  refine wpList_step fun K hK => ?_
  rw [if_pos hw]
  obtain ⟨d, hu, hd⟩ := hT.und'
  have hb := (hB.at_ i b T' C hi).1
  have hl := run_loadAt_mid (P := P) w b o T V.toList d (fun j v hv => by
    rw [cell_of_row w b (o + j) C T' (0, 0) hb]
    rw [← hC] at hv
    have hj : j < n := by
      have := (List.getElem?_eq_some_iff.1 hv).1
      rw [List.length_take] at this; omega
    rw [List.getElem?_take, if_pos hj, List.getElem?_drop] at hv
    simpa using hv) hu hd (by rw [hT.size]; simp [hs])
  simp only [Array.toArray_toList] at hl
  unfold Oper.wp execOp
  simp only [hx, Sem.run_bind, hl, Result.andThen_ok, Sem.run_pure]
  exact hK _ _ h
/-- A variable of its own. -/
theorem wpl_alloc {Z : Array Value} (hz : (P.info? T).map (fun i => i.zero) = some (some (.agg Z))) (hB : Bs w0 w l) (hw : Region.wanted ⟨dst, .alloc T, ty, pos, after, gd⟩ (yielded ops a.tmps) = true)
    (h : ∀ w' g', Bs w0 w' (l ++ [(g', T, Z)]) → wpList P ops Q rest (a.put dst (.pointer (some ⟨g', 0, none⟩))) w') : wpList P ops Q (⟨dst, .alloc T, ty, pos, after, gd⟩ :: rest) a w := by
  refine wpList_step fun K hK => ?_
  rw [if_pos hw]
  have hzv : (zeroValue T).run P w = .ok (.agg Z) w := by
    cases hq : P.info? T with
    | none => simp [hq] at hz
    | some i =>
      have : i.zero = some (.agg Z) := by simpa [hq] using hz
      simp [zeroValue, typeInfo, hq, this]
  have hal : (Instr.alloc T true (.tuple #[])).run P w = .ok (.pointer (some ⟨w.heap.size, 0, none⟩)) (w.alloc (.cells Z T)) := by
    simp [Instr.alloc, Sem.run_bind, hzv, newVar, newRow, newObj, Value.cells]
    rfl
  unfold Oper.wp execOp
  simp only [Sem.run_bind, hal, Result.andThen_ok, Sem.run_pure]
  exact hK _ _ (h _ _ (hB.alloc Z T))
/-- Into the middle. -/
theorem wpl_storeF {m : Nat} {v : Value} {V : Array Value} (hT : (P.info? T).map (·.size) = some m) (hx : a.eval x = .pointer (some ⟨b, o, none⟩)) (hy : a.eval y = v) (hv : v.cells = V) (hB : Bs w0 w l) (i : Nat) (hi : l[i]? = some (b, T', C)) (hV : V.size = m) (hs : o + m ≤ C.size) (h1 : ∀ u ∈ V.toList, u.oneCell' = true) (hC : (C.toList.take o ++ V.toList ++ C.toList.drop (o + m)).toArray = C') (hw : Region.wanted ⟨dst, .store T x y, ty, pos, after, gd⟩ (yielded ops a.tmps) = true)
    (h : ∀ w', Bs w0 w' (l.set i (b, T', C')) → wpList P ops Q rest (a.put dst undef) w') : wpList P ops Q (⟨dst, .store T x y, ty, pos, after, gd⟩ :: rest) a w := by
  refine wpList_step fun K hK => ?_
  rw [if_pos hw]
  have hb := (hB.at_ i b T' C hi).1
  have hst := run_storeCells_at (P := P) b o T' V.toList 0 C w hb (by simp; omega) h1
  have hvl : V.toList.length = m := by simpa using hV
  rw [hvl, Nat.add_zero, hC] at hst
  have hst2 : (storeVar T ⟨b, o, none⟩ v).run P w = .ok () (w.setRow b C') := by
    cases hq : P.info? T with
    | none => simp [hq] at hT
    | some inf =>
      have hsz : inf.size = m := by simpa [hq] using hT
      simp [storeVar, sizeOf, typeInfo, hq, hv, hV, hsz, hst]
  unfold Oper.wp execOp
  simp only [hx, hy, Sem.run_bind, Instr.storeAt, Instr.sureAddr, Sem.run_pure, hst2, Result.andThen_ok]
  exact hK _ _ (h _ (hB.put hi (fr_setRow w b C') (setRow_heap w b C C' T' (0, 0) hb)))
/-! ### Regions that draw their order -/
/-- A load that is taken first. -/
theorem yl (hT : IsStruct P T n) (hx : a.eval x = .pointer (some ⟨b, 0, none⟩)) (i : Nat) (hi : l[i]? = some (b, T', C)) (hs : C.size = n) (hw : Region.wanted ⟨dst, .load T x, ty, pos, after, gd⟩ (yielded ops a.tmps) = true) : YieldsIf P ops (fun w' => Bs w0 w' l) ⟨dst, .load T x, ty, pos, after, gd⟩ (.agg C) a :=
  .inl ⟨hw, fun w hB => by
    unfold execOp
    simp only [hx, Sem.run_bind, load_run hT (hB.at_ i b T' C hi).1 hs, Result.andThen_ok, Sem.run_pure]⟩
theorem shutIn {A B : Prop} (h : Hold A → B) : Shut A → B := fun hs => h ⟨hs⟩
theorem wanted_then {c : Bool} {A B : Prop} (h : c = true) (hA : A) : if c = true then A else B := by rw [if_pos h]; exact hA
theorem rg_start {S : World → Prop} {id : Nat} (n : Nat) (L : Array Bool) (hm : P.follows .mixedOrders = true) (hn : ops.size = n) (hL : Array.replicate n false = L) (hS : S w.drew) (h : wpAnyH P .any ops Q S n L a w.drew) : (Code.region id ops true).wp P Q a w :=
  wp_region_held_drew hm hS (fun _ => by rw [hn, hL]; exact h)
/-- One that is taken first. -/
theorem rg_take {md : Region.Mode} {S : World → Prop} {fuel : Nat} {listed : Array Bool} (i d : Nat) (op : Op) (v : Value) (L : Array Bool) (hL : listed.setIfInBounds i true = L) (ho : ops[i]? = some ⟨some d, op, ty, pos, after, gd⟩)
    (hs : Region.noSelect ops = true) (hf : Region.free md ops listed i = true) (hr : (Region.ready md ops listed).contains i = true)
    (hQ : ∀ c a w, Q (.panic c) (a.put (some d) v) w → Q (.panic c) a w) (hy : YieldsIf P ops S ⟨some d, op, ty, pos, after, gd⟩ v a) (hS : S w)
    (h : wpAnyH P md ops Q S fuel L ⟨a.tmps.setIfInBounds d v, a.defers⟩ w) : wpAnyH P md ops Q S (fuel + 1) listed a w :=
  wpAnyH_take (i := i) (oi := ⟨some d, op, ty, pos, after, gd⟩) (v := v) ho hs hf hr hQ hy hS (by rw [hL]; exact h)
/-- The one operation that may come up. -/
theorem rg_one {md : Region.Mode} {S : World → Prop} {fuel : Nat} {listed : Array Bool} (i : Nat) (dst : Option Tmp) (op : Op) (L : Array Bool) (hL : listed.setIfInBounds i true = L) (hr : Region.ready md ops listed = [i]) (ho : ops[i]? = some ⟨dst, op, ty, pos, after, gd⟩) (hw : Region.wanted ⟨dst, op, ty, pos, after, gd⟩ (yielded ops a.tmps) = true)
    (h : ∀ K' : Act → World → Prop, Hold (∀ a' w', S w' → wpAnyH P md ops Q S fuel L a' w' → K' a' w') → Oper.wp P ⟨dst, op, ty, pos, after, gd⟩ a w K' Q) : wpAnyH P md ops Q S (fuel + 1) listed a w :=
  wpAnyH_ready hr (by simp) (AllReadyH.cons (o := ⟨dst, op, ty, pos, after, gd⟩) ho (fun K' hK => by
    rw [if_pos hw]
    exact h K' ⟨fun a' w' hS hW => hK.out a' w' hS (fun _ => by rw [hL]; exact hW)⟩) AllReadyH.nil)
/-- A store of a whole struct. -/
theorem wp_store (hT : IsStruct P T n) (hx : a.eval x = .pointer (some ⟨b, 0, none⟩)) (hy : a.eval y = .agg C') (hB : Bs w0 w l) (i : Nat) (hi : l[i]? = some (b, T', C)) (hs : C.size = n) (hs' : C'.size = n) (h1 : C'.all (·.oneCell') = true) {K : Act → World → Prop}
    (h : ∀ w', Bs w0 w' (l.set i (b, T', C')) → K (a.put dst undef) w') : Oper.wp P ⟨dst, .store T x y, ty, pos, after, gd⟩ a w K Q := by
  have hb := (hB.at_ i b T' C hi).1
  unfold Oper.wp execOp
  simp only [hx, hy, Sem.run_bind, store_run hT hb hs hs' h1, Result.andThen_ok, Sem.run_pure]
  exact h _ (hB.put hi (fr_setRow w b C') (setRow_heap w b C C' T' (0, 0) hb))
/-- A variable of its own. -/
theorem wp_alloc {Z : Array Value} (hz : (P.info? T).map (fun i => i.zero) = some (some (.agg Z))) (hB : Bs w0 w l) {K : Act → World → Prop}
    (h : ∀ w' g', Bs w0 w' (l ++ [(g', T, Z)]) → K (a.put dst (.pointer (some ⟨g', 0, none⟩))) w') : Oper.wp P ⟨dst, .alloc T, ty, pos, after, gd⟩ a w K Q := by
  have hzv : (zeroValue T).run P w = .ok (.agg Z) w := by
    cases hq : P.info? T with
    | none => simp [hq] at hz
    | some i =>
      have : i.zero = some (.agg Z) := by simpa [hq] using hz
      simp [zeroValue, typeInfo, hq, this]
  have hal : (Instr.alloc T true (.tuple #[])).run P w = .ok (.pointer (some ⟨w.heap.size, 0, none⟩)) (w.alloc (.cells Z T)) := by
    simp [Instr.alloc, Sem.run_bind, hzv, newVar, newRow, newObj, Value.cells]
    rfl
  unfold Oper.wp execOp
  simp only [Sem.run_bind, hal, Result.andThen_ok, Sem.run_pure]
  exact h _ _ (hB.alloc Z T)
/-- Fewer blocks. -/
theorem Bs.sub {l' : List (Nat × TypeId × Array Value)} (hB : Bs w0 w l) (f : Nat → Nat) (hf : ∀ i x, l'[i]? = some x → l[f i]? = some x) (hi : ∀ i j, i < l'.length → j < l'.length → f i = f j → i = j) : Bs w0 w l' :=
  ⟨hB.below, fun i b T C h => hB.at_ (f i) b T C (hf i _ h), fun i j x y h1 h2 e => hi i j (List.getElem?_eq_some_iff.1 h1).1 (List.getElem?_eq_some_iff.1 h2).1 (hB.ne (f i) (f j) x y (hf i x h1) (hf j y h2) e)⟩
/-! ### What is returned -/
theorem res_two {fn : Func} {r j k : Nat} {tmps : Array Value} {v : Value} (hr : fn.results = #[.cell j T, .tmp k]) (h1 : tmps.getD j undef = .pointer (some ⟨r, 0, none⟩)) (h2 : tmps.getD k undef = v) (hT : IsStruct P T n) (hB : Bs w0 w l) (i : Nat) (hi : l[i]? = some (r, T', C)) (hs : C.size = n) :
    (results fn tmps).run P w = .ok (.tuple #[.agg C, v]) w := by
  obtain ⟨d, hu, hd⟩ := hT.und'
  have hl := run_loadVar_mid (P := P) w r 0 T C.toList d (fun j v hv => by rw [cell_of_row w r (0 + j) C T' (0, 0) (hB.at_ i r T' C hi).1]; simpa using hv) hu hd (by rw [hT.size]; simp [hs])
  simp only [Array.toArray_toList] at hl
  simp only [Array.getD_eq_getD_getElem?] at h1 h2
  simp [results, hr, h1, h2, asAddr, Sem.run_bind, hl]
theorem res_three {fn : Func} {r r' j j' k m : Nat} {tmps : Array Value} {v : Value} {T2 T2' : TypeId} {C2 : Array Value} (hr : fn.results = #[.cell j T, .cell j' T2, .tmp k]) (h1 : tmps.getD j undef = .pointer (some ⟨r, 0, none⟩)) (h1' : tmps.getD j' undef = .pointer (some ⟨r', 0, none⟩)) (h2 : tmps.getD k undef = v) (hT : IsStruct P T n) (hT2 : IsStruct P T2 m) (hB : Bs w0 w l) (i : Nat) (hi : l[i]? = some (r, T', C)) (hs : C.size = n) (i' : Nat) (hi' : l[i']? = some (r', T2', C2)) (hs' : C2.size = m) :
    (results fn tmps).run P w = .ok (.tuple #[.agg C, .agg C2, v]) w := by
  obtain ⟨d, hu, hd⟩ := hT.und'
  obtain ⟨d2, hu2, hd2⟩ := hT2.und'
  have hl := run_loadVar_mid (P := P) w r 0 T C.toList d (fun j v hv => by rw [cell_of_row w r (0 + j) C T' (0, 0) (hB.at_ i r T' C hi).1]; simpa using hv) hu hd (by rw [hT.size]; simp [hs])
  have hl2 := run_loadVar_mid (P := P) w r' 0 T2 C2.toList d2 (fun j v hv => by rw [cell_of_row w r' (0 + j) C2 T2' (0, 0) (hB.at_ i' r' T2' C2 hi').1]; simpa using hv) hu2 hd2 (by rw [hT2.size]; simp [hs'])
  simp only [Array.toArray_toList] at hl hl2
  simp only [Array.getD_eq_getD_getElem?] at h1 h1' h2
  simp [results, hr, h1, h1', h2, asAddr, Sem.run_bind, hl, hl2]
theorem res_one {fn : Func} {r j : Nat} {tmps : Array Value} (hr : fn.results = #[.cell j T]) (h1 : tmps.getD j undef = .pointer (some ⟨r, 0, none⟩)) (hT : IsStruct P T n) (hB : Bs w0 w l) (i : Nat) (hi : l[i]? = some (r, T', C)) (hs : C.size = n) :
    (results fn tmps).run P w = .ok (.agg C) w := by
  obtain ⟨d, hu, hd⟩ := hT.und'
  have hl := run_loadVar_mid (P := P) w r 0 T C.toList d (fun j v hv => by rw [cell_of_row w r (0 + j) C T' (0, 0) (hB.at_ i r T' C hi).1]; simpa using hv) hu hd (by rw [hT.size]; simp [hs])
  simp only [Array.toArray_toList] at hl
  simp only [Array.getD_eq_getD_getElem?] at h1
  simp [results, hr, h1, asAddr, Sem.run_bind, hl]
end
end Go.Proofs.Ytebhclgnpnlekaa.Agg
