/- Law 17's alive, by its walk. -/
import Derived.Test.YtebhclgnpnlekaaOrdF
import Derived.Test.YtebhclgnpnlekaaOrdG
namespace Go.Proofs.Ytebhclgnpnlekaa.Ord
open Go.RowKit Go.Proofs.Ytebhclgnpnlekaa.B Go.Proofs.Ytebhclgnpnlekaa.Cmd Go.Proofs.Ytebhclgnpnlekaa.Agg Go.Proofs.Ytebhclgnpnlekaa.Ent
open Go.Proofs.Ytebhclgnpnlekaa.Pr (CO arr arr_size arr_one isC zeroC IO info_i)
def ca : CmdD := ⟨16, 1, 0, 17, 0, 0, 0⟩
def cb : CmdD := ⟨17, 1, 0, 16, 0, 0, 0⟩
def e1 (g3 : Nat) : ER := ⟨ca, 0, 0, 0, noVR, 0, noVR, false, true, ⟨48, some ⟨g3, 0, none⟩, 1, 1⟩⟩
def e2 (g4 : Nat) : ER := ⟨cb, 0, 0, 0, noVR, 0, noVR, false, true, ⟨33, some ⟨g4, 0, none⟩, 1, 1⟩⟩
def q1 (g3 : Nat) : QE := ⟨e1 g3, [cb]⟩
def q2 (g4 : Nat) : QE := ⟨e2 g4, [ca]⟩
theorem al_all (g3 g4 : Nat) : cmds (allS [q1 g3, q2 g4] []) = [cb, ca] := by kernel_rfl
theorem al_next (g3 g4 : Nat) : nextS [q1 g3, q2 g4] [17] = some (q1 g3) := by kernel_rfl
theorem al_waits (g3 : Nat) : waitsS [q1 g3] [] = [16] := by kernel_rfl
theorem built_c1 (c : CmdD) : Try.prog.builtSlice 45 1 [(0, .agg (arr c))] = some (arr c) := by kernel_rfl
theorem built_e2 (a b : ER) : Try.prog.builtSlice 70 2 [(0, .agg a.cells), (1, .agg b.cells)] = some (a.cells ++ b.cells) := by kernel_rfl
section
variable {P : Program} {ops : Array Oper} {rest : List Oper} {a : Act} {w0 w : World} {Q : Exit → Act → World → Prop} {dst : Option Tmp} {ty : TypeId} {pos : String} {after : Array Edge} {l : List (Nat × TypeId × Array Value)}
/-- A literal of one struct, of two, in a block of its own. -/
theorem wpl_boxB {t e : TypeId} {x : Operand} {C : Array Value} (hu : P.underlying t = some (.slice e)) (hx : a.eval x = .agg C) (hf : P.builtSlice e 1 [(0, .agg C)] = some C) (hB : Bs w0 w l) (hw : Region.wanted ⟨dst, .buildSlice t 1 #[(0, x)], ty, pos, after, none⟩ (yielded ops a.tmps) = true)
    (h : ∀ w' g', Bs w0 w' (l ++ [(g', e, C)]) → wpList P ops Q rest (a.put dst (.slice (some ⟨g', 0, none⟩) 1 1)) w') : wpList P ops Q (⟨dst, .buildSlice t 1 #[(0, x)], ty, pos, after, none⟩ :: rest) a w :=
  wpl_box1 hu hx hf hw (h _ _ (hB.alloc C e))
theorem wpl_boxB2 {t e : TypeId} {x y : Operand} {C D E : Array Value} (hu : P.underlying t = some (.slice e)) (hx : a.eval x = .agg C) (hy : a.eval y = .agg D) (hf : P.builtSlice e 2 [(0, .agg C), (1, .agg D)] = some E) (hB : Bs w0 w l) (hw : Region.wanted ⟨dst, .buildSlice t 2 #[(0, x), (1, y)], ty, pos, after, none⟩ (yielded ops a.tmps) = true)
    (h : ∀ w' g', Bs w0 w' (l ++ [(g', e, E)]) → wpList P ops Q rest (a.put dst (.slice (some ⟨g', 0, none⟩) 2 2)) w') : wpList P ops Q (⟨dst, .buildSlice t 2 #[(0, x), (1, y)], ty, pos, after, none⟩ :: rest) a w :=
  Great.wpList_buildSliceTo rfl t e 2 #[(0, x), (1, y)] rfl w.heap.size rfl dst rfl hu E (by simpa [hx, hy] using hf) (h _ _ (hB.alloc E e))
end
/-- A row of one command, out of its block. -/
theorem row_c1 {w0 w : World} {l : List (Nat × TypeId × Array Value)} {b : Nat} {T : TypeId} {c : CmdD} (hB : Bs w0 w l) (i : Nat) (hi : l[i]? = some (b, T, arr c)) (hw : c.wf) : Rep.Row cmdRep (fun _ => True) w (some ⟨b, 0, none⟩) [c] := by
  refine ⟨by simp [maxLen], fun _ => ⟨_, rfl, trivial, hB.lt i hi, fun k x hk => ?_⟩⟩
  have hk0 : k = 0 := by have := (List.getElem?_eq_some_iff.1 hk).1; simpa using this
  subst hk0
  have hx : c = x := by simpa using hk
  subst hx
  refine ⟨(arr c).toList, ⟨rfl, hw⟩, fun j u hu => ?_⟩
  have e1 : (⟨b, 0, none⟩ : Addr).add (0 * cmdRep.sz + j) = ⟨b, j, none⟩ := by
    unfold Addr.add
    split <;> simp_all
  rw [e1, hB.cell i hi j]
  simpa using hu
theorem qe_row {w0 w : World} {l : List (Nat × TypeId × Array Value)} {b : Nat} {T : TypeId} {C : Array Value} (hB : Bs w0 w l) (i : Nat) (hi : l[i]? = some (b, T, C)) (xs : List QE) (hm : xs.length ≤ maxLen) (h : ∀ k x, xs[k]? = some x → (∀ j u, x.er.cells[j]? = some u → C[k * 19 + j]? = some u) ∧ QF (fun _ => True) w x) : Rep.Row qeRep (fun _ => True) w (some ⟨b, 0, none⟩) xs := by
  refine ⟨hm, fun _ => ⟨_, rfl, trivial, hB.lt i hi, fun k x hk => ?_⟩⟩
  obtain ⟨h1, h2⟩ := h k x hk
  refine ⟨x.er.cells.toList, ⟨rfl, h2⟩, fun j u hu => ?_⟩
  have e1 : (⟨b, 0, none⟩ : Addr).add (k * qeRep.sz + j) = ⟨b, k * 19 + j, none⟩ := by
    show (⟨b, 0, none⟩ : Addr).add (k * 19 + j) = _
    unfold Addr.add
    split <;> simp_all
  rw [e1, hB.cell i hi]
  exact h1 j u (by simpa using hu)
theorem wf_ca : ca.wf := ⟨by decide, by decide, by decide, by decide, by decide, by decide, by decide⟩
theorem wf_cb : cb.wf := ⟨by decide, by decide, by decide, by decide, by decide, by decide, by decide⟩
theorem row_int1 (w : World) (x : Int) (T : TypeId) (hw : (Lit.int .i64 x).wf = true) : Rep.Row (Rep.int .i64) (fun k => True ∨ k = w.heap.size) (w.alloc (.cells #[.int .i64 x] T)) (some ⟨w.heap.size, 0, none⟩) [x] :=
  Rep.row_box (d := Rep.int .i64) (I := fun _ => True) (x := x) (cs := [.int .i64 x]) T ⟨rfl, hw⟩
theorem co_cells {w0 w : World} {b c n : Nat} {xs : List CmdD} (h : CO w0 w (.slice (some ⟨b, 0, none⟩) n c) xs) (i : Nat) (hi : i < xs.length) (j : Nat) (u : Value) (hu : (arr xs[i])[j]? = some u) : w.cell? ⟨b, i * 7 + j, none⟩ = some u := by
  obtain ⟨ad, cs, e, _, _, ⟨rfl, _⟩, hc⟩ := h.own.row.at i hi
  cases e
  have := hc j u (by simpa using hu)
  have e1 : (⟨b, 0, none⟩ : Addr).add (i * cmdRep.sz + j) = ⟨b, i * 7 + j, none⟩ := by
    show (⟨b, 0, none⟩ : Addr).add (i * 7 + j) = _
    unfold Addr.add
    split <;> simp_all
  rw [← e1]
  exact this
set_option maxHeartbeats 8000000 in
set_option maxRecDepth 100000 in
theorem alive_calls (w : World) : Calls Try.prog 62 #[] w fun r w' => r = .returned (.bool true) ∧ Hold (Below w.heap.size w w') := by
  have hB := Bs.nil w
  go_enter Try.func62, Try.ntmps62
  go_upto_region 2 with (first
    | (with_reducible refine gateA 45 ?_; refine wpl_alloc zeroC hB rfl ?_; intro W1 ga hB; simp only [List.nil_append] at hB)
    | (with_reducible refine gateS 45 ?_; refine wpl_store (C' := arr ca) isC rfl rfl hB 0 rfl (arr_size _) (arr_size _) (arr_one _) rfl ?_; intro W1 hB; simp only [List.set] at hB))
  go_upto_region 3 with (first
    | (with_reducible refine gateA 45 ?_; refine wpl_alloc zeroC hB rfl ?_; intro W2 gb hB; simp only [List.cons_append, List.nil_append] at hB)
    | (with_reducible refine gateS 45 ?_; refine wpl_store (C' := arr cb) isC rfl rfl hB 1 rfl (arr_size _) (arr_size _) (arr_one _) rfl ?_; intro W2 hB; simp only [List.set] at hB))
  go_upto_region 4 with (first
    | (with_reducible refine gateL 45 ?_; refine wpl_load isC rfl hB 0 rfl (arr_size _) rfl ?_)
    | (with_reducible refine gateL 45 ?_; refine wpl_load isC rfl hB 1 rfl (arr_size _) rfl ?_)
    | (with_reducible refine gateB 23 ?_; refine wpl_boxB Try.underlying23 rfl (built_c1 cb) hB rfl ?_; intro W3 g3 hB; simp only [List.cons_append, List.nil_append] at hB)
    | (with_reducible refine gateB 23 ?_; refine wpl_boxB Try.underlying23 rfl (built_c1 ca) hB rfl ?_; intro W4 g4 hB; simp only [List.cons_append, List.nil_append] at hB)
    | (with_reducible refine gateB 90 ?_; refine wpl_boxB2 Try.underlying90 (C := (e1 g3).cells) (D := (e2 g4).cells) rfl rfl (built_e2 _ _) hB rfl ?_; intro W5 g5 hB; simp only [List.cons_append, List.nil_append] at hB))
  have hF1 : QF (fun _ => True) W5 (q1 g3) := ⟨wf_ca, (by decide : (Lit.int .i64 48).wf = true), rfl, row_c1 hB 2 rfl wf_cb⟩
  have hF2 : QF (fun _ => True) W5 (q2 g4) := ⟨wf_cb, (by decide : (Lit.int .i64 33).wf = true), rfl, row_c1 hB 3 rfl wf_ca⟩
  have hRow : Rep.Row qeRep (fun _ => True) W5 (some ⟨g5, 0, none⟩) [q1 g3, q2 g4] := qe_row hB 4 rfl _ (by simp [maxLen]) (fun k x hk => by
    rcases k with _ | _ | k
    · have hx : q1 g3 = x := by simpa using hk
      subst hx
      refine ⟨fun j u hu => ?_, hF1⟩
      have hj : j < (e1 g3).cells.size := (Array.getElem?_eq_some_iff.1 hu).1
      rw [Nat.zero_mul, Nat.zero_add, Array.getElem?_append_left hj]
      exact hu
    · have hx : q2 g4 = x := by simpa using hk
      subst hx
      refine ⟨fun j u hu => ?_, hF2⟩
      have hs : (e1 g3).cells.size = 19 := rfl
      rw [Array.getElem?_append_right (by omega), hs]
      have : (0 + 1) * 19 + j - 19 = j := by omega
      rw [this]
      exact hu
    · simp at hk)
  have HAll : Hold (Calls Try.prog 66 #[.slice (some ⟨g5, 0, none⟩) 2 2, .slice none 0 0] W5 fun r w' => ∃ b c, r = .returned (.slice (some ⟨b, 0, none⟩) 2 c) ∧ Hold (CO W5 w' (.slice (some ⟨b, 0, none⟩) 2 c) [cb, ca])) := ⟨by
    refine (orderAll_calls (some ⟨g5, 0, none⟩) none 2 0 2 0 [q1 g3, q2 g4] [] _ (fun _ => True) W5 rfl rfl hRow (Rep.Row.nil _ _ _ _) (by simp) (by simp)).mono ?_
    rintro r w' ⟨v, rfl, HC⟩
    rw [al_all] at HC
    obtain ⟨b, c, rfl, _⟩ := HC.out.own.form_pos (by decide)
    exact ⟨b, c, rfl, HC⟩⟩
  have HNext : Hold (∀ W, Below W5.heap.size W5 W → Calls Try.prog 64 #[.slice (some ⟨g5, 0, none⟩) 2 2, .slice (some ⟨W.heap.size, 0, none⟩) 1 1] (W.alloc (.cells #[.int .i64 17] 3)) fun r w' => r = .returned (.tuple #[.agg (arr ca), .bool true]) ∧ Hold (Below W.heap.size W w')) := ⟨fun W hW => by
    have hal : Below W.heap.size W (W.alloc (.cells #[.int .i64 17] 3)) := (Below.refl _ _).alloc (Nat.le_refl _) _
    refine (orderNext_calls (some ⟨g5, 0, none⟩) (some ⟨W.heap.size, 0, none⟩) 2 1 2 1 [q1 g3, q2 g4] [17] _ _ _ rfl rfl ((hRow.below hW).below hal) (row_int1 W 17 3 (by decide)) (by simp) (by simp)).mono ?_
    rintro r w' ⟨rfl, HB⟩
    rw [al_next]
    exact ⟨rfl, ⟨hal.trans (HB.out.mono hal.size)⟩⟩⟩
  have HWaits : Hold (∀ W, Below W5.heap.size W5 W → Calls Try.prog 68 #[.slice (some ⟨g5, 0, none⟩) 1 2, .slice none 0 0] W fun r w' => ∃ b c, r = .returned (.slice (some ⟨b, 0, none⟩) 1 c) ∧ w'.cell? ⟨b, 0, none⟩ = some (.int .i64 16) ∧ Hold (Below W.heap.size W w')) := ⟨fun W hW => by
    refine (orderWaits_calls (some ⟨g5, 0, none⟩) none 2 0 1 0 [q1 g3] [] _ (fun _ => True) W rfl rfl ((hRow.below hW).take 1) (Rep.Row.nil _ _ _ _) (by simp) (by simp)).mono ?_
    rintro r w' ⟨v, rfl, HC⟩
    rw [al_waits] at HC
    obtain ⟨b, c, rfl, _⟩ := HC.out.own.form_pos (by decide)
    obtain ⟨ad, cs, e, _, _, ⟨rfl, _⟩, hc⟩ := HC.out.own.row.at 0 (by decide)
    cases e
    exact ⟨b, c, rfl, hc 0 _ rfl, ⟨HC.out.bel⟩⟩⟩
  have HB5 := Hold.mk hB
  clear hB hF1 hF2 hRow
  go_upto_region 7 with (first
    | (go_at_call 66; with_reducible refine HAll.out.mono ?_; rintro r w6 ⟨b6, c6, rfl, HC⟩; have h6 := HC.out.bel)
    | (go_at_call 64; with_reducible refine (HNext.out w6 h6).mono ?_; rintro r w7 ⟨rfl, HB7⟩; have hD := (Bs.nil w6).step HB7.out)
    | (with_reducible refine gateA 45 ?_; refine wpl_alloc zeroC hD rfl ?_; intro W8 g7 hD; simp only [List.nil_append] at hD)
    | (with_reducible refine gateS 45 ?_; refine wpl_store (C' := arr ca) isC rfl rfl hD 0 rfl (arr_size _) (arr_size _) (arr_one _) rfl ?_; intro W8 hD; simp only [List.set] at hD)
    | (go_at_call 68; with_reducible refine (HWaits.out W8 (h6.trans (hD.below.mono h6.size))).mono ?_; rintro r W9 ⟨b8, c8, rfl, fw, HB9⟩))
  have hb9 : Below w6.heap.size w6 W9 := hD.below.trans (HB9.out.mono hD.below.size)
  have hB := HB5.out.step (h6.trans (hb9.mono h6.size))
  have hE := hD.step HB9.out
  have HBel := Hold.mk hB.below
  have fa0 : W9.cell? ⟨ga, 0, none⟩ = some (.int .i64 16) := hB.cell 0 rfl 0
  have fa1 : W9.cell? ⟨ga, 1, none⟩ = some (.int .i64 1) := hB.cell 0 rfl 1
  have fa2 : W9.cell? ⟨ga, 2, none⟩ = some (.int .i64 0) := hB.cell 0 rfl 2
  have fa3 : W9.cell? ⟨ga, 3, none⟩ = some (.int .i64 17) := hB.cell 0 rfl 3
  have fa4 : W9.cell? ⟨ga, 4, none⟩ = some (.int .i64 0) := hB.cell 0 rfl 4
  have fa5 : W9.cell? ⟨ga, 5, none⟩ = some (.int .i64 0) := hB.cell 0 rfl 5
  have fa6 : W9.cell? ⟨ga, 6, none⟩ = some (.int .i64 0) := hB.cell 0 rfl 6
  have fb0 : W9.cell? ⟨gb, 0, none⟩ = some (.int .i64 17) := hB.cell 1 rfl 0
  have fb1 : W9.cell? ⟨gb, 1, none⟩ = some (.int .i64 1) := hB.cell 1 rfl 1
  have fb2 : W9.cell? ⟨gb, 2, none⟩ = some (.int .i64 0) := hB.cell 1 rfl 2
  have fb3 : W9.cell? ⟨gb, 3, none⟩ = some (.int .i64 16) := hB.cell 1 rfl 3
  have fb4 : W9.cell? ⟨gb, 4, none⟩ = some (.int .i64 0) := hB.cell 1 rfl 4
  have fb5 : W9.cell? ⟨gb, 5, none⟩ = some (.int .i64 0) := hB.cell 1 rfl 5
  have fb6 : W9.cell? ⟨gb, 6, none⟩ = some (.int .i64 0) := hB.cell 1 rfl 6
  have fc0 : W9.cell? ⟨g7, 0, none⟩ = some (.int .i64 16) := hE.cell 0 rfl 0
  have fc1 : W9.cell? ⟨g7, 1, none⟩ = some (.int .i64 1) := hE.cell 0 rfl 1
  have fc2 : W9.cell? ⟨g7, 2, none⟩ = some (.int .i64 0) := hE.cell 0 rfl 2
  have fc3 : W9.cell? ⟨g7, 3, none⟩ = some (.int .i64 17) := hE.cell 0 rfl 3
  have fc4 : W9.cell? ⟨g7, 4, none⟩ = some (.int .i64 0) := hE.cell 0 rfl 4
  have fc5 : W9.cell? ⟨g7, 5, none⟩ = some (.int .i64 0) := hE.cell 0 rfl 5
  have fc6 : W9.cell? ⟨g7, 6, none⟩ = some (.int .i64 0) := hE.cell 0 rfl 6
  have fd0 : W9.cell? ⟨b6, 0, none⟩ = some (.int .i64 17) := co_cells (HC.out.below hb9) 0 (by decide) 0 _ rfl
  have fd1 : W9.cell? ⟨b6, 1, none⟩ = some (.int .i64 1) := co_cells (HC.out.below hb9) 0 (by decide) 1 _ rfl
  have fd2 : W9.cell? ⟨b6, 2, none⟩ = some (.int .i64 0) := co_cells (HC.out.below hb9) 0 (by decide) 2 _ rfl
  have fd3 : W9.cell? ⟨b6, 3, none⟩ = some (.int .i64 16) := co_cells (HC.out.below hb9) 0 (by decide) 3 _ rfl
  have fd4 : W9.cell? ⟨b6, 4, none⟩ = some (.int .i64 0) := co_cells (HC.out.below hb9) 0 (by decide) 4 _ rfl
  have fd5 : W9.cell? ⟨b6, 5, none⟩ = some (.int .i64 0) := co_cells (HC.out.below hb9) 0 (by decide) 5 _ rfl
  have fd6 : W9.cell? ⟨b6, 6, none⟩ = some (.int .i64 0) := co_cells (HC.out.below hb9) 0 (by decide) 6 _ rfl
  clear hB hE hD HB5 HC h6 HB7 hb9 HB9
  go_quiet (fail)
  go_wp2
  go_ret
  exact ⟨rfl, ⟨HBel.out.trans ((below_drewN _ _).mono HBel.out.size)⟩⟩
end Go.Proofs.Ytebhclgnpnlekaa.Ord
