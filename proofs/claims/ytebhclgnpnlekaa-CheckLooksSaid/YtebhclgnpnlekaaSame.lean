/- The document's Same and SameValue, by their walks, and Value at nil. -/
import Derived.Test.YtebhclgnpnlekaaRdValueRef
namespace Go.Proofs.Ytebhclgnpnlekaa.Rd
open Go.RowKit Go.Proofs.Ytebhclgnpnlekaa.B Go.Proofs.Ytebhclgnpnlekaa.Cmd
open Go.Proofs.Ytebhclgnpnlekaa.Preds (okSet)

set_option maxRecDepth 100000 in
theorem value_nil (w : World) : Calls Try.prog 29 #[.pointer none] w fun e w' => e = .returned (.agg #[.int .i64 0, .slice none 0 0]) ∧ Below w.heap.size w w' := by
  obtain ⟨b, hb⟩ : ∃ b, w.heap.size = b := ⟨_, rfl⟩
  obtain ⟨W, hW⟩ : ∃ W, (w.alloc (.cells #[.int .i64 0, .slice none 0 0] 34)).alloc (.cells #[.int .i64 0, .slice none 0 0] 34) = W := ⟨_, rfl⟩
  have hbel : Below w.heap.size w W := by rw [← hW]; exact ((Below.refl _ _).alloc (Nat.le_refl _) _).alloc (by simp) _
  have hz : W.heap[b]? = some (.cells #[.int .i64 0, .slice none 0 0] 34 (0, 0)) := by
    rw [← hW, ← hb]; show ((w.heap.push _).push _)[_]? = _; rw [Array.getElem?_push_lt (by simp)]; simp
  have HB := Hold.mk hbel
  have HZ := Hold.mk hz
  have HBb := Hold.mk hb
  have hlt := (Array.getElem?_eq_some_iff.1 hz).1
  have HLt := Hold.mk hlt
  have HRow : Hold (Rep.Row cmdRep (fun k => nob k ∨ (Value.slice none 0 0).ownBlock = some k) W none []) := ⟨(Rep.Own.nil cmdRep 45 0 nob W).row⟩
  have HW0 := Hold.mk hW
  clear hbel hz hlt hW hb
  go_enter Try.func29, Try.ntmps29
  go_wp2_with (first
    | (go_at_call 21; refine (num_nil _).mono ?_; rintro e w6 ⟨rfl, rfl⟩)
    | (go_at_call 26; refine (cmds_nil _).mono ?_; rintro e w6 ⟨rfl, rfl⟩))
  have hb := HBb.out
  rw [HW0.out, HBb.out]
  refine (Preds.right_calls none 0 0 [] _ W rfl HRow.out true (by decide)).mono ?_
  rintro e w4 ⟨rfl, HB4⟩
  have hz4 := (HB4.out.block b HLt.out).trans HZ.out
  have z0 : w4.cell? ⟨b, 0, none⟩ = some (.int .i64 0) := by simp [World.cell?, hz4]
  have z1 : w4.cell? ⟨b, 1, none⟩ = some (.slice none 0 0) := by simp [World.cell?, hz4]
  have fz : ∀ i, w4.frozen? ⟨b, i, none⟩ = false := fun i => by simp [World.frozen?, hz4]
  have HZ4 := Hold.mk hz4
  clear hz4
  go_wp2_with (go_at_call 32; refine (err_nil _).mono ?_; rintro e w6 ⟨rfl, rfl⟩)
  have hq := blk_set _ b 1 (.slice none 0 0) (blk_set w4 b 0 (.int .i64 0) HZ4.out)
  obtain ⟨W9, hW9⟩ : ∃ W, set2 w4 b (.int .i64 0) (.slice none 0 0) = W := ⟨_, rfl⟩
  have hfin : Below w.heap.size w W9 := by
    rw [← hW9]
    exact ((HB.out.trans (HB4.out.mono HB.out.size)).setCell (p := ⟨b, 0, none⟩) (by have := HBb.out; show _ ≤ b; omega) _).setCell (p := ⟨b, 1, none⟩) (by have := HBb.out; show _ ≤ b; omega) _
  have hW9' := hW9
  simp only [set2] at hW9' hq
  rw [hW9'] at hq ⊢
  have p0 : W9.cell? ⟨b, 0, none⟩ = some (.int .i64 0) := by simp [World.cell?, hq]
  have p1 : W9.cell? ⟨b, 1, none⟩ = some (.slice none 0 0) := by simp [World.cell?, hq]
  exact bodyPost_ret (v := .agg #[.int .i64 0, .slice none 0 0]) (by simp [results, Try.results29, go_sem, p0, p1]) rfl ⟨rfl, hfin⟩
theorem CmdD.first {x y : CmdD} (h : x ≠ y) : (x.id == y.id) = false ∨ ((x.id == y.id) = true ∧ (x.kind == y.kind) = false) ∨ ((x.id == y.id) = true ∧ (x.kind == y.kind) = true ∧ (x.sym == y.sym) = false) ∨ ((x.id == y.id) = true ∧ (x.kind == y.kind) = true ∧ (x.sym == y.sym) = true ∧ (x.tgt == y.tgt) = false) ∨ ((x.id == y.id) = true ∧ (x.kind == y.kind) = true ∧ (x.sym == y.sym) = true ∧ (x.tgt == y.tgt) = true ∧ (x.side == y.side) = false) ∨ ((x.id == y.id) = true ∧ (x.kind == y.kind) = true ∧ (x.sym == y.sym) = true ∧ (x.tgt == y.tgt) = true ∧ (x.side == y.side) = true ∧ (x.price == y.price) = false) ∨ ((x.id == y.id) = true ∧ (x.kind == y.kind) = true ∧ (x.sym == y.sym) = true ∧ (x.tgt == y.tgt) = true ∧ (x.side == y.side) = true ∧ (x.price == y.price) = true ∧ (x.qty == y.qty) = false) := by
  obtain ⟨a0, a1, a2, a3, a4, a5, a6⟩ := x
  obtain ⟨b0, b1, b2, b3, b4, b5, b6⟩ := y
  simp only [ne_eq, CmdD.mk.injEq, beq_eq_false_iff_ne, beq_iff_eq] at h ⊢
  by_cases h0 : a0 = b0 <;> by_cases h1 : a1 = b1 <;> by_cases h2 : a2 = b2 <;> by_cases h3 : a3 = b3 <;> by_cases h4 : a4 = b4 <;> by_cases h5 : a5 = b5 <;> simp_all
set_option maxHeartbeats 4000000 in
theorem same_calls (A B : Option Addr) (c c' n n' : Nat) (xs ys : List CmdD) (I J : Nat → Prop) (w : World) (hn : n = xs.length) (hn' : n' = ys.length) (h : Rep.Row cmdRep I w A xs) (h' : Rep.Row cmdRep J w B ys) :
    Calls Try.prog 25 #[.slice A n c, .slice B n' c'] w fun e w' => e = .returned (.bool (decide (xs = ys))) ∧ ∃ k, w' = w.drewN k := by
  subst hn hn'
  have HX := Hold.mk h
  have HY := Hold.mk h'
  have hm := h.len_le
  have hm' := h'.len_le
  clear h h'
  go_enter Try.func25, Try.ntmps25
  by_cases hl : xs.length = ys.length
  · have HL := Hold.mk hl
    have t1 : ((xs.length : Int) != (ys.length : Int)) = false := by simp [hl]
    clear hl
    go_wp2
    go_loopw [5] (fun s wr => ∃ i : Nat, i ≤ xs.length ∧ s = .int .i64 (i : Int) ∧ Hold (xs.take i = ys.take i) ∧ Hold (∃ k, wr = w.drewN k)) (fun s _ => xs.length - (intOf s).toNat)
    case atStart => exact ⟨0, by omega, rfl, ⟨rfl⟩, ⟨0, rfl⟩⟩
    case round =>
      obtain ⟨i, hi, rfl, HT, HW⟩ := hrel
      by_cases hlt : i < xs.length
      · have l1 : (i : Int) < (xs.length : Int) := by omega
        have hlt' : i < ys.length := by rw [← HL.out]; exact hlt
        have l2 : (i : Int) < (ys.length : Int) := by omega
        have hx : Rep.Row cmdRep I wr A xs := by obtain ⟨k, rfl⟩ := HW.out; exact HX.out.drewN k
        have hy : Rep.Row cmdRep J wr B ys := by obtain ⟨k, rfl⟩ := HW.out; exact HY.out.drewN k
        obtain ⟨ad, p, rfl, hp, _, ⟨c0, c1, c2, c3, c4, c5, c6, hw1⟩⟩ := row_cmd hx i hlt
        obtain ⟨ad', q, rfl, hq, _, ⟨d0, d1, d2, d3, d4, d5, d6, hw2⟩⟩ := row_cmd hy i hlt'
        obtain ⟨x, hxi⟩ : ∃ x, xs[i] = x := ⟨_, rfl⟩
        obtain ⟨y, hyi⟩ : ∃ x, ys[i] = x := ⟨_, rfl⟩
        rw [hxi] at c0 c1 c2 c3 c4 c5 c6 
        rw [hyi] at d0 d1 d2 d3 d4 d5 d6
        have HXI := Hold.mk hxi
        have HYI := Hold.mk hyi
        clear hw1 hw2 hx hy hxi hyi
        have l1n : i < xs.length := hlt
        by_cases hxy : x = y
        · have HXY := Hold.mk hxy
          subst hxy
          go_wp2
          go_quiet (fail)
          go_wp2
          refine ⟨⟨i + 1, by omega, by go_num, ⟨?_⟩, ⟨?_⟩⟩, by simp [intOf]; omega⟩
          · rw [List.take_succ_eq_append_getElem hlt, List.take_succ_eq_append_getElem hlt', HT.out, HXI.out, HYI.out]
          · obtain ⟨k, rfl⟩ := HW.out
            exact ⟨_, World.drewN_drewN ..⟩
        · have HNe : Hold (xs ≠ ys) := ⟨fun e => hxy (by subst e; rw [← HXI.out, ← HYI.out])⟩
          have hf := CmdD.first hxy
          clear hxy
          rcases hf with b0 | ⟨b0, b1⟩ | ⟨b0, b1, b2⟩ | ⟨b0, b1, b2, b3⟩ | ⟨b0, b1, b2, b3, b4⟩ | ⟨b0, b1, b2, b3, b4, b5⟩ | ⟨b0, b1, b2, b3, b4, b5, b6⟩
          all_goals
            go_wp2
            go_quiet (fail)
            go_wp2
            go_ret
            refine ⟨by rw [decide_eq_false HNe.out]; rfl, ?_⟩
            obtain ⟨k, rfl⟩ := HW.out
            exact ⟨_, World.drewN_drewN ..⟩
      · obtain rfl : i = xs.length := by omega
        have HE : Hold (xs = ys) := ⟨by have := HT.out; rw [List.take_length, HL.out, List.take_length] at this; exact this⟩
        go_wp2
        go_ret
        exact ⟨by rw [decide_eq_true HE.out]; rfl, HW.out⟩
  · have t1 : ((xs.length : Int) != (ys.length : Int)) = true := by simp; omega
    have HNe : Hold (xs ≠ ys) := ⟨fun e => hl (by rw [e])⟩
    clear hl
    go_wp2
    go_ret
    exact ⟨by rw [decide_eq_false HNe.out]; rfl, 0, rfl⟩
set_option maxHeartbeats 4000000 in
theorem sameValue_calls (A B : Option Addr) (c c' n n' : Nat) (t t' : Int) (xs ys : List CmdD) (I J : Nat → Prop) (w : World) (hn : n = xs.length) (hn' : n' = ys.length) (h : Rep.Row cmdRep I w A xs) (h' : Rep.Row cmdRep J w B ys) (ht : t = t') (hl : xs = ys) :
    Calls Try.prog 28 #[.agg #[.int .i64 t, .slice A n c], .agg #[.int .i64 t', .slice B n' c']] w fun e w' => e = .returned (.bool true) ∧ Below w.heap.size w w' := by
  subst ht hl hn hn'
  have HX := Hold.mk h
  have HY := Hold.mk h'
  clear h h'
  go_enter Try.func28, Try.ntmps28
  go_wp2_with (refine (same_calls A B c c' xs.length xs.length xs xs I J _ rfl rfl (HX.out.below (((Below.refl _ _).alloc (Nat.le_refl _) _).alloc (by simp) _)) (HY.out.below (((Below.refl _ _).alloc (Nat.le_refl _) _).alloc (by simp) _))).mono ?_; rintro e w1 ⟨rfl, k, rfl⟩; rw [decide_eq_true rfl])
  go_ret
  exact ⟨rfl, ((((Below.refl _ _).alloc (Nat.le_refl _) _).alloc (by simp) _).trans ((below_drewN _ k).mono (by simp; omega)))⟩
end Go.Proofs.Ytebhclgnpnlekaa.Rd
