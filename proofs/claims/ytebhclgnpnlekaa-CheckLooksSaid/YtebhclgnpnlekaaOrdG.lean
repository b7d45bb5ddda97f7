/- Law 13's Fits, law 09's Of, of entries, by their walks. No condition. -/
import Derived.Test.YtebhclgnpnlekaaOrdP
namespace Go.Proofs.Ytebhclgnpnlekaa.Ord
open Go.RowKit Go.Proofs.Ytebhclgnpnlekaa.B Go.Proofs.Ytebhclgnpnlekaa.Cmd Go.Proofs.Ytebhclgnpnlekaa.Agg Go.Proofs.Ytebhclgnpnlekaa.Ent
theorem gateB {P : Program} {ops : Array Oper} {rest : List Oper} {a : Act} {w : World} {Q : Exit → Act → World → Prop} {dst : Option Tmp} {ty : TypeId} {pos : String} {after : Array Edge} {n : Nat} {ps : Array (Nat × Operand)} (T : TypeId) (h : wpList P ops Q (⟨dst, .buildSlice T n ps, ty, pos, after, none⟩ :: rest) a w) : wpList P ops Q (⟨dst, .buildSlice T n ps, ty, pos, after, none⟩ :: rest) a w := h
def Fit13 (l : List QE) (w : World) (r : Ending) (w' : World) : Prop := ∃ b : Bool, r = .returned (.bool b) ∧ (b = true → l.length ≤ 40) ∧ Below w.heap.size w w'
set_option maxHeartbeats 4000000 in
set_option maxRecDepth 100000 in
/-- Are entries such as are gone through? -/
theorem fits13_calls (A : Option Addr) (c n : Nat) (l : List QE) (I : Nat → Prop) (w : World) (hn : n = l.length) (h : Rep.Row qeRep I w A l) :
    Calls Try.prog 61 #[.slice A n c] w (Fit13 l w) := by
  subst hn
  have H := Hold.mk h
  have hm := h.len_le
  clear h
  go_enter Try.func61, Try.ntmps61
  go_wp2
  go_loopw [3] (fun s wr => ∃ i : Nat, i ≤ l.length ∧ s = .int .i64 (i : Int) ∧ Hold (Below w.heap.size w wr)) (fun s _ => l.length - (intOf s).toNat)
  case atStart => exact ⟨0, by omega, rfl, ⟨Below.refl _ _⟩⟩
  case round =>
    obtain ⟨i, hi, rfl, HB⟩ := hrel
    by_cases hlt : i < l.length
    · have l1 : (i : Int) < (l.length : Int) := by omega
      by_cases h40 : i ≤ 40
      · have l2 : (i : Int) ≤ 40 := by omega
        obtain ⟨ad, p, rfl, hp, _, hQx', _⟩ := row_qe (H.out.below HB.out) i hlt
        obtain ⟨e, he⟩ : ∃ e, l[i] = e := ⟨_, rfl⟩
        rw [he] at hQx'
        obtain ⟨x, hx⟩ : ∃ x, e.er = x := ⟨_, rfl⟩
        have hQx : ∀ (j : Nat) (u : Value), x.cells[j]? = some u → wr.cell? (p.add j) = some u := hx ▸ hQx'
        obtain ⟨b, hb⟩ : ∃ b, (decide (x.f.n ≤ 80) && decide (x.a.n ≤ 80) && decide (x.v.n ≤ 80)) = b := ⟨_, rfl⟩
        have HFt := Hold.mk (fits_calls x wr b hb)
        clear hQx' he hx hb
        cases b
        · go_wp2_with (first
            | (with_reducible refine gateL 70 ?_; refine wpl_loadO isE rfl (ER.size x) hQx rfl ?_)
            | (go_at_call 49; with_reducible refine HFt.out.mono ?_; rintro r w1 ⟨rfl, hb1⟩))
          go_ret
          exact ⟨false, rfl, (fun h => by cases h), HB.out.trans (hb1.mono HB.out.size)⟩
        · go_wp2_with (first
            | (with_reducible refine gateL 70 ?_; refine wpl_loadO isE rfl (ER.size x) hQx rfl ?_)
            | (go_at_call 49; with_reducible refine HFt.out.mono ?_; rintro r w1 ⟨rfl, hb1⟩))
          exact ⟨⟨i + 1, by omega, by go_num, ⟨HB.out.trans (hb1.mono HB.out.size)⟩⟩, by simp [intOf]; omega⟩
      · have l2 : ¬ (i : Int) ≤ 40 := by omega
        have l3 : ¬ (l.length : Int) ≤ 40 := by omega
        go_wp2
        go_ret
        exact ⟨_, rfl, (fun h => by simp at h <;> omega), HB.out⟩
    · obtain rfl : i = l.length := by omega
      go_wp2
      go_ret
      exact ⟨_, rfl, (fun h => by simp at h <;> omega), HB.out⟩
set_option maxHeartbeats 4000000 in
set_option maxRecDepth 100000 in
/-- Entries, as the document has them. -/
theorem of09_calls (A : Option Addr) (c n : Nat) (l : List QE) (I : Nat → Prop) (w : World) (hn : n = l.length) (h : Rep.Row qeRep I w A l) (hl : l.length ≤ 100000) :
    Calls Try.prog 63 #[.slice A n c] w fun r w' => ∃ v, r = .returned v ∧ Hold (QO 75 w w' v l) := by
  subst hn
  have H := Hold.mk h
  have hm := h.len_le
  clear h
  go_enter Try.func63, Try.ntmps63
  go_wp2
  go_loopw [3, 4] (fun v s wr => ∃ i : Nat, i ≤ l.length ∧ s = .int .i64 (i : Int) ∧ Hold (QO 75 w wr v (l.take i))) (fun _ s _ => l.length - (intOf s).toNat)
  case atStart => exact ⟨0, by omega, rfl, ⟨QO.nil _ _⟩⟩
  case round =>
    obtain ⟨i, hi, rfl, HO⟩ := hrel
    by_cases hlt : i < l.length
    · have l1 : (i : Int) < (l.length : Int) := by omega
      have hF0' := row_qe H.out i hlt
      obtain ⟨ad, p, rfl, hp, _, hQx', _⟩ := row_qe (H.out.below HO.out.bel) i hlt
      have hT : l.take (i + 1) = l.take i ++ [l[i]] := List.take_succ_eq_append_getElem hlt
      obtain ⟨e, he⟩ : ∃ e, l[i] = e := ⟨_, rfl⟩
      rw [he] at hQx' hF0' hT
      have hF0 : QF (fun k => k < w.heap.size) w e := by
        obtain ⟨_, _, _, _, _, _, hF⟩ := hF0'
        exact hF.move fun k _ hlt => ⟨hlt, rfl⟩
      have HF := Hold.mk hF0
      have HLn : Hold (((l.take i).length + 1) * 192 ≤ 140737488355328) := ⟨by rw [List.length_take]; omega⟩
      have HT := Hold.mk hT
      obtain ⟨L, hL⟩ : ∃ L, l.take i = L := ⟨_, rfl⟩
      rw [hL] at HO HLn HT
      obtain ⟨x, pe⟩ := e
      have hQx : ∀ (j : Nat) (u : Value), x.cells[j]? = some u → wr.cell? (p.add j) = some u := hQx'
      clear hQx' hF0' hF0 hT he hL
      go_wp2_with (first
        | (with_reducible refine gateL 70 ?_; refine wpl_loadO isE rfl (ER.size x) hQx rfl ?_)
        | (go_at_call 52; with_reducible refine (of_calls x _).mono ?_; rintro r w1 ⟨rfl, hb1⟩; have HO1 := Hold.mk (HO.out.below hb1); have HF1 := Hold.mk (HF.out.below HO1.out.bel))
        | (with_reducible refine gateB 92 ?_; refine wpl_box1 Try.underlying92 rfl (built_qd x) rfl ?_)
        | (at_builtin; refine Rep.wp_push qeRep rfl (.tmp 11) (.tmp 17) 92 75 (.agg noER.cells) 192 rfl Try.underlying92 info_qd noER_sz qe_sz0 (by decide) w.heap.size (fun k => k < w.heap.size) (fun k => k < w.heap.size) u3 L ⟨x, pe⟩ x.cells.toList rfl rfl HO1.out.own ⟨rfl, HF1.out⟩ (fun k hk _ => ⟨hk, fun h => by have := (HO1.out.own.block_lt k h.symm).1; omega⟩) HO1.out.bel.size HLn.out ?_; intro A1 c1 w2 HG))
      have hb2 : Below w.heap.size w w2 := HO1.out.bel.trans (HG.out.below (fun k hk => (HO1.out.own.block_lt k hk).1) HO1.out.bel.size)
      have ho := HG.out.own
      rw [List.length_append, List.length_singleton] at ho
      exact ⟨⟨i + 1, by omega, by go_num, by rw [HT.out]; exact ⟨⟨ho, hb2⟩⟩⟩, by simp [intOf]; omega⟩
    · obtain rfl : i = l.length := by omega
      rw [List.take_length] at HO
      go_wp2
      go_ret
      exact ⟨_, rfl, HO⟩
end Go.Proofs.Ytebhclgnpnlekaa.Ord
