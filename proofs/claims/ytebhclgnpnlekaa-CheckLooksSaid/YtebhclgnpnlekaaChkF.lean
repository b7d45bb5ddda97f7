/- The document's pairs of chapter 21, by its walk. No condition. -/
import Derived.Test.YtebhclgnpnlekaaChkG
namespace Go.Proofs.Ytebhclgnpnlekaa.Chk
open Go.RowKit Go.Proofs.Ytebhclgnpnlekaa.B Go.Proofs.Ytebhclgnpnlekaa.Cmd Go.Proofs.Ytebhclgnpnlekaa.Agg Go.Proofs.Ytebhclgnpnlekaa.Ent Go.Proofs.Ytebhclgnpnlekaa.Ord
/-- A row that lies apart from a block does not turn with it. -/
theorem row_frD {α : Type} {d : Rep α} {g : Nat} {w w' : World} {A : Option Addr} {xs : List α} (h : Rep.Row d (fun k => k ≠ g) w A xs) (hf : Fr (fun k => k = g) w w') : Rep.Row d (fun k => k ≠ g) w' A xs :=
  h.move fun k hk hlt => ⟨hk, hf.block k hlt hk⟩
/-- A call that makes blocks alone, inside a region. -/
theorem wp_callb {P : Program} {o : Oper} {a : Act} {w : World} {K : Act → World → Prop} {Q : Exit → Act → World → Prop} {v : Value} {f : FuncId} {args : Array Value} (hr : (execOp a.eval o).run P w = .ok (.enter f args) w) (hc : Calls P f args w fun e w' => e = .returned v ∧ Hold (Below w.heap.size w w')) (h : ∀ w', Hold (Below w.heap.size w w') → K (a.put o.dst v) w') : Oper.wp P o a w K Q := by
  unfold Oper.wp
  rw [hr]
  refine hc.mono ?_
  rintro r w' ⟨rfl, hb⟩
  exact h w' hb
/-- The best pair, in its block: nothing else has turned. -/
structure PI (b : Nat) (W0 wr : World) (o : Option Pair) : Prop where
  blk : wr.heap[b]? = some (.cells #[.int .i64 (bestP o).1, .int .i64 (bestP o).2] 172 (0, 0))
  fr : Fr (fun k => k = b) W0 wr
section
variable {b : Nat} {W0 w w' : World} {o : Option Pair}
theorem PI.lt (h : PI b W0 w o) : b < w.heap.size := (Array.getElem?_eq_some_iff.1 h.blk).1
theorem PI.below (h : PI b W0 w o) (hb : Below w.heap.size w w') : PI b W0 w' o := ⟨(hb.block b h.lt).trans h.blk, h.fr.trans (Fr.of_below _ hb) (fun _ _ h => h)⟩
end
def faultD (f : Nat) (a b : QE) : Pair × Bool := if f = 1 then apartD a b else if f = 2 then twiceD a b else missedD a b
theorem faultD_eq (f : Nat) (a b : QE) : (if (faultD f a b).2 = true then some (faultD f a b).1 else none) = fault f a b := by
  unfold faultD fault
  by_cases h1 : f = 1
  · rw [if_pos h1, if_pos h1, apartD_eq]
  · rw [if_neg h1, if_neg h1]
    by_cases h2 : f = 2
    · rw [if_pos h2, if_pos h2, twiceD_eq]
    · rw [if_neg h2, if_neg h2, missedD_eq]
set_option maxHeartbeats 8000000 in
set_option maxRecDepth 100000 in
theorem pairs21_1 (A : Option Addr) (c : Nat) (l : List QE) (I : Nat → Prop) (w : World) (h : Rep.Row qeRep I w A l) :
    Calls Try.prog 132 #[.slice A l.length c, .int .i64 1] w fun r w' => r = .returned (.tuple #[.agg (pc (bestP (pairs 1 l))), .bool (pairs 1 l).isSome]) ∧ Hold (Below w.heap.size w w') := by
  have hm := h.len_le
  obtain ⟨b4, hb4⟩ : ∃ b, w.heap.size = b := ⟨_, rfl⟩
  obtain ⟨b6, hb6⟩ : ∃ b, b4 + 1 = b := ⟨_, rfl⟩
  obtain ⟨W0, hW0⟩ : ∃ W, (w.alloc (.cells #[.int .i64 0, .int .i64 0] 172)).alloc (.cells #[.int .i64 0, .int .i64 0] 172) = W := ⟨_, rfl⟩
  have hB : Bs w W0 [(b4, 172, #[.int .i64 0, .int .i64 0]), (b6, 172, #[.int .i64 0, .int .i64 0])] := by
    have h1 := ((Bs.nil w).alloc #[.int .i64 0, .int .i64 0] 172).alloc #[.int .i64 0, .int .i64 0] 172
    rw [hW0] at h1
    simpa [hb4, hb6] using h1
  have HR : Hold (Rep.Row qeRep (fun k => k ≠ b6) W0 A l) := ⟨h.move fun k _ hlt => ⟨by omega, hB.below.block k hlt⟩⟩
  have HP0 : Hold (PI b6 W0 W0 none) := ⟨⟨(hB.at_ 1 _ _ _ rfl).1, Fr.refl _ _⟩⟩
  have H4 : Hold (W0.heap[b4]? = some (.cells #[.int .i64 0, .int .i64 0] 172 (0, 0)) ∧ b4 < W0.heap.size ∧ b4 ≠ b6) := ⟨(hB.at_ 0 _ _ _ rfl).1, hB.lt 0 rfl, by omega⟩
  have HBl := Hold.mk hB.below
  have HL4 : Hold (w.heap.size ≤ b4 ∧ w.heap.size ≤ b6) := ⟨by omega⟩
  have HW0 := Hold.mk hW0
  clear h hB hW0
  go_enter Try.func132, Try.ntmps132
  go_wp2
  rw [HW0.out]
  clear hb4 hb6
  go_loopw [7, 8] (fun n s wr => ∃ i : Nat, i ≤ l.length ∧ s = .int .i64 (i : Int) ∧ ∃ o, n = .bool o.isNone ∧ Hold (upto 1 l i = o) ∧ Hold (PI b6 W0 wr o)) (fun _ s _ => l.length - (intOf s).toNat)
  case atStart => exact ⟨0, by omega, rfl, none, rfl, ⟨rfl⟩, HP0⟩
  case round =>
    obtain ⟨i, hi, rfl, o, rfl, HO, HI⟩ := hrel
    by_cases hlt : i < l.length
    · have l1 : (i : Int) < (l.length : Int) := by omega
      have HUs := Hold.mk (upto_succ 1 l i hlt)
      obtain ⟨o0, ho0⟩ : ∃ o0, upto 1 l i = o0 := ⟨_, rfl⟩
      have HO0 : Hold (o0 = o) := ⟨by rw [← ho0]; exact HO.out⟩
      rw [ho0] at HUs
      clear ho0 HO
      go_wp2
      go_loopw [7, 9] (fun n s wr => ∃ k : Nat, k ≤ l.length ∧ s = .int .i64 (k : Int) ∧ ∃ o, n = .bool o.isNone ∧ Hold (leastFrom o0 ((l.take k).map (fault 1 l[i])) = o) ∧ Hold (PI b6 W0 wr o)) (fun _ s _ => l.length - (intOf s).toNat)
      case atStart => exact ⟨0, by omega, rfl, o, rfl, HO0, HI⟩
      case round =>
        obtain ⟨k, hk, rfl, o, rfl, HO, HJ⟩ := hrel
        by_cases hlk : k < l.length
        · have l2 : (k : Int) < (l.length : Int) := by omega
          have hss := step_succ o0 (fault 1 l[i]) l k hlk
          rw [HO.out] at hss
          have hrow := row_frD HR.out HJ.out.fr
          obtain ⟨ad, p1, rfl, hp1, hp1l, hQ1, hF1⟩ := row_qe hrow i hlt
          obtain ⟨ad2, p2, hA2, hp2, hp2l, hQ2, hF2⟩ := row_qe hrow k hlk
          cases hA2
          obtain ⟨a, ha⟩ : ∃ a, l[i] = a := ⟨_, rfl⟩
          obtain ⟨b, hb⟩ : ∃ a, l[k] = a := ⟨_, rfl⟩
          rw [ha] at hQ1 hF1 hss
          rw [hb] at hQ2 hF2 hss
          have HAe := Hold.mk ha
          obtain ⟨b10, hb10⟩ : ∃ b, wr.heap.size = b := ⟨_, rfl⟩
          obtain ⟨W1, hW1⟩ : ∃ W, wr.alloc (.cells #[.int .i64 0, .int .i64 0] 172) = W := ⟨_, rfl⟩
          have hal : Below wr.heap.size wr W1 := by rw [← hW1]; exact (Below.refl _ _).alloc (Nat.le_refl _) _
          have hz1 : W1.heap[b10]? = some (.cells #[.int .i64 0, .int .i64 0] 172 (0, 0)) := by rw [← hW1, ← hb10]; exact Array.getElem?_push_size ..
          have HZ : Hold (b10 < W1.heap.size ∧ W1.heap[b10]? = some (.cells #[.int .i64 0, .int .i64 0] 172 (0, 0))) := ⟨(Array.getElem?_eq_some_iff.1 hz1).1, hz1⟩
          have hF1d : QF (fun k => k ≠ b6) W1.drew a := hF1.below (hal.trans (below_drewN W1 1 |>.mono hal.size))
          have hF2d : QF (fun k => k ≠ b6) W1.drew b := hF2.below (hal.trans (below_drewN W1 1 |>.mono hal.size))
          have HQ1 : Hold (∀ w', Fr (fun j => j = b10) W1 w' → ∀ (j : Nat) (u : Value), a.er.cells[j]? = some u → w'.cell? (p1.add j) = some u) := ⟨fun w' hf j u hu => (hf.cell (p := p1.add j) (by rw [Rep.add_block]; exact Nat.lt_of_lt_of_le hp1l hal.size) (by rw [Rep.add_block]; omega)).trans ((below_cell hal (p := p1.add j) (by rw [Rep.add_block]; exact hp1l)).trans (hQ1 j u hu))⟩
          have HQ2 : Hold (∀ w', Fr (fun j => j = b10) W1 w' → ∀ (j : Nat) (u : Value), b.er.cells[j]? = some u → w'.cell? (p2.add j) = some u) := ⟨fun w' hf j u hu => (hf.cell (p := p2.add j) (by rw [Rep.add_block]; exact Nat.lt_of_lt_of_le hp2l hal.size) (by rw [Rep.add_block]; omega)).trans ((below_cell hal (p := p2.add j) (by rw [Rep.add_block]; exact hp2l)).trans (hQ2 j u hu))⟩
          have hcall := apart21_calls a b _ _ W1.drew hF1d hF2d _ rfl
          have hfd := faultD_eq 1 a b
          obtain ⟨⟨⟨x1, x2⟩, is⟩, hpd⟩ : ∃ pd, faultD 1 a b = pd := ⟨_, rfl⟩
          have hpd' : apartD a b = ((x1, x2), is) := hpd
          rw [hpd'] at hcall
          rw [hpd] at hfd
          have HC : Hold (Calls Try.prog 153 #[.agg a.er.cells, .agg b.er.cells] W1.drew fun e w' => e = .returned (.tuple #[.agg #[.int .i64 x1, .int .i64 x2], .bool is]) ∧ Hold (Below W1.drew.heap.size W1.drew w')) := ⟨hcall⟩
          obtain ⟨y1, hy1⟩ : ∃ y, (bestP o).1 = y := ⟨_, rfl⟩
          obtain ⟨y2, hy2⟩ : ∃ y, (bestP o).2 = y := ⟨_, rfl⟩
          obtain ⟨n, hn⟩ : ∃ n, o.isNone = n := ⟨_, rfl⟩
          obtain ⟨q, hq⟩ : ∃ q, (n || lessP (x1, x2) (y1, y2)) = q := ⟨_, rfl⟩
          have HSs : Hold (leastFrom o0 ((l.take (k + 1)).map (fault 1 l[i])) = if (is && q) = true then some (x1, x2) else o) := ⟨by rw [ha, ← hss, ← hfd, put_doc, hn, ← hq, ← hy1, ← hy2]⟩
          have HBk : Hold (wr.heap[b6]? = some (.cells #[.int .i64 y1, .int .i64 y2] 172 (0, 0))) := ⟨by rw [← hy1, ← hy2]; exact HJ.out.blk⟩
          have HJ1 : Hold (PI b6 W0 W1 o ∧ b6 < wr.heap.size) := ⟨HJ.out.below hal, HJ.out.lt⟩
          have HBk1 : Hold (W1.heap[b6]? = some (.cells #[.int .i64 y1, .int .i64 y2] 172 (0, 0))) := ⟨(hal.block b6 HJ.out.lt).trans HBk.out⟩
          have HQb := Hold.mk hq
          have HNe : Hold (b6 ≠ b10 ∧ b6 < W1.heap.size ∧ W0.heap.size ≤ b10) := ⟨by have := HJ.out.lt; omega, Nat.lt_of_lt_of_le HJ.out.lt hal.size, by rw [← hb10]; exact HJ.out.fr.size⟩
          have HHn := Hold.mk hn
          rw [hn]
          have HW1 := Hold.mk hW1
          clear hW1 hss hrow hQ1 hF1 hQ2 hF2 ha hb hz1 hF1d hF2d hcall hfd hpd hpd' hy1 hy2 hq hn HBk hal HJ HO
          go_upto_region 14 with (fail)
          rw [HW1.out]
          clear hb10
          try simp only [Act.put, List.setIfInBounds_toArray, List.set_cons_zero, List.set_cons_succ]
          have hS : Fr (fun j => j = b10) W1 W1.drew := (Fr.refl _ _).drew
          refine rg_start (S := fun w' => Fr (fun j => j = b10) W1 w') 14 #[false, false, false, false, false, false, false, false, false, false, false, false, false, false] (by kernel_rfl) (by kernel_rfl) (by kernel_rfl) hS ?_
          refine rg_take 0 43 (.move (.tmp 0)) (.slice (some ad) l.length c) #[true, false, false, false, false, false, false, false, false, false, false, false, false, false] (by kernel_rfl) (by rfl) (by kernel_rfl) (by kernel_rfl) (by kernel_rfl) (fun _ _ _ h => h) (.inl ⟨by kernel_rfl, fun _ _ => by kernel_rfl⟩) hS ?_
          simp only [List.setIfInBounds_toArray, List.set_cons_zero, List.set_cons_succ]
          refine rg_take 1 44 (.move (.tmp 8)) (.int .i64 (i : Int)) #[true, true, false, false, false, false, false, false, false, false, false, false, false, false] (by kernel_rfl) (by rfl) (by kernel_rfl) (by kernel_rfl) (by kernel_rfl) (fun _ _ _ h => h) (.inl ⟨by kernel_rfl, fun _ _ => by kernel_rfl⟩) hS ?_
          simp only [List.setIfInBounds_toArray, List.set_cons_zero, List.set_cons_succ]
          refine rg_take 2 45 (.indexAddr 92 (.tmp 43) (.tmp 44)) (.pointer (some p1)) #[true, true, true, false, false, false, false, false, false, false, false, false, false, false] (by kernel_rfl) (by rfl) (by kernel_rfl) (by kernel_rfl) (by kernel_rfl) (fun _ _ _ h => h) (.inl ⟨by kernel_rfl, fun _ _ => by go_simp⟩) hS ?_
          simp only [List.setIfInBounds_toArray, List.set_cons_zero, List.set_cons_succ]
          refine rg_take 3 46 (.load 75 (.tmp 45)) (.agg a.er.cells) #[true, true, true, true, false, false, false, false, false, false, false, false, false, false] (by kernel_rfl) (by rfl) (by kernel_rfl) (by kernel_rfl) (by kernel_rfl) (fun _ _ _ h => h) (yl_old isD (by kernel_rfl) (ER.size _) (fun w' hSw => HQ1.out w' hSw) (by kernel_rfl)) hS ?_
          simp only [List.setIfInBounds_toArray, List.set_cons_zero, List.set_cons_succ]
          refine rg_take 4 47 (.move (.tmp 0)) (.slice (some ad) l.length c) #[true, true, true, true, true, false, false, false, false, false, false, false, false, false] (by kernel_rfl) (by rfl) (by kernel_rfl) (by kernel_rfl) (by kernel_rfl) (fun _ _ _ h => h) (.inl ⟨by kernel_rfl, fun _ _ => by kernel_rfl⟩) hS ?_
          simp only [List.setIfInBounds_toArray, List.set_cons_zero, List.set_cons_succ]
          refine rg_take 5 48 (.move (.tmp 9)) (.int .i64 (k : Int)) #[true, true, true, true, true, true, false, false, false, false, false, false, false, false] (by kernel_rfl) (by rfl) (by kernel_rfl) (by kernel_rfl) (by kernel_rfl) (fun _ _ _ h => h) (.inl ⟨by kernel_rfl, fun _ _ => by kernel_rfl⟩) hS ?_
          simp only [List.setIfInBounds_toArray, List.set_cons_zero, List.set_cons_succ]
          refine rg_take 6 49 (.indexAddr 92 (.tmp 47) (.tmp 48)) (.pointer (some p2)) #[true, true, true, true, true, true, true, false, false, false, false, false, false, false] (by kernel_rfl) (by rfl) (by kernel_rfl) (by kernel_rfl) (by kernel_rfl) (fun _ _ _ h => h) (.inl ⟨by kernel_rfl, fun _ _ => by go_simp⟩) hS ?_
          simp only [List.setIfInBounds_toArray, List.set_cons_zero, List.set_cons_succ]
          refine rg_take 7 50 (.load 75 (.tmp 49)) (.agg b.er.cells) #[true, true, true, true, true, true, true, true, false, false, false, false, false, false] (by kernel_rfl) (by rfl) (by kernel_rfl) (by kernel_rfl) (by kernel_rfl) (fun _ _ _ h => h) (yl_old isD (by kernel_rfl) (ER.size _) (fun w' hSw => HQ2.out w' hSw) (by kernel_rfl)) hS ?_
          simp only [List.setIfInBounds_toArray, List.set_cons_zero, List.set_cons_succ]
          refine rg_one 8 (some 51) (.call { callee := .value (.func 153), args := #[(.tmp 46), (.tmp 50)], argTypes := #[75, 75] }) #[true, true, true, true, true, true, true, true, true, false, false, false, false, false] (by kernel_rfl) (by kernel_rfl) (by rfl) (by kernel_rfl) (fun K hK => ?_)
          refine wp_callb (v := .tuple #[.agg #[.int .i64 x1, .int .i64 x2], .bool is]) (by go_simp) HC.out (fun Wc hbc => ?_)
          have hS : Fr (fun j => j = b10) W1 Wc := (Fr.refl _ _).drew.trans (Fr.of_below _ hbc.out) (fun _ _ h => h)
          have hzc := (hbc.out.block b10 HZ.out.1).trans HZ.out.2
          simp only [Act.put, List.setIfInBounds_toArray, List.set_cons_zero, List.set_cons_succ]
          refine hK.out _ _ hS ?_
          clear hK K
          refine rg_take 9 42 (.move (.tmp 51)) (.tuple #[.agg #[.int .i64 x1, .int .i64 x2], .bool is]) #[true, true, true, true, true, true, true, true, true, true, false, false, false, false] (by kernel_rfl) (by rfl) (by kernel_rfl) (by kernel_rfl) (by kernel_rfl) (fun _ _ _ h => h) (.inl ⟨by kernel_rfl, fun _ _ => by kernel_rfl⟩) hS ?_
          simp only [List.setIfInBounds_toArray, List.set_cons_zero, List.set_cons_succ]
          refine rg_take 10 52 (.extract (.tmp 42) 0) (.agg #[.int .i64 x1, .int .i64 x2]) #[true, true, true, true, true, true, true, true, true, true, true, false, false, false] (by kernel_rfl) (by rfl) (by kernel_rfl) (by kernel_rfl) (by kernel_rfl) (fun _ _ _ h => h) (.inl ⟨by kernel_rfl, fun _ _ => by go_simp⟩) hS ?_
          simp only [List.setIfInBounds_toArray, List.set_cons_zero, List.set_cons_succ]
          refine rg_take 11 53 (.extract (.tmp 42) 1) (.bool is) #[true, true, true, true, true, true, true, true, true, true, true, true, false, false] (by kernel_rfl) (by rfl) (by kernel_rfl) (by kernel_rfl) (by kernel_rfl) (fun _ _ _ h => h) (.inl ⟨by kernel_rfl, fun _ _ => by go_simp⟩) hS ?_
          simp only [List.setIfInBounds_toArray, List.set_cons_zero, List.set_cons_succ]
          refine rg_one 12 none (.store 172 (.tmp 10) (.tmp 52)) #[true, true, true, true, true, true, true, true, true, true, true, true, true, false] (by kernel_rfl) (by kernel_rfl) (by rfl) (by kernel_rfl) (fun K hK => ?_)
          refine Ord.wp_skip (w' := (Wc.setCell ⟨b10, 0, none⟩ (.int .i64 x1)).setCell ⟨b10, 1, none⟩ (.int .i64 x2)) (by have hc0 := cell_heap hzc 0; have hc1 := cell_heap hzc 1; have hz : ∀ k, Wc.frozen? ⟨b10, k, none⟩ = false := (fun k => by simp [World.frozen?, hzc]); go_simp) ?_
          obtain ⟨s1, s2⟩ := set2 hzc (.int .i64 x1) (.int .i64 x2)
          obtain ⟨W2, hW2⟩ : ∃ W, (Wc.setCell ⟨b10, 0, none⟩ (.int .i64 x1)).setCell ⟨b10, 1, none⟩ (.int .i64 x2) = W := ⟨_, rfl⟩
          rw [hW2] at s1 s2 ⊢
          have hS : Fr (fun j => j = b10) W1 W2 := hS.trans s2 (fun _ _ h => h)
          simp only [Act.put, List.setIfInBounds_toArray, List.set_cons_zero, List.set_cons_succ]
          refine hK.out _ _ hS ?_
          clear hK K
          refine rg_take 13 11 (.assign (.tmp 53)) (.bool is) #[true, true, true, true, true, true, true, true, true, true, true, true, true, true] (by kernel_rfl) (by rfl) (by kernel_rfl) (by kernel_rfl) (by kernel_rfl) (fun _ _ _ h => h) (.inl ⟨by kernel_rfl, fun _ _ => by kernel_rfl⟩) hS ?_
          simp only [List.setIfInBounds_toArray, List.set_cons_zero, List.set_cons_succ]
          refine wpAnyH_done (by kernel_rfl) ?_ _
          have hb6 := (hS.block b6 HNe.out.2.1 HNe.out.1).trans HBk1.out
          have HJ2 : Hold (PI b6 W0 W2 o) := ⟨(hS.block b6 HNe.out.2.1 HNe.out.1).trans HJ1.out.1.blk, HJ1.out.1.fr.trans hS (fun i hi h => by have h1 : i = b10 := h; have := HNe.out.2.2; omega)⟩
          have HLs := Hold.mk (less_calls' x1 x2 y1 y2 n W2 q HQb.out)
          have t0 : W2.cell? ⟨b10, 0, none⟩ = some (.int .i64 x1) := cell_heap s1 0
          have t1 : W2.cell? ⟨b10, 1, none⟩ = some (.int .i64 x2) := cell_heap s1 1
          have g0 : W2.cell? ⟨b6, 0, none⟩ = some (.int .i64 y1) := cell_heap hb6 0
          have g1 : W2.cell? ⟨b6, 1, none⟩ = some (.int .i64 y2) := cell_heap hb6 1
          have H10 := Hold.mk s1
          have H6 := Hold.mk hb6
          clear hS s1 s2 hzc hbc hW2 hb6
          have HFin : Hold ((is && q) = false → ∀ W3, Below W2.heap.size W2 W3 → Hold (leastFrom o0 ((l.take (k + 1)).map (fault 1 l[i])) = o) ∧ Hold (PI b6 W0 W3 o)) := ⟨fun hiq W3 h3 => ⟨⟨by rw [HSs.out, hiq]; rfl⟩, ⟨HJ2.out.below h3⟩⟩⟩
          cases is
          · go_wp2_with (go_at_call 156; refine HLs.out.mono ?_; rintro r W3 ⟨rfl, HB3⟩)
            obtain ⟨e1, e2⟩ := HFin.out rfl W3 HB3.out
            exact ⟨⟨k + 1, by omega, by go_num, o, congrArg Value.bool HHn.out.symm, e1, e2⟩, by simp [intOf]; omega⟩
          · cases q
            · go_wp2_with (go_at_call 156; refine HLs.out.mono ?_; rintro r W3 ⟨rfl, HB3⟩)
              obtain ⟨e1, e2⟩ := HFin.out rfl W3 HB3.out
              exact ⟨⟨k + 1, by omega, by go_num, o, congrArg Value.bool HHn.out.symm, e1, e2⟩, by simp [intOf]; omega⟩
            · have HSp : Hold (leastFrom o0 ((l.take (k + 1)).map (fault 1 l[i])) = some (x1, x2)) := ⟨by rw [HSs.out]; rfl⟩
              go_wp2_with (go_at_call 156; refine HLs.out.mono ?_; rintro r W3 ⟨rfl, HB3⟩; have h103 := (HB3.out.block b10 (Array.getElem?_eq_some_iff.1 H10.out).1).trans H10.out; have h63 := (HB3.out.block b6 (Array.getElem?_eq_some_iff.1 H6.out).1).trans H6.out; have t03 : W3.cell? ⟨b10, 0, none⟩ = some (.int .i64 x1) := cell_heap h103 0; have t13 : W3.cell? ⟨b10, 1, none⟩ = some (.int .i64 x2) := cell_heap h103 1; have g03 : W3.cell? ⟨b6, 0, none⟩ = some (.int .i64 y1) := cell_heap h63 0; have g13 : W3.cell? ⟨b6, 1, none⟩ = some (.int .i64 y2) := cell_heap h63 1; have z63 : ∀ k, W3.frozen? ⟨b6, k, none⟩ = false := (fun k => by simp [World.frozen?, h63]); have H63 := Hold.mk h63; clear h103 h63)
              obtain ⟨s1, s2⟩ := set2 H63.out (.int .i64 x1) (.int .i64 x2)
              exact ⟨⟨k + 1, by omega, by go_num, some (x1, x2), rfl, HSp, ⟨⟨s1, (HJ2.out.below HB3.out).fr.trans s2 (fun _ _ h => h)⟩⟩⟩, by simp [intOf]; omega⟩
        · obtain rfl : k = l.length := by omega
          have HOn : Hold (upto 1 l (i + 1) = o) := ⟨by rw [← HUs.out, HO.out]⟩
          go_wp2
          exact ⟨⟨i + 1, by omega, by go_num, o, rfl, HOn, HJ⟩, by simp [intOf]; omega⟩
    · obtain rfl : i = l.length := by omega
      have ho := HO.out
      rw [upto_all] at ho
      have hz4 := (HI.out.fr.block b4 H4.out.2.1 H4.out.2.2).trans H4.out.1
      have hz6 := HI.out.blk
      obtain ⟨y1, hy1⟩ : ∃ y, (bestP o).1 = y := ⟨_, rfl⟩
      obtain ⟨y2, hy2⟩ : ∃ y, (bestP o).2 = y := ⟨_, rfl⟩
      rw [hy1, hy2] at hz6
      have HPo : Hold (pc (bestP (pairs 1 l)) = #[.int .i64 y1, .int .i64 y2]) := ⟨by rw [ho, ← hy1, ← hy2]; rfl⟩
      have HSo : Hold ((pairs 1 l).isSome = !o.isNone) := ⟨by rw [ho]; cases o <;> rfl⟩
      obtain ⟨n, hn⟩ : ∃ n, o.isNone = n := ⟨_, rfl⟩
      rw [hn] at HSo ⊢
      have c0 : wr.cell? ⟨b4, 0, none⟩ = some (.int .i64 0) := cell_heap hz4 0
      have c1 : wr.cell? ⟨b4, 1, none⟩ = some (.int .i64 0) := cell_heap hz4 1
      have z4 : ∀ k, wr.frozen? ⟨b4, k, none⟩ = false := (fun k => by simp [World.frozen?, hz4])
      have d0 : wr.cell? ⟨b6, 0, none⟩ = some (.int .i64 y1) := cell_heap hz6 0
      have d1 : wr.cell? ⟨b6, 1, none⟩ = some (.int .i64 y2) := cell_heap hz6 1
      have HZ4 := Hold.mk hz4
      have HBw : Hold (Below w.heap.size w wr) := ⟨below_fr HBl.out HI.out.fr HL4.out.2⟩
      clear hz4 hz6 ho hy1 hy2 hn HO
      go_wp2
      obtain ⟨s1, s2⟩ := set2 HZ4.out (.int .i64 y1) (.int .i64 y2)
      exact bodyPost_ret (res_pair rfl rfl rfl s1 rfl) rfl ⟨by rw [HPo.out, HSo.out]; rfl, ⟨below_fr HBw.out s2 HL4.out.1⟩⟩
set_option maxHeartbeats 8000000 in
set_option maxRecDepth 100000 in
theorem pairs21_2 (A : Option Addr) (c : Nat) (l : List QE) (I : Nat → Prop) (w : World) (h : Rep.Row qeRep I w A l) :
    Calls Try.prog 132 #[.slice A l.length c, .int .i64 2] w fun r w' => r = .returned (.tuple #[.agg (pc (bestP (pairs 2 l))), .bool (pairs 2 l).isSome]) ∧ Hold (Below w.heap.size w w') := by
  have hm := h.len_le
  obtain ⟨b4, hb4⟩ : ∃ b, w.heap.size = b := ⟨_, rfl⟩
  obtain ⟨b6, hb6⟩ : ∃ b, b4 + 1 = b := ⟨_, rfl⟩
  obtain ⟨W0, hW0⟩ : ∃ W, (w.alloc (.cells #[.int .i64 0, .int .i64 0] 172)).alloc (.cells #[.int .i64 0, .int .i64 0] 172) = W := ⟨_, rfl⟩
  have hB : Bs w W0 [(b4, 172, #[.int .i64 0, .int .i64 0]), (b6, 172, #[.int .i64 0, .int .i64 0])] := by
    have h1 := ((Bs.nil w).alloc #[.int .i64 0, .int .i64 0] 172).alloc #[.int .i64 0, .int .i64 0] 172
    rw [hW0] at h1
    simpa [hb4, hb6] using h1
  have HR : Hold (Rep.Row qeRep (fun k => k ≠ b6) W0 A l) := ⟨h.move fun k _ hlt => ⟨by omega, hB.below.block k hlt⟩⟩
  have HP0 : Hold (PI b6 W0 W0 none) := ⟨⟨(hB.at_ 1 _ _ _ rfl).1, Fr.refl _ _⟩⟩
  have H4 : Hold (W0.heap[b4]? = some (.cells #[.int .i64 0, .int .i64 0] 172 (0, 0)) ∧ b4 < W0.heap.size ∧ b4 ≠ b6) := ⟨(hB.at_ 0 _ _ _ rfl).1, hB.lt 0 rfl, by omega⟩
  have HBl := Hold.mk hB.below
  have HL4 : Hold (w.heap.size ≤ b4 ∧ w.heap.size ≤ b6) := ⟨by omega⟩
  have HW0 := Hold.mk hW0
  clear h hB hW0
  go_enter Try.func132, Try.ntmps132
  go_wp2
  rw [HW0.out]
  clear hb4 hb6
  go_loopw [7, 8] (fun n s wr => ∃ i : Nat, i ≤ l.length ∧ s = .int .i64 (i : Int) ∧ ∃ o, n = .bool o.isNone ∧ Hold (upto 2 l i = o) ∧ Hold (PI b6 W0 wr o)) (fun _ s _ => l.length - (intOf s).toNat)
  case atStart => exact ⟨0, by omega, rfl, none, rfl, ⟨rfl⟩, HP0⟩
  case round =>
    obtain ⟨i, hi, rfl, o, rfl, HO, HI⟩ := hrel
    by_cases hlt : i < l.length
    · have l1 : (i : Int) < (l.length : Int) := by omega
      have HUs := Hold.mk (upto_succ 2 l i hlt)
      obtain ⟨o0, ho0⟩ : ∃ o0, upto 2 l i = o0 := ⟨_, rfl⟩
      have HO0 : Hold (o0 = o) := ⟨by rw [← ho0]; exact HO.out⟩
      rw [ho0] at HUs
      clear ho0 HO
      go_wp2
      go_loopw [7, 9] (fun n s wr => ∃ k : Nat, k ≤ l.length ∧ s = .int .i64 (k : Int) ∧ ∃ o, n = .bool o.isNone ∧ Hold (leastFrom o0 ((l.take k).map (fault 2 l[i])) = o) ∧ Hold (PI b6 W0 wr o)) (fun _ s _ => l.length - (intOf s).toNat)
      case atStart => exact ⟨0, by omega, rfl, o, rfl, HO0, HI⟩
      case round =>
        obtain ⟨k, hk, rfl, o, rfl, HO, HJ⟩ := hrel
        by_cases hlk : k < l.length
        · have l2 : (k : Int) < (l.length : Int) := by omega
          have hss := step_succ o0 (fault 2 l[i]) l k hlk
          rw [HO.out] at hss
          have hrow := row_frD HR.out HJ.out.fr
          obtain ⟨ad, p1, rfl, hp1, hp1l, hQ1, hF1⟩ := row_qe hrow i hlt
          obtain ⟨ad2, p2, hA2, hp2, hp2l, hQ2, hF2⟩ := row_qe hrow k hlk
          cases hA2
          obtain ⟨a, ha⟩ : ∃ a, l[i] = a := ⟨_, rfl⟩
          obtain ⟨b, hb⟩ : ∃ a, l[k] = a := ⟨_, rfl⟩
          rw [ha] at hQ1 hF1 hss
          rw [hb] at hQ2 hF2 hss
          have HAe := Hold.mk ha
          obtain ⟨b10, hb10⟩ : ∃ b, wr.heap.size = b := ⟨_, rfl⟩
          obtain ⟨W1, hW1⟩ : ∃ W, wr.alloc (.cells #[.int .i64 0, .int .i64 0] 172) = W := ⟨_, rfl⟩
          have hal : Below wr.heap.size wr W1 := by rw [← hW1]; exact (Below.refl _ _).alloc (Nat.le_refl _) _
          have hz1 : W1.heap[b10]? = some (.cells #[.int .i64 0, .int .i64 0] 172 (0, 0)) := by rw [← hW1, ← hb10]; exact Array.getElem?_push_size ..
          have HZ : Hold (b10 < W1.heap.size ∧ W1.heap[b10]? = some (.cells #[.int .i64 0, .int .i64 0] 172 (0, 0))) := ⟨(Array.getElem?_eq_some_iff.1 hz1).1, hz1⟩
          have hF1d : QF (fun k => k ≠ b6) W1.drew a := hF1.below (hal.trans (below_drewN W1 1 |>.mono hal.size))
          have hF2d : QF (fun k => k ≠ b6) W1.drew b := hF2.below (hal.trans (below_drewN W1 1 |>.mono hal.size))
          have HQ1 : Hold (∀ w', Fr (fun j => j = b10) W1 w' → ∀ (j : Nat) (u : Value), a.er.cells[j]? = some u → w'.cell? (p1.add j) = some u) := ⟨fun w' hf j u hu => (hf.cell (p := p1.add j) (by rw [Rep.add_block]; exact Nat.lt_of_lt_of_le hp1l hal.size) (by rw [Rep.add_block]; omega)).trans ((below_cell hal (p := p1.add j) (by rw [Rep.add_block]; exact hp1l)).trans (hQ1 j u hu))⟩
          have HQ2 : Hold (∀ w', Fr (fun j => j = b10) W1 w' → ∀ (j : Nat) (u : Value), b.er.cells[j]? = some u → w'.cell? (p2.add j) = some u) := ⟨fun w' hf j u hu => (hf.cell (p := p2.add j) (by rw [Rep.add_block]; exact Nat.lt_of_lt_of_le hp2l hal.size) (by rw [Rep.add_block]; omega)).trans ((below_cell hal (p := p2.add j) (by rw [Rep.add_block]; exact hp2l)).trans (hQ2 j u hu))⟩
          have hcall := twice21_calls a b W1.drew _ rfl
          have hfd := faultD_eq 2 a b
          obtain ⟨⟨⟨x1, x2⟩, is⟩, hpd⟩ : ∃ pd, faultD 2 a b = pd := ⟨_, rfl⟩
          have hpd' : twiceD a b = ((x1, x2), is) := hpd
          rw [hpd'] at hcall
          rw [hpd] at hfd
          have HC : Hold (Calls Try.prog 154 #[.agg a.er.cells, .agg b.er.cells] W1.drew fun e w' => e = .returned (.tuple #[.agg #[.int .i64 x1, .int .i64 x2], .bool is]) ∧ Hold (Below W1.drew.heap.size W1.drew w')) := ⟨hcall⟩
          obtain ⟨y1, hy1⟩ : ∃ y, (bestP o).1 = y := ⟨_, rfl⟩
          obtain ⟨y2, hy2⟩ : ∃ y, (bestP o).2 = y := ⟨_, rfl⟩
          obtain ⟨n, hn⟩ : ∃ n, o.isNone = n := ⟨_, rfl⟩
          obtain ⟨q, hq⟩ : ∃ q, (n || lessP (x1, x2) (y1, y2)) = q := ⟨_, rfl⟩
          have HSs : Hold (leastFrom o0 ((l.take (k + 1)).map (fault 2 l[i])) = if (is && q) = true then some (x1, x2) else o) := ⟨by rw [ha, ← hss, ← hfd, put_doc, hn, ← hq, ← hy1, ← hy2]⟩
          have HBk : Hold (wr.heap[b6]? = some (.cells #[.int .i64 y1, .int .i64 y2] 172 (0, 0))) := ⟨by rw [← hy1, ← hy2]; exact HJ.out.blk⟩
          have HJ1 : Hold (PI b6 W0 W1 o ∧ b6 < wr.heap.size) := ⟨HJ.out.below hal, HJ.out.lt⟩
          have HBk1 : Hold (W1.heap[b6]? = some (.cells #[.int .i64 y1, .int .i64 y2] 172 (0, 0))) := ⟨(hal.block b6 HJ.out.lt).trans HBk.out⟩
          have HQb := Hold.mk hq
          have HNe : Hold (b6 ≠ b10 ∧ b6 < W1.heap.size ∧ W0.heap.size ≤ b10) := ⟨by have := HJ.out.lt; omega, Nat.lt_of_lt_of_le HJ.out.lt hal.size, by rw [← hb10]; exact HJ.out.fr.size⟩
          have HHn := Hold.mk hn
          rw [hn]
          have HW1 := Hold.mk hW1
          clear hW1 hss hrow hQ1 hF1 hQ2 hF2 ha hb hz1 hF1d hF2d hcall hfd hpd hpd' hy1 hy2 hq hn HBk hal HJ HO
          go_upto_region 16 with (fail)
          rw [HW1.out]
          clear hb10
          try simp only [Act.put, List.setIfInBounds_toArray, List.set_cons_zero, List.set_cons_succ]
          have hS : Fr (fun j => j = b10) W1 W1.drew := (Fr.refl _ _).drew
          refine rg_start (S := fun w' => Fr (fun j => j = b10) W1 w') 14 #[false, false, false, false, false, false, false, false, false, false, false, false, false, false] (by kernel_rfl) (by kernel_rfl) (by kernel_rfl) hS ?_
          refine rg_take 0 57 (.move (.tmp 0)) (.slice (some ad) l.length c) #[true, false, false, false, false, false, false, false, false, false, false, false, false, false] (by kernel_rfl) (by rfl) (by kernel_rfl) (by kernel_rfl) (by kernel_rfl) (fun _ _ _ h => h) (.inl ⟨by kernel_rfl, fun _ _ => by kernel_rfl⟩) hS ?_
          simp only [List.setIfInBounds_toArray, List.set_cons_zero, List.set_cons_succ]
          refine rg_take 1 58 (.move (.tmp 8)) (.int .i64 (i : Int)) #[true, true, false, false, false, false, false, false, false, false, false, false, false, false] (by kernel_rfl) (by rfl) (by kernel_rfl) (by kernel_rfl) (by kernel_rfl) (fun _ _ _ h => h) (.inl ⟨by kernel_rfl, fun _ _ => by kernel_rfl⟩) hS ?_
          simp only [List.setIfInBounds_toArray, List.set_cons_zero, List.set_cons_succ]
          refine rg_take 2 59 (.indexAddr 92 (.tmp 57) (.tmp 58)) (.pointer (some p1)) #[true, true, true, false, false, false, false, false, false, false, false, false, false, false] (by kernel_rfl) (by rfl) (by kernel_rfl) (by kernel_rfl) (by kernel_rfl) (fun _ _ _ h => h) (.inl ⟨by kernel_rfl, fun _ _ => by go_simp⟩) hS ?_
          simp only [List.setIfInBounds_toArray, List.set_cons_zero, List.set_cons_succ]
          refine rg_take 3 60 (.load 75 (.tmp 59)) (.agg a.er.cells) #[true, true, true, true, false, false, false, false, false, false, false, false, false, false] (by kernel_rfl) (by rfl) (by kernel_rfl) (by kernel_rfl) (by kernel_rfl) (fun _ _ _ h => h) (yl_old isD (by kernel_rfl) (ER.size _) (fun w' hSw => HQ1.out w' hSw) (by kernel_rfl)) hS ?_
          simp only [List.setIfInBounds_toArray, List.set_cons_zero, List.set_cons_succ]
          refine rg_take 4 61 (.move (.tmp 0)) (.slice (some ad) l.length c) #[true, true, true, true, true, false, false, false, false, false, false, false, false, false] (by kernel_rfl) (by rfl) (by kernel_rfl) (by kernel_rfl) (by kernel_rfl) (fun _ _ _ h => h) (.inl ⟨by kernel_rfl, fun _ _ => by kernel_rfl⟩) hS ?_
          simp only [List.setIfInBounds_toArray, List.set_cons_zero, List.set_cons_succ]
          refine rg_take 5 62 (.move (.tmp 9)) (.int .i64 (k : Int)) #[true, true, true, true, true, true, false, false, false, false, false, false, false, false] (by kernel_rfl) (by rfl) (by kernel_rfl) (by kernel_rfl) (by kernel_rfl) (fun _ _ _ h => h) (.inl ⟨by kernel_rfl, fun _ _ => by kernel_rfl⟩) hS ?_
          simp only [List.setIfInBounds_toArray, List.set_cons_zero, List.set_cons_succ]
          refine rg_take 6 63 (.indexAddr 92 (.tmp 61) (.tmp 62)) (.pointer (some p2)) #[true, true, true, true, true, true, true, false, false, false, false, false, false, false] (by kernel_rfl) (by rfl) (by kernel_rfl) (by kernel_rfl) (by kernel_rfl) (fun _ _ _ h => h) (.inl ⟨by kernel_rfl, fun _ _ => by go_simp⟩) hS ?_
          simp only [List.setIfInBounds_toArray, List.set_cons_zero, List.set_cons_succ]
          refine rg_take 7 64 (.load 75 (.tmp 63)) (.agg b.er.cells) #[true, true, true, true, true, true, true, true, false, false, false, false, false, false] (by kernel_rfl) (by rfl) (by kernel_rfl) (by kernel_rfl) (by kernel_rfl) (fun _ _ _ h => h) (yl_old isD (by kernel_rfl) (ER.size _) (fun w' hSw => HQ2.out w' hSw) (by kernel_rfl)) hS ?_
          simp only [List.setIfInBounds_toArray, List.set_cons_zero, List.set_cons_succ]
          refine rg_one 8 (some 65) (.call { callee := .value (.func 154), args := #[(.tmp 60), (.tmp 64)], argTypes := #[75, 75] }) #[true, true, true, true, true, true, true, true, true, false, false, false, false, false] (by kernel_rfl) (by kernel_rfl) (by rfl) (by kernel_rfl) (fun K hK => ?_)
          refine wp_callb (v := .tuple #[.agg #[.int .i64 x1, .int .i64 x2], .bool is]) (by go_simp) HC.out (fun Wc hbc => ?_)
          have hS : Fr (fun j => j = b10) W1 Wc := (Fr.refl _ _).drew.trans (Fr.of_below _ hbc.out) (fun _ _ h => h)
          have hzc := (hbc.out.block b10 HZ.out.1).trans HZ.out.2
          simp only [Act.put, List.setIfInBounds_toArray, List.set_cons_zero, List.set_cons_succ]
          refine hK.out _ _ hS ?_
          clear hK K
          refine rg_take 9 56 (.move (.tmp 65)) (.tuple #[.agg #[.int .i64 x1, .int .i64 x2], .bool is]) #[true, true, true, true, true, true, true, true, true, true, false, false, false, false] (by kernel_rfl) (by rfl) (by kernel_rfl) (by kernel_rfl) (by kernel_rfl) (fun _ _ _ h => h) (.inl ⟨by kernel_rfl, fun _ _ => by kernel_rfl⟩) hS ?_
          simp only [List.setIfInBounds_toArray, List.set_cons_zero, List.set_cons_succ]
          refine rg_take 10 66 (.extract (.tmp 56) 0) (.agg #[.int .i64 x1, .int .i64 x2]) #[true, true, true, true, true, true, true, true, true, true, true, false, false, false] (by kernel_rfl) (by rfl) (by kernel_rfl) (by kernel_rfl) (by kernel_rfl) (fun _ _ _ h => h) (.inl ⟨by kernel_rfl, fun _ _ => by go_simp⟩) hS ?_
          simp only [List.setIfInBounds_toArray, List.set_cons_zero, List.set_cons_succ]
          refine rg_take 11 67 (.extract (.tmp 56) 1) (.bool is) #[true, true, true, true, true, true, true, true, true, true, true, true, false, false] (by kernel_rfl) (by rfl) (by kernel_rfl) (by kernel_rfl) (by kernel_rfl) (fun _ _ _ h => h) (.inl ⟨by kernel_rfl, fun _ _ => by go_simp⟩) hS ?_
          simp only [List.setIfInBounds_toArray, List.set_cons_zero, List.set_cons_succ]
          refine rg_one 12 none (.store 172 (.tmp 10) (.tmp 66)) #[true, true, true, true, true, true, true, true, true, true, true, true, true, false] (by kernel_rfl) (by kernel_rfl) (by rfl) (by kernel_rfl) (fun K hK => ?_)
          refine Ord.wp_skip (w' := (Wc.setCell ⟨b10, 0, none⟩ (.int .i64 x1)).setCell ⟨b10, 1, none⟩ (.int .i64 x2)) (by have hc0 := cell_heap hzc 0; have hc1 := cell_heap hzc 1; have hz : ∀ k, Wc.frozen? ⟨b10, k, none⟩ = false := (fun k => by simp [World.frozen?, hzc]); go_simp) ?_
          obtain ⟨s1, s2⟩ := set2 hzc (.int .i64 x1) (.int .i64 x2)
          obtain ⟨W2, hW2⟩ : ∃ W, (Wc.setCell ⟨b10, 0, none⟩ (.int .i64 x1)).setCell ⟨b10, 1, none⟩ (.int .i64 x2) = W := ⟨_, rfl⟩
          rw [hW2] at s1 s2 ⊢
          have hS : Fr (fun j => j = b10) W1 W2 := hS.trans s2 (fun _ _ h => h)
          simp only [Act.put, List.setIfInBounds_toArray, List.set_cons_zero, List.set_cons_succ]
          refine hK.out _ _ hS ?_
          clear hK K
          refine rg_take 13 11 (.assign (.tmp 67)) (.bool is) #[true, true, true, true, true, true, true, true, true, true, true, true, true, true] (by kernel_rfl) (by rfl) (by kernel_rfl) (by kernel_rfl) (by kernel_rfl) (fun _ _ _ h => h) (.inl ⟨by kernel_rfl, fun _ _ => by kernel_rfl⟩) hS ?_
          simp only [List.setIfInBounds_toArray, List.set_cons_zero, List.set_cons_succ]
          refine wpAnyH_done (by kernel_rfl) ?_ _
          have hb6 := (hS.block b6 HNe.out.2.1 HNe.out.1).trans HBk1.out
          have HJ2 : Hold (PI b6 W0 W2 o) := ⟨(hS.block b6 HNe.out.2.1 HNe.out.1).trans HJ1.out.1.blk, HJ1.out.1.fr.trans hS (fun i hi h => by have h1 : i = b10 := h; have := HNe.out.2.2; omega)⟩
          have HLs := Hold.mk (less_calls' x1 x2 y1 y2 n W2 q HQb.out)
          have t0 : W2.cell? ⟨b10, 0, none⟩ = some (.int .i64 x1) := cell_heap s1 0
          have t1 : W2.cell? ⟨b10, 1, none⟩ = some (.int .i64 x2) := cell_heap s1 1
          have g0 : W2.cell? ⟨b6, 0, none⟩ = some (.int .i64 y1) := cell_heap hb6 0
          have g1 : W2.cell? ⟨b6, 1, none⟩ = some (.int .i64 y2) := cell_heap hb6 1
          have H10 := Hold.mk s1
          have H6 := Hold.mk hb6
          clear hS s1 s2 hzc hbc hW2 hb6
          have HFin : Hold ((is && q) = false → ∀ W3, Below W2.heap.size W2 W3 → Hold (leastFrom o0 ((l.take (k + 1)).map (fault 2 l[i])) = o) ∧ Hold (PI b6 W0 W3 o)) := ⟨fun hiq W3 h3 => ⟨⟨by rw [HSs.out, hiq]; rfl⟩, ⟨HJ2.out.below h3⟩⟩⟩
          cases is
          · go_wp2_with (go_at_call 156; refine HLs.out.mono ?_; rintro r W3 ⟨rfl, HB3⟩)
            obtain ⟨e1, e2⟩ := HFin.out rfl W3 HB3.out
            exact ⟨⟨k + 1, by omega, by go_num, o, congrArg Value.bool HHn.out.symm, e1, e2⟩, by simp [intOf]; omega⟩
          · cases q
            · go_wp2_with (go_at_call 156; refine HLs.out.mono ?_; rintro r W3 ⟨rfl, HB3⟩)
              obtain ⟨e1, e2⟩ := HFin.out rfl W3 HB3.out
              exact ⟨⟨k + 1, by omega, by go_num, o, congrArg Value.bool HHn.out.symm, e1, e2⟩, by simp [intOf]; omega⟩
            · have HSp : Hold (leastFrom o0 ((l.take (k + 1)).map (fault 2 l[i])) = some (x1, x2)) := ⟨by rw [HSs.out]; rfl⟩
              go_wp2_with (go_at_call 156; refine HLs.out.mono ?_; rintro r W3 ⟨rfl, HB3⟩; have h103 := (HB3.out.block b10 (Array.getElem?_eq_some_iff.1 H10.out).1).trans H10.out; have h63 := (HB3.out.block b6 (Array.getElem?_eq_some_iff.1 H6.out).1).trans H6.out; have t03 : W3.cell? ⟨b10, 0, none⟩ = some (.int .i64 x1) := cell_heap h103 0; have t13 : W3.cell? ⟨b10, 1, none⟩ = some (.int .i64 x2) := cell_heap h103 1; have g03 : W3.cell? ⟨b6, 0, none⟩ = some (.int .i64 y1) := cell_heap h63 0; have g13 : W3.cell? ⟨b6, 1, none⟩ = some (.int .i64 y2) := cell_heap h63 1; have z63 : ∀ k, W3.frozen? ⟨b6, k, none⟩ = false := (fun k => by simp [World.frozen?, h63]); have H63 := Hold.mk h63; clear h103 h63)
              obtain ⟨s1, s2⟩ := set2 H63.out (.int .i64 x1) (.int .i64 x2)
              exact ⟨⟨k + 1, by omega, by go_num, some (x1, x2), rfl, HSp, ⟨⟨s1, (HJ2.out.below HB3.out).fr.trans s2 (fun _ _ h => h)⟩⟩⟩, by simp [intOf]; omega⟩
        · obtain rfl : k = l.length := by omega
          have HOn : Hold (upto 2 l (i + 1) = o) := ⟨by rw [← HUs.out, HO.out]⟩
          go_wp2
          exact ⟨⟨i + 1, by omega, by go_num, o, rfl, HOn, HJ⟩, by simp [intOf]; omega⟩
    · obtain rfl : i = l.length := by omega
      have ho := HO.out
      rw [upto_all] at ho
      have hz4 := (HI.out.fr.block b4 H4.out.2.1 H4.out.2.2).trans H4.out.1
      have hz6 := HI.out.blk
      obtain ⟨y1, hy1⟩ : ∃ y, (bestP o).1 = y := ⟨_, rfl⟩
      obtain ⟨y2, hy2⟩ : ∃ y, (bestP o).2 = y := ⟨_, rfl⟩
      rw [hy1, hy2] at hz6
      have HPo : Hold (pc (bestP (pairs 2 l)) = #[.int .i64 y1, .int .i64 y2]) := ⟨by rw [ho, ← hy1, ← hy2]; rfl⟩
      have HSo : Hold ((pairs 2 l).isSome = !o.isNone) := ⟨by rw [ho]; cases o <;> rfl⟩
      obtain ⟨n, hn⟩ : ∃ n, o.isNone = n := ⟨_, rfl⟩
      rw [hn] at HSo ⊢
      have c0 : wr.cell? ⟨b4, 0, none⟩ = some (.int .i64 0) := cell_heap hz4 0
      have c1 : wr.cell? ⟨b4, 1, none⟩ = some (.int .i64 0) := cell_heap hz4 1
      have z4 : ∀ k, wr.frozen? ⟨b4, k, none⟩ = false := (fun k => by simp [World.frozen?, hz4])
      have d0 : wr.cell? ⟨b6, 0, none⟩ = some (.int .i64 y1) := cell_heap hz6 0
      have d1 : wr.cell? ⟨b6, 1, none⟩ = some (.int .i64 y2) := cell_heap hz6 1
      have HZ4 := Hold.mk hz4
      have HBw : Hold (Below w.heap.size w wr) := ⟨below_fr HBl.out HI.out.fr HL4.out.2⟩
      clear hz4 hz6 ho hy1 hy2 hn HO
      go_wp2
      obtain ⟨s1, s2⟩ := set2 HZ4.out (.int .i64 y1) (.int .i64 y2)
      exact bodyPost_ret (res_pair rfl rfl rfl s1 rfl) rfl ⟨by rw [HPo.out, HSo.out]; rfl, ⟨below_fr HBw.out s2 HL4.out.1⟩⟩
set_option maxHeartbeats 8000000 in
set_option maxRecDepth 100000 in
theorem pairs21_3 (A : Option Addr) (c : Nat) (l : List QE) (I : Nat → Prop) (w : World) (h : Rep.Row qeRep I w A l) :
    Calls Try.prog 132 #[.slice A l.length c, .int .i64 3] w fun r w' => r = .returned (.tuple #[.agg (pc (bestP (pairs 3 l))), .bool (pairs 3 l).isSome]) ∧ Hold (Below w.heap.size w w') := by
  have hm := h.len_le
  obtain ⟨b4, hb4⟩ : ∃ b, w.heap.size = b := ⟨_, rfl⟩
  obtain ⟨b6, hb6⟩ : ∃ b, b4 + 1 = b := ⟨_, rfl⟩
  obtain ⟨W0, hW0⟩ : ∃ W, (w.alloc (.cells #[.int .i64 0, .int .i64 0] 172)).alloc (.cells #[.int .i64 0, .int .i64 0] 172) = W := ⟨_, rfl⟩
  have hB : Bs w W0 [(b4, 172, #[.int .i64 0, .int .i64 0]), (b6, 172, #[.int .i64 0, .int .i64 0])] := by
    have h1 := ((Bs.nil w).alloc #[.int .i64 0, .int .i64 0] 172).alloc #[.int .i64 0, .int .i64 0] 172
    rw [hW0] at h1
    simpa [hb4, hb6] using h1
  have HR : Hold (Rep.Row qeRep (fun k => k ≠ b6) W0 A l) := ⟨h.move fun k _ hlt => ⟨by omega, hB.below.block k hlt⟩⟩
  have HP0 : Hold (PI b6 W0 W0 none) := ⟨⟨(hB.at_ 1 _ _ _ rfl).1, Fr.refl _ _⟩⟩
  have H4 : Hold (W0.heap[b4]? = some (.cells #[.int .i64 0, .int .i64 0] 172 (0, 0)) ∧ b4 < W0.heap.size ∧ b4 ≠ b6) := ⟨(hB.at_ 0 _ _ _ rfl).1, hB.lt 0 rfl, by omega⟩
  have HBl := Hold.mk hB.below
  have HL4 : Hold (w.heap.size ≤ b4 ∧ w.heap.size ≤ b6) := ⟨by omega⟩
  have HW0 := Hold.mk hW0
  clear h hB hW0
  go_enter Try.func132, Try.ntmps132
  go_wp2
  rw [HW0.out]
  clear hb4 hb6
  go_loopw [7, 8] (fun n s wr => ∃ i : Nat, i ≤ l.length ∧ s = .int .i64 (i : Int) ∧ ∃ o, n = .bool o.isNone ∧ Hold (upto 3 l i = o) ∧ Hold (PI b6 W0 wr o)) (fun _ s _ => l.length - (intOf s).toNat)
  case atStart => exact ⟨0, by omega, rfl, none, rfl, ⟨rfl⟩, HP0⟩
  case round =>
    obtain ⟨i, hi, rfl, o, rfl, HO, HI⟩ := hrel
    by_cases hlt : i < l.length
    · have l1 : (i : Int) < (l.length : Int) := by omega
      have HUs := Hold.mk (upto_succ 3 l i hlt)
      obtain ⟨o0, ho0⟩ : ∃ o0, upto 3 l i = o0 := ⟨_, rfl⟩
      have HO0 : Hold (o0 = o) := ⟨by rw [← ho0]; exact HO.out⟩
      rw [ho0] at HUs
      clear ho0 HO
      go_wp2
      go_loopw [7, 9] (fun n s wr => ∃ k : Nat, k ≤ l.length ∧ s = .int .i64 (k : Int) ∧ ∃ o, n = .bool o.isNone ∧ Hold (leastFrom o0 ((l.take k).map (fault 3 l[i])) = o) ∧ Hold (PI b6 W0 wr o)) (fun _ s _ => l.length - (intOf s).toNat)
      case atStart => exact ⟨0, by omega, rfl, o, rfl, HO0, HI⟩
      case round =>
        obtain ⟨k, hk, rfl, o, rfl, HO, HJ⟩ := hrel
        by_cases hlk : k < l.length
        · have l2 : (k : Int) < (l.length : Int) := by omega
          have hss := step_succ o0 (fault 3 l[i]) l k hlk
          rw [HO.out] at hss
          have hrow := row_frD HR.out HJ.out.fr
          obtain ⟨ad, p1, rfl, hp1, hp1l, hQ1, hF1⟩ := row_qe hrow i hlt
          obtain ⟨ad2, p2, hA2, hp2, hp2l, hQ2, hF2⟩ := row_qe hrow k hlk
          cases hA2
          obtain ⟨a, ha⟩ : ∃ a, l[i] = a := ⟨_, rfl⟩
          obtain ⟨b, hb⟩ : ∃ a, l[k] = a := ⟨_, rfl⟩
          rw [ha] at hQ1 hF1 hss
          rw [hb] at hQ2 hF2 hss
          have HAe := Hold.mk ha
          obtain ⟨b10, hb10⟩ : ∃ b, wr.heap.size = b := ⟨_, rfl⟩
          obtain ⟨W1, hW1⟩ : ∃ W, wr.alloc (.cells #[.int .i64 0, .int .i64 0] 172) = W := ⟨_, rfl⟩
          have hal : Below wr.heap.size wr W1 := by rw [← hW1]; exact (Below.refl _ _).alloc (Nat.le_refl _) _
          have hz1 : W1.heap[b10]? = some (.cells #[.int .i64 0, .int .i64 0] 172 (0, 0)) := by rw [← hW1, ← hb10]; exact Array.getElem?_push_size ..
          have HZ : Hold (b10 < W1.heap.size ∧ W1.heap[b10]? = some (.cells #[.int .i64 0, .int .i64 0] 172 (0, 0))) := ⟨(Array.getElem?_eq_some_iff.1 hz1).1, hz1⟩
          have hF1d : QF (fun k => k ≠ b6) W1.drew a := hF1.below (hal.trans (below_drewN W1 1 |>.mono hal.size))
          have hF2d : QF (fun k => k ≠ b6) W1.drew b := hF2.below (hal.trans (below_drewN W1 1 |>.mono hal.size))
          have HQ1 : Hold (∀ w', Fr (fun j => j = b10) W1 w' → ∀ (j : Nat) (u : Value), a.er.cells[j]? = some u → w'.cell? (p1.add j) = some u) := ⟨fun w' hf j u hu => (hf.cell (p := p1.add j) (by rw [Rep.add_block]; exact Nat.lt_of_lt_of_le hp1l hal.size) (by rw [Rep.add_block]; omega)).trans ((below_cell hal (p := p1.add j) (by rw [Rep.add_block]; exact hp1l)).trans (hQ1 j u hu))⟩
          have HQ2 : Hold (∀ w', Fr (fun j => j = b10) W1 w' → ∀ (j : Nat) (u : Value), b.er.cells[j]? = some u → w'.cell? (p2.add j) = some u) := ⟨fun w' hf j u hu => (hf.cell (p := p2.add j) (by rw [Rep.add_block]; exact Nat.lt_of_lt_of_le hp2l hal.size) (by rw [Rep.add_block]; omega)).trans ((below_cell hal (p := p2.add j) (by rw [Rep.add_block]; exact hp2l)).trans (hQ2 j u hu))⟩
          have hcall := missed21_calls a b W1.drew _ hF2d _ rfl
          have hfd := faultD_eq 3 a b
          obtain ⟨⟨⟨x1, x2⟩, is⟩, hpd⟩ : ∃ pd, faultD 3 a b = pd := ⟨_, rfl⟩
          have hpd' : missedD a b = ((x1, x2), is) := hpd
          rw [hpd'] at hcall
          rw [hpd] at hfd
          have HC : Hold (Calls Try.prog 155 #[.agg a.er.cells, .agg b.er.cells] W1.drew fun e w' => e = .returned (.tuple #[.agg #[.int .i64 x1, .int .i64 x2], .bool is]) ∧ Hold (Below W1.drew.heap.size W1.drew w')) := ⟨hcall⟩
          obtain ⟨y1, hy1⟩ : ∃ y, (bestP o).1 = y := ⟨_, rfl⟩
          obtain ⟨y2, hy2⟩ : ∃ y, (bestP o).2 = y := ⟨_, rfl⟩
          obtain ⟨n, hn⟩ : ∃ n, o.isNone = n := ⟨_, rfl⟩
          obtain ⟨q, hq⟩ : ∃ q, (n || lessP (x1, x2) (y1, y2)) = q := ⟨_, rfl⟩
          have HSs : Hold (leastFrom o0 ((l.take (k + 1)).map (fault 3 l[i])) = if (is && q) = true then some (x1, x2) else o) := ⟨by rw [ha, ← hss, ← hfd, put_doc, hn, ← hq, ← hy1, ← hy2]⟩
          have HBk : Hold (wr.heap[b6]? = some (.cells #[.int .i64 y1, .int .i64 y2] 172 (0, 0))) := ⟨by rw [← hy1, ← hy2]; exact HJ.out.blk⟩
          have HJ1 : Hold (PI b6 W0 W1 o ∧ b6 < wr.heap.size) := ⟨HJ.out.below hal, HJ.out.lt⟩
          have HBk1 : Hold (W1.heap[b6]? = some (.cells #[.int .i64 y1, .int .i64 y2] 172 (0, 0))) := ⟨(hal.block b6 HJ.out.lt).trans HBk.out⟩
          have HQb := Hold.mk hq
          have HNe : Hold (b6 ≠ b10 ∧ b6 < W1.heap.size ∧ W0.heap.size ≤ b10) := ⟨by have := HJ.out.lt; omega, Nat.lt_of_lt_of_le HJ.out.lt hal.size, by rw [← hb10]; exact HJ.out.fr.size⟩
          have HHn := Hold.mk hn
          rw [hn]
          have HW1 := Hold.mk hW1
          clear hW1 hss hrow hQ1 hF1 hQ2 hF2 ha hb hz1 hF1d hF2d hcall hfd hpd hpd' hy1 hy2 hq hn HBk hal HJ HO
          go_upto_region 12 with (fail)
          rw [HW1.out]
          clear hb10
          try simp only [Act.put, List.setIfInBounds_toArray, List.set_cons_zero, List.set_cons_succ]
          have hS : Fr (fun j => j = b10) W1 W1.drew := (Fr.refl _ _).drew
          refine rg_start (S := fun w' => Fr (fun j => j = b10) W1 w') 14 #[false, false, false, false, false, false, false, false, false, false, false, false, false, false] (by kernel_rfl) (by kernel_rfl) (by kernel_rfl) hS ?_
          refine rg_take 0 29 (.move (.tmp 0)) (.slice (some ad) l.length c) #[true, false, false, false, false, false, false, false, false, false, false, false, false, false] (by kernel_rfl) (by rfl) (by kernel_rfl) (by kernel_rfl) (by kernel_rfl) (fun _ _ _ h => h) (.inl ⟨by kernel_rfl, fun _ _ => by kernel_rfl⟩) hS ?_
          simp only [List.setIfInBounds_toArray, List.set_cons_zero, List.set_cons_succ]
          refine rg_take 1 30 (.move (.tmp 8)) (.int .i64 (i : Int)) #[true, true, false, false, false, false, false, false, false, false, false, false, false, false] (by kernel_rfl) (by rfl) (by kernel_rfl) (by kernel_rfl) (by kernel_rfl) (fun _ _ _ h => h) (.inl ⟨by kernel_rfl, fun _ _ => by kernel_rfl⟩) hS ?_
          simp only [List.setIfInBounds_toArray, List.set_cons_zero, List.set_cons_succ]
          refine rg_take 2 31 (.indexAddr 92 (.tmp 29) (.tmp 30)) (.pointer (some p1)) #[true, true, true, false, false, false, false, false, false, false, false, false, false, false] (by kernel_rfl) (by rfl) (by kernel_rfl) (by kernel_rfl) (by kernel_rfl) (fun _ _ _ h => h) (.inl ⟨by kernel_rfl, fun _ _ => by go_simp⟩) hS ?_
          simp only [List.setIfInBounds_toArray, List.set_cons_zero, List.set_cons_succ]
          refine rg_take 3 32 (.load 75 (.tmp 31)) (.agg a.er.cells) #[true, true, true, true, false, false, false, false, false, false, false, false, false, false] (by kernel_rfl) (by rfl) (by kernel_rfl) (by kernel_rfl) (by kernel_rfl) (fun _ _ _ h => h) (yl_old isD (by kernel_rfl) (ER.size _) (fun w' hSw => HQ1.out w' hSw) (by kernel_rfl)) hS ?_
          simp only [List.setIfInBounds_toArray, List.set_cons_zero, List.set_cons_succ]
          refine rg_take 4 33 (.move (.tmp 0)) (.slice (some ad) l.length c) #[true, true, true, true, true, false, false, false, false, false, false, false, false, false] (by kernel_rfl) (by rfl) (by kernel_rfl) (by kernel_rfl) (by kernel_rfl) (fun _ _ _ h => h) (.inl ⟨by kernel_rfl, fun _ _ => by kernel_rfl⟩) hS ?_
          simp only [List.setIfInBounds_toArray, List.set_cons_zero, List.set_cons_succ]
          refine rg_take 5 34 (.move (.tmp 9)) (.int .i64 (k : Int)) #[true, true, true, true, true, true, false, false, false, false, false, false, false, false] (by kernel_rfl) (by rfl) (by kernel_rfl) (by kernel_rfl) (by kernel_rfl) (fun _ _ _ h => h) (.inl ⟨by kernel_rfl, fun _ _ => by kernel_rfl⟩) hS ?_
          simp only [List.setIfInBounds_toArray, List.set_cons_zero, List.set_cons_succ]
          refine rg_take 6 35 (.indexAddr 92 (.tmp 33) (.tmp 34)) (.pointer (some p2)) #[true, true, true, true, true, true, true, false, false, false, false, false, false, false] (by kernel_rfl) (by rfl) (by kernel_rfl) (by kernel_rfl) (by kernel_rfl) (fun _ _ _ h => h) (.inl ⟨by kernel_rfl, fun _ _ => by go_simp⟩) hS ?_
          simp only [List.setIfInBounds_toArray, List.set_cons_zero, List.set_cons_succ]
          refine rg_take 7 36 (.load 75 (.tmp 35)) (.agg b.er.cells) #[true, true, true, true, true, true, true, true, false, false, false, false, false, false] (by kernel_rfl) (by rfl) (by kernel_rfl) (by kernel_rfl) (by kernel_rfl) (fun _ _ _ h => h) (yl_old isD (by kernel_rfl) (ER.size _) (fun w' hSw => HQ2.out w' hSw) (by kernel_rfl)) hS ?_
          simp only [List.setIfInBounds_toArray, List.set_cons_zero, List.set_cons_succ]
          refine rg_one 8 (some 37) (.call { callee := .value (.func 155), args := #[(.tmp 32), (.tmp 36)], argTypes := #[75, 75] }) #[true, true, true, true, true, true, true, true, true, false, false, false, false, false] (by kernel_rfl) (by kernel_rfl) (by rfl) (by kernel_rfl) (fun K hK => ?_)
          refine wp_callb (v := .tuple #[.agg #[.int .i64 x1, .int .i64 x2], .bool is]) (by go_simp) HC.out (fun Wc hbc => ?_)
          have hS : Fr (fun j => j = b10) W1 Wc := (Fr.refl _ _).drew.trans (Fr.of_below _ hbc.out) (fun _ _ h => h)
          have hzc := (hbc.out.block b10 HZ.out.1).trans HZ.out.2
          simp only [Act.put, List.setIfInBounds_toArray, List.set_cons_zero, List.set_cons_succ]
          refine hK.out _ _ hS ?_
          clear hK K
          refine rg_take 9 28 (.move (.tmp 37)) (.tuple #[.agg #[.int .i64 x1, .int .i64 x2], .bool is]) #[true, true, true, true, true, true, true, true, true, true, false, false, false, false] (by kernel_rfl) (by rfl) (by kernel_rfl) (by kernel_rfl) (by kernel_rfl) (fun _ _ _ h => h) (.inl ⟨by kernel_rfl, fun _ _ => by kernel_rfl⟩) hS ?_
          simp only [List.setIfInBounds_toArray, List.set_cons_zero, List.set_cons_succ]
          refine rg_take 10 38 (.extract (.tmp 28) 0) (.agg #[.int .i64 x1, .int .i64 x2]) #[true, true, true, true, true, true, true, true, true, true, true, false, false, false] (by kernel_rfl) (by rfl) (by kernel_rfl) (by kernel_rfl) (by kernel_rfl) (fun _ _ _ h => h) (.inl ⟨by kernel_rfl, fun _ _ => by go_simp⟩) hS ?_
          simp only [List.setIfInBounds_toArray, List.set_cons_zero, List.set_cons_succ]
          refine rg_take 11 39 (.extract (.tmp 28) 1) (.bool is) #[true, true, true, true, true, true, true, true, true, true, true, true, false, false] (by kernel_rfl) (by rfl) (by kernel_rfl) (by kernel_rfl) (by kernel_rfl) (fun _ _ _ h => h) (.inl ⟨by kernel_rfl, fun _ _ => by go_simp⟩) hS ?_
          simp only [List.setIfInBounds_toArray, List.set_cons_zero, List.set_cons_succ]
          refine rg_one 12 none (.store 172 (.tmp 10) (.tmp 38)) #[true, true, true, true, true, true, true, true, true, true, true, true, true, false] (by kernel_rfl) (by kernel_rfl) (by rfl) (by kernel_rfl) (fun K hK => ?_)
          refine Ord.wp_skip (w' := (Wc.setCell ⟨b10, 0, none⟩ (.int .i64 x1)).setCell ⟨b10, 1, none⟩ (.int .i64 x2)) (by have hc0 := cell_heap hzc 0; have hc1 := cell_heap hzc 1; have hz : ∀ k, Wc.frozen? ⟨b10, k, none⟩ = false := (fun k => by simp [World.frozen?, hzc]); go_simp) ?_
          obtain ⟨s1, s2⟩ := set2 hzc (.int .i64 x1) (.int .i64 x2)
          obtain ⟨W2, hW2⟩ : ∃ W, (Wc.setCell ⟨b10, 0, none⟩ (.int .i64 x1)).setCell ⟨b10, 1, none⟩ (.int .i64 x2) = W := ⟨_, rfl⟩
          rw [hW2] at s1 s2 ⊢
          have hS : Fr (fun j => j = b10) W1 W2 := hS.trans s2 (fun _ _ h => h)
          simp only [Act.put, List.setIfInBounds_toArray, List.set_cons_zero, List.set_cons_succ]
          refine hK.out _ _ hS ?_
          clear hK K
          refine rg_take 13 11 (.assign (.tmp 39)) (.bool is) #[true, true, true, true, true, true, true, true, true, true, true, true, true, true] (by kernel_rfl) (by rfl) (by kernel_rfl) (by kernel_rfl) (by kernel_rfl) (fun _ _ _ h => h) (.inl ⟨by kernel_rfl, fun _ _ => by kernel_rfl⟩) hS ?_
          simp only [List.setIfInBounds_toArray, List.set_cons_zero, List.set_cons_succ]
          refine wpAnyH_done (by kernel_rfl) ?_ _
          have hb6 := (hS.block b6 HNe.out.2.1 HNe.out.1).trans HBk1.out
          have HJ2 : Hold (PI b6 W0 W2 o) := ⟨(hS.block b6 HNe.out.2.1 HNe.out.1).trans HJ1.out.1.blk, HJ1.out.1.fr.trans hS (fun i hi h => by have h1 : i = b10 := h; have := HNe.out.2.2; omega)⟩
          have HLs := Hold.mk (less_calls' x1 x2 y1 y2 n W2 q HQb.out)
          have t0 : W2.cell? ⟨b10, 0, none⟩ = some (.int .i64 x1) := cell_heap s1 0
          have t1 : W2.cell? ⟨b10, 1, none⟩ = some (.int .i64 x2) := cell_heap s1 1
          have g0 : W2.cell? ⟨b6, 0, none⟩ = some (.int .i64 y1) := cell_heap hb6 0
          have g1 : W2.cell? ⟨b6, 1, none⟩ = some (.int .i64 y2) := cell_heap hb6 1
          have H10 := Hold.mk s1
          have H6 := Hold.mk hb6
          clear hS s1 s2 hzc hbc hW2 hb6
          have HFin : Hold ((is && q) = false → ∀ W3, Below W2.heap.size W2 W3 → Hold (leastFrom o0 ((l.take (k + 1)).map (fault 3 l[i])) = o) ∧ Hold (PI b6 W0 W3 o)) := ⟨fun hiq W3 h3 => ⟨⟨by rw [HSs.out, hiq]; rfl⟩, ⟨HJ2.out.below h3⟩⟩⟩
          cases is
          · go_wp2_with (go_at_call 156; refine HLs.out.mono ?_; rintro r W3 ⟨rfl, HB3⟩)
            obtain ⟨e1, e2⟩ := HFin.out rfl W3 HB3.out
            exact ⟨⟨k + 1, by omega, by go_num, o, congrArg Value.bool HHn.out.symm, e1, e2⟩, by simp [intOf]; omega⟩
          · cases q
            · go_wp2_with (go_at_call 156; refine HLs.out.mono ?_; rintro r W3 ⟨rfl, HB3⟩)
              obtain ⟨e1, e2⟩ := HFin.out rfl W3 HB3.out
              exact ⟨⟨k + 1, by omega, by go_num, o, congrArg Value.bool HHn.out.symm, e1, e2⟩, by simp [intOf]; omega⟩
            · have HSp : Hold (leastFrom o0 ((l.take (k + 1)).map (fault 3 l[i])) = some (x1, x2)) := ⟨by rw [HSs.out]; rfl⟩
              go_wp2_with (go_at_call 156; refine HLs.out.mono ?_; rintro r W3 ⟨rfl, HB3⟩; have h103 := (HB3.out.block b10 (Array.getElem?_eq_some_iff.1 H10.out).1).trans H10.out; have h63 := (HB3.out.block b6 (Array.getElem?_eq_some_iff.1 H6.out).1).trans H6.out; have t03 : W3.cell? ⟨b10, 0, none⟩ = some (.int .i64 x1) := cell_heap h103 0; have t13 : W3.cell? ⟨b10, 1, none⟩ = some (.int .i64 x2) := cell_heap h103 1; have g03 : W3.cell? ⟨b6, 0, none⟩ = some (.int .i64 y1) := cell_heap h63 0; have g13 : W3.cell? ⟨b6, 1, none⟩ = some (.int .i64 y2) := cell_heap h63 1; have z63 : ∀ k, W3.frozen? ⟨b6, k, none⟩ = false := (fun k => by simp [World.frozen?, h63]); have H63 := Hold.mk h63; clear h103 h63)
              obtain ⟨s1, s2⟩ := set2 H63.out (.int .i64 x1) (.int .i64 x2)
              exact ⟨⟨k + 1, by omega, by go_num, some (x1, x2), rfl, HSp, ⟨⟨s1, (HJ2.out.below HB3.out).fr.trans s2 (fun _ _ h => h)⟩⟩⟩, by simp [intOf]; omega⟩
        · obtain rfl : k = l.length := by omega
          have HOn : Hold (upto 3 l (i + 1) = o) := ⟨by rw [← HUs.out, HO.out]⟩
          go_wp2
          exact ⟨⟨i + 1, by omega, by go_num, o, rfl, HOn, HJ⟩, by simp [intOf]; omega⟩
    · obtain rfl : i = l.length := by omega
      have ho := HO.out
      rw [upto_all] at ho
      have hz4 := (HI.out.fr.block b4 H4.out.2.1 H4.out.2.2).trans H4.out.1
      have hz6 := HI.out.blk
      obtain ⟨y1, hy1⟩ : ∃ y, (bestP o).1 = y := ⟨_, rfl⟩
      obtain ⟨y2, hy2⟩ : ∃ y, (bestP o).2 = y := ⟨_, rfl⟩
      rw [hy1, hy2] at hz6
      have HPo : Hold (pc (bestP (pairs 3 l)) = #[.int .i64 y1, .int .i64 y2]) := ⟨by rw [ho, ← hy1, ← hy2]; rfl⟩
      have HSo : Hold ((pairs 3 l).isSome = !o.isNone) := ⟨by rw [ho]; cases o <;> rfl⟩
      obtain ⟨n, hn⟩ : ∃ n, o.isNone = n := ⟨_, rfl⟩
      rw [hn] at HSo ⊢
      have c0 : wr.cell? ⟨b4, 0, none⟩ = some (.int .i64 0) := cell_heap hz4 0
      have c1 : wr.cell? ⟨b4, 1, none⟩ = some (.int .i64 0) := cell_heap hz4 1
      have z4 : ∀ k, wr.frozen? ⟨b4, k, none⟩ = false := (fun k => by simp [World.frozen?, hz4])
      have d0 : wr.cell? ⟨b6, 0, none⟩ = some (.int .i64 y1) := cell_heap hz6 0
      have d1 : wr.cell? ⟨b6, 1, none⟩ = some (.int .i64 y2) := cell_heap hz6 1
      have HZ4 := Hold.mk hz4
      have HBw : Hold (Below w.heap.size w wr) := ⟨below_fr HBl.out HI.out.fr HL4.out.2⟩
      clear hz4 hz6 ho hy1 hy2 hn HO
      go_wp2
      obtain ⟨s1, s2⟩ := set2 HZ4.out (.int .i64 y1) (.int .i64 y2)
      exact bodyPost_ret (res_pair rfl rfl rfl s1 rfl) rfl ⟨by rw [HPo.out, HSo.out]; rfl, ⟨below_fr HBw.out s2 HL4.out.1⟩⟩
theorem pairs21_calls (f : Nat) (hf : 1 ≤ f ∧ f ≤ 3) (A : Option Addr) (c : Nat) (l : List QE) (I : Nat → Prop) (w : World) (h : Rep.Row qeRep I w A l) :
    Calls Try.prog 132 #[.slice A l.length c, .int .i64 (f : Int)] w fun r w' => r = .returned (.tuple #[.agg (pc (bestP (pairs f l))), .bool (pairs f l).isSome]) ∧ Hold (Below w.heap.size w w') := by
  rcases f with _ | _ | _ | _ | f
  · omega
  · exact pairs21_1 A c l I w h
  · exact pairs21_2 A c l I w h
  · exact pairs21_3 A c l I w h
  · omega
end Go.Proofs.Ytebhclgnpnlekaa.Chk
