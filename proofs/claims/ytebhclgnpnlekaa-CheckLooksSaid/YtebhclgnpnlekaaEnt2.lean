/- package entry's Entry: what is told of it, by its walks. -/
import Derived.Test.YtebhclgnpnlekaaEnt1
namespace Go.Proofs.Ytebhclgnpnlekaa.Ent
open Go.RowKit Go.Proofs.Ytebhclgnpnlekaa.B Go.Proofs.Ytebhclgnpnlekaa.Cmd Go.Proofs.Ytebhclgnpnlekaa.Agg
open Go.Proofs.Ytebhclgnpnlekaa.Preds (okSet)
def cmdArr (c : CmdD) : Array Value := #[.int .i64 c.id, .int .i64 c.kind, .int .i64 c.sym, .int .i64 c.tgt, .int .i64 c.side, .int .i64 c.price, .int .i64 c.qty]
theorem cmdArr_all (c : CmdD) : (cmdArr c)[0]? = some (.int .i64 c.id) ∧ (cmdArr c)[1]? = some (.int .i64 c.kind) ∧ (cmdArr c)[2]? = some (.int .i64 c.sym) ∧ (cmdArr c)[3]? = some (.int .i64 c.tgt) ∧ (cmdArr c)[4]? = some (.int .i64 c.side) ∧ (cmdArr c)[5]? = some (.int .i64 c.price) ∧ (cmdArr c)[6]? = some (.int .i64 c.qty) := ⟨rfl, rfl, rfl, rfl, rfl, rfl, rfl⟩
set_option maxHeartbeats 4000000 in
set_option maxRecDepth 100000 in
theorem ahead_calls (e : ER) (t : Int) (w : World) (b : Bool) (hb : (if e.dn = true then decide (e.v.t < t) else (e.lo != 0) && decide (e.lo < t)) = b) : Calls Try.prog 103 #[.agg e.cells, .int .i64 t] w fun r w' => r = .returned (.bool b) ∧ Below w.heap.size w w' := by
  have ka := e.all
  obtain ⟨g, hg⟩ : ∃ g, w.heap.size = g := ⟨_, rfl⟩
  obtain ⟨W, hW⟩ : ∃ W, w.alloc (.cells e.cells 70) = W := ⟨_, rfl⟩
  have hB := one_new w e.cells 70
  rw [hW, hg] at hB
  have hc := hB.cell 0 rfl
  obtain ⟨dn, hdn⟩ : ∃ dn, e.dn = dn := ⟨_, rfl⟩
  rw [hdn] at hb
  cases dn
  · rw [if_neg (by decide)] at hb
    obtain ⟨b0, h0⟩ : ∃ b0, (e.lo != 0) = b0 := ⟨_, rfl⟩
    rw [h0] at hb
    have HB := Hold.mk hb
    clear hb
    cases b0
    all_goals
      go_enter Try.func103, Try.ntmps103
      go_wp2
      go_ret
      exact ⟨by rw [← HB.out]; first | rfl | simp, by first | exact hB.below | (rw [← hg]; exact hB.below)⟩
  · rw [if_pos rfl] at hb
    have HB := Hold.mk hb
    clear hb
    go_enter Try.func103, Try.ntmps103
    go_wp2
    go_ret
    exact ⟨by rw [← HB.out]; first | rfl | simp, by first | exact hB.below | (rw [← hg]; exact hB.below)⟩
set_option maxHeartbeats 4000000 in
set_option maxRecDepth 100000 in
theorem holds_calls (e : ER) (t : Int) (w : World) (b : Bool) (hb : (!e.dn && decide (t < e.hi)) = b) : Calls Try.prog 104 #[.agg e.cells, .int .i64 t] w fun r w' => r = .returned (.bool b) ∧ Below w.heap.size w w' := by
  have ka := e.all
  obtain ⟨g, hg⟩ : ∃ g, w.heap.size = g := ⟨_, rfl⟩
  obtain ⟨W, hW⟩ : ∃ W, w.alloc (.cells e.cells 70) = W := ⟨_, rfl⟩
  have hB := one_new w e.cells 70
  rw [hW, hg] at hB
  have hc := hB.cell 0 rfl
  obtain ⟨dn, hdn⟩ : ∃ dn, e.dn = dn := ⟨_, rfl⟩
  rw [hdn] at hb
  have HB := Hold.mk hb
  clear hb
  cases dn
  all_goals
    go_enter Try.func104, Try.ntmps104
    go_wp2
    go_ret
    exact ⟨by rw [← HB.out]; first | rfl | simp, by first | exact hB.below | (rw [← hg]; exact hB.below)⟩
set_option maxHeartbeats 4000000 in
set_option maxRecDepth 100000 in
theorem fits_calls (e : ER) (w : World) (b : Bool) (hb : (decide (e.f.n ≤ 80) && decide (e.a.n ≤ 80) && decide (e.v.n ≤ 80)) = b) : Calls Try.prog 49 #[.agg e.cells] w fun r w' => r = .returned (.bool b) ∧ Below w.heap.size w w' := by
  have ka := e.all
  obtain ⟨g, hg⟩ : ∃ g, w.heap.size = g := ⟨_, rfl⟩
  obtain ⟨W, hW⟩ : ∃ W, w.alloc (.cells e.cells 70) = W := ⟨_, rfl⟩
  have hB := one_new w e.cells 70
  rw [hW, hg] at hB
  have hc := hB.cell 0 rfl
  obtain ⟨b1, h1⟩ : ∃ b0, decide (e.f.n ≤ 80) = b0 := ⟨_, rfl⟩
  obtain ⟨b2, h2⟩ : ∃ b0, decide (e.a.n ≤ 80) = b0 := ⟨_, rfl⟩
  obtain ⟨b3, h3⟩ : ∃ b0, decide (e.v.n ≤ 80) = b0 := ⟨_, rfl⟩
  have t1 : decide ((e.f.n : Int) ≤ 80) = b1 := by rw [← h1, decide_eq_decide]; omega
  have t2 : decide ((e.a.n : Int) ≤ 80) = b2 := by rw [← h2, decide_eq_decide]; omega
  have t3 : decide ((e.v.n : Int) ≤ 80) = b3 := by rw [← h3, decide_eq_decide]; omega
  rw [h1, h2, h3] at hb
  have HB := Hold.mk hb
  clear hb h1 h2 h3
  cases b1
  · go_enter Try.func49, Try.ntmps49
    go_wp2
    go_ret
    exact ⟨by rw [← HB.out]; rfl, by first | exact hB.below | (rw [← hg]; exact hB.below)⟩
  · cases b2
    · go_enter Try.func49, Try.ntmps49
      go_wp2
      go_ret
      exact ⟨by rw [← HB.out]; rfl, by first | exact hB.below | (rw [← hg]; exact hB.below)⟩
    · go_enter Try.func49, Try.ntmps49
      go_wp2
      go_ret
      exact ⟨by rw [← HB.out]; simp, by first | exact hB.below | (rw [← hg]; exact hB.below)⟩
set_option maxHeartbeats 4000000 in
set_option maxRecDepth 100000 in
theorem of_calls (e : ER) (w : World) : Calls Try.prog 52 #[.agg e.cells] w fun r w' => r = .returned (.agg e.cells) ∧ Below w.heap.size w w' := by
  have ka := e.all
  obtain ⟨g, hg⟩ : ∃ g, w.heap.size = g := ⟨_, rfl⟩
  obtain ⟨W, hW⟩ : ∃ W, (w.alloc (.cells e.cells 70)).alloc (.cells noER.cells 75) = W := ⟨_, rfl⟩
  have hB := pair_new w e.cells noER.cells 70 75
  rw [hW, hg] at hB
  have hc := hB.cell 0 rfl
  simp only [noER_cells] at hW
  go_enter Try.func52, Try.ntmps52
  go_wp2_with (first
    | (refine wpl_store (C' := ER.cells e) isD rfl rfl hB 1 rfl (ER.size _) (ER.size _) (ER.one _) rfl ?_; intro W2 hB; simp only [List.set] at hB))
  exact bodyPost_ret (res_one rfl rfl isD hB 1 rfl (ER.size _)) rfl ⟨rfl, by first | exact hB.below | (rw [← hg]; exact hB.below)⟩
def okMust (v : VR) (l : List CmdD) (b : Bool) : Bool := if b = true then okFull v l else okNone v
set_option maxHeartbeats 4000000 in
set_option maxRecDepth 100000 in
theorem must_calls (v : VR) (l : List CmdD) (is : Bool) (w : World) (b : Bool) (h : VAt w v l) (hb : okMust v l is = b) : Calls Try.prog 98 #[.agg v.cells, .bool is] w fun r w' => r = .returned (.bool b) ∧ Below w.heap.size w w' := by
  have kv := v.all
  have H := Hold.mk h
  clear h
  obtain ⟨g, hg⟩ : ∃ g, w.heap.size = g := ⟨_, rfl⟩
  obtain ⟨W, hW⟩ : ∃ W, (w.alloc (.cells v.cells 34)) = W := ⟨_, rfl⟩
  have hB := one_new w v.cells 34
  rw [hW, hg] at hB
  have hd := hB.cell 0 rfl
  cases is
  · have HE : Hold (okNone v = b) := ⟨hb⟩
    clear hb
    go_enter Try.func98, Try.ntmps98
    go_wp2_with (first
      | (go_at_call 142; refine (none_calls v _).mono ?_; rintro r w1 ⟨rfl, hb1⟩; rw [HE.out]; replace hB := hB.step hb1)
      | (refine wpl_load isV rfl hB 0 rfl (VR.size _) rfl ?_))
    go_ret
    exact ⟨rfl, by first | exact hB.below | (rw [← hg]; exact hB.below)⟩
  · have HE : Hold (okFull v l = b) := ⟨hb⟩
    clear hb
    go_enter Try.func98, Try.ntmps98
    go_wp2_with (first
      | (go_at_call 141; refine (full_calls v l _ b (H.out.below hB.below) HE.out).mono ?_; rintro r w1 ⟨rfl, hb1⟩; replace hB := hB.step hb1)
      | (refine wpl_load isV rfl hB 0 rfl (VR.size _) rfl ?_))
    go_ret
    exact ⟨rfl, by first | exact hB.below | (rw [← hg]; exact hB.below)⟩
set_option maxHeartbeats 4000000 in
set_option maxRecDepth 100000 in
theorem new_calls (c : CmdD) (w : World) (hw : c.wf) : Calls Try.prog 99 #[c.v] w fun r w' => r = .returned (.tuple #[.agg (if okCmd c = true then { noER with c := c } else noER).cells, .int .i64 (if okCmd c = true then 0 else 1)]) ∧ Below w.heap.size w w' := by
  obtain ⟨g, hg⟩ : ∃ g, w.heap.size = g := ⟨_, rfl⟩
  obtain ⟨W, hW⟩ : ∃ W, (w.alloc (.cells (cmdArr c) 45)).alloc (.cells noER.cells 70) = W := ⟨_, rfl⟩
  have hB := pair_new w (cmdArr c) noER.cells 45 70
  rw [hW, hg] at hB
  have hc := hB.cell 0 rfl
  have kc := cmdArr_all c
  simp only [noER_cells, cmdArr] at hW
  have HWf := Hold.mk hw
  clear hw
  obtain ⟨ok, hok⟩ : ∃ ok, okCmd c = ok := ⟨_, rfl⟩
  have HOks : Hold (okCmds [c] = ok) := ⟨by simp [okCmds, hok]⟩
  rw [hok]
  clear hok
  cases ok
  · rw [if_neg (by decide), if_neg (by decide)]
    go_enter Try.func99, Try.ntmps99
    go_wp2_with (first
      | (go_at_call 80; refine (Cmd.right_calls _ 1 1 [c] _ _ rfl (Rep.row_box (d := cmdRep) (I := fun _ => True) (x := c) 45 ⟨rfl, HWf.out⟩) _ HOks.out).mono ?_; rintro r w1 ⟨rfl, hb1⟩; replace hB := hB.step (((Below.refl _ _).alloc (Nat.le_refl _) _).trans (hb1.out.mono (by simp))); have hc := hB.cell 0 rfl)
      | (refine wpl_store (C' := ER.cells noER) isE rfl rfl hB 1 rfl (ER.size _) (ER.size _) (ER.one _) rfl ?_; intro W2 hB; simp only [List.set] at hB))
    exact bodyPost_ret (res_two rfl rfl rfl isE hB 1 rfl (ER.size _)) rfl ⟨rfl, by first | exact hB.below | (rw [← hg]; exact hB.below)⟩
  · rw [if_pos rfl, if_pos rfl]
    go_enter Try.func99, Try.ntmps99
    go_wp2_with (first
      | (go_at_call 80; refine (Cmd.right_calls _ 1 1 [c] _ _ rfl (Rep.row_box (d := cmdRep) (I := fun _ => True) (x := c) 45 ⟨rfl, HWf.out⟩) _ HOks.out).mono ?_; rintro r w1 ⟨rfl, hb1⟩; replace hB := hB.step (((Below.refl _ _).alloc (Nat.le_refl _) _).trans (hb1.out.mono (by simp))); have hc := hB.cell 0 rfl)
      | (refine wpl_store (C' := ER.cells { noER with c := c }) isE rfl rfl hB 1 rfl (ER.size _) (ER.size _) (ER.one _) rfl ?_; intro W2 hB; simp only [List.set] at hB))
    exact bodyPost_ret (res_two rfl rfl rfl isE hB 1 rfl (ER.size _)) rfl ⟨rfl, by first | exact hB.below | (rw [← hg]; exact hB.below)⟩
end Go.Proofs.Ytebhclgnpnlekaa.Ent
