/- package entry's Entry, its acts, by their walks. -/
import Derived.Test.YtebhclgnpnlekaaVal
namespace Go.Proofs.Ytebhclgnpnlekaa.Ent
open Go.RowKit Go.Proofs.Ytebhclgnpnlekaa.B Go.Proofs.Ytebhclgnpnlekaa.Cmd Go.Proofs.Ytebhclgnpnlekaa.Agg
/-- An entry, as it lies there. -/
structure ER where
  c : CmdD
  pr : Int
  lo : Int
  hi : Int
  f : VR
  ab : Int
  a : VR
  fr : Bool
  dn : Bool
  v : VR
def ER.cells (e : ER) : Array Value := #[.int .i64 e.c.id, .int .i64 e.c.kind, .int .i64 e.c.sym, .int .i64 e.c.tgt, .int .i64 e.c.side, .int .i64 e.c.price, .int .i64 e.c.qty, .int .i64 e.pr, .int .i64 e.lo, .int .i64 e.hi, .int .i64 e.f.t, .slice e.f.A e.f.n e.f.c, .int .i64 e.ab, .int .i64 e.a.t, .slice e.a.A e.a.n e.a.c, .bool e.fr, .bool e.dn, .int .i64 e.v.t, .slice e.v.A e.v.n e.v.c]
def noVR : VR := ⟨0, none, 0, 0⟩
def noER : ER := ⟨⟨0, 0, 0, 0, 0, 0, 0⟩, 0, 0, 0, noVR, 0, noVR, false, false, noVR⟩
theorem ER.size (e : ER) : e.cells.size = 19 := rfl
theorem ER.ones (e : ER) : ∀ u ∈ e.cells.toList, u.oneCell' = true := by
  intro u hu
  simp only [ER.cells, List.mem_cons, List.not_mem_nil, or_false] at hu
  rcases hu with rfl | rfl | rfl | rfl | rfl | rfl | rfl | rfl | rfl | rfl | rfl | rfl | rfl | rfl | rfl | rfl | rfl | rfl | rfl <;> rfl
theorem ER.one (e : ER) : e.cells.all (·.oneCell') = true := Array.all_eq_true_iff_forall_mem.2 fun u hu => e.ones u (by simpa using hu)
theorem one_int {k : IntKind} {x : Int} : ∀ u ∈ (#[Value.int k x] : Array Value).toList, u.oneCell' = true := by intro u hu; simp only [List.mem_singleton] at hu; subst hu; rfl
theorem one_bool {x : Bool} : ∀ u ∈ (#[Value.bool x] : Array Value).toList, u.oneCell' = true := by intro u hu; simp only [List.mem_singleton] at hu; subst hu; rfl
theorem noER_cells : noER.cells = #[.int .i64 0, .int .i64 0, .int .i64 0, .int .i64 0, .int .i64 0, .int .i64 0, .int .i64 0, .int .i64 0, .int .i64 0, .int .i64 0, .int .i64 0, .slice none 0 0, .int .i64 0, .int .i64 0, .slice none 0 0, .bool false, .bool false, .int .i64 0, .slice none 0 0] := rfl
theorem ER.all (e : ER) : e.cells[0]? = some (.int .i64 e.c.id) ∧ e.cells[1]? = some (.int .i64 e.c.kind) ∧ e.cells[2]? = some (.int .i64 e.c.sym) ∧ e.cells[3]? = some (.int .i64 e.c.tgt) ∧ e.cells[4]? = some (.int .i64 e.c.side) ∧ e.cells[5]? = some (.int .i64 e.c.price) ∧ e.cells[6]? = some (.int .i64 e.c.qty) ∧ e.cells[7]? = some (.int .i64 e.pr) ∧ e.cells[8]? = some (.int .i64 e.lo) ∧ e.cells[9]? = some (.int .i64 e.hi) ∧ e.cells[10]? = some (.int .i64 e.f.t) ∧ e.cells[11]? = some (.slice e.f.A e.f.n e.f.c) ∧ e.cells[12]? = some (.int .i64 e.ab) ∧ e.cells[13]? = some (.int .i64 e.a.t) ∧ e.cells[14]? = some (.slice e.a.A e.a.n e.a.c) ∧ e.cells[15]? = some (.bool e.fr) ∧ e.cells[16]? = some (.bool e.dn) ∧ e.cells[17]? = some (.int .i64 e.v.t) ∧ e.cells[18]? = some (.slice e.v.A e.v.n e.v.c) := ⟨rfl, rfl, rfl, rfl, rfl, rfl, rfl, rfl, rfl, rfl, rfl, rfl, rfl, rfl, rfl, rfl, rfl, rfl, rfl⟩
theorem isE : IsStruct Try.prog 70 19 := ⟨by kernel_rfl, by kernel_rfl⟩
theorem isD : IsStruct Try.prog 75 19 := ⟨by kernel_rfl, by kernel_rfl⟩
theorem zeroE : (Try.prog.info? 70).map (fun i => i.zero) = some (some (.agg noER.cells)) := by kernel_rfl
theorem zeroD : (Try.prog.info? 75).map (fun i => i.zero) = some (some (.agg noER.cells)) := by kernel_rfl
theorem szInt : (Try.prog.info? 3).map (·.size) = some 1 := by kernel_rfl
theorem szBool : (Try.prog.info? 4).map (·.size) = some 1 := by kernel_rfl
/-- A block that a call makes for a struct, and its result. -/
theorem two_new (w : World) (C D : Array Value) (T : TypeId) : Bs w ((w.alloc (.cells C T)).alloc (.cells D T)) [(w.heap.size, T, C), (w.heap.size + 1, T, D)] := by
  have := ((Bs.nil w).alloc C T).alloc D T
  simpa using this
theorem three_new (w : World) (C V D : Array Value) (T T' : TypeId) : Bs w (((w.alloc (.cells C T)).alloc (.cells V T')).alloc (.cells D T)) [(w.heap.size, T, C), (w.heap.size + 1, T', V), (w.heap.size + 1 + 1, T, D)] := by
  have := (((Bs.nil w).alloc C T).alloc V T').alloc D T
  simpa using this
def okBallot (b : Int) : Bool := decide (0 ≤ b ∧ b ≤ 1048576)
theorem ballot_calls (b : Int) (w : World) : Calls Try.prog 97 #[.int .i64 b] w fun r w' => r = .returned (.bool (okBallot b)) ∧ w = w' := by
  by_cases h0 : 0 ≤ b
  · have e : okBallot b = decide (b ≤ 1048576) := by unfold okBallot; rw [Bool.eq_iff_iff]; simp; omega
    rw [e]
    go_enter Try.func97, Try.ntmps97
    go_wp2
    go_ret
    exact ⟨by simp, rfl⟩
  · have e : okBallot b = false := by unfold okBallot; rw [decide_eq_false]; omega
    rw [e]
    go_enter Try.func97, Try.ntmps97
    go_wp2
    go_ret
    exact ⟨by simp <;> omega, rfl⟩
theorem refBallot_calls (b : Int) (w : World) : Calls Try.prog 117 #[.int .i64 b] w fun r w' => r = .returned (.bool (okBallot b)) ∧ w = w' := by
  by_cases h0 : 0 ≤ b
  · have e : okBallot b = decide (b ≤ 1048576) := by unfold okBallot; rw [Bool.eq_iff_iff]; simp; omega
    rw [e]
    go_enter Try.func117, Try.ntmps117
    go_wp2
    go_ret
    exact ⟨by simp, rfl⟩
  · have e : okBallot b = false := by unfold okBallot; rw [decide_eq_false]; omega
    rw [e]
    go_enter Try.func117, Try.ntmps117
    go_wp2
    go_ret
    exact ⟨by simp <;> omega, rfl⟩
def promS (e : ER) (b : Int) : ER × Int := if okBallot b = true then if b < e.pr then (e, 11) else ({ e with pr := b }, 0) else (e, 1)
set_option maxHeartbeats 4000000 in
set_option maxRecDepth 100000 in
theorem promise_calls (e : ER) (b : Int) (w : World) : Calls Try.prog 102 #[.agg e.cells, .int .i64 b] w fun r w' => r = .returned (.tuple #[.agg (promS e b).1.cells, .int .i64 (promS e b).2]) ∧ Below w.heap.size w w' := by
  have ka := e.all
  obtain ⟨g, hg⟩ : ∃ g, w.heap.size = g := ⟨_, rfl⟩
  obtain ⟨W, hW⟩ : ∃ W, (w.alloc (.cells e.cells 70)).alloc (.cells noER.cells 70) = W := ⟨_, rfl⟩
  have hB := two_new w e.cells noER.cells 70
  rw [hW, hg] at hB
  have hc := hB.cell 0 rfl
  simp only [noER_cells] at hW
  unfold promS
  cases hok : okBallot b
  · have HOk := Hold.mk hok
    clear hok
    rw [if_neg (by decide)]
    go_enter Try.func102, Try.ntmps102
    go_wp2_with (first
      | (go_at_call 97; refine (ballot_calls b _).mono ?_; rintro r w1 ⟨rfl, rfl⟩; rw [HOk.out])
      | (refine wpl_load isE rfl hB 0 rfl (ER.size _) rfl ?_)
      | (refine wpl_store isE rfl rfl hB 1 rfl (ER.size _) (ER.size _) (ER.one _) rfl ?_; intro W2 hB; simp only [List.set] at hB))
    exact bodyPost_ret (res_two rfl rfl rfl isE hB 1 rfl (ER.size _)) rfl ⟨rfl, by first | exact hB.below | (rw [← hg]; exact hB.below)⟩
  · have HOk := Hold.mk hok
    clear hok
    rw [if_pos rfl]
    by_cases hlt : b < e.pr
    · rw [if_pos hlt]
      go_enter Try.func102, Try.ntmps102
      go_wp2_with (first
      | (go_at_call 97; refine (ballot_calls b _).mono ?_; rintro r w1 ⟨rfl, rfl⟩; rw [HOk.out])
      | (refine wpl_load isE rfl hB 0 rfl (ER.size _) rfl ?_)
      | (refine wpl_store isE rfl rfl hB 1 rfl (ER.size _) (ER.size _) (ER.one _) rfl ?_; intro W2 hB; simp only [List.set] at hB))
      exact bodyPost_ret (res_two rfl rfl rfl isE hB 1 rfl (ER.size _)) rfl ⟨rfl, by first | exact hB.below | (rw [← hg]; exact hB.below)⟩
    · rw [if_neg hlt]
      go_enter Try.func102, Try.ntmps102
      go_wp2_with (first
      | (go_at_call 97; refine (ballot_calls b _).mono ?_; rintro r w1 ⟨rfl, rfl⟩; rw [HOk.out])
      | (refine wpl_storeF (C' := ER.cells { e with pr := b }) szInt rfl rfl rfl hB 0 rfl rfl (by rw [ER.size]; omega) one_int rfl rfl ?_; intro W2 hB; simp only [List.set] at hB; have hc := hB.cell 0 rfl; have ka := ER.all { e with pr := b })
      | (refine wpl_load isE rfl hB 0 rfl (ER.size _) rfl ?_)
      | (refine wpl_store isE rfl rfl hB 1 rfl (ER.size _) (ER.size _) (ER.one _) rfl ?_; intro W2 hB; simp only [List.set] at hB))
      exact bodyPost_ret (res_two rfl rfl rfl isE hB 1 rfl (ER.size _)) rfl ⟨rfl, by first | exact hB.below | (rw [← hg]; exact hB.below)⟩
set_option maxHeartbeats 4000000 in
set_option maxRecDepth 100000 in
theorem refPromise_calls (e : ER) (b : Int) (w : World) : Calls Try.prog 105 #[.agg e.cells, .int .i64 b] w fun r w' => r = .returned (.tuple #[.agg (promS e b).1.cells, .int .i64 (promS e b).2]) ∧ Below w.heap.size w w' := by
  have ka := e.all
  obtain ⟨g, hg⟩ : ∃ g, w.heap.size = g := ⟨_, rfl⟩
  obtain ⟨W, hW⟩ : ∃ W, (w.alloc (.cells e.cells 75)).alloc (.cells noER.cells 75) = W := ⟨_, rfl⟩
  have hB := two_new w e.cells noER.cells 75
  rw [hW, hg] at hB
  have hc := hB.cell 0 rfl
  simp only [noER_cells] at hW
  unfold promS
  cases hok : okBallot b
  · have HOk := Hold.mk hok
    clear hok
    rw [if_neg (by decide)]
    go_enter Try.func105, Try.ntmps105
    go_wp2_with (first
      | (go_at_call 117; refine (refBallot_calls b _).mono ?_; rintro r w1 ⟨rfl, rfl⟩; rw [HOk.out])
      | (refine wpl_load isD rfl hB 0 rfl (ER.size _) rfl ?_)
      | (refine wpl_store isD rfl rfl hB 1 rfl (ER.size _) (ER.size _) (ER.one _) rfl ?_; intro W2 hB; simp only [List.set] at hB))
    exact bodyPost_ret (res_two rfl rfl rfl isD hB 1 rfl (ER.size _)) rfl ⟨rfl, by first | exact hB.below | (rw [← hg]; exact hB.below)⟩
  · have HOk := Hold.mk hok
    clear hok
    rw [if_pos rfl]
    by_cases hlt : b < e.pr
    · rw [if_pos hlt]
      go_enter Try.func105, Try.ntmps105
      go_wp2_with (first
      | (go_at_call 117; refine (refBallot_calls b _).mono ?_; rintro r w1 ⟨rfl, rfl⟩; rw [HOk.out])
      | (refine wpl_load isD rfl hB 0 rfl (ER.size _) rfl ?_)
      | (refine wpl_store isD rfl rfl hB 1 rfl (ER.size _) (ER.size _) (ER.one _) rfl ?_; intro W2 hB; simp only [List.set] at hB))
      exact bodyPost_ret (res_two rfl rfl rfl isD hB 1 rfl (ER.size _)) rfl ⟨rfl, by first | exact hB.below | (rw [← hg]; exact hB.below)⟩
    · rw [if_neg hlt]
      go_enter Try.func105, Try.ntmps105
      go_wp2_with (first
      | (go_at_call 117; refine (refBallot_calls b _).mono ?_; rintro r w1 ⟨rfl, rfl⟩; rw [HOk.out])
      | (refine wpl_storeF (C' := ER.cells { e with pr := b }) szInt rfl rfl rfl hB 0 rfl rfl (by rw [ER.size]; omega) one_int rfl rfl ?_; intro W2 hB; simp only [List.set] at hB; have hc := hB.cell 0 rfl; have ka := ER.all { e with pr := b })
      | (refine wpl_load isD rfl hB 0 rfl (ER.size _) rfl ?_)
      | (refine wpl_store isD rfl rfl hB 1 rfl (ER.size _) (ER.size _) (ER.one _) rfl ?_; intro W2 hB; simp only [List.set] at hB))
      exact bodyPost_ret (res_two rfl rfl rfl isD hB 1 rfl (ER.size _)) rfl ⟨rfl, by first | exact hB.below | (rw [← hg]; exact hB.below)⟩
def resS (e : ER) (t : Int) : ER × Int := if okStamp t = true then ({ e with lo := if e.lo = 0 then t else min e.lo t, hi := max e.hi t }, 0) else (e, 1)
set_option maxHeartbeats 4000000 in
set_option maxRecDepth 100000 in
theorem reserve_calls (e : ER) (t : Int) (w : World) (hw : (Lit.int .i64 t).wf = true) : Calls Try.prog 106 #[.agg e.cells, .int .i64 t] w fun r w' => r = .returned (.tuple #[.agg (resS e t).1.cells, .int .i64 (resS e t).2]) ∧ Below w.heap.size w w' := by
  have ka := e.all
  obtain ⟨g, hg⟩ : ∃ g, w.heap.size = g := ⟨_, rfl⟩
  obtain ⟨W, hW⟩ : ∃ W, (w.alloc (.cells e.cells 70)).alloc (.cells noER.cells 70) = W := ⟨_, rfl⟩
  have hB := two_new w e.cells noER.cells 70
  rw [hW, hg] at hB
  have hc := hB.cell 0 rfl
  simp only [noER_cells] at hW
  have HW := Hold.mk hw
  clear hw
  cases hok : okStamp t
  · have HOk := Hold.mk hok
    have HE : resS e t = (e, 1) := by unfold resS; rw [if_neg (by rw [hok]; decide)]
    rw [HE]
    clear hok HE
    go_enter Try.func106, Try.ntmps106
    go_wp2_with (first
      | (go_at_call 96; refine (valid_calls _ _ _ HW.out HOk.out).mono ?_; rintro r w1 ⟨rfl, rfl⟩)
      | (refine wpl_load isE rfl hB 0 rfl (ER.size _) rfl ?_)
      | (refine wpl_store isE rfl rfl hB 1 rfl (ER.size _) (ER.size _) (ER.one _) rfl ?_; intro W2 hB; simp only [List.set] at hB))
    exact bodyPost_ret (res_two rfl rfl rfl isE hB 1 rfl (ER.size _)) rfl ⟨rfl, by first | exact hB.below | (rw [← hg]; exact hB.below)⟩
  · have HOk := Hold.mk hok
    clear hok
    have key : e.hi < t → e.lo = 0 → resS e t = ({ e with hi := t, lo := t }, 0) → Calls Try.prog 106 #[.agg e.cells, .int .i64 t] w fun r w' => r = .returned (.tuple #[.agg (resS e t).1.cells, .int .i64 (resS e t).2]) ∧ Below w.heap.size w w' := by
      intro h1 h0 HE
      rw [HE]
      have t0 : (e.lo == 0) = true := by simp [h0]
      have t1 : ¬ t < t := by omega
      
      clear h0
      clear HE
      go_enter Try.func106, Try.ntmps106
      go_wp2_with (first
      | (go_at_call 96; refine (valid_calls _ _ _ HW.out HOk.out).mono ?_; rintro r w1 ⟨rfl, rfl⟩)
      | (refine wpl_storeF (C' := ER.cells { e with hi := t }) szInt rfl rfl rfl hB 0 rfl rfl (by rw [ER.size]; omega) one_int rfl rfl ?_; intro W2 hB; simp only [List.set] at hB; have hc := hB.cell 0 rfl; have ka := ER.all { e with hi := t })
      | (refine wpl_storeF (C' := ER.cells { e with hi := t, lo := t }) szInt rfl rfl rfl hB 0 rfl rfl (by rw [ER.size]; omega) one_int rfl rfl ?_; intro W2 hB; simp only [List.set] at hB; have hc := hB.cell 0 rfl; have ka := ER.all { e with hi := t, lo := t })
      | (refine wpl_load isE rfl hB 0 rfl (ER.size _) rfl ?_)
      | (refine wpl_store isE rfl rfl hB 1 rfl (ER.size _) (ER.size _) (ER.one _) rfl ?_; intro W2 hB; simp only [List.set] at hB))
      exact bodyPost_ret (res_two rfl rfl rfl isE hB 1 rfl (ER.size _)) rfl ⟨rfl, by first | exact hB.below | (rw [← hg]; exact hB.below)⟩
    by_cases hk : (e.hi < t) ∧ e.lo = 0
    · exact key hk.1 hk.2 (by obtain ⟨k1, k2⟩ := hk; unfold resS; rw [if_pos HOk.out, show max e.hi t = t by omega, show (if e.lo = 0 then t else min e.lo t) = t by split <;> omega])
    clear key
    have key : e.hi < t → ¬ e.lo = 0 ∧ t < e.lo → resS e t = ({ e with hi := t, lo := t }, 0) → Calls Try.prog 106 #[.agg e.cells, .int .i64 t] w fun r w' => r = .returned (.tuple #[.agg (resS e t).1.cells, .int .i64 (resS e t).2]) ∧ Below w.heap.size w w' := by
      intro h1 h0 HE
      rw [HE]
      have t0 : (e.lo == 0) = false := by simp [h0]
      have t1 : ¬ t < t := by omega
      replace h0 := h0.2
      
      clear HE
      go_enter Try.func106, Try.ntmps106
      go_wp2_with (first
      | (go_at_call 96; refine (valid_calls _ _ _ HW.out HOk.out).mono ?_; rintro r w1 ⟨rfl, rfl⟩)
      | (refine wpl_storeF (C' := ER.cells { e with hi := t }) szInt rfl rfl rfl hB 0 rfl rfl (by rw [ER.size]; omega) one_int rfl rfl ?_; intro W2 hB; simp only [List.set] at hB; have hc := hB.cell 0 rfl; have ka := ER.all { e with hi := t })
      | (refine wpl_storeF (C' := ER.cells { e with hi := t, lo := t }) szInt rfl rfl rfl hB 0 rfl rfl (by rw [ER.size]; omega) one_int rfl rfl ?_; intro W2 hB; simp only [List.set] at hB; have hc := hB.cell 0 rfl; have ka := ER.all { e with hi := t, lo := t })
      | (refine wpl_load isE rfl hB 0 rfl (ER.size _) rfl ?_)
      | (refine wpl_store isE rfl rfl hB 1 rfl (ER.size _) (ER.size _) (ER.one _) rfl ?_; intro W2 hB; simp only [List.set] at hB))
      exact bodyPost_ret (res_two rfl rfl rfl isE hB 1 rfl (ER.size _)) rfl ⟨rfl, by first | exact hB.below | (rw [← hg]; exact hB.below)⟩
    by_cases hk : (e.hi < t) ∧ ¬ e.lo = 0 ∧ t < e.lo
    · exact key hk.1 hk.2 (by obtain ⟨k1, k2⟩ := hk; unfold resS; rw [if_pos HOk.out, show max e.hi t = t by omega, show (if e.lo = 0 then t else min e.lo t) = t by split <;> omega])
    clear key
    have key : e.hi < t → ¬ e.lo = 0 ∧ ¬ t < e.lo → resS e t = ({ e with hi := t, lo := e.lo }, 0) → Calls Try.prog 106 #[.agg e.cells, .int .i64 t] w fun r w' => r = .returned (.tuple #[.agg (resS e t).1.cells, .int .i64 (resS e t).2]) ∧ Below w.heap.size w w' := by
      intro h1 h0 HE
      rw [HE]
      have t0 : (e.lo == 0) = false := by simp [h0]
      have t1 : ¬ t < t := by omega
      replace h0 := h0.2
      
      clear HE
      go_enter Try.func106, Try.ntmps106
      go_wp2_with (first
      | (go_at_call 96; refine (valid_calls _ _ _ HW.out HOk.out).mono ?_; rintro r w1 ⟨rfl, rfl⟩)
      | (refine wpl_storeF (C' := ER.cells { e with hi := t }) szInt rfl rfl rfl hB 0 rfl rfl (by rw [ER.size]; omega) one_int rfl rfl ?_; intro W2 hB; simp only [List.set] at hB; have hc := hB.cell 0 rfl; have ka := ER.all { e with hi := t })
      | (refine wpl_storeF (C' := ER.cells { e with hi := t, lo := e.lo }) szInt rfl rfl rfl hB 0 rfl rfl (by rw [ER.size]; omega) one_int rfl rfl ?_; intro W2 hB; simp only [List.set] at hB; have hc := hB.cell 0 rfl; have ka := ER.all { e with hi := t, lo := e.lo })
      | (refine wpl_load isE rfl hB 0 rfl (ER.size _) rfl ?_)
      | (refine wpl_store isE rfl rfl hB 1 rfl (ER.size _) (ER.size _) (ER.one _) rfl ?_; intro W2 hB; simp only [List.set] at hB))
      exact bodyPost_ret (res_two rfl rfl rfl isE hB 1 rfl (ER.size _)) rfl ⟨rfl, by first | exact hB.below | (rw [← hg]; exact hB.below)⟩
    by_cases hk : (e.hi < t) ∧ ¬ e.lo = 0 ∧ ¬ t < e.lo
    · exact key hk.1 hk.2 (by obtain ⟨k1, k2⟩ := hk; unfold resS; rw [if_pos HOk.out, show max e.hi t = t by omega, show (if e.lo = 0 then t else min e.lo t) = e.lo by split <;> omega])
    clear key
    have key : ¬ e.hi < t → e.lo = 0 → resS e t = ({ e with hi := e.hi, lo := t }, 0) → Calls Try.prog 106 #[.agg e.cells, .int .i64 t] w fun r w' => r = .returned (.tuple #[.agg (resS e t).1.cells, .int .i64 (resS e t).2]) ∧ Below w.heap.size w w' := by
      intro h1 h0 HE
      rw [HE]
      have t0 : (e.lo == 0) = true := by simp [h0]
      have t1 : ¬ t < t := by omega
      
      clear h0
      clear HE
      go_enter Try.func106, Try.ntmps106
      go_wp2_with (first
      | (go_at_call 96; refine (valid_calls _ _ _ HW.out HOk.out).mono ?_; rintro r w1 ⟨rfl, rfl⟩)
      | (refine wpl_storeF (C' := ER.cells { e with hi := e.hi }) szInt rfl rfl rfl hB 0 rfl rfl (by rw [ER.size]; omega) one_int rfl rfl ?_; intro W2 hB; simp only [List.set] at hB; have hc := hB.cell 0 rfl; have ka := ER.all { e with hi := e.hi })
      | (refine wpl_storeF (C' := ER.cells { e with hi := e.hi, lo := t }) szInt rfl rfl rfl hB 0 rfl rfl (by rw [ER.size]; omega) one_int rfl rfl ?_; intro W2 hB; simp only [List.set] at hB; have hc := hB.cell 0 rfl; have ka := ER.all { e with hi := e.hi, lo := t })
      | (refine wpl_load isE rfl hB 0 rfl (ER.size _) rfl ?_)
      | (refine wpl_store isE rfl rfl hB 1 rfl (ER.size _) (ER.size _) (ER.one _) rfl ?_; intro W2 hB; simp only [List.set] at hB))
      exact bodyPost_ret (res_two rfl rfl rfl isE hB 1 rfl (ER.size _)) rfl ⟨rfl, by first | exact hB.below | (rw [← hg]; exact hB.below)⟩
    by_cases hk : (¬ e.hi < t) ∧ e.lo = 0
    · exact key hk.1 hk.2 (by obtain ⟨k1, k2⟩ := hk; unfold resS; rw [if_pos HOk.out, show max e.hi t = e.hi by omega, show (if e.lo = 0 then t else min e.lo t) = t by split <;> omega])
    clear key
    have key : ¬ e.hi < t → ¬ e.lo = 0 ∧ t < e.lo → resS e t = ({ e with hi := e.hi, lo := t }, 0) → Calls Try.prog 106 #[.agg e.cells, .int .i64 t] w fun r w' => r = .returned (.tuple #[.agg (resS e t).1.cells, .int .i64 (resS e t).2]) ∧ Below w.heap.size w w' := by
      intro h1 h0 HE
      rw [HE]
      have t0 : (e.lo == 0) = false := by simp [h0]
      have t1 : ¬ t < t := by omega
      replace h0 := h0.2
      
      clear HE
      go_enter Try.func106, Try.ntmps106
      go_wp2_with (first
      | (go_at_call 96; refine (valid_calls _ _ _ HW.out HOk.out).mono ?_; rintro r w1 ⟨rfl, rfl⟩)
      | (refine wpl_storeF (C' := ER.cells { e with hi := e.hi }) szInt rfl rfl rfl hB 0 rfl rfl (by rw [ER.size]; omega) one_int rfl rfl ?_; intro W2 hB; simp only [List.set] at hB; have hc := hB.cell 0 rfl; have ka := ER.all { e with hi := e.hi })
      | (refine wpl_storeF (C' := ER.cells { e with hi := e.hi, lo := t }) szInt rfl rfl rfl hB 0 rfl rfl (by rw [ER.size]; omega) one_int rfl rfl ?_; intro W2 hB; simp only [List.set] at hB; have hc := hB.cell 0 rfl; have ka := ER.all { e with hi := e.hi, lo := t })
      | (refine wpl_load isE rfl hB 0 rfl (ER.size _) rfl ?_)
      | (refine wpl_store isE rfl rfl hB 1 rfl (ER.size _) (ER.size _) (ER.one _) rfl ?_; intro W2 hB; simp only [List.set] at hB))
      exact bodyPost_ret (res_two rfl rfl rfl isE hB 1 rfl (ER.size _)) rfl ⟨rfl, by first | exact hB.below | (rw [← hg]; exact hB.below)⟩
    by_cases hk : (¬ e.hi < t) ∧ ¬ e.lo = 0 ∧ t < e.lo
    · exact key hk.1 hk.2 (by obtain ⟨k1, k2⟩ := hk; unfold resS; rw [if_pos HOk.out, show max e.hi t = e.hi by omega, show (if e.lo = 0 then t else min e.lo t) = t by split <;> omega])
    clear key
    have key : ¬ e.hi < t → ¬ e.lo = 0 ∧ ¬ t < e.lo → resS e t = ({ e with hi := e.hi, lo := e.lo }, 0) → Calls Try.prog 106 #[.agg e.cells, .int .i64 t] w fun r w' => r = .returned (.tuple #[.agg (resS e t).1.cells, .int .i64 (resS e t).2]) ∧ Below w.heap.size w w' := by
      intro h1 h0 HE
      rw [HE]
      have t0 : (e.lo == 0) = false := by simp [h0]
      have t1 : ¬ t < t := by omega
      replace h0 := h0.2
      
      clear HE
      go_enter Try.func106, Try.ntmps106
      go_wp2_with (first
      | (go_at_call 96; refine (valid_calls _ _ _ HW.out HOk.out).mono ?_; rintro r w1 ⟨rfl, rfl⟩)
      | (refine wpl_storeF (C' := ER.cells { e with hi := e.hi }) szInt rfl rfl rfl hB 0 rfl rfl (by rw [ER.size]; omega) one_int rfl rfl ?_; intro W2 hB; simp only [List.set] at hB; have hc := hB.cell 0 rfl; have ka := ER.all { e with hi := e.hi })
      | (refine wpl_storeF (C' := ER.cells { e with hi := e.hi, lo := e.lo }) szInt rfl rfl rfl hB 0 rfl rfl (by rw [ER.size]; omega) one_int rfl rfl ?_; intro W2 hB; simp only [List.set] at hB; have hc := hB.cell 0 rfl; have ka := ER.all { e with hi := e.hi, lo := e.lo })
      | (refine wpl_load isE rfl hB 0 rfl (ER.size _) rfl ?_)
      | (refine wpl_store isE rfl rfl hB 1 rfl (ER.size _) (ER.size _) (ER.one _) rfl ?_; intro W2 hB; simp only [List.set] at hB))
      exact bodyPost_ret (res_two rfl rfl rfl isE hB 1 rfl (ER.size _)) rfl ⟨rfl, by first | exact hB.below | (rw [← hg]; exact hB.below)⟩
    by_cases hk : (¬ e.hi < t) ∧ ¬ e.lo = 0 ∧ ¬ t < e.lo
    · exact key hk.1 hk.2 (by obtain ⟨k1, k2⟩ := hk; unfold resS; rw [if_pos HOk.out, show max e.hi t = e.hi by omega, show (if e.lo = 0 then t else min e.lo t) = e.lo by split <;> omega])
    clear key
    exfalso; omega
set_option maxHeartbeats 4000000 in
set_option maxRecDepth 100000 in
theorem refReserve_calls (e : ER) (t : Int) (w : World) (hw : (Lit.int .i64 t).wf = true) : Calls Try.prog 107 #[.agg e.cells, .int .i64 t] w fun r w' => r = .returned (.tuple #[.agg (resS e t).1.cells, .int .i64 (resS e t).2]) ∧ Below w.heap.size w w' := by
  have ka := e.all
  obtain ⟨g, hg⟩ : ∃ g, w.heap.size = g := ⟨_, rfl⟩
  obtain ⟨W, hW⟩ : ∃ W, (w.alloc (.cells e.cells 75)).alloc (.cells noER.cells 75) = W := ⟨_, rfl⟩
  have hB := two_new w e.cells noER.cells 75
  rw [hW, hg] at hB
  have hc := hB.cell 0 rfl
  simp only [noER_cells] at hW
  have HW := Hold.mk hw
  clear hw
  cases hok : okStamp t
  · have HOk := Hold.mk hok
    have HE : resS e t = (e, 1) := by unfold resS; rw [if_neg (by rw [hok]; decide)]
    rw [HE]
    clear hok HE
    go_enter Try.func107, Try.ntmps107
    go_wp2_with (first
      | (go_at_call 115; refine (refValid_calls _ _ _ HW.out HOk.out).mono ?_; rintro r w1 ⟨rfl, rfl⟩)
      | (refine wpl_load isD rfl hB 0 rfl (ER.size _) rfl ?_)
      | (refine wpl_store isD rfl rfl hB 1 rfl (ER.size _) (ER.size _) (ER.one _) rfl ?_; intro W2 hB; simp only [List.set] at hB))
    exact bodyPost_ret (res_two rfl rfl rfl isD hB 1 rfl (ER.size _)) rfl ⟨rfl, by first | exact hB.below | (rw [← hg]; exact hB.below)⟩
  · have HOk := Hold.mk hok
    clear hok
    have key : e.hi < t → e.lo = 0 → resS e t = ({ e with hi := t, lo := t }, 0) → Calls Try.prog 107 #[.agg e.cells, .int .i64 t] w fun r w' => r = .returned (.tuple #[.agg (resS e t).1.cells, .int .i64 (resS e t).2]) ∧ Below w.heap.size w w' := by
      intro h1 h0 HE
      rw [HE]
      have t0 : (e.lo == 0) = true := by simp [h0]
      have t1 : ¬ t < t := by omega
      
      clear h0
      clear HE
      go_enter Try.func107, Try.ntmps107
      go_wp2_with (first
      | (go_at_call 115; refine (refValid_calls _ _ _ HW.out HOk.out).mono ?_; rintro r w1 ⟨rfl, rfl⟩)
      | (refine wpl_storeF (C' := ER.cells { e with lo := t }) szInt rfl rfl rfl hB 0 rfl rfl (by rw [ER.size]; omega) one_int rfl rfl ?_; intro W2 hB; simp only [List.set] at hB; have hc := hB.cell 0 rfl; have ka := ER.all { e with lo := t })
      | (refine wpl_storeF (C' := ER.cells { e with hi := t, lo := t }) szInt rfl rfl rfl hB 0 rfl rfl (by rw [ER.size]; omega) one_int rfl rfl ?_; intro W2 hB; simp only [List.set] at hB; have hc := hB.cell 0 rfl; have ka := ER.all { e with hi := t, lo := t })
      | (refine wpl_load isD rfl hB 0 rfl (ER.size _) rfl ?_)
      | (refine wpl_store isD rfl rfl hB 1 rfl (ER.size _) (ER.size _) (ER.one _) rfl ?_; intro W2 hB; simp only [List.set] at hB))
      exact bodyPost_ret (res_two rfl rfl rfl isD hB 1 rfl (ER.size _)) rfl ⟨rfl, by first | exact hB.below | (rw [← hg]; exact hB.below)⟩
    by_cases hk : (e.hi < t) ∧ e.lo = 0
    · exact key hk.1 hk.2 (by obtain ⟨k1, k2⟩ := hk; unfold resS; rw [if_pos HOk.out, show max e.hi t = t by omega, show (if e.lo = 0 then t else min e.lo t) = t by split <;> omega])
    clear key
    have key : e.hi < t → ¬ e.lo = 0 ∧ t < e.lo → resS e t = ({ e with hi := t, lo := t }, 0) → Calls Try.prog 107 #[.agg e.cells, .int .i64 t] w fun r w' => r = .returned (.tuple #[.agg (resS e t).1.cells, .int .i64 (resS e t).2]) ∧ Below w.heap.size w w' := by
      intro h1 h0 HE
      rw [HE]
      have t0 : (e.lo == 0) = false := by simp [h0]
      have t1 : ¬ t < t := by omega
      replace h0 := h0.2
      
      clear HE
      go_enter Try.func107, Try.ntmps107
      go_wp2_with (first
      | (go_at_call 115; refine (refValid_calls _ _ _ HW.out HOk.out).mono ?_; rintro r w1 ⟨rfl, rfl⟩)
      | (refine wpl_storeF (C' := ER.cells { e with lo := t }) szInt rfl rfl rfl hB 0 rfl rfl (by rw [ER.size]; omega) one_int rfl rfl ?_; intro W2 hB; simp only [List.set] at hB; have hc := hB.cell 0 rfl; have ka := ER.all { e with lo := t })
      | (refine wpl_storeF (C' := ER.cells { e with hi := t, lo := t }) szInt rfl rfl rfl hB 0 rfl rfl (by rw [ER.size]; omega) one_int rfl rfl ?_; intro W2 hB; simp only [List.set] at hB; have hc := hB.cell 0 rfl; have ka := ER.all { e with hi := t, lo := t })
      | (refine wpl_load isD rfl hB 0 rfl (ER.size _) rfl ?_)
      | (refine wpl_store isD rfl rfl hB 1 rfl (ER.size _) (ER.size _) (ER.one _) rfl ?_; intro W2 hB; simp only [List.set] at hB))
      exact bodyPost_ret (res_two rfl rfl rfl isD hB 1 rfl (ER.size _)) rfl ⟨rfl, by first | exact hB.below | (rw [← hg]; exact hB.below)⟩
    by_cases hk : (e.hi < t) ∧ ¬ e.lo = 0 ∧ t < e.lo
    · exact key hk.1 hk.2 (by obtain ⟨k1, k2⟩ := hk; unfold resS; rw [if_pos HOk.out, show max e.hi t = t by omega, show (if e.lo = 0 then t else min e.lo t) = t by split <;> omega])
    clear key
    have key : e.hi < t → ¬ e.lo = 0 ∧ ¬ t < e.lo → resS e t = ({ e with hi := t, lo := e.lo }, 0) → Calls Try.prog 107 #[.agg e.cells, .int .i64 t] w fun r w' => r = .returned (.tuple #[.agg (resS e t).1.cells, .int .i64 (resS e t).2]) ∧ Below w.heap.size w w' := by
      intro h1 h0 HE
      rw [HE]
      have t0 : (e.lo == 0) = false := by simp [h0]
      have t1 : ¬ t < t := by omega
      replace h0 := h0.2
      
      clear HE
      go_enter Try.func107, Try.ntmps107
      go_wp2_with (first
      | (go_at_call 115; refine (refValid_calls _ _ _ HW.out HOk.out).mono ?_; rintro r w1 ⟨rfl, rfl⟩)
      | (refine wpl_storeF (C' := ER.cells { e with lo := e.lo }) szInt rfl rfl rfl hB 0 rfl rfl (by rw [ER.size]; omega) one_int rfl rfl ?_; intro W2 hB; simp only [List.set] at hB; have hc := hB.cell 0 rfl; have ka := ER.all { e with lo := e.lo })
      | (refine wpl_storeF (C' := ER.cells { e with hi := t, lo := e.lo }) szInt rfl rfl rfl hB 0 rfl rfl (by rw [ER.size]; omega) one_int rfl rfl ?_; intro W2 hB; simp only [List.set] at hB; have hc := hB.cell 0 rfl; have ka := ER.all { e with hi := t, lo := e.lo })
      | (refine wpl_load isD rfl hB 0 rfl (ER.size _) rfl ?_)
      | (refine wpl_store isD rfl rfl hB 1 rfl (ER.size _) (ER.size _) (ER.one _) rfl ?_; intro W2 hB; simp only [List.set] at hB))
      exact bodyPost_ret (res_two rfl rfl rfl isD hB 1 rfl (ER.size _)) rfl ⟨rfl, by first | exact hB.below | (rw [← hg]; exact hB.below)⟩
    by_cases hk : (e.hi < t) ∧ ¬ e.lo = 0 ∧ ¬ t < e.lo
    · exact key hk.1 hk.2 (by obtain ⟨k1, k2⟩ := hk; unfold resS; rw [if_pos HOk.out, show max e.hi t = t by omega, show (if e.lo = 0 then t else min e.lo t) = e.lo by split <;> omega])
    clear key
    have key : ¬ e.hi < t → e.lo = 0 → resS e t = ({ e with hi := e.hi, lo := t }, 0) → Calls Try.prog 107 #[.agg e.cells, .int .i64 t] w fun r w' => r = .returned (.tuple #[.agg (resS e t).1.cells, .int .i64 (resS e t).2]) ∧ Below w.heap.size w w' := by
      intro h1 h0 HE
      rw [HE]
      have t0 : (e.lo == 0) = true := by simp [h0]
      have t1 : ¬ t < t := by omega
      
      clear h0
      clear HE
      go_enter Try.func107, Try.ntmps107
      go_wp2_with (first
      | (go_at_call 115; refine (refValid_calls _ _ _ HW.out HOk.out).mono ?_; rintro r w1 ⟨rfl, rfl⟩)
      | (refine wpl_storeF (C' := ER.cells { e with lo := t }) szInt rfl rfl rfl hB 0 rfl rfl (by rw [ER.size]; omega) one_int rfl rfl ?_; intro W2 hB; simp only [List.set] at hB; have hc := hB.cell 0 rfl; have ka := ER.all { e with lo := t })
      | (refine wpl_storeF (C' := ER.cells { e with hi := e.hi, lo := t }) szInt rfl rfl rfl hB 0 rfl rfl (by rw [ER.size]; omega) one_int rfl rfl ?_; intro W2 hB; simp only [List.set] at hB; have hc := hB.cell 0 rfl; have ka := ER.all { e with hi := e.hi, lo := t })
      | (refine wpl_load isD rfl hB 0 rfl (ER.size _) rfl ?_)
      | (refine wpl_store isD rfl rfl hB 1 rfl (ER.size _) (ER.size _) (ER.one _) rfl ?_; intro W2 hB; simp only [List.set] at hB))
      exact bodyPost_ret (res_two rfl rfl rfl isD hB 1 rfl (ER.size _)) rfl ⟨rfl, by first | exact hB.below | (rw [← hg]; exact hB.below)⟩
    by_cases hk : (¬ e.hi < t) ∧ e.lo = 0
    · exact key hk.1 hk.2 (by obtain ⟨k1, k2⟩ := hk; unfold resS; rw [if_pos HOk.out, show max e.hi t = e.hi by omega, show (if e.lo = 0 then t else min e.lo t) = t by split <;> omega])
    clear key
    have key : ¬ e.hi < t → ¬ e.lo = 0 ∧ t < e.lo → resS e t = ({ e with hi := e.hi, lo := t }, 0) → Calls Try.prog 107 #[.agg e.cells, .int .i64 t] w fun r w' => r = .returned (.tuple #[.agg (resS e t).1.cells, .int .i64 (resS e t).2]) ∧ Below w.heap.size w w' := by
      intro h1 h0 HE
      rw [HE]
      have t0 : (e.lo == 0) = false := by simp [h0]
      have t1 : ¬ t < t := by omega
      replace h0 := h0.2
      
      clear HE
      go_enter Try.func107, Try.ntmps107
      go_wp2_with (first
      | (go_at_call 115; refine (refValid_calls _ _ _ HW.out HOk.out).mono ?_; rintro r w1 ⟨rfl, rfl⟩)
      | (refine wpl_storeF (C' := ER.cells { e with lo := t }) szInt rfl rfl rfl hB 0 rfl rfl (by rw [ER.size]; omega) one_int rfl rfl ?_; intro W2 hB; simp only [List.set] at hB; have hc := hB.cell 0 rfl; have ka := ER.all { e with lo := t })
      | (refine wpl_storeF (C' := ER.cells { e with hi := e.hi, lo := t }) szInt rfl rfl rfl hB 0 rfl rfl (by rw [ER.size]; omega) one_int rfl rfl ?_; intro W2 hB; simp only [List.set] at hB; have hc := hB.cell 0 rfl; have ka := ER.all { e with hi := e.hi, lo := t })
      | (refine wpl_load isD rfl hB 0 rfl (ER.size _) rfl ?_)
      | (refine wpl_store isD rfl rfl hB 1 rfl (ER.size _) (ER.size _) (ER.one _) rfl ?_; intro W2 hB; simp only [List.set] at hB))
      exact bodyPost_ret (res_two rfl rfl rfl isD hB 1 rfl (ER.size _)) rfl ⟨rfl, by first | exact hB.below | (rw [← hg]; exact hB.below)⟩
    by_cases hk : (¬ e.hi < t) ∧ ¬ e.lo = 0 ∧ t < e.lo
    · exact key hk.1 hk.2 (by obtain ⟨k1, k2⟩ := hk; unfold resS; rw [if_pos HOk.out, show max e.hi t = e.hi by omega, show (if e.lo = 0 then t else min e.lo t) = t by split <;> omega])
    clear key
    have key : ¬ e.hi < t → ¬ e.lo = 0 ∧ ¬ t < e.lo → resS e t = ({ e with hi := e.hi, lo := e.lo }, 0) → Calls Try.prog 107 #[.agg e.cells, .int .i64 t] w fun r w' => r = .returned (.tuple #[.agg (resS e t).1.cells, .int .i64 (resS e t).2]) ∧ Below w.heap.size w w' := by
      intro h1 h0 HE
      rw [HE]
      have t0 : (e.lo == 0) = false := by simp [h0]
      have t1 : ¬ t < t := by omega
      replace h0 := h0.2
      
      clear HE
      go_enter Try.func107, Try.ntmps107
      go_wp2_with (first
      | (go_at_call 115; refine (refValid_calls _ _ _ HW.out HOk.out).mono ?_; rintro r w1 ⟨rfl, rfl⟩)
      | (refine wpl_storeF (C' := ER.cells { e with lo := e.lo }) szInt rfl rfl rfl hB 0 rfl rfl (by rw [ER.size]; omega) one_int rfl rfl ?_; intro W2 hB; simp only [List.set] at hB; have hc := hB.cell 0 rfl; have ka := ER.all { e with lo := e.lo })
      | (refine wpl_storeF (C' := ER.cells { e with hi := e.hi, lo := e.lo }) szInt rfl rfl rfl hB 0 rfl rfl (by rw [ER.size]; omega) one_int rfl rfl ?_; intro W2 hB; simp only [List.set] at hB; have hc := hB.cell 0 rfl; have ka := ER.all { e with hi := e.hi, lo := e.lo })
      | (refine wpl_load isD rfl hB 0 rfl (ER.size _) rfl ?_)
      | (refine wpl_store isD rfl rfl hB 1 rfl (ER.size _) (ER.size _) (ER.one _) rfl ?_; intro W2 hB; simp only [List.set] at hB))
      exact bodyPost_ret (res_two rfl rfl rfl isD hB 1 rfl (ER.size _)) rfl ⟨rfl, by first | exact hB.below | (rw [← hg]; exact hB.below)⟩
    by_cases hk : (¬ e.hi < t) ∧ ¬ e.lo = 0 ∧ ¬ t < e.lo
    · exact key hk.1 hk.2 (by obtain ⟨k1, k2⟩ := hk; unfold resS; rw [if_pos HOk.out, show max e.hi t = e.hi by omega, show (if e.lo = 0 then t else min e.lo t) = e.lo by split <;> omega])
    clear key
    exfalso; omega
set_option maxHeartbeats 4000000 in
set_option maxRecDepth 100000 in
theorem free_calls (e : ER) (w : World) : Calls Try.prog 110 #[.agg e.cells] w fun r w' => r = .returned (.agg { e with fr := true : ER }.cells) ∧ Below w.heap.size w w' := by
  have ka := e.all
  obtain ⟨g, hg⟩ : ∃ g, w.heap.size = g := ⟨_, rfl⟩
  obtain ⟨W, hW⟩ : ∃ W, (w.alloc (.cells e.cells 70)).alloc (.cells noER.cells 70) = W := ⟨_, rfl⟩
  have hB := two_new w e.cells noER.cells 70
  rw [hW, hg] at hB
  have hc := hB.cell 0 rfl
  simp only [noER_cells] at hW
  go_enter Try.func110, Try.ntmps110
  go_wp2_with (first
      | (refine wpl_storeF (C' := ER.cells { e with fr := true }) szBool rfl rfl rfl hB 0 rfl rfl (by rw [ER.size]; omega) one_bool rfl rfl ?_; intro W2 hB; simp only [List.set] at hB; have hc := hB.cell 0 rfl; have ka := ER.all { e with fr := true })
      | (refine wpl_load isE rfl hB 0 rfl (ER.size _) rfl ?_)
      | (refine wpl_store isE rfl rfl hB 1 rfl (ER.size _) (ER.size _) (ER.one _) rfl ?_; intro W2 hB; simp only [List.set] at hB))
  exact bodyPost_ret (res_one rfl rfl isE hB 1 rfl (ER.size _)) rfl ⟨rfl, by first | exact hB.below | (rw [← hg]; exact hB.below)⟩
def voteS (e : ER) (v : VR) (full same : Bool) : ER × Int := if full = true then if same = true then (e, 0) else if okNone e.f = true then ({ (resS e v.t).1 with f := v }, 0) else (e, 6) else (e, 1)
set_option maxHeartbeats 4000000 in
set_option maxRecDepth 100000 in
theorem vote_calls (e : ER) (v : VR) (lf lv : List CmdD) (full same : Bool) (w : World) (hf : VAt w e.f lf) (hv : VAt w v lv) (h1 : okFull v lv = full) (h2 : okSame e.f v lf lv = same) : Calls Try.prog 100 #[.agg e.cells, .agg v.cells] w fun r w' => r = .returned (.tuple #[.agg (voteS e v full same).1.cells, .int .i64 (voteS e v full same).2]) ∧ Below w.heap.size w w' := by
  have ka := e.all
  have kv := v.all
  obtain ⟨g, hg⟩ : ∃ g, w.heap.size = g := ⟨_, rfl⟩
  obtain ⟨W, hW⟩ : ∃ W, ((w.alloc (.cells e.cells 70)).alloc (.cells v.cells 34)).alloc (.cells noER.cells 70) = W := ⟨_, rfl⟩
  have hB := three_new w e.cells v.cells noER.cells 70 34
  rw [hW, hg] at hB
  have hc := hB.cell 0 rfl
  have hd := hB.cell 1 rfl
  simp only [noER_cells] at hW
  have HF := Hold.mk hf
  have HV := Hold.mk hv
  have H1 := Hold.mk h1
  have H2 := Hold.mk h2
  clear hf hv h1 h2
  unfold voteS
  cases full
  · rw [if_neg (by decide)]
    go_enter Try.func100, Try.ntmps100
    go_wp2_with (first
      | (go_at_call 141; refine (full_calls v lv _ _ (HV.out.below hB.below) H1.out).mono ?_; rintro r w1 ⟨rfl, hb1⟩; replace hB := hB.step hb1; have hc := hB.cell 0 rfl; have hd := hB.cell 1 rfl)
      | (refine wpl_load isE rfl hB 0 rfl (ER.size _) rfl ?_)
      | (refine wpl_load isV rfl hB 1 rfl (VR.size _) rfl ?_)
      | (refine wpl_loadF isV (V := VR.cells e.f) rfl hB 0 rfl rfl rfl rfl ?_)
      | (refine wpl_loadF isV (V := VR.cells e.v) rfl hB 0 rfl rfl rfl rfl ?_)
      | (refine wpl_store isE rfl rfl hB 2 rfl (ER.size _) (ER.size _) (ER.one _) rfl ?_; intro W2 hB; simp only [List.set] at hB))
    exact bodyPost_ret (res_two rfl rfl rfl isE hB 2 rfl (ER.size _)) rfl ⟨rfl, by first | exact hB.below | (rw [← hg]; exact hB.below)⟩
  · rw [if_pos rfl]
    cases same
    · rw [if_neg (by decide)]
      cases hn : okNone e.f
      · have HN := Hold.mk hn
        clear hn
        rw [if_neg (by decide)]
        go_enter Try.func100, Try.ntmps100
        go_wp2_with (first
      | (go_at_call 141; refine (full_calls v lv _ _ (HV.out.below hB.below) H1.out).mono ?_; rintro r w1 ⟨rfl, hb1⟩; replace hB := hB.step hb1; have hc := hB.cell 0 rfl; have hd := hB.cell 1 rfl)
      | (go_at_call 143; refine (sameVal_calls e.f v lf lv _ (HF.out.below hB.below) (HV.out.below hB.below) _ H2.out).mono ?_; rintro r w1 ⟨rfl, hb1⟩; replace hB := hB.step hb1; have hc := hB.cell 0 rfl; have hd := hB.cell 1 rfl)
      | (go_at_call 142; refine (none_calls e.f _).mono ?_; rintro r w1 ⟨rfl, hb1⟩; replace hB := hB.step hb1; have hc := hB.cell 0 rfl; have hd := hB.cell 1 rfl; rw [HN.out])
      | (refine wpl_load isE rfl hB 0 rfl (ER.size _) rfl ?_)
      | (refine wpl_load isV rfl hB 1 rfl (VR.size _) rfl ?_)
      | (refine wpl_loadF isV (V := VR.cells e.f) rfl hB 0 rfl rfl rfl rfl ?_)
      | (refine wpl_loadF isV (V := VR.cells e.v) rfl hB 0 rfl rfl rfl rfl ?_)
      | (refine wpl_store isE rfl rfl hB 2 rfl (ER.size _) (ER.size _) (ER.one _) rfl ?_; intro W2 hB; simp only [List.set] at hB))
        exact bodyPost_ret (res_two rfl rfl rfl isE hB 2 rfl (ER.size _)) rfl ⟨rfl, by first | exact hB.below | (rw [← hg]; exact hB.below)⟩
      · have HN := Hold.mk hn
        clear hn
        rw [if_pos rfl]
        obtain ⟨e2, he2⟩ : ∃ e2, (resS e v.t).1 = e2 := ⟨_, rfl⟩
        obtain ⟨k2, hk2⟩ : ∃ k2, (resS e v.t).2 = k2 := ⟨_, rfl⟩
        have HR : Hold (resS e v.t = (e2, k2)) := ⟨by rw [← he2, ← hk2]⟩
        rw [he2]
        clear he2 hk2
        go_enter Try.func100, Try.ntmps100
        go_wp2_with (first
      | (go_at_call 141; refine (full_calls v lv _ _ (HV.out.below hB.below) H1.out).mono ?_; rintro r w1 ⟨rfl, hb1⟩; replace hB := hB.step hb1; have hc := hB.cell 0 rfl; have hd := hB.cell 1 rfl)
      | (go_at_call 143; refine (sameVal_calls e.f v lf lv _ (HF.out.below hB.below) (HV.out.below hB.below) _ H2.out).mono ?_; rintro r w1 ⟨rfl, hb1⟩; replace hB := hB.step hb1; have hc := hB.cell 0 rfl; have hd := hB.cell 1 rfl)
      | (go_at_call 142; refine (none_calls e.f _).mono ?_; rintro r w1 ⟨rfl, hb1⟩; replace hB := hB.step hb1; have hc := hB.cell 0 rfl; have hd := hB.cell 1 rfl; rw [HN.out])
      | (go_at_call 106; refine (reserve_calls e v.t _ HV.out.wf).mono ?_; rintro r w1 ⟨rfl, hb1⟩; replace hB := hB.step hb1; have hc := hB.cell 0 rfl; have hd := hB.cell 1 rfl; rw [HR.out])
      | (refine wpl_store isE rfl rfl hB 0 rfl (ER.size _) (ER.size _) (ER.one _) rfl ?_; intro W2 hB; simp only [List.set] at hB; have hc := hB.cell 0 rfl; have hd := hB.cell 1 rfl; have ka := ER.all e2)
      | (refine wpl_storeF (C' := ER.cells { e2 with f := v }) isV.size rfl rfl rfl hB 0 rfl rfl (by rw [ER.size]; omega) (VR.ones _) rfl rfl ?_; intro W2 hB; simp only [List.set] at hB; have hc := hB.cell 0 rfl; have ka := ER.all { e2 with f := v })
      | (refine wpl_load isE rfl hB 0 rfl (ER.size _) rfl ?_)
      | (refine wpl_load isV rfl hB 1 rfl (VR.size _) rfl ?_)
      | (refine wpl_loadF isV (V := VR.cells e.f) rfl hB 0 rfl rfl rfl rfl ?_)
      | (refine wpl_loadF isV (V := VR.cells e.v) rfl hB 0 rfl rfl rfl rfl ?_)
      | (refine wpl_store isE rfl rfl hB 2 rfl (ER.size _) (ER.size _) (ER.one _) rfl ?_; intro W2 hB; simp only [List.set] at hB))
        exact bodyPost_ret (res_two rfl rfl rfl isE hB 2 rfl (ER.size _)) rfl ⟨rfl, by first | exact hB.below | (rw [← hg]; exact hB.below)⟩
    · rw [if_pos rfl]
      go_enter Try.func100, Try.ntmps100
      go_wp2_with (first
      | (go_at_call 141; refine (full_calls v lv _ _ (HV.out.below hB.below) H1.out).mono ?_; rintro r w1 ⟨rfl, hb1⟩; replace hB := hB.step hb1; have hc := hB.cell 0 rfl; have hd := hB.cell 1 rfl)
      | (go_at_call 143; refine (sameVal_calls e.f v lf lv _ (HF.out.below hB.below) (HV.out.below hB.below) _ H2.out).mono ?_; rintro r w1 ⟨rfl, hb1⟩; replace hB := hB.step hb1; have hc := hB.cell 0 rfl; have hd := hB.cell 1 rfl)
      | (refine wpl_load isE rfl hB 0 rfl (ER.size _) rfl ?_)
      | (refine wpl_load isV rfl hB 1 rfl (VR.size _) rfl ?_)
      | (refine wpl_loadF isV (V := VR.cells e.f) rfl hB 0 rfl rfl rfl rfl ?_)
      | (refine wpl_loadF isV (V := VR.cells e.v) rfl hB 0 rfl rfl rfl rfl ?_)
      | (refine wpl_store isE rfl rfl hB 2 rfl (ER.size _) (ER.size _) (ER.one _) rfl ?_; intro W2 hB; simp only [List.set] at hB))
      exact bodyPost_ret (res_two rfl rfl rfl isE hB 2 rfl (ER.size _)) rfl ⟨rfl, by first | exact hB.below | (rw [← hg]; exact hB.below)⟩
set_option maxHeartbeats 4000000 in
set_option maxRecDepth 100000 in
theorem refVote_calls (e : ER) (v : VR) (lf lv : List CmdD) (full same : Bool) (w : World) (hf : VAt w e.f lf) (hv : VAt w v lv) (h1 : okFull v lv = full) (h2 : okSame e.f v lf lv = same) : Calls Try.prog 108 #[.agg e.cells, .agg v.cells] w fun r w' => r = .returned (.tuple #[.agg (voteS e v full same).1.cells, .int .i64 (voteS e v full same).2]) ∧ Below w.heap.size w w' := by
  have ka := e.all
  have kv := v.all
  obtain ⟨g, hg⟩ : ∃ g, w.heap.size = g := ⟨_, rfl⟩
  obtain ⟨W, hW⟩ : ∃ W, ((w.alloc (.cells e.cells 75)).alloc (.cells v.cells 34)).alloc (.cells noER.cells 75) = W := ⟨_, rfl⟩
  have hB := three_new w e.cells v.cells noER.cells 75 34
  rw [hW, hg] at hB
  have hc := hB.cell 0 rfl
  have hd := hB.cell 1 rfl
  simp only [noER_cells] at hW
  have HF := Hold.mk hf
  have HV := Hold.mk hv
  have H1 := Hold.mk h1
  have H2 := Hold.mk h2
  clear hf hv h1 h2
  unfold voteS
  cases full
  · rw [if_neg (by decide)]
    go_enter Try.func108, Try.ntmps108
    go_wp2_with (first
      | (go_at_call 144; refine (refFull_calls v lv _ _ (HV.out.below hB.below) H1.out).mono ?_; rintro r w1 ⟨rfl, hb1⟩; replace hB := hB.step hb1; have hc := hB.cell 0 rfl; have hd := hB.cell 1 rfl)
      | (refine wpl_load isD rfl hB 0 rfl (ER.size _) rfl ?_)
      | (refine wpl_load isV rfl hB 1 rfl (VR.size _) rfl ?_)
      | (refine wpl_loadF isV (V := VR.cells e.f) rfl hB 0 rfl rfl rfl rfl ?_)
      | (refine wpl_loadF isV (V := VR.cells e.v) rfl hB 0 rfl rfl rfl rfl ?_)
      | (refine wpl_store isD rfl rfl hB 2 rfl (ER.size _) (ER.size _) (ER.one _) rfl ?_; intro W2 hB; simp only [List.set] at hB))
    exact bodyPost_ret (res_two rfl rfl rfl isD hB 2 rfl (ER.size _)) rfl ⟨rfl, by first | exact hB.below | (rw [← hg]; exact hB.below)⟩
  · rw [if_pos rfl]
    cases same
    · rw [if_neg (by decide)]
      cases hn : okNone e.f
      · have HN := Hold.mk hn
        clear hn
        rw [if_neg (by decide)]
        go_enter Try.func108, Try.ntmps108
        go_wp2_with (first
      | (go_at_call 144; refine (refFull_calls v lv _ _ (HV.out.below hB.below) H1.out).mono ?_; rintro r w1 ⟨rfl, hb1⟩; replace hB := hB.step hb1; have hc := hB.cell 0 rfl; have hd := hB.cell 1 rfl)
      | (go_at_call 28; refine (refSameVal_calls e.f v lf lv _ (HF.out.below hB.below) (HV.out.below hB.below) _ H2.out).mono ?_; rintro r w1 ⟨rfl, hb1⟩; replace hB := hB.step hb1; have hc := hB.cell 0 rfl; have hd := hB.cell 1 rfl)
      | (go_at_call 145; refine (refNone_calls e.f _).mono ?_; rintro r w1 ⟨rfl, hb1⟩; replace hB := hB.step hb1; have hc := hB.cell 0 rfl; have hd := hB.cell 1 rfl; rw [HN.out])
      | (refine wpl_load isD rfl hB 0 rfl (ER.size _) rfl ?_)
      | (refine wpl_load isV rfl hB 1 rfl (VR.size _) rfl ?_)
      | (refine wpl_loadF isV (V := VR.cells e.f) rfl hB 0 rfl rfl rfl rfl ?_)
      | (refine wpl_loadF isV (V := VR.cells e.v) rfl hB 0 rfl rfl rfl rfl ?_)
      | (refine wpl_store isD rfl rfl hB 2 rfl (ER.size _) (ER.size _) (ER.one _) rfl ?_; intro W2 hB; simp only [List.set] at hB))
        exact bodyPost_ret (res_two rfl rfl rfl isD hB 2 rfl (ER.size _)) rfl ⟨rfl, by first | exact hB.below | (rw [← hg]; exact hB.below)⟩
      · have HN := Hold.mk hn
        clear hn
        rw [if_pos rfl]
        obtain ⟨e2, he2⟩ : ∃ e2, (resS e v.t).1 = e2 := ⟨_, rfl⟩
        obtain ⟨k2, hk2⟩ : ∃ k2, (resS e v.t).2 = k2 := ⟨_, rfl⟩
        have HR : Hold (resS e v.t = (e2, k2)) := ⟨by rw [← he2, ← hk2]⟩
        rw [he2]
        clear he2 hk2
        go_enter Try.func108, Try.ntmps108
        go_wp2_with (first
      | (go_at_call 144; refine (refFull_calls v lv _ _ (HV.out.below hB.below) H1.out).mono ?_; rintro r w1 ⟨rfl, hb1⟩; replace hB := hB.step hb1; have hc := hB.cell 0 rfl; have hd := hB.cell 1 rfl)
      | (go_at_call 28; refine (refSameVal_calls e.f v lf lv _ (HF.out.below hB.below) (HV.out.below hB.below) _ H2.out).mono ?_; rintro r w1 ⟨rfl, hb1⟩; replace hB := hB.step hb1; have hc := hB.cell 0 rfl; have hd := hB.cell 1 rfl)
      | (go_at_call 145; refine (refNone_calls e.f _).mono ?_; rintro r w1 ⟨rfl, hb1⟩; replace hB := hB.step hb1; have hc := hB.cell 0 rfl; have hd := hB.cell 1 rfl; rw [HN.out])
      | (go_at_call 107; refine (refReserve_calls e v.t _ HV.out.wf).mono ?_; rintro r w1 ⟨rfl, hb1⟩; replace hB := hB.step hb1; have hc := hB.cell 0 rfl; have hd := hB.cell 1 rfl; rw [HR.out])
      | (refine wpl_alloc zeroD hB rfl ?_; intro W2 g3 hB; simp only [List.cons_append, List.nil_append] at hB; have hc := hB.cell 0 rfl; have hd := hB.cell 1 rfl)
      | (refine wpl_store isD rfl rfl hB 3 rfl (ER.size _) (ER.size _) (ER.one _) rfl ?_; intro W2 hB; simp only [List.set] at hB; have hc := hB.cell 0 rfl; have hd := hB.cell 1 rfl; have hx := hB.cell 3 rfl; have ka := ER.all e2)
      | (refine wpl_storeF (C' := ER.cells { e2 with f := v }) isV.size rfl rfl rfl hB 3 rfl rfl (by rw [ER.size]; omega) (VR.ones _) rfl rfl ?_; intro W2 hB; simp only [List.set] at hB; have hc := hB.cell 3 rfl; have ka := ER.all { e2 with f := v })
      | (refine wpl_load isD rfl hB 3 rfl (ER.size _) rfl ?_)
      | (refine wpl_load isD rfl hB 0 rfl (ER.size _) rfl ?_)
      | (refine wpl_load isV rfl hB 1 rfl (VR.size _) rfl ?_)
      | (refine wpl_loadF isV (V := VR.cells e.f) rfl hB 0 rfl rfl rfl rfl ?_)
      | (refine wpl_loadF isV (V := VR.cells e.v) rfl hB 0 rfl rfl rfl rfl ?_)
      | (refine wpl_store isD rfl rfl hB 2 rfl (ER.size _) (ER.size _) (ER.one _) rfl ?_; intro W2 hB; simp only [List.set] at hB))
        exact bodyPost_ret (res_two rfl rfl rfl isD hB 2 rfl (ER.size _)) rfl ⟨rfl, by first | exact hB.below | (rw [← hg]; exact hB.below)⟩
    · rw [if_pos rfl]
      go_enter Try.func108, Try.ntmps108
      go_wp2_with (first
      | (go_at_call 144; refine (refFull_calls v lv _ _ (HV.out.below hB.below) H1.out).mono ?_; rintro r w1 ⟨rfl, hb1⟩; replace hB := hB.step hb1; have hc := hB.cell 0 rfl; have hd := hB.cell 1 rfl)
      | (go_at_call 28; refine (refSameVal_calls e.f v lf lv _ (HF.out.below hB.below) (HV.out.below hB.below) _ H2.out).mono ?_; rintro r w1 ⟨rfl, hb1⟩; replace hB := hB.step hb1; have hc := hB.cell 0 rfl; have hd := hB.cell 1 rfl)
      | (refine wpl_load isD rfl hB 0 rfl (ER.size _) rfl ?_)
      | (refine wpl_load isV rfl hB 1 rfl (VR.size _) rfl ?_)
      | (refine wpl_loadF isV (V := VR.cells e.f) rfl hB 0 rfl rfl rfl rfl ?_)
      | (refine wpl_loadF isV (V := VR.cells e.v) rfl hB 0 rfl rfl rfl rfl ?_)
      | (refine wpl_store isD rfl rfl hB 2 rfl (ER.size _) (ER.size _) (ER.one _) rfl ?_; intro W2 hB; simp only [List.set] at hB))
      exact bodyPost_ret (res_two rfl rfl rfl isD hB 2 rfl (ER.size _)) rfl ⟨rfl, by first | exact hB.below | (rw [← hg]; exact hB.below)⟩
def accS (e : ER) (b : Int) (v : VR) (full : Bool) : ER × Int := if (full && okBallot b && decide (1 ≤ b)) = true then if b < e.pr then (e, 11) else ({ (resS e v.t).1 with pr := b, ab := b, a := v }, 0) else (e, 1)
def finS (e : ER) (v : VR) (full same : Bool) : ER × Int := if full = true then if (e.dn && !same) = true then (e, 6) else ({ e with dn := true, v := v }, 0) else (e, 1)
set_option maxHeartbeats 4000000 in
set_option maxRecDepth 100000 in
theorem accept_calls (e : ER) (b : Int) (v : VR) (lv : List CmdD) (full : Bool) (w : World) (hv : VAt w v lv) (h1 : okFull v lv = full) : Calls Try.prog 101 #[.agg e.cells, .int .i64 b, .agg v.cells] w fun r w' => r = .returned (.tuple #[.agg (accS e b v full).1.cells, .int .i64 (accS e b v full).2]) ∧ Below w.heap.size w w' := by
  have ka := e.all
  have kv := v.all
  obtain ⟨g, hg⟩ : ∃ g, w.heap.size = g := ⟨_, rfl⟩
  obtain ⟨W, hW⟩ : ∃ W, ((w.alloc (.cells e.cells 70)).alloc (.cells v.cells 34)).alloc (.cells noER.cells 70) = W := ⟨_, rfl⟩
  have hB := three_new w e.cells v.cells noER.cells 70 34
  rw [hW, hg] at hB
  have hc := hB.cell 0 rfl
  have hd := hB.cell 1 rfl
  simp only [noER_cells] at hW
  have HV := Hold.mk hv
  have H1 := Hold.mk h1
  clear hv h1
  unfold accS
  obtain ⟨ob, hok⟩ : ∃ ob, okBallot b = ob := ⟨_, rfl⟩
  rw [hok]
  have HOk := Hold.mk hok
  clear hok
  by_cases hp : (full && ob && decide (1 ≤ b)) = true
  · rw [if_pos hp]
    simp only [Bool.and_eq_true, decide_eq_true_eq] at hp
    obtain ⟨⟨rfl, rfl⟩, hp⟩ := hp
    by_cases hlt : b < e.pr
    · rw [if_pos hlt]
      go_enter Try.func101, Try.ntmps101
      go_wp2_with (first
      | (go_at_call 141; refine (full_calls v lv _ _ (HV.out.below hB.below) H1.out).mono ?_; rintro r w1 ⟨rfl, hb1⟩; replace hB := hB.step hb1; have hc := hB.cell 0 rfl; have hd := hB.cell 1 rfl)
      | (go_at_call 97; refine (ballot_calls b _).mono ?_; rintro r w1 ⟨rfl, rfl⟩; rw [HOk.out])
      | (refine wpl_load isE rfl hB 0 rfl (ER.size _) rfl ?_)
      | (refine wpl_load isV rfl hB 1 rfl (VR.size _) rfl ?_)
      | (refine wpl_loadF isV (V := VR.cells e.f) rfl hB 0 rfl rfl rfl rfl ?_)
      | (refine wpl_loadF isV (V := VR.cells e.v) rfl hB 0 rfl rfl rfl rfl ?_)
      | (refine wpl_store isE rfl rfl hB 2 rfl (ER.size _) (ER.size _) (ER.one _) rfl ?_; intro W2 hB; simp only [List.set] at hB))
      exact bodyPost_ret (res_two rfl rfl rfl isE hB 2 rfl (ER.size _)) rfl ⟨rfl, by first | exact hB.below | (rw [← hg]; exact hB.below)⟩
    · rw [if_neg hlt]
      obtain ⟨e2, he2⟩ : ∃ e2, (resS e v.t).1 = e2 := ⟨_, rfl⟩
      obtain ⟨k2, hk2⟩ : ∃ k2, (resS e v.t).2 = k2 := ⟨_, rfl⟩
      have HR : Hold (resS e v.t = (e2, k2)) := ⟨by rw [← he2, ← hk2]⟩
      rw [he2]
      clear he2 hk2
      go_enter Try.func101, Try.ntmps101
      go_wp2_with (first
      | (go_at_call 141; refine (full_calls v lv _ _ (HV.out.below hB.below) H1.out).mono ?_; rintro r w1 ⟨rfl, hb1⟩; replace hB := hB.step hb1; have hc := hB.cell 0 rfl; have hd := hB.cell 1 rfl)
      | (go_at_call 97; refine (ballot_calls b _).mono ?_; rintro r w1 ⟨rfl, rfl⟩; rw [HOk.out])
      | (go_at_call 106; refine (reserve_calls e v.t _ HV.out.wf).mono ?_; rintro r w1 ⟨rfl, hb1⟩; replace hB := hB.step hb1; have hc := hB.cell 0 rfl; have hd := hB.cell 1 rfl; rw [HR.out])
      | (refine wpl_store isE rfl rfl hB 0 rfl (ER.size _) (ER.size _) (ER.one _) rfl ?_; intro W2 hB; simp only [List.set] at hB; have hc := hB.cell 0 rfl; have hd := hB.cell 1 rfl; have ka := ER.all e2)
      | (refine wpl_load isE rfl hB 0 rfl (ER.size _) rfl ?_)
      | (refine wpl_load isV rfl hB 1 rfl (VR.size _) rfl ?_)
      | (refine wpl_loadF isV (V := VR.cells e.f) rfl hB 0 rfl rfl rfl rfl ?_)
      | (refine wpl_loadF isV (V := VR.cells e.v) rfl hB 0 rfl rfl rfl rfl ?_)
      | (refine wpl_store isE rfl rfl hB 2 rfl (ER.size _) (ER.size _) (ER.one _) rfl ?_; intro W2 hB; simp only [List.set] at hB))
      have fz := hB.fz 0 rfl
      have hd0 := hd 0
      have hd1 := hd 1
      rw [kv.1] at hd0
      rw [kv.2] at hd1
      go_region_held_law (fun w' => w'.cell? ⟨g + 1, 0, none⟩ = some (.int .i64 v.t) ∧ w'.cell? ⟨g + 1, 1, none⟩ = some (.slice v.A v.n v.c)) (first | go_keep) (fail)
      replace hB := ((((hB.set 0 rfl 7 (.int .i64 b) (C' := ER.cells { e2 with pr := b }) rfl).set 0 rfl 12 (.int .i64 b) (C' := ER.cells { e2 with pr := b, ab := b }) rfl).set 0 rfl 13 (.int .i64 v.t) (C' := ER.cells { e2 with pr := b, ab := b, a := { e2.a with t := v.t } }) rfl).set 0 rfl 14 (.slice v.A v.n v.c) (C' := ER.cells { e2 with pr := b, ab := b, a := v }) rfl).drew
      simp only [List.set] at hB
      go_wp2_with (first
      | (refine wpl_load isE rfl hB 0 rfl (ER.size _) rfl ?_)
      | (refine wpl_load isV rfl hB 1 rfl (VR.size _) rfl ?_)
      | (refine wpl_loadF isV (V := VR.cells e.f) rfl hB 0 rfl rfl rfl rfl ?_)
      | (refine wpl_loadF isV (V := VR.cells e.v) rfl hB 0 rfl rfl rfl rfl ?_)
      | (refine wpl_store isE rfl rfl hB 2 rfl (ER.size _) (ER.size _) (ER.one _) rfl ?_; intro W2 hB; simp only [List.set] at hB))
      exact bodyPost_ret (res_two rfl rfl rfl isE hB 2 rfl (ER.size _)) rfl ⟨rfl, by first | exact hB.below | (rw [← hg]; exact hB.below)⟩
  · rw [if_neg hp]
    cases full
    · clear hp
      go_enter Try.func101, Try.ntmps101
      go_wp2_with (first
      | (go_at_call 141; refine (full_calls v lv _ _ (HV.out.below hB.below) H1.out).mono ?_; rintro r w1 ⟨rfl, hb1⟩; replace hB := hB.step hb1; have hc := hB.cell 0 rfl; have hd := hB.cell 1 rfl)
      | (go_at_call 97; refine (ballot_calls b _).mono ?_; rintro r w1 ⟨rfl, rfl⟩; rw [HOk.out])
      | (refine wpl_load isE rfl hB 0 rfl (ER.size _) rfl ?_)
      | (refine wpl_load isV rfl hB 1 rfl (VR.size _) rfl ?_)
      | (refine wpl_loadF isV (V := VR.cells e.f) rfl hB 0 rfl rfl rfl rfl ?_)
      | (refine wpl_loadF isV (V := VR.cells e.v) rfl hB 0 rfl rfl rfl rfl ?_)
      | (refine wpl_store isE rfl rfl hB 2 rfl (ER.size _) (ER.size _) (ER.one _) rfl ?_; intro W2 hB; simp only [List.set] at hB))
      exact bodyPost_ret (res_two rfl rfl rfl isE hB 2 rfl (ER.size _)) rfl ⟨rfl, by first | exact hB.below | (rw [← hg]; exact hB.below)⟩
    · cases ob
      · clear hp
        go_enter Try.func101, Try.ntmps101
        go_wp2_with (first
      | (go_at_call 141; refine (full_calls v lv _ _ (HV.out.below hB.below) H1.out).mono ?_; rintro r w1 ⟨rfl, hb1⟩; replace hB := hB.step hb1; have hc := hB.cell 0 rfl; have hd := hB.cell 1 rfl)
      | (go_at_call 97; refine (ballot_calls b _).mono ?_; rintro r w1 ⟨rfl, rfl⟩; rw [HOk.out])
      | (refine wpl_load isE rfl hB 0 rfl (ER.size _) rfl ?_)
      | (refine wpl_load isV rfl hB 1 rfl (VR.size _) rfl ?_)
      | (refine wpl_loadF isV (V := VR.cells e.f) rfl hB 0 rfl rfl rfl rfl ?_)
      | (refine wpl_loadF isV (V := VR.cells e.v) rfl hB 0 rfl rfl rfl rfl ?_)
      | (refine wpl_store isE rfl rfl hB 2 rfl (ER.size _) (ER.size _) (ER.one _) rfl ?_; intro W2 hB; simp only [List.set] at hB))
        exact bodyPost_ret (res_two rfl rfl rfl isE hB 2 rfl (ER.size _)) rfl ⟨rfl, by first | exact hB.below | (rw [← hg]; exact hB.below)⟩
      · have hp2 : b < 1 := by simp at hp; omega
        clear hp
        go_enter Try.func101, Try.ntmps101
        go_wp2_with (first
      | (go_at_call 141; refine (full_calls v lv _ _ (HV.out.below hB.below) H1.out).mono ?_; rintro r w1 ⟨rfl, hb1⟩; replace hB := hB.step hb1; have hc := hB.cell 0 rfl; have hd := hB.cell 1 rfl)
      | (go_at_call 97; refine (ballot_calls b _).mono ?_; rintro r w1 ⟨rfl, rfl⟩; rw [HOk.out])
      | (refine wpl_load isE rfl hB 0 rfl (ER.size _) rfl ?_)
      | (refine wpl_load isV rfl hB 1 rfl (VR.size _) rfl ?_)
      | (refine wpl_loadF isV (V := VR.cells e.f) rfl hB 0 rfl rfl rfl rfl ?_)
      | (refine wpl_loadF isV (V := VR.cells e.v) rfl hB 0 rfl rfl rfl rfl ?_)
      | (refine wpl_store isE rfl rfl hB 2 rfl (ER.size _) (ER.size _) (ER.one _) rfl ?_; intro W2 hB; simp only [List.set] at hB))
        exact bodyPost_ret (res_two rfl rfl rfl isE hB 2 rfl (ER.size _)) rfl ⟨rfl, by first | exact hB.below | (rw [← hg]; exact hB.below)⟩
set_option maxHeartbeats 4000000 in
set_option maxRecDepth 100000 in
theorem refAccept_calls (e : ER) (b : Int) (v : VR) (lv : List CmdD) (full : Bool) (w : World) (hv : VAt w v lv) (h1 : okFull v lv = full) : Calls Try.prog 109 #[.agg e.cells, .int .i64 b, .agg v.cells] w fun r w' => r = .returned (.tuple #[.agg (accS e b v full).1.cells, .int .i64 (accS e b v full).2]) ∧ Below w.heap.size w w' := by
  have ka := e.all
  have kv := v.all
  obtain ⟨g, hg⟩ : ∃ g, w.heap.size = g := ⟨_, rfl⟩
  obtain ⟨W, hW⟩ : ∃ W, ((w.alloc (.cells e.cells 75)).alloc (.cells v.cells 34)).alloc (.cells noER.cells 75) = W := ⟨_, rfl⟩
  have hB := three_new w e.cells v.cells noER.cells 75 34
  rw [hW, hg] at hB
  have hc := hB.cell 0 rfl
  have hd := hB.cell 1 rfl
  simp only [noER_cells] at hW
  have HV := Hold.mk hv
  have H1 := Hold.mk h1
  clear hv h1
  unfold accS
  obtain ⟨ob, hok⟩ : ∃ ob, okBallot b = ob := ⟨_, rfl⟩
  rw [hok]
  have HOk := Hold.mk hok
  clear hok
  by_cases hp : (full && ob && decide (1 ≤ b)) = true
  · rw [if_pos hp]
    simp only [Bool.and_eq_true, decide_eq_true_eq] at hp
    obtain ⟨⟨rfl, rfl⟩, hp⟩ := hp
    by_cases hlt : b < e.pr
    · rw [if_pos hlt]
      go_enter Try.func109, Try.ntmps109
      go_wp2_with (first
      | (go_at_call 144; refine (refFull_calls v lv _ _ (HV.out.below hB.below) H1.out).mono ?_; rintro r w1 ⟨rfl, hb1⟩; replace hB := hB.step hb1; have hc := hB.cell 0 rfl; have hd := hB.cell 1 rfl)
      | (go_at_call 117; refine (refBallot_calls b _).mono ?_; rintro r w1 ⟨rfl, rfl⟩; rw [HOk.out])
      | (refine wpl_load isD rfl hB 0 rfl (ER.size _) rfl ?_)
      | (refine wpl_load isV rfl hB 1 rfl (VR.size _) rfl ?_)
      | (refine wpl_loadF isV (V := VR.cells e.f) rfl hB 0 rfl rfl rfl rfl ?_)
      | (refine wpl_loadF isV (V := VR.cells e.v) rfl hB 0 rfl rfl rfl rfl ?_)
      | (refine wpl_store isD rfl rfl hB 2 rfl (ER.size _) (ER.size _) (ER.one _) rfl ?_; intro W2 hB; simp only [List.set] at hB))
      exact bodyPost_ret (res_two rfl rfl rfl isD hB 2 rfl (ER.size _)) rfl ⟨rfl, by first | exact hB.below | (rw [← hg]; exact hB.below)⟩
    · rw [if_neg hlt]
      obtain ⟨e2, he2⟩ : ∃ e2, (resS e v.t).1 = e2 := ⟨_, rfl⟩
      obtain ⟨k2, hk2⟩ : ∃ k2, (resS e v.t).2 = k2 := ⟨_, rfl⟩
      have HR : Hold (resS e v.t = (e2, k2)) := ⟨by rw [← he2, ← hk2]⟩
      rw [he2]
      clear he2 hk2
      go_enter Try.func109, Try.ntmps109
      go_wp2_with (first
      | (go_at_call 144; refine (refFull_calls v lv _ _ (HV.out.below hB.below) H1.out).mono ?_; rintro r w1 ⟨rfl, hb1⟩; replace hB := hB.step hb1; have hc := hB.cell 0 rfl; have hd := hB.cell 1 rfl)
      | (go_at_call 117; refine (refBallot_calls b _).mono ?_; rintro r w1 ⟨rfl, rfl⟩; rw [HOk.out])
      | (go_at_call 107; refine (refReserve_calls e v.t _ HV.out.wf).mono ?_; rintro r w1 ⟨rfl, hb1⟩; replace hB := hB.step hb1; have hc := hB.cell 0 rfl; have hd := hB.cell 1 rfl; rw [HR.out])
      | (refine wpl_alloc zeroD hB rfl ?_; intro W2 g3 hB; simp only [List.cons_append, List.nil_append] at hB; have hc := hB.cell 0 rfl; have hd := hB.cell 1 rfl)
      | (refine wpl_store isD rfl rfl hB 3 rfl (ER.size _) (ER.size _) (ER.one _) rfl ?_; intro W2 hB; simp only [List.set] at hB; have hc := hB.cell 0 rfl; have hd := hB.cell 1 rfl; have hx := hB.cell 3 rfl; have ka := ER.all e2)
      | (refine wpl_storeF (C' := ER.cells { e2 with pr := b }) szInt rfl rfl rfl hB 3 rfl rfl (by rw [ER.size]; omega) one_int rfl rfl ?_; intro W2 hB; simp only [List.set] at hB; have hc := hB.cell 3 rfl; have ka := ER.all { e2 with pr := b })
      | (refine wpl_storeF (C' := ER.cells { e2 with pr := b, ab := b }) szInt rfl rfl rfl hB 3 rfl rfl (by rw [ER.size]; omega) one_int rfl rfl ?_; intro W2 hB; simp only [List.set] at hB; have hc := hB.cell 3 rfl; have ka := ER.all { e2 with pr := b, ab := b })
      | (refine wpl_storeF (C' := ER.cells { e2 with pr := b, ab := b, a := v }) isV.size rfl rfl rfl hB 3 rfl rfl (by rw [ER.size]; omega) (VR.ones _) rfl rfl ?_; intro W2 hB; simp only [List.set] at hB; have hc := hB.cell 3 rfl; have ka := ER.all { e2 with pr := b, ab := b, a := v })
      | (refine wpl_load isD rfl hB 3 rfl (ER.size _) rfl ?_)
      | (refine wpl_load isD rfl hB 0 rfl (ER.size _) rfl ?_)
      | (refine wpl_load isV rfl hB 1 rfl (VR.size _) rfl ?_)
      | (refine wpl_loadF isV (V := VR.cells e.f) rfl hB 0 rfl rfl rfl rfl ?_)
      | (refine wpl_loadF isV (V := VR.cells e.v) rfl hB 0 rfl rfl rfl rfl ?_)
      | (refine wpl_store isD rfl rfl hB 2 rfl (ER.size _) (ER.size _) (ER.one _) rfl ?_; intro W2 hB; simp only [List.set] at hB))
      exact bodyPost_ret (res_two rfl rfl rfl isD hB 2 rfl (ER.size _)) rfl ⟨rfl, by first | exact hB.below | (rw [← hg]; exact hB.below)⟩
  · rw [if_neg hp]
    cases full
    · clear hp
      go_enter Try.func109, Try.ntmps109
      go_wp2_with (first
      | (go_at_call 144; refine (refFull_calls v lv _ _ (HV.out.below hB.below) H1.out).mono ?_; rintro r w1 ⟨rfl, hb1⟩; replace hB := hB.step hb1; have hc := hB.cell 0 rfl; have hd := hB.cell 1 rfl)
      | (go_at_call 117; refine (refBallot_calls b _).mono ?_; rintro r w1 ⟨rfl, rfl⟩; rw [HOk.out])
      | (refine wpl_load isD rfl hB 0 rfl (ER.size _) rfl ?_)
      | (refine wpl_load isV rfl hB 1 rfl (VR.size _) rfl ?_)
      | (refine wpl_loadF isV (V := VR.cells e.f) rfl hB 0 rfl rfl rfl rfl ?_)
      | (refine wpl_loadF isV (V := VR.cells e.v) rfl hB 0 rfl rfl rfl rfl ?_)
      | (refine wpl_store isD rfl rfl hB 2 rfl (ER.size _) (ER.size _) (ER.one _) rfl ?_; intro W2 hB; simp only [List.set] at hB))
      exact bodyPost_ret (res_two rfl rfl rfl isD hB 2 rfl (ER.size _)) rfl ⟨rfl, by first | exact hB.below | (rw [← hg]; exact hB.below)⟩
    · cases ob
      · clear hp
        go_enter Try.func109, Try.ntmps109
        go_wp2_with (first
      | (go_at_call 144; refine (refFull_calls v lv _ _ (HV.out.below hB.below) H1.out).mono ?_; rintro r w1 ⟨rfl, hb1⟩; replace hB := hB.step hb1; have hc := hB.cell 0 rfl; have hd := hB.cell 1 rfl)
      | (go_at_call 117; refine (refBallot_calls b _).mono ?_; rintro r w1 ⟨rfl, rfl⟩; rw [HOk.out])
      | (refine wpl_load isD rfl hB 0 rfl (ER.size _) rfl ?_)
      | (refine wpl_load isV rfl hB 1 rfl (VR.size _) rfl ?_)
      | (refine wpl_loadF isV (V := VR.cells e.f) rfl hB 0 rfl rfl rfl rfl ?_)
      | (refine wpl_loadF isV (V := VR.cells e.v) rfl hB 0 rfl rfl rfl rfl ?_)
      | (refine wpl_store isD rfl rfl hB 2 rfl (ER.size _) (ER.size _) (ER.one _) rfl ?_; intro W2 hB; simp only [List.set] at hB))
        exact bodyPost_ret (res_two rfl rfl rfl isD hB 2 rfl (ER.size _)) rfl ⟨rfl, by first | exact hB.below | (rw [← hg]; exact hB.below)⟩
      · have hp2 : b < 1 := by simp at hp; omega
        clear hp
        go_enter Try.func109, Try.ntmps109
        go_wp2_with (first
      | (go_at_call 144; refine (refFull_calls v lv _ _ (HV.out.below hB.below) H1.out).mono ?_; rintro r w1 ⟨rfl, hb1⟩; replace hB := hB.step hb1; have hc := hB.cell 0 rfl; have hd := hB.cell 1 rfl)
      | (go_at_call 117; refine (refBallot_calls b _).mono ?_; rintro r w1 ⟨rfl, rfl⟩; rw [HOk.out])
      | (refine wpl_load isD rfl hB 0 rfl (ER.size _) rfl ?_)
      | (refine wpl_load isV rfl hB 1 rfl (VR.size _) rfl ?_)
      | (refine wpl_loadF isV (V := VR.cells e.f) rfl hB 0 rfl rfl rfl rfl ?_)
      | (refine wpl_loadF isV (V := VR.cells e.v) rfl hB 0 rfl rfl rfl rfl ?_)
      | (refine wpl_store isD rfl rfl hB 2 rfl (ER.size _) (ER.size _) (ER.one _) rfl ?_; intro W2 hB; simp only [List.set] at hB))
        exact bodyPost_ret (res_two rfl rfl rfl isD hB 2 rfl (ER.size _)) rfl ⟨rfl, by first | exact hB.below | (rw [← hg]; exact hB.below)⟩
set_option maxHeartbeats 4000000 in
set_option maxRecDepth 100000 in
theorem finish_calls (e : ER) (v : VR) (lf lv : List CmdD) (full same : Bool) (w : World) (hf : VAt w e.v lf) (hv : VAt w v lv) (h1 : okFull v lv = full) (h2 : okSame e.v v lf lv = same) : Calls Try.prog 111 #[.agg e.cells, .agg v.cells] w fun r w' => r = .returned (.tuple #[.agg (finS e v full same).1.cells, .int .i64 (finS e v full same).2]) ∧ Below w.heap.size w w' := by
  have ka := e.all
  have kv := v.all
  obtain ⟨g, hg⟩ : ∃ g, w.heap.size = g := ⟨_, rfl⟩
  obtain ⟨W, hW⟩ : ∃ W, ((w.alloc (.cells e.cells 70)).alloc (.cells v.cells 34)).alloc (.cells noER.cells 70) = W := ⟨_, rfl⟩
  have hB := three_new w e.cells v.cells noER.cells 70 34
  rw [hW, hg] at hB
  have hc := hB.cell 0 rfl
  have hd := hB.cell 1 rfl
  simp only [noER_cells] at hW
  have HF := Hold.mk hf
  have HV := Hold.mk hv
  have H1 := Hold.mk h1
  have H2 := Hold.mk h2
  clear hf hv h1 h2
  unfold finS
  obtain ⟨dn, hdn⟩ : ∃ dn, e.dn = dn := ⟨_, rfl⟩
  rw [hdn]
  cases full
  · rw [if_neg (by decide)]
    go_enter Try.func111, Try.ntmps111
    go_wp2_with (first
      | (go_at_call 141; refine (full_calls v lv _ _ (HV.out.below hB.below) H1.out).mono ?_; rintro r w1 ⟨rfl, hb1⟩; replace hB := hB.step hb1; have hc := hB.cell 0 rfl; have hd := hB.cell 1 rfl)
      | (go_at_call 143; refine (sameVal_calls e.v v lf lv _ (HF.out.below hB.below) (HV.out.below hB.below) _ H2.out).mono ?_; rintro r w1 ⟨rfl, hb1⟩; replace hB := hB.step hb1; have hc := hB.cell 0 rfl; have hd := hB.cell 1 rfl)
      | (refine wpl_load isE rfl hB 0 rfl (ER.size _) rfl ?_)
      | (refine wpl_load isV rfl hB 1 rfl (VR.size _) rfl ?_)
      | (refine wpl_loadF isV (V := VR.cells e.f) rfl hB 0 rfl rfl rfl rfl ?_)
      | (refine wpl_loadF isV (V := VR.cells e.v) rfl hB 0 rfl rfl rfl rfl ?_)
      | (refine wpl_store isE rfl rfl hB 2 rfl (ER.size _) (ER.size _) (ER.one _) rfl ?_; intro W2 hB; simp only [List.set] at hB))
    exact bodyPost_ret (res_two rfl rfl rfl isE hB 2 rfl (ER.size _)) rfl ⟨rfl, by first | exact hB.below | (rw [← hg]; exact hB.below)⟩
  · rw [if_pos rfl]
    cases dn
    · rw [if_neg (by simp)]
      go_enter Try.func111, Try.ntmps111
      go_wp2_with (first
    | (go_at_call 141; refine (full_calls v lv _ _ (HV.out.below hB.below) H1.out).mono ?_; rintro r w1 ⟨rfl, hb1⟩; replace hB := hB.step hb1; have hc := hB.cell 0 rfl; have hd := hB.cell 1 rfl)
    | (go_at_call 143; refine (sameVal_calls e.v v lf lv _ (HF.out.below hB.below) (HV.out.below hB.below) _ H2.out).mono ?_; rintro r w1 ⟨rfl, hb1⟩; replace hB := hB.step hb1; have hc := hB.cell 0 rfl; have hd := hB.cell 1 rfl)
    | (refine wpl_load isE rfl hB 0 rfl (ER.size _) rfl ?_)
    | (refine wpl_load isV rfl hB 1 rfl (VR.size _) rfl ?_)
    | (refine wpl_loadF isV (V := VR.cells e.f) rfl hB 0 rfl rfl rfl rfl ?_)
    | (refine wpl_loadF isV (V := VR.cells e.v) rfl hB 0 rfl rfl rfl rfl ?_)
    | (refine wpl_store isE rfl rfl hB 2 rfl (ER.size _) (ER.size _) (ER.one _) rfl ?_; intro W2 hB; simp only [List.set] at hB))
      have fz := hB.fz 0 rfl
      have hd0 := hd 0
      have hd1 := hd 1
      rw [kv.1] at hd0
      rw [kv.2] at hd1
      go_region_held_law (fun w' => w'.cell? ⟨g + 1, 0, none⟩ = some (.int .i64 v.t) ∧ w'.cell? ⟨g + 1, 1, none⟩ = some (.slice v.A v.n v.c)) (first | go_keep) (fail)
      replace hB := (((hB.set 0 rfl 16 (.bool true) (C' := ER.cells { e with dn := true }) rfl).set 0 rfl 17 (.int .i64 v.t) (C' := ER.cells { e with dn := true, v := { e.v with t := v.t } }) rfl).set 0 rfl 18 (.slice v.A v.n v.c) (C' := ER.cells { e with dn := true, v := v }) rfl).drew
      simp only [List.set] at hB
      go_wp2_with (first
    | (refine wpl_load isE rfl hB 0 rfl (ER.size _) rfl ?_)
    | (refine wpl_load isV rfl hB 1 rfl (VR.size _) rfl ?_)
    | (refine wpl_loadF isV (V := VR.cells e.f) rfl hB 0 rfl rfl rfl rfl ?_)
    | (refine wpl_loadF isV (V := VR.cells e.v) rfl hB 0 rfl rfl rfl rfl ?_)
    | (refine wpl_store isE rfl rfl hB 2 rfl (ER.size _) (ER.size _) (ER.one _) rfl ?_; intro W2 hB; simp only [List.set] at hB))
      exact bodyPost_ret (res_two rfl rfl rfl isE hB 2 rfl (ER.size _)) rfl ⟨rfl, by first | exact hB.below | (rw [← hg]; exact hB.below)⟩
    · cases same
      · rw [if_pos (by simp)]
        go_enter Try.func111, Try.ntmps111
        go_wp2_with (first
      | (go_at_call 141; refine (full_calls v lv _ _ (HV.out.below hB.below) H1.out).mono ?_; rintro r w1 ⟨rfl, hb1⟩; replace hB := hB.step hb1; have hc := hB.cell 0 rfl; have hd := hB.cell 1 rfl)
      | (go_at_call 143; refine (sameVal_calls e.v v lf lv _ (HF.out.below hB.below) (HV.out.below hB.below) _ H2.out).mono ?_; rintro r w1 ⟨rfl, hb1⟩; replace hB := hB.step hb1; have hc := hB.cell 0 rfl; have hd := hB.cell 1 rfl)
      | (refine wpl_load isE rfl hB 0 rfl (ER.size _) rfl ?_)
      | (refine wpl_load isV rfl hB 1 rfl (VR.size _) rfl ?_)
      | (refine wpl_loadF isV (V := VR.cells e.f) rfl hB 0 rfl rfl rfl rfl ?_)
      | (refine wpl_loadF isV (V := VR.cells e.v) rfl hB 0 rfl rfl rfl rfl ?_)
      | (refine wpl_store isE rfl rfl hB 2 rfl (ER.size _) (ER.size _) (ER.one _) rfl ?_; intro W2 hB; simp only [List.set] at hB))
        exact bodyPost_ret (res_two rfl rfl rfl isE hB 2 rfl (ER.size _)) rfl ⟨rfl, by first | exact hB.below | (rw [← hg]; exact hB.below)⟩
      · rw [if_neg (by simp)]
        go_enter Try.func111, Try.ntmps111
        go_wp2_with (first
      | (go_at_call 141; refine (full_calls v lv _ _ (HV.out.below hB.below) H1.out).mono ?_; rintro r w1 ⟨rfl, hb1⟩; replace hB := hB.step hb1; have hc := hB.cell 0 rfl; have hd := hB.cell 1 rfl)
      | (go_at_call 143; refine (sameVal_calls e.v v lf lv _ (HF.out.below hB.below) (HV.out.below hB.below) _ H2.out).mono ?_; rintro r w1 ⟨rfl, hb1⟩; replace hB := hB.step hb1; have hc := hB.cell 0 rfl; have hd := hB.cell 1 rfl)
      | (refine wpl_load isE rfl hB 0 rfl (ER.size _) rfl ?_)
      | (refine wpl_load isV rfl hB 1 rfl (VR.size _) rfl ?_)
      | (refine wpl_loadF isV (V := VR.cells e.f) rfl hB 0 rfl rfl rfl rfl ?_)
      | (refine wpl_loadF isV (V := VR.cells e.v) rfl hB 0 rfl rfl rfl rfl ?_)
      | (refine wpl_store isE rfl rfl hB 2 rfl (ER.size _) (ER.size _) (ER.one _) rfl ?_; intro W2 hB; simp only [List.set] at hB))
        have fz := hB.fz 0 rfl
        have hd0 := hd 0
        have hd1 := hd 1
        rw [kv.1] at hd0
        rw [kv.2] at hd1
        go_region_held_law (fun w' => w'.cell? ⟨g + 1, 0, none⟩ = some (.int .i64 v.t) ∧ w'.cell? ⟨g + 1, 1, none⟩ = some (.slice v.A v.n v.c)) (first | go_keep) (fail)
        replace hB := (((hB.set 0 rfl 16 (.bool true) (C' := ER.cells { e with dn := true }) rfl).set 0 rfl 17 (.int .i64 v.t) (C' := ER.cells { e with dn := true, v := { e.v with t := v.t } }) rfl).set 0 rfl 18 (.slice v.A v.n v.c) (C' := ER.cells { e with dn := true, v := v }) rfl).drew
        simp only [List.set] at hB
        go_wp2_with (first
      | (refine wpl_load isE rfl hB 0 rfl (ER.size _) rfl ?_)
      | (refine wpl_load isV rfl hB 1 rfl (VR.size _) rfl ?_)
      | (refine wpl_loadF isV (V := VR.cells e.f) rfl hB 0 rfl rfl rfl rfl ?_)
      | (refine wpl_loadF isV (V := VR.cells e.v) rfl hB 0 rfl rfl rfl rfl ?_)
      | (refine wpl_store isE rfl rfl hB 2 rfl (ER.size _) (ER.size _) (ER.one _) rfl ?_; intro W2 hB; simp only [List.set] at hB))
        exact bodyPost_ret (res_two rfl rfl rfl isE hB 2 rfl (ER.size _)) rfl ⟨rfl, by first | exact hB.below | (rw [← hg]; exact hB.below)⟩
set_option maxHeartbeats 4000000 in
set_option maxRecDepth 100000 in
theorem refFinish_calls (e : ER) (v : VR) (lf lv : List CmdD) (full same : Bool) (w : World) (hf : VAt w e.v lf) (hv : VAt w v lv) (h1 : okFull v lv = full) (h2 : okSame e.v v lf lv = same) : Calls Try.prog 112 #[.agg e.cells, .agg v.cells] w fun r w' => r = .returned (.tuple #[.agg (finS e v full same).1.cells, .int .i64 (finS e v full same).2]) ∧ Below w.heap.size w w' := by
  have ka := e.all
  have kv := v.all
  obtain ⟨g, hg⟩ : ∃ g, w.heap.size = g := ⟨_, rfl⟩
  obtain ⟨W, hW⟩ : ∃ W, ((w.alloc (.cells e.cells 75)).alloc (.cells v.cells 34)).alloc (.cells noER.cells 75) = W := ⟨_, rfl⟩
  have hB := three_new w e.cells v.cells noER.cells 75 34
  rw [hW, hg] at hB
  have hc := hB.cell 0 rfl
  have hd := hB.cell 1 rfl
  simp only [noER_cells] at hW
  have HF := Hold.mk hf
  have HV := Hold.mk hv
  have H1 := Hold.mk h1
  have H2 := Hold.mk h2
  clear hf hv h1 h2
  unfold finS
  obtain ⟨dn, hdn⟩ : ∃ dn, e.dn = dn := ⟨_, rfl⟩
  rw [hdn]
  cases full
  · rw [if_neg (by decide)]
    go_enter Try.func112, Try.ntmps112
    go_wp2_with (first
      | (go_at_call 144; refine (refFull_calls v lv _ _ (HV.out.below hB.below) H1.out).mono ?_; rintro r w1 ⟨rfl, hb1⟩; replace hB := hB.step hb1; have hc := hB.cell 0 rfl; have hd := hB.cell 1 rfl)
      | (go_at_call 28; refine (refSameVal_calls e.v v lf lv _ (HF.out.below hB.below) (HV.out.below hB.below) _ H2.out).mono ?_; rintro r w1 ⟨rfl, hb1⟩; replace hB := hB.step hb1; have hc := hB.cell 0 rfl; have hd := hB.cell 1 rfl)
      | (refine wpl_load isD rfl hB 0 rfl (ER.size _) rfl ?_)
      | (refine wpl_load isV rfl hB 1 rfl (VR.size _) rfl ?_)
      | (refine wpl_loadF isV (V := VR.cells e.f) rfl hB 0 rfl rfl rfl rfl ?_)
      | (refine wpl_loadF isV (V := VR.cells e.v) rfl hB 0 rfl rfl rfl rfl ?_)
      | (refine wpl_store isD rfl rfl hB 2 rfl (ER.size _) (ER.size _) (ER.one _) rfl ?_; intro W2 hB; simp only [List.set] at hB))
    exact bodyPost_ret (res_two rfl rfl rfl isD hB 2 rfl (ER.size _)) rfl ⟨rfl, by first | exact hB.below | (rw [← hg]; exact hB.below)⟩
  · rw [if_pos rfl]
    cases dn
    · rw [if_neg (by simp)]
      go_enter Try.func112, Try.ntmps112
      go_wp2_with (first
    | (go_at_call 144; refine (refFull_calls v lv _ _ (HV.out.below hB.below) H1.out).mono ?_; rintro r w1 ⟨rfl, hb1⟩; replace hB := hB.step hb1; have hc := hB.cell 0 rfl; have hd := hB.cell 1 rfl)
    | (go_at_call 28; refine (refSameVal_calls e.v v lf lv _ (HF.out.below hB.below) (HV.out.below hB.below) _ H2.out).mono ?_; rintro r w1 ⟨rfl, hb1⟩; replace hB := hB.step hb1; have hc := hB.cell 0 rfl; have hd := hB.cell 1 rfl)
    | (refine wpl_storeF (C' := ER.cells { e with dn := true }) szBool rfl rfl rfl hB 0 rfl rfl (by rw [ER.size]; omega) one_bool rfl rfl ?_; intro W2 hB; simp only [List.set] at hB; have hc := hB.cell 0 rfl; have ka := ER.all { e with dn := true })
    | (refine wpl_storeF (C' := ER.cells { e with dn := true, v := v }) isV.size rfl rfl rfl hB 0 rfl rfl (by rw [ER.size]; omega) (VR.ones _) rfl rfl ?_; intro W2 hB; simp only [List.set] at hB; have hc := hB.cell 0 rfl; have ka := ER.all { e with dn := true, v := v })
    | (refine wpl_load isD rfl hB 0 rfl (ER.size _) rfl ?_)
    | (refine wpl_load isV rfl hB 1 rfl (VR.size _) rfl ?_)
    | (refine wpl_loadF isV (V := VR.cells e.f) rfl hB 0 rfl rfl rfl rfl ?_)
    | (refine wpl_loadF isV (V := VR.cells e.v) rfl hB 0 rfl rfl rfl rfl ?_)
    | (refine wpl_store isD rfl rfl hB 2 rfl (ER.size _) (ER.size _) (ER.one _) rfl ?_; intro W2 hB; simp only [List.set] at hB))
      exact bodyPost_ret (res_two rfl rfl rfl isD hB 2 rfl (ER.size _)) rfl ⟨rfl, by first | exact hB.below | (rw [← hg]; exact hB.below)⟩
    · cases same
      · rw [if_pos (by simp)]
        go_enter Try.func112, Try.ntmps112
        go_wp2_with (first
      | (go_at_call 144; refine (refFull_calls v lv _ _ (HV.out.below hB.below) H1.out).mono ?_; rintro r w1 ⟨rfl, hb1⟩; replace hB := hB.step hb1; have hc := hB.cell 0 rfl; have hd := hB.cell 1 rfl)
      | (go_at_call 28; refine (refSameVal_calls e.v v lf lv _ (HF.out.below hB.below) (HV.out.below hB.below) _ H2.out).mono ?_; rintro r w1 ⟨rfl, hb1⟩; replace hB := hB.step hb1; have hc := hB.cell 0 rfl; have hd := hB.cell 1 rfl)
      | (refine wpl_load isD rfl hB 0 rfl (ER.size _) rfl ?_)
      | (refine wpl_load isV rfl hB 1 rfl (VR.size _) rfl ?_)
      | (refine wpl_loadF isV (V := VR.cells e.f) rfl hB 0 rfl rfl rfl rfl ?_)
      | (refine wpl_loadF isV (V := VR.cells e.v) rfl hB 0 rfl rfl rfl rfl ?_)
      | (refine wpl_store isD rfl rfl hB 2 rfl (ER.size _) (ER.size _) (ER.one _) rfl ?_; intro W2 hB; simp only [List.set] at hB))
        exact bodyPost_ret (res_two rfl rfl rfl isD hB 2 rfl (ER.size _)) rfl ⟨rfl, by first | exact hB.below | (rw [← hg]; exact hB.below)⟩
      · rw [if_neg (by simp)]
        go_enter Try.func112, Try.ntmps112
        go_wp2_with (first
      | (go_at_call 144; refine (refFull_calls v lv _ _ (HV.out.below hB.below) H1.out).mono ?_; rintro r w1 ⟨rfl, hb1⟩; replace hB := hB.step hb1; have hc := hB.cell 0 rfl; have hd := hB.cell 1 rfl)
      | (go_at_call 28; refine (refSameVal_calls e.v v lf lv _ (HF.out.below hB.below) (HV.out.below hB.below) _ H2.out).mono ?_; rintro r w1 ⟨rfl, hb1⟩; replace hB := hB.step hb1; have hc := hB.cell 0 rfl; have hd := hB.cell 1 rfl)
      | (refine wpl_storeF (C' := ER.cells { e with dn := true }) szBool rfl rfl rfl hB 0 rfl rfl (by rw [ER.size]; omega) one_bool rfl rfl ?_; intro W2 hB; simp only [List.set] at hB; have hc := hB.cell 0 rfl; have ka := ER.all { e with dn := true })
      | (refine wpl_storeF (C' := ER.cells { e with dn := true, v := v }) isV.size rfl rfl rfl hB 0 rfl rfl (by rw [ER.size]; omega) (VR.ones _) rfl rfl ?_; intro W2 hB; simp only [List.set] at hB; have hc := hB.cell 0 rfl; have ka := ER.all { e with dn := true, v := v })
      | (refine wpl_load isD rfl hB 0 rfl (ER.size _) rfl ?_)
      | (refine wpl_load isV rfl hB 1 rfl (VR.size _) rfl ?_)
      | (refine wpl_loadF isV (V := VR.cells e.f) rfl hB 0 rfl rfl rfl rfl ?_)
      | (refine wpl_loadF isV (V := VR.cells e.v) rfl hB 0 rfl rfl rfl rfl ?_)
      | (refine wpl_store isD rfl rfl hB 2 rfl (ER.size _) (ER.size _) (ER.one _) rfl ?_; intro W2 hB; simp only [List.set] at hB))
        exact bodyPost_ret (res_two rfl rfl rfl isD hB 2 rfl (ER.size _)) rfl ⟨rfl, by first | exact hB.below | (rw [← hg]; exact hB.below)⟩
end Go.Proofs.Ytebhclgnpnlekaa.Ent
