/- Values: whether they are full, nothing, the same, by the walks of package entry and of the document. No condition. -/
import Derived.Test.YtebhclgnpnlekaaAgg
import Derived.Test.YtebhclgnpnlekaaSame
namespace Go.Proofs.Ytebhclgnpnlekaa.Ent
open Go.RowKit Go.Proofs.Ytebhclgnpnlekaa.B Go.Proofs.Ytebhclgnpnlekaa.Cmd Go.Proofs.Ytebhclgnpnlekaa.Agg
open Go.Proofs.Ytebhclgnpnlekaa.Preds (okSet)
/-- A value, as it lies there. -/
structure VR where
  t : Int
  A : Option Addr
  n : Nat
  c : Nat
def VR.cells (v : VR) : Array Value := #[.int .i64 v.t, .slice v.A v.n v.c]
theorem VR.size (v : VR) : v.cells.size = 2 := rfl
theorem VR.ones (v : VR) : ∀ u ∈ v.cells.toList, u.oneCell' = true := by
  intro u hu
  simp only [VR.cells, List.mem_cons, List.not_mem_nil, or_false] at hu
  rcases hu with rfl | rfl <;> rfl
theorem VR.one (v : VR) : v.cells.all (·.oneCell') = true := Array.all_eq_true_iff_forall_mem.2 fun u hu => v.ones u (by simpa using hu)
theorem VR.all (v : VR) : v.cells[0]? = some (.int .i64 v.t) ∧ v.cells[1]? = some (.slice v.A v.n v.c) := ⟨rfl, rfl⟩
theorem isV : IsStruct Try.prog 34 2 := ⟨by kernel_rfl, by kernel_rfl⟩
/-- Its set, as it is read. -/
structure VAt (w : World) (v : VR) (l : List CmdD) : Prop where
  len : v.n = l.length
  row : Rep.Row cmdRep (fun _ => True) w v.A l
  wf : (Lit.int .i64 v.t).wf = true
theorem VAt.below {w w' : World} {v : VR} {l : List CmdD} (h : VAt w v l) (hb : Below w.heap.size w w') : VAt w' v l := ⟨h.len, h.row.below hb, h.wf⟩
def okStamp (t : Int) : Bool := decide (16 ≤ t ∧ t < 1048576 ∧ t % 16 ≤ 8)
theorem valid_calls (t : Int) (w : World) (b : Bool) (hw : (Lit.int .i64 t).wf = true) (hb : okStamp t = b) : Calls Try.prog 96 #[.int .i64 t] w fun e w' => e = .returned (.bool b) ∧ w = w' := by
  subst hb
  obtain ⟨b0, b1⟩ := bounds_i64 hw
  clear hw
  by_cases h0 : 16 ≤ t
  · by_cases h1 : t < 1048576
    · have e : okStamp t = decide (t % 16 < 9) := by unfold okStamp; rw [Bool.eq_iff_iff]; simp; omega
      rw [e]
      go_enter Try.func96, Try.ntmps96
      go_wp2
      go_ret
      exact ⟨by simp, rfl⟩
    · have e : okStamp t = false := by unfold okStamp; rw [decide_eq_false]; omega
      rw [e]
      go_enter Try.func96, Try.ntmps96
      go_wp2
      go_ret
      exact ⟨by simp <;> omega, rfl⟩
  · have e : okStamp t = false := by unfold okStamp; rw [decide_eq_false]; omega
    rw [e]
    go_enter Try.func96, Try.ntmps96
    go_wp2
    go_ret
    exact ⟨by simp <;> omega, rfl⟩
theorem refValid_calls (t : Int) (w : World) (b : Bool) (hw : (Lit.int .i64 t).wf = true) (hb : okStamp t = b) : Calls Try.prog 115 #[.int .i64 t] w fun e w' => e = .returned (.bool b) ∧ w = w' := by
  subst hb
  obtain ⟨b0, b1⟩ := bounds_i64 hw
  clear hw
  by_cases h0 : 16 ≤ t
  · by_cases h1 : t < 1048576
    · have e : okStamp t = decide (t % 16 ≤ 8) := by unfold okStamp; rw [Bool.eq_iff_iff]; simp; omega
      rw [e]
      go_enter Try.func115, Try.ntmps115
      go_wp2
      go_ret
      exact ⟨by simp, rfl⟩
    · have e : okStamp t = false := by unfold okStamp; rw [decide_eq_false]; omega
      rw [e]
      go_enter Try.func115, Try.ntmps115
      go_wp2
      go_ret
      exact ⟨by simp <;> omega, rfl⟩
  · have e : okStamp t = false := by unfold okStamp; rw [decide_eq_false]; omega
    rw [e]
    go_enter Try.func115, Try.ntmps115
    go_wp2
    go_ret
    exact ⟨by simp <;> omega, rfl⟩
theorem one_new (w : World) (C : Array Value) (T : TypeId) : Bs w (w.alloc (.cells C T)) [(w.heap.size, T, C)] := by
  have := (Bs.nil w).alloc C T
  simpa using this
theorem pair_new (w : World) (C D : Array Value) (T T' : TypeId) : Bs w ((w.alloc (.cells C T)).alloc (.cells D T')) [(w.heap.size, T, C), (w.heap.size + 1, T', D)] := by
  have := ((Bs.nil w).alloc C T).alloc D T'
  simpa using this
def okFull (v : VR) (l : List CmdD) : Bool := okStamp v.t && okSet l
def okNone (v : VR) : Bool := decide (v.t = 0 ∧ v.n = 0)
set_option maxHeartbeats 4000000 in
set_option maxRecDepth 100000 in
theorem full_calls (v : VR) (l : List CmdD) (w : World) (b : Bool) (h : VAt w v l) (hb : okFull v l = b) : Calls Try.prog 141 #[.agg v.cells] w fun e w' => e = .returned (.bool b) ∧ Below w.heap.size w w' := by
  have kv := v.all
  have H := Hold.mk h
  clear h
  obtain ⟨g, hg⟩ : ∃ g, w.heap.size = g := ⟨_, rfl⟩
  obtain ⟨W, hW⟩ : ∃ W, (w.alloc (.cells v.cells 34)) = W := ⟨_, rfl⟩
  have hB := one_new w v.cells 34
  rw [hW, hg] at hB
  have hd := hB.cell 0 rfl
  obtain ⟨b1, h1⟩ : ∃ b1, okStamp v.t = b1 := ⟨_, rfl⟩
  obtain ⟨b2, h2⟩ : ∃ b1, okSet l = b1 := ⟨_, rfl⟩
  have HE : Hold (b = (b1 && b2)) := ⟨by rw [← hb, ← h1, ← h2]; rfl⟩
  have H1 := Hold.mk h1
  have H2 := Hold.mk h2
  clear hb h1 h2
  cases b1
  · go_enter Try.func141, Try.ntmps141
    go_wp2_with (first
      | (go_at_call 96; refine (valid_calls _ _ _ H.out.wf H1.out).mono ?_; rintro r w1 ⟨rfl, rfl⟩))
    go_ret
    exact ⟨by rw [HE.out]; rfl, by first | exact hB.below | (rw [← hg]; exact hB.below)⟩
  · go_enter Try.func141, Try.ntmps141
    go_wp2_with (first
      | (go_at_call 96; refine (valid_calls _ _ _ H.out.wf H1.out).mono ?_; rintro r w1 ⟨rfl, rfl⟩)
      | (go_at_call 38; refine (Preds.right_calls v.A v.c v.n l _ _ H.out.len (H.out.row.below hB.below) b2 H2.out).mono ?_; rintro r w1 ⟨rfl, hb1⟩; replace hB := hB.step hb1.out))
    go_ret
    exact ⟨by rw [HE.out]; simp, by first | exact hB.below | (rw [← hg]; exact hB.below)⟩
set_option maxHeartbeats 4000000 in
set_option maxRecDepth 100000 in
theorem refFull_calls (v : VR) (l : List CmdD) (w : World) (b : Bool) (h : VAt w v l) (hb : okFull v l = b) : Calls Try.prog 144 #[.agg v.cells] w fun e w' => e = .returned (.bool b) ∧ Below w.heap.size w w' := by
  have kv := v.all
  have H := Hold.mk h
  clear h
  obtain ⟨g, hg⟩ : ∃ g, w.heap.size = g := ⟨_, rfl⟩
  obtain ⟨W, hW⟩ : ∃ W, (w.alloc (.cells v.cells 34)) = W := ⟨_, rfl⟩
  have hB := one_new w v.cells 34
  rw [hW, hg] at hB
  have hd := hB.cell 0 rfl
  obtain ⟨b1, h1⟩ : ∃ b1, okStamp v.t = b1 := ⟨_, rfl⟩
  obtain ⟨b2, h2⟩ : ∃ b1, okSet l = b1 := ⟨_, rfl⟩
  have HE : Hold (b = (b1 && b2)) := ⟨by rw [← hb, ← h1, ← h2]; rfl⟩
  have H1 := Hold.mk h1
  have H2 := Hold.mk h2
  clear hb h1 h2
  cases b1 <;> cases b2
  all_goals
    go_enter Try.func144, Try.ntmps144
    go_wp2_with (first
      | (go_at_call 115; refine (refValid_calls _ _ _ H.out.wf H1.out).mono ?_; rintro r w1 ⟨rfl, rfl⟩)
      | (go_at_call 48; refine (Preds.refRight_calls v.A v.c v.n l _ _ H.out.len (H.out.row.below hB.below) _ H2.out).mono ?_; rintro r w1 ⟨rfl, hb1⟩; replace hB := hB.step hb1.out))
    go_ret
    exact ⟨by rw [HE.out]; rfl, by first | exact hB.below | (rw [← hg]; exact hB.below)⟩
set_option maxHeartbeats 4000000 in
theorem none_calls (v : VR) (w : World) : Calls Try.prog 142 #[.agg v.cells] w fun e w' => e = .returned (.bool (okNone v)) ∧ Below w.heap.size w w' := by
  have kv := v.all
  obtain ⟨g, hg⟩ : ∃ g, w.heap.size = g := ⟨_, rfl⟩
  obtain ⟨W, hW⟩ : ∃ W, (w.alloc (.cells v.cells 34)) = W := ⟨_, rfl⟩
  have hB := one_new w v.cells 34
  rw [hW, hg] at hB
  have hd := hB.cell 0 rfl
  by_cases h0 : v.t = 0
  · have t0 : (v.t == 0) = true := by simp [h0]
    have HE : Hold (okNone v = ((v.n : Int) == 0)) := ⟨by unfold okNone; rw [Bool.eq_iff_iff]; simp [h0]⟩
    clear h0
    go_enter Try.func142, Try.ntmps142
    go_wp2
    go_ret
    exact ⟨by rw [HE.out]; first | rfl | simp, by first | exact hB.below | (rw [← hg]; exact hB.below)⟩
  · have t0 : (v.t == 0) = false := by simp [h0]
    have HE : Hold (okNone v = false) := ⟨by unfold okNone; simp [h0]⟩
    clear h0
    go_enter Try.func142, Try.ntmps142
    go_wp2
    go_ret
    exact ⟨by rw [HE.out]; rfl, by first | exact hB.below | (rw [← hg]; exact hB.below)⟩
set_option maxHeartbeats 4000000 in
theorem refNone_calls (v : VR) (w : World) : Calls Try.prog 145 #[.agg v.cells] w fun e w' => e = .returned (.bool (okNone v)) ∧ Below w.heap.size w w' := by
  have kv := v.all
  obtain ⟨g, hg⟩ : ∃ g, w.heap.size = g := ⟨_, rfl⟩
  obtain ⟨W, hW⟩ : ∃ W, (w.alloc (.cells v.cells 34)) = W := ⟨_, rfl⟩
  have hB := one_new w v.cells 34
  rw [hW, hg] at hB
  have hd := hB.cell 0 rfl
  by_cases h0 : v.t = 0
  · have t0 : (v.t == 0) = true := by simp [h0]
    have HE : Hold (okNone v = ((v.n : Int) == 0)) := ⟨by unfold okNone; rw [Bool.eq_iff_iff]; simp [h0]⟩
    clear h0
    go_enter Try.func145, Try.ntmps145
    go_wp2
    go_ret
    exact ⟨by rw [HE.out]; first | rfl | simp, by first | exact hB.below | (rw [← hg]; exact hB.below)⟩
  · have t0 : (v.t == 0) = false := by simp [h0]
    have HE : Hold (okNone v = false) := ⟨by unfold okNone; simp [h0]⟩
    clear h0
    go_enter Try.func145, Try.ntmps145
    go_wp2
    go_ret
    exact ⟨by rw [HE.out]; rfl, by first | exact hB.below | (rw [← hg]; exact hB.below)⟩
set_option maxHeartbeats 4000000 in
theorem equal_calls (A B : Option Addr) (c c' n n' : Nat) (xs ys : List CmdD) (I J : Nat → Prop) (w : World) (hn : n = xs.length) (hn' : n' = ys.length) (h : Rep.Row cmdRep I w A xs) (h' : Rep.Row cmdRep J w B ys) :
    Calls Try.prog 88 #[.slice A n c, .slice B n' c'] w fun e w' => e = .returned (.bool (decide (xs = ys))) ∧ ∃ k, w' = w.drewN k := by
  subst hn hn'
  have HX := Hold.mk h
  have HY := Hold.mk h'
  have hm := h.len_le
  have hm' := h'.len_le
  clear h h'
  go_enter Try.func88, Try.ntmps88
  by_cases hl : xs.length = ys.length
  · have HL := Hold.mk hl
    have t1 : ((xs.length : Int) != (ys.length : Int)) = false := by simp [hl]
    clear hl
    go_wp2
    go_loopw [13] (fun s wr => ∃ i : Nat, i ≤ xs.length ∧ s = .int .i64 (i : Int) ∧ Hold (xs.take i = ys.take i) ∧ Hold (∃ k, wr = w.drewN k)) (fun s _ => xs.length - (intOf s).toNat)
    case atStart => exact ⟨0, by omega, rfl, ⟨rfl⟩, ⟨0, rfl⟩⟩
    case round =>
      obtain ⟨i, hi, rfl, HT, HW⟩ := hrel
      by_cases hlt : i < xs.length
      · have l1 : (i : Int) < (xs.length : Int) := by omega
        have hlt' : i < ys.length := by rw [← HL.out]; exact hlt
        have l2 : (i : Int) < (ys.length : Int) := by omega
        have hx : Rep.Row cmdRep I wr A xs := by obtain ⟨k, rfl⟩ := HW.out; exact HX.out.drewN k
        have hy : Rep.Row cmdRep J wr B ys := by obtain ⟨k, rfl⟩ := HW.out; exact HY.out.drewN k
        obtain ⟨ad, p, rfl, hp, _, ⟨c0, c1, c2, c3, c4, c5, c6, hw1⟩⟩ := row_cmd hx i hlt
        obtain ⟨ad', q, rfl, hq, _, ⟨d0, d1, d2, d3, d4, d5, d6, hw2⟩⟩ := row_cmd hy i hlt'
        obtain ⟨x, hxi⟩ : ∃ x, xs[i] = x := ⟨_, rfl⟩
        obtain ⟨y, hyi⟩ : ∃ x, ys[i] = x := ⟨_, rfl⟩
        rw [hxi] at c0 c1 c2 c3 c4 c5 c6 
        rw [hyi] at d0 d1 d2 d3 d4 d5 d6
        have HXI := Hold.mk hxi
        have HYI := Hold.mk hyi
        clear hw1 hw2 hx hy hxi hyi
        have l1n : i < xs.length := hlt
        by_cases hxy : x = y
        · have HXY := Hold.mk hxy
          subst hxy
          go_wp2
          go_quiet (fail)
          go_wp2
          refine ⟨⟨i + 1, by omega, by go_num, ⟨?_⟩, ⟨?_⟩⟩, by simp [intOf]; omega⟩
          · rw [List.take_succ_eq_append_getElem hlt, List.take_succ_eq_append_getElem hlt', HT.out, HXI.out, HYI.out]
          · obtain ⟨k, rfl⟩ := HW.out
            exact ⟨_, World.drewN_drewN ..⟩
        · have HNe : Hold (xs ≠ ys) := ⟨fun e => hxy (by subst e; rw [← HXI.out, ← HYI.out])⟩
          have hf := Rd.CmdD.first hxy
          clear hxy
          rcases hf with b0 | ⟨b0, b1⟩ | ⟨b0, b1, b2⟩ | ⟨b0, b1, b2, b3⟩ | ⟨b0, b1, b2, b3, b4⟩ | ⟨b0, b1, b2, b3, b4, b5⟩ | ⟨b0, b1, b2, b3, b4, b5, b6⟩
          all_goals
            go_wp2
            go_quiet (fail)
            go_wp2
            go_ret
            refine ⟨by rw [decide_eq_false HNe.out]; rfl, ?_⟩
            obtain ⟨k, rfl⟩ := HW.out
            exact ⟨_, World.drewN_drewN ..⟩
      · obtain rfl : i = xs.length := by omega
        have HE : Hold (xs = ys) := ⟨by have := HT.out; rw [List.take_length, HL.out, List.take_length] at this; exact this⟩
        go_wp2
        go_ret
        exact ⟨by rw [decide_eq_true HE.out]; rfl, HW.out⟩
  · have t1 : ((xs.length : Int) != (ys.length : Int)) = true := by simp; omega
    have HNe : Hold (xs ≠ ys) := ⟨fun e => hl (by rw [e])⟩
    clear hl
    go_wp2
    go_ret
    exact ⟨by rw [decide_eq_false HNe.out]; rfl, 0, rfl⟩
def okSame (v u : VR) (lv lu : List CmdD) : Bool := decide (v.t = u.t ∧ lv = lu)
set_option maxHeartbeats 4000000 in
theorem sameVal_calls (v u : VR) (lv lu : List CmdD) (w : World) (h : VAt w v lv) (h' : VAt w u lu) (b : Bool) (hb : okSame v u lv lu = b) :
    Calls Try.prog 143 #[.agg v.cells, .agg u.cells] w fun e w' => e = .returned (.bool b) ∧ Below w.heap.size w w' := by
  have kv := v.all
  have ku := u.all
  have H := Hold.mk h
  have H' := Hold.mk h'
  clear h h'
  obtain ⟨g, hg⟩ : ∃ g, w.heap.size = g := ⟨_, rfl⟩
  obtain ⟨W, hW⟩ : ∃ W, (w.alloc (.cells v.cells 34)).alloc (.cells u.cells 34) = W := ⟨_, rfl⟩
  have hB := pair_new w v.cells u.cells 34 34
  rw [hW, hg] at hB
  have hc := hB.cell 0 rfl
  have hd := hB.cell 1 rfl
  by_cases h0 : v.t = u.t
  · have t0 : (v.t == u.t) = true := by simp [h0]
    have HE : Hold (decide (lv = lu) = b) := ⟨by rw [← hb]; unfold okSame; simp [h0]⟩
    clear h0 hb
    go_enter Try.func143, Try.ntmps143
    go_wp2_with (go_at_call 88; refine (equal_calls v.A u.A v.c u.c v.n u.n lv lu _ _ _ H.out.len H'.out.len (H.out.row.below hB.below) (H'.out.row.below hB.below)).mono ?_; rintro r w1 ⟨rfl, k, rfl⟩; rw [HE.out])
    go_ret
    exact ⟨by simp, by first | exact hB.below.trans ((below_drewN _ k).mono hB.below.size) | (rw [← hg]; exact hB.below.trans ((below_drewN _ k).mono hB.below.size))⟩
  · have t0 : (v.t == u.t) = false := by simp [h0]
    have HE : Hold (b = false) := ⟨by rw [← hb]; unfold okSame; simp [h0]⟩
    clear h0 hb
    go_enter Try.func143, Try.ntmps143
    go_wp2
    go_ret
    exact ⟨by rw [HE.out]; rfl, by first | exact hB.below | (rw [← hg]; exact hB.below)⟩
set_option maxHeartbeats 4000000 in
theorem refSameVal_calls (v u : VR) (lv lu : List CmdD) (w : World) (h : VAt w v lv) (h' : VAt w u lu) (b : Bool) (hb : okSame v u lv lu = b) :
    Calls Try.prog 28 #[.agg v.cells, .agg u.cells] w fun e w' => e = .returned (.bool b) ∧ Below w.heap.size w w' := by
  have kv := v.all
  have ku := u.all
  have H := Hold.mk h
  have H' := Hold.mk h'
  clear h h'
  obtain ⟨g, hg⟩ : ∃ g, w.heap.size = g := ⟨_, rfl⟩
  obtain ⟨W, hW⟩ : ∃ W, (w.alloc (.cells v.cells 34)).alloc (.cells u.cells 34) = W := ⟨_, rfl⟩
  have hB := pair_new w v.cells u.cells 34 34
  rw [hW, hg] at hB
  have hc := hB.cell 0 rfl
  have hd := hB.cell 1 rfl
  obtain ⟨d, hd'⟩ : ∃ d, decide (lv = lu) = d := ⟨_, rfl⟩
  have HD := Hold.mk hd'
  have HE : Hold (b = ((v.t == u.t) && d)) := ⟨by rw [← hb, ← hd']; unfold okSame; rw [Bool.eq_iff_iff]; simp⟩
  obtain ⟨b0, h0⟩ : ∃ b0, (v.t == u.t) = b0 := ⟨_, rfl⟩
  have H0 := Hold.mk h0
  clear hd' hb
  cases b0
  all_goals
    go_enter Try.func28, Try.ntmps28
    go_wp2_with (go_at_call 25; refine (Rd.same_calls v.A u.A v.c u.c v.n u.n lv lu _ _ _ H.out.len H'.out.len (H.out.row.below hB.below) (H'.out.row.below hB.below)).mono ?_; rintro r w1 ⟨rfl, k, rfl⟩; rw [HD.out]; have hB := hB.step (below_drewN _ k); have hc := hB.cell 0 rfl; have hd := hB.cell 1 rfl)
    go_ret
    exact ⟨by rw [HE.out, H0.out]; first | rfl | simp, by first | exact hB.below | (rw [← hg]; exact hB.below)⟩
end Go.Proofs.Ytebhclgnpnlekaa.Ent
