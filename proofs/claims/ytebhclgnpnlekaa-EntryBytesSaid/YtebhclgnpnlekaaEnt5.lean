/- Law 06's step, by its walk. -/
import Derived.Test.YtebhclgnpnlekaaEnt4
namespace Go.Proofs.Ytebhclgnpnlekaa.Ent
open Go.RowKit Go.Proofs.Ytebhclgnpnlekaa.B Go.Proofs.Ytebhclgnpnlekaa.Cmd Go.Proofs.Ytebhclgnpnlekaa.Agg
open Go.Proofs.Ytebhclgnpnlekaa.Preds (okSet)
/-- What an act does. -/
def actS (e : ER) (k b : Int) (v : VR) (full sf sv : Bool) : ER × Int :=
  if k % 6 = 0 then promS e b else if k % 6 = 1 then resS e v.t else if k % 6 = 2 then voteS e v full sf else if k % 6 = 3 then accS e b v full else if k % 6 = 4 then ({ e with fr := true }, 0) else finS e v full sv
def actArr (k b : Int) (v : VR) : Array Value := #[.int .u8 k, .int .i64 b, .int .i64 v.t, .slice v.A v.n v.c]
theorem actArr_all (k b : Int) (v : VR) : (actArr k b v)[0]? = some (.int .u8 k) ∧ (actArr k b v)[1]? = some (.int .i64 b) ∧ (actArr k b v)[2]? = some (.int .i64 v.t) ∧ (actArr k b v)[3]? = some (.slice v.A v.n v.c) := ⟨rfl, rfl, rfl, rfl⟩
theorem five_new (w : World) (C D X : Array Value) (T T' T'' : TypeId) (Y Z : Array Value) : Bs w (((((w.alloc (.cells C T)).alloc (.cells D T')).alloc (.cells X T'')).alloc (.cells Y T)).alloc (.cells Z T')) [(w.heap.size, T, C), (w.heap.size + 1, T', D), (w.heap.size + 1 + 1, T'', X), (w.heap.size + 1 + 1 + 1, T, Y), (w.heap.size + 1 + 1 + 1 + 1, T', Z)] := by
  have := (((((Bs.nil w).alloc C T).alloc D T').alloc X T'').alloc Y T).alloc Z T'
  simpa using this
set_option maxHeartbeats 8000000 in
set_option maxRecDepth 100000 in
theorem step_calls (e : ER) (lf la lw : List CmdD) (k b : Int) (v : VR) (lv : List CmdD) (full sf sv : Bool) (w : World) (hE : EAt w e lf la lw) (hv : VAt w v lv) (hk : (Lit.int .u8 k).wf = true) (h1 : okFull v lv = full) (h2 : okSame e.f v lf lv = sf) (h3 : okSame e.v v lw lv = sv) (X : ER) (er : Int) (hX : actS e k b v full sf sv = (X, er)) (lf' la' lw' : List CmdD) (hE' : EAt w X lf' la' lw') :
    Calls Try.prog 53 #[.agg e.cells, .agg e.cells, .agg #[.int .u8 k, .int .i64 b, .int .i64 v.t, .slice v.A v.n v.c]] w fun r w' => r = .returned (.tuple #[.agg X.cells, .agg X.cells, .bool true]) ∧ Below w.heap.size w w' := by
  obtain ⟨k0, k1⟩ := bounds_u8 hk
  have k6 : k % 6 = 0 ∨ k % 6 = 1 ∨ k % 6 = 2 ∨ k % 6 = 3 ∨ k % 6 = 4 ∨ k % 6 = 5 := by omega
  have HE := Hold.mk hE
  have HV := Hold.mk hv
  have H1 := Hold.mk h1
  have H2 := Hold.mk h2
  have H3 := Hold.mk h3
  have HS : Hold (∀ w', Below w.heap.size w w' → Calls Try.prog 58 #[.agg X.cells, .agg X.cells] w' fun r w2 => r = .returned (.bool true) ∧ Below w'.heap.size w' w2) := ⟨fun w' hb => by
    have hh := hE'.below hb
    exact same_true X X lf' la' lw' w' hh.f hh.f hh.a hh.a hh.v hh.v rfl rfl rfl rfl rfl rfl rfl rfl rfl rfl⟩
  clear hE hv hk h1 h2 h3 hE'
  obtain ⟨g, hg⟩ : ∃ g, w.heap.size = g := ⟨_, rfl⟩
  obtain ⟨W, hW⟩ : ∃ W, ((((w.alloc (.cells e.cells 70)).alloc (.cells e.cells 75)).alloc (.cells (actArr k b v) 74)).alloc (.cells noER.cells 70)).alloc (.cells noER.cells 75) = W := ⟨_, rfl⟩
  have hB := five_new w e.cells e.cells (actArr k b v) 70 75 74 noER.cells noER.cells
  rw [hW, hg] at hB
  have hx := hB.cell 2 rfl
  have kx := actArr_all k b v
  simp only [noER_cells, actArr] at hW
  rcases k6 with e6 | e6 | e6 | e6 | e6 | e6
  · have HR : Hold (promS e b = (X, er)) := ⟨by rw [← hX]; unfold actS; simp [e6]⟩
    clear hX
    go_enter Try.func53, Try.ntmps53
    go_wp2_with (first
      | (go_at_call 102; with_reducible refine (promise_calls e b _).mono ?_; rintro r w1 ⟨rfl, hb1⟩; rw [HR.out]; replace hB := hB.step hb1; have hx := hB.cell 2 rfl)
      | (go_at_call 105; with_reducible refine (refPromise_calls e b _).mono ?_; rintro r w1 ⟨rfl, hb1⟩; rw [HR.out]; replace hB := hB.step hb1; have hx := hB.cell 2 rfl)
      | (refine wpl_load isE rfl hB 0 rfl (ER.size _) rfl ?_)
      | (refine wpl_load isD rfl hB 1 rfl (ER.size _) rfl ?_)
      | (refine wpl_loadF isV (V := VR.cells v) rfl hB 2 rfl rfl rfl rfl ?_)
      | (refine wpl_store isE rfl rfl hB 0 rfl (ER.size _) (ER.size _) (ER.one _) rfl ?_; intro W2 hB; simp only [List.set] at hB; have hx := hB.cell 2 rfl)
      | (refine wpl_store isD rfl rfl hB 1 rfl (ER.size _) (ER.size _) (ER.one _) rfl ?_; intro W2 hB; simp only [List.set] at hB; have hx := hB.cell 2 rfl)
      | (go_at_call 58; with_reducible refine (HS.out _ hB.below).mono ?_; rintro r w1 ⟨rfl, hb1⟩; replace hB := hB.step hb1; have hx := hB.cell 2 rfl))
    replace hB := hB.drew
    have hS : Bs w _ [(g, 70, X.cells), (g + 1, 75, X.cells)] := hB.sub (fun i => i) (fun i x h => by rcases i with _ | _ | i <;> first | exact h | (simp at h)) (fun i j _ _ h => h)
    refine rg_start (S := fun w' => Bs w w' [(g, 70, X.cells), (g + 1, 75, X.cells)]) 11 #[false, false, false, false, false, false, false, false, false, false, false] (by kernel_rfl) (by kernel_rfl) (by kernel_rfl) hS ?_
    refine rg_take 0 107 (.load 70 (.tmp 3)) (.agg X.cells) #[true, false, false, false, false, false, false, false, false, false, false] (by kernel_rfl) (by rfl) (by kernel_rfl) (by kernel_rfl) (by kernel_rfl) (fun _ _ _ h => h) (yl isE (by kernel_rfl) 0 (by rfl) (ER.size _) (by kernel_rfl)) hS ?_
    simp only [List.setIfInBounds_toArray, List.set_cons_zero, List.set_cons_succ]
    refine rg_take 1 108 (.load 75 (.tmp 4)) (.agg X.cells) #[true, true, false, false, false, false, false, false, false, false, false] (by kernel_rfl) (by rfl) (by kernel_rfl) (by kernel_rfl) (by kernel_rfl) (fun _ _ _ h => h) (yl isD (by kernel_rfl) 1 (by rfl) (ER.size _) (by kernel_rfl)) hS ?_
    simp only [List.setIfInBounds_toArray, List.set_cons_zero, List.set_cons_succ]
    refine rg_take 2 109 (.move (.tmp 11)) (.bool true) #[true, true, true, false, false, false, false, false, false, false, false] (by kernel_rfl) (by rfl) (by kernel_rfl) (by kernel_rfl) (by kernel_rfl) (fun _ _ _ h => h) (.inl ⟨by kernel_rfl, fun _ _ => by kernel_rfl⟩) hS ?_
    simp only [List.setIfInBounds_toArray, List.set_cons_zero, List.set_cons_succ]
    refine rg_take 3 110 (.move (.tmp 109)) (.bool true) #[true, true, true, true, false, false, false, false, false, false, false] (by kernel_rfl) (by rfl) (by kernel_rfl) (by kernel_rfl) (by kernel_rfl) (fun _ _ _ h => h) (.inl ⟨by kernel_rfl, fun _ _ => by kernel_rfl⟩) hS ?_
    simp only [List.setIfInBounds_toArray, List.set_cons_zero, List.set_cons_succ]
    refine rg_take 4 111 (.move (.tmp 9)) (.int .i64 er) #[true, true, true, true, true, false, false, false, false, false, false] (by kernel_rfl) (by rfl) (by kernel_rfl) (by kernel_rfl) (by kernel_rfl) (fun _ _ _ h => h) (.inl ⟨by kernel_rfl, fun _ _ => by kernel_rfl⟩) hS ?_
    simp only [List.setIfInBounds_toArray, List.set_cons_zero, List.set_cons_succ]
    refine rg_take 5 112 (.move (.tmp 10)) (.int .i64 er) #[true, true, true, true, true, true, false, false, false, false, false] (by kernel_rfl) (by rfl) (by kernel_rfl) (by kernel_rfl) (by kernel_rfl) (fun _ _ _ h => h) (.inl ⟨by kernel_rfl, fun _ _ => by kernel_rfl⟩) hS ?_
    simp only [List.setIfInBounds_toArray, List.set_cons_zero, List.set_cons_succ]
    refine rg_take 6 113 (.binOp .eql 26 (.tmp 111) (.tmp 112) 26) (.bool true) #[true, true, true, true, true, true, true, false, false, false, false] (by kernel_rfl) (by rfl) (by kernel_rfl) (by kernel_rfl) (by kernel_rfl) (fun _ _ _ h => h) (.inl ⟨by kernel_rfl, fun _ _ => by go_simp⟩) hS ?_
    simp only [List.setIfInBounds_toArray, List.set_cons_zero, List.set_cons_succ]
    refine rg_take 7 114 (.pick (.tmp 110) (.tmp 113) (.const (.bool false))) (.bool true) #[true, true, true, true, true, true, true, true, false, false, false] (by kernel_rfl) (by rfl) (by kernel_rfl) (by kernel_rfl) (by kernel_rfl) (fun _ _ _ h => h) (.inl ⟨by kernel_rfl, fun _ _ => by go_simp⟩) hS ?_
    simp only [List.setIfInBounds_toArray, List.set_cons_zero, List.set_cons_succ]
    refine rg_one 8 none (.store 70 (.tmp 6) (.tmp 107)) #[true, true, true, true, true, true, true, true, true, false, false] (by kernel_rfl) (by kernel_rfl) (by rfl) (by kernel_rfl) (fun K hK => ?_)
    refine wp_store isE (b := g + 1 + 1 + 1) (C' := X.cells) (by kernel_rfl) (by kernel_rfl) hB 3 (by rfl) (ER.size _) (ER.size _) (ER.one _) (fun W3 hB => ?_)
    simp only [List.set] at hB
    simp only [Act.put, List.setIfInBounds_toArray, List.set_cons_zero, List.set_cons_succ]
    have hS : Bs w W3 [(g, 70, X.cells), (g + 1, 75, X.cells)] := hB.sub (fun i => i) (fun i x h => by rcases i with _ | _ | i <;> first | exact h | (simp at h)) (fun i j _ _ h => h)
    refine hK.out _ _ hS ?_
    clear hK K
    refine rg_one 9 none (.store 75 (.tmp 7) (.tmp 108)) #[true, true, true, true, true, true, true, true, true, true, false] (by kernel_rfl) (by kernel_rfl) (by rfl) (by kernel_rfl) (fun K hK => ?_)
    refine wp_store isD (b := g + 1 + 1 + 1 + 1) (C' := X.cells) (by kernel_rfl) (by kernel_rfl) hB 4 (by rfl) (ER.size _) (ER.size _) (ER.one _) (fun W3 hB => ?_)
    simp only [List.set] at hB
    simp only [Act.put, List.setIfInBounds_toArray, List.set_cons_zero, List.set_cons_succ]
    have hS : Bs w W3 [(g, 70, X.cells), (g + 1, 75, X.cells)] := hB.sub (fun i => i) (fun i x h => by rcases i with _ | _ | i <;> first | exact h | (simp at h)) (fun i j _ _ h => h)
    refine hK.out _ _ hS ?_
    clear hK K
    refine rg_one 10 (some 8) (.assign (.tmp 114)) #[true, true, true, true, true, true, true, true, true, true, true] (by kernel_rfl) (by kernel_rfl) (by rfl) (by kernel_rfl) (fun K hK => ?_)
    go_wp2_with fail
    refine hK.out _ _ hS ?_
    clear hK K
    refine wpAnyH_done (by kernel_rfl) ?_ _
    go_wp2_with fail
    exact bodyPost_ret (res_three rfl rfl rfl rfl isE isD hB 3 rfl (ER.size _) 4 rfl (ER.size _)) rfl ⟨rfl, by first | exact hB.below | (rw [← hg]; exact hB.below)⟩
  · have HR : Hold (resS e v.t = (X, er)) := ⟨by rw [← hX]; unfold actS; simp [e6]⟩
    clear hX
    go_enter Try.func53, Try.ntmps53
    go_wp2_with (first
      | (go_at_call 106; with_reducible refine (reserve_calls e v.t _ HV.out.wf).mono ?_; rintro r w1 ⟨rfl, hb1⟩; rw [HR.out]; replace hB := hB.step hb1; have hx := hB.cell 2 rfl)
      | (go_at_call 107; with_reducible refine (refReserve_calls e v.t _ HV.out.wf).mono ?_; rintro r w1 ⟨rfl, hb1⟩; rw [HR.out]; replace hB := hB.step hb1; have hx := hB.cell 2 rfl)
      | (refine wpl_load isE rfl hB 0 rfl (ER.size _) rfl ?_)
      | (refine wpl_load isD rfl hB 1 rfl (ER.size _) rfl ?_)
      | (refine wpl_loadF isV (V := VR.cells v) rfl hB 2 rfl rfl rfl rfl ?_)
      | (refine wpl_store isE rfl rfl hB 0 rfl (ER.size _) (ER.size _) (ER.one _) rfl ?_; intro W2 hB; simp only [List.set] at hB; have hx := hB.cell 2 rfl)
      | (refine wpl_store isD rfl rfl hB 1 rfl (ER.size _) (ER.size _) (ER.one _) rfl ?_; intro W2 hB; simp only [List.set] at hB; have hx := hB.cell 2 rfl)
      | (go_at_call 58; with_reducible refine (HS.out _ hB.below).mono ?_; rintro r w1 ⟨rfl, hb1⟩; replace hB := hB.step hb1; have hx := hB.cell 2 rfl))
    replace hB := hB.drew
    have hS : Bs w _ [(g, 70, X.cells), (g + 1, 75, X.cells)] := hB.sub (fun i => i) (fun i x h => by rcases i with _ | _ | i <;> first | exact h | (simp at h)) (fun i j _ _ h => h)
    refine rg_start (S := fun w' => Bs w w' [(g, 70, X.cells), (g + 1, 75, X.cells)]) 11 #[false, false, false, false, false, false, false, false, false, false, false] (by kernel_rfl) (by kernel_rfl) (by kernel_rfl) hS ?_
    refine rg_take 0 107 (.load 70 (.tmp 3)) (.agg X.cells) #[true, false, false, false, false, false, false, false, false, false, false] (by kernel_rfl) (by rfl) (by kernel_rfl) (by kernel_rfl) (by kernel_rfl) (fun _ _ _ h => h) (yl isE (by kernel_rfl) 0 (by rfl) (ER.size _) (by kernel_rfl)) hS ?_
    simp only [List.setIfInBounds_toArray, List.set_cons_zero, List.set_cons_succ]
    refine rg_take 1 108 (.load 75 (.tmp 4)) (.agg X.cells) #[true, true, false, false, false, false, false, false, false, false, false] (by kernel_rfl) (by rfl) (by kernel_rfl) (by kernel_rfl) (by kernel_rfl) (fun _ _ _ h => h) (yl isD (by kernel_rfl) 1 (by rfl) (ER.size _) (by kernel_rfl)) hS ?_
    simp only [List.setIfInBounds_toArray, List.set_cons_zero, List.set_cons_succ]
    refine rg_take 2 109 (.move (.tmp 11)) (.bool true) #[true, true, true, false, false, false, false, false, false, false, false] (by kernel_rfl) (by rfl) (by kernel_rfl) (by kernel_rfl) (by kernel_rfl) (fun _ _ _ h => h) (.inl ⟨by kernel_rfl, fun _ _ => by kernel_rfl⟩) hS ?_
    simp only [List.setIfInBounds_toArray, List.set_cons_zero, List.set_cons_succ]
    refine rg_take 3 110 (.move (.tmp 109)) (.bool true) #[true, true, true, true, false, false, false, false, false, false, false] (by kernel_rfl) (by rfl) (by kernel_rfl) (by kernel_rfl) (by kernel_rfl) (fun _ _ _ h => h) (.inl ⟨by kernel_rfl, fun _ _ => by kernel_rfl⟩) hS ?_
    simp only [List.setIfInBounds_toArray, List.set_cons_zero, List.set_cons_succ]
    refine rg_take 4 111 (.move (.tmp 9)) (.int .i64 er) #[true, true, true, true, true, false, false, false, false, false, false] (by kernel_rfl) (by rfl) (by kernel_rfl) (by kernel_rfl) (by kernel_rfl) (fun _ _ _ h => h) (.inl ⟨by kernel_rfl, fun _ _ => by kernel_rfl⟩) hS ?_
    simp only [List.setIfInBounds_toArray, List.set_cons_zero, List.set_cons_succ]
    refine rg_take 5 112 (.move (.tmp 10)) (.int .i64 er) #[true, true, true, true, true, true, false, false, false, false, false] (by kernel_rfl) (by rfl) (by kernel_rfl) (by kernel_rfl) (by kernel_rfl) (fun _ _ _ h => h) (.inl ⟨by kernel_rfl, fun _ _ => by kernel_rfl⟩) hS ?_
    simp only [List.setIfInBounds_toArray, List.set_cons_zero, List.set_cons_succ]
    refine rg_take 6 113 (.binOp .eql 26 (.tmp 111) (.tmp 112) 26) (.bool true) #[true, true, true, true, true, true, true, false, false, false, false] (by kernel_rfl) (by rfl) (by kernel_rfl) (by kernel_rfl) (by kernel_rfl) (fun _ _ _ h => h) (.inl ⟨by kernel_rfl, fun _ _ => by go_simp⟩) hS ?_
    simp only [List.setIfInBounds_toArray, List.set_cons_zero, List.set_cons_succ]
    refine rg_take 7 114 (.pick (.tmp 110) (.tmp 113) (.const (.bool false))) (.bool true) #[true, true, true, true, true, true, true, true, false, false, false] (by kernel_rfl) (by rfl) (by kernel_rfl) (by kernel_rfl) (by kernel_rfl) (fun _ _ _ h => h) (.inl ⟨by kernel_rfl, fun _ _ => by go_simp⟩) hS ?_
    simp only [List.setIfInBounds_toArray, List.set_cons_zero, List.set_cons_succ]
    refine rg_one 8 none (.store 70 (.tmp 6) (.tmp 107)) #[true, true, true, true, true, true, true, true, true, false, false] (by kernel_rfl) (by kernel_rfl) (by rfl) (by kernel_rfl) (fun K hK => ?_)
    refine wp_store isE (b := g + 1 + 1 + 1) (C' := X.cells) (by kernel_rfl) (by kernel_rfl) hB 3 (by rfl) (ER.size _) (ER.size _) (ER.one _) (fun W3 hB => ?_)
    simp only [List.set] at hB
    simp only [Act.put, List.setIfInBounds_toArray, List.set_cons_zero, List.set_cons_succ]
    have hS : Bs w W3 [(g, 70, X.cells), (g + 1, 75, X.cells)] := hB.sub (fun i => i) (fun i x h => by rcases i with _ | _ | i <;> first | exact h | (simp at h)) (fun i j _ _ h => h)
    refine hK.out _ _ hS ?_
    clear hK K
    refine rg_one 9 none (.store 75 (.tmp 7) (.tmp 108)) #[true, true, true, true, true, true, true, true, true, true, false] (by kernel_rfl) (by kernel_rfl) (by rfl) (by kernel_rfl) (fun K hK => ?_)
    refine wp_store isD (b := g + 1 + 1 + 1 + 1) (C' := X.cells) (by kernel_rfl) (by kernel_rfl) hB 4 (by rfl) (ER.size _) (ER.size _) (ER.one _) (fun W3 hB => ?_)
    simp only [List.set] at hB
    simp only [Act.put, List.setIfInBounds_toArray, List.set_cons_zero, List.set_cons_succ]
    have hS : Bs w W3 [(g, 70, X.cells), (g + 1, 75, X.cells)] := hB.sub (fun i => i) (fun i x h => by rcases i with _ | _ | i <;> first | exact h | (simp at h)) (fun i j _ _ h => h)
    refine hK.out _ _ hS ?_
    clear hK K
    refine rg_one 10 (some 8) (.assign (.tmp 114)) #[true, true, true, true, true, true, true, true, true, true, true] (by kernel_rfl) (by kernel_rfl) (by rfl) (by kernel_rfl) (fun K hK => ?_)
    go_wp2_with fail
    refine hK.out _ _ hS ?_
    clear hK K
    refine wpAnyH_done (by kernel_rfl) ?_ _
    go_wp2_with fail
    exact bodyPost_ret (res_three rfl rfl rfl rfl isE isD hB 3 rfl (ER.size _) 4 rfl (ER.size _)) rfl ⟨rfl, by first | exact hB.below | (rw [← hg]; exact hB.below)⟩
  · have HR : Hold (voteS e v full sf = (X, er)) := ⟨by rw [← hX]; unfold actS; simp [e6]⟩
    clear hX
    go_enter Try.func53, Try.ntmps53
    go_wp2_with (first
      | (go_at_call 100; with_reducible refine (vote_calls e v lf lv full sf _ (HE.out.f.below hB.below) (HV.out.below hB.below) H1.out H2.out).mono ?_; rintro r w1 ⟨rfl, hb1⟩; rw [HR.out]; replace hB := hB.step hb1; have hx := hB.cell 2 rfl)
      | (go_at_call 108; with_reducible refine (refVote_calls e v lf lv full sf _ (HE.out.f.below hB.below) (HV.out.below hB.below) H1.out H2.out).mono ?_; rintro r w1 ⟨rfl, hb1⟩; rw [HR.out]; replace hB := hB.step hb1; have hx := hB.cell 2 rfl)
      | (refine wpl_load isE rfl hB 0 rfl (ER.size _) rfl ?_)
      | (refine wpl_load isD rfl hB 1 rfl (ER.size _) rfl ?_)
      | (refine wpl_loadF isV (V := VR.cells v) rfl hB 2 rfl rfl rfl rfl ?_)
      | (refine wpl_store isE rfl rfl hB 0 rfl (ER.size _) (ER.size _) (ER.one _) rfl ?_; intro W2 hB; simp only [List.set] at hB; have hx := hB.cell 2 rfl)
      | (refine wpl_store isD rfl rfl hB 1 rfl (ER.size _) (ER.size _) (ER.one _) rfl ?_; intro W2 hB; simp only [List.set] at hB; have hx := hB.cell 2 rfl)
      | (go_at_call 58; with_reducible refine (HS.out _ hB.below).mono ?_; rintro r w1 ⟨rfl, hb1⟩; replace hB := hB.step hb1; have hx := hB.cell 2 rfl))
    replace hB := hB.drew
    have hS : Bs w _ [(g, 70, X.cells), (g + 1, 75, X.cells)] := hB.sub (fun i => i) (fun i x h => by rcases i with _ | _ | i <;> first | exact h | (simp at h)) (fun i j _ _ h => h)
    refine rg_start (S := fun w' => Bs w w' [(g, 70, X.cells), (g + 1, 75, X.cells)]) 11 #[false, false, false, false, false, false, false, false, false, false, false] (by kernel_rfl) (by kernel_rfl) (by kernel_rfl) hS ?_
    refine rg_take 0 107 (.load 70 (.tmp 3)) (.agg X.cells) #[true, false, false, false, false, false, false, false, false, false, false] (by kernel_rfl) (by rfl) (by kernel_rfl) (by kernel_rfl) (by kernel_rfl) (fun _ _ _ h => h) (yl isE (by kernel_rfl) 0 (by rfl) (ER.size _) (by kernel_rfl)) hS ?_
    simp only [List.setIfInBounds_toArray, List.set_cons_zero, List.set_cons_succ]
    refine rg_take 1 108 (.load 75 (.tmp 4)) (.agg X.cells) #[true, true, false, false, false, false, false, false, false, false, false] (by kernel_rfl) (by rfl) (by kernel_rfl) (by kernel_rfl) (by kernel_rfl) (fun _ _ _ h => h) (yl isD (by kernel_rfl) 1 (by rfl) (ER.size _) (by kernel_rfl)) hS ?_
    simp only [List.setIfInBounds_toArray, List.set_cons_zero, List.set_cons_succ]
    refine rg_take 2 109 (.move (.tmp 11)) (.bool true) #[true, true, true, false, false, false, false, false, false, false, false] (by kernel_rfl) (by rfl) (by kernel_rfl) (by kernel_rfl) (by kernel_rfl) (fun _ _ _ h => h) (.inl ⟨by kernel_rfl, fun _ _ => by kernel_rfl⟩) hS ?_
    simp only [List.setIfInBounds_toArray, List.set_cons_zero, List.set_cons_succ]
    refine rg_take 3 110 (.move (.tmp 109)) (.bool true) #[true, true, true, true, false, false, false, false, false, false, false] (by kernel_rfl) (by rfl) (by kernel_rfl) (by kernel_rfl) (by kernel_rfl) (fun _ _ _ h => h) (.inl ⟨by kernel_rfl, fun _ _ => by kernel_rfl⟩) hS ?_
    simp only [List.setIfInBounds_toArray, List.set_cons_zero, List.set_cons_succ]
    refine rg_take 4 111 (.move (.tmp 9)) (.int .i64 er) #[true, true, true, true, true, false, false, false, false, false, false] (by kernel_rfl) (by rfl) (by kernel_rfl) (by kernel_rfl) (by kernel_rfl) (fun _ _ _ h => h) (.inl ⟨by kernel_rfl, fun _ _ => by kernel_rfl⟩) hS ?_
    simp only [List.setIfInBounds_toArray, List.set_cons_zero, List.set_cons_succ]
    refine rg_take 5 112 (.move (.tmp 10)) (.int .i64 er) #[true, true, true, true, true, true, false, false, false, false, false] (by kernel_rfl) (by rfl) (by kernel_rfl) (by kernel_rfl) (by kernel_rfl) (fun _ _ _ h => h) (.inl ⟨by kernel_rfl, fun _ _ => by kernel_rfl⟩) hS ?_
    simp only [List.setIfInBounds_toArray, List.set_cons_zero, List.set_cons_succ]
    refine rg_take 6 113 (.binOp .eql 26 (.tmp 111) (.tmp 112) 26) (.bool true) #[true, true, true, true, true, true, true, false, false, false, false] (by kernel_rfl) (by rfl) (by kernel_rfl) (by kernel_rfl) (by kernel_rfl) (fun _ _ _ h => h) (.inl ⟨by kernel_rfl, fun _ _ => by go_simp⟩) hS ?_
    simp only [List.setIfInBounds_toArray, List.set_cons_zero, List.set_cons_succ]
    refine rg_take 7 114 (.pick (.tmp 110) (.tmp 113) (.const (.bool false))) (.bool true) #[true, true, true, true, true, true, true, true, false, false, false] (by kernel_rfl) (by rfl) (by kernel_rfl) (by kernel_rfl) (by kernel_rfl) (fun _ _ _ h => h) (.inl ⟨by kernel_rfl, fun _ _ => by go_simp⟩) hS ?_
    simp only [List.setIfInBounds_toArray, List.set_cons_zero, List.set_cons_succ]
    refine rg_one 8 none (.store 70 (.tmp 6) (.tmp 107)) #[true, true, true, true, true, true, true, true, true, false, false] (by kernel_rfl) (by kernel_rfl) (by rfl) (by kernel_rfl) (fun K hK => ?_)
    refine wp_store isE (b := g + 1 + 1 + 1) (C' := X.cells) (by kernel_rfl) (by kernel_rfl) hB 3 (by rfl) (ER.size _) (ER.size _) (ER.one _) (fun W3 hB => ?_)
    simp only [List.set] at hB
    simp only [Act.put, List.setIfInBounds_toArray, List.set_cons_zero, List.set_cons_succ]
    have hS : Bs w W3 [(g, 70, X.cells), (g + 1, 75, X.cells)] := hB.sub (fun i => i) (fun i x h => by rcases i with _ | _ | i <;> first | exact h | (simp at h)) (fun i j _ _ h => h)
    refine hK.out _ _ hS ?_
    clear hK K
    refine rg_one 9 none (.store 75 (.tmp 7) (.tmp 108)) #[true, true, true, true, true, true, true, true, true, true, false] (by kernel_rfl) (by kernel_rfl) (by rfl) (by kernel_rfl) (fun K hK => ?_)
    refine wp_store isD (b := g + 1 + 1 + 1 + 1) (C' := X.cells) (by kernel_rfl) (by kernel_rfl) hB 4 (by rfl) (ER.size _) (ER.size _) (ER.one _) (fun W3 hB => ?_)
    simp only [List.set] at hB
    simp only [Act.put, List.setIfInBounds_toArray, List.set_cons_zero, List.set_cons_succ]
    have hS : Bs w W3 [(g, 70, X.cells), (g + 1, 75, X.cells)] := hB.sub (fun i => i) (fun i x h => by rcases i with _ | _ | i <;> first | exact h | (simp at h)) (fun i j _ _ h => h)
    refine hK.out _ _ hS ?_
    clear hK K
    refine rg_one 10 (some 8) (.assign (.tmp 114)) #[true, true, true, true, true, true, true, true, true, true, true] (by kernel_rfl) (by kernel_rfl) (by rfl) (by kernel_rfl) (fun K hK => ?_)
    go_wp2_with fail
    refine hK.out _ _ hS ?_
    clear hK K
    refine wpAnyH_done (by kernel_rfl) ?_ _
    go_wp2_with fail
    exact bodyPost_ret (res_three rfl rfl rfl rfl isE isD hB 3 rfl (ER.size _) 4 rfl (ER.size _)) rfl ⟨rfl, by first | exact hB.below | (rw [← hg]; exact hB.below)⟩
  · have HR : Hold (accS e b v full = (X, er)) := ⟨by rw [← hX]; unfold actS; simp [e6]⟩
    clear hX
    go_enter Try.func53, Try.ntmps53
    go_wp2_with (first
      | (go_at_call 101; with_reducible refine (accept_calls e b v lv full _ (HV.out.below hB.below) H1.out).mono ?_; rintro r w1 ⟨rfl, hb1⟩; rw [HR.out]; replace hB := hB.step hb1; have hx := hB.cell 2 rfl)
      | (go_at_call 109; with_reducible refine (refAccept_calls e b v lv full _ (HV.out.below hB.below) H1.out).mono ?_; rintro r w1 ⟨rfl, hb1⟩; rw [HR.out]; replace hB := hB.step hb1; have hx := hB.cell 2 rfl)
      | (refine wpl_load isE rfl hB 0 rfl (ER.size _) rfl ?_)
      | (refine wpl_load isD rfl hB 1 rfl (ER.size _) rfl ?_)
      | (refine wpl_loadF isV (V := VR.cells v) rfl hB 2 rfl rfl rfl rfl ?_)
      | (refine wpl_store isE rfl rfl hB 0 rfl (ER.size _) (ER.size _) (ER.one _) rfl ?_; intro W2 hB; simp only [List.set] at hB; have hx := hB.cell 2 rfl)
      | (refine wpl_store isD rfl rfl hB 1 rfl (ER.size _) (ER.size _) (ER.one _) rfl ?_; intro W2 hB; simp only [List.set] at hB; have hx := hB.cell 2 rfl)
      | (go_at_call 58; with_reducible refine (HS.out _ hB.below).mono ?_; rintro r w1 ⟨rfl, hb1⟩; replace hB := hB.step hb1; have hx := hB.cell 2 rfl))
    replace hB := hB.drew
    have hS : Bs w _ [(g, 70, X.cells), (g + 1, 75, X.cells)] := hB.sub (fun i => i) (fun i x h => by rcases i with _ | _ | i <;> first | exact h | (simp at h)) (fun i j _ _ h => h)
    refine rg_start (S := fun w' => Bs w w' [(g, 70, X.cells), (g + 1, 75, X.cells)]) 11 #[false, false, false, false, false, false, false, false, false, false, false] (by kernel_rfl) (by kernel_rfl) (by kernel_rfl) hS ?_
    refine rg_take 0 107 (.load 70 (.tmp 3)) (.agg X.cells) #[true, false, false, false, false, false, false, false, false, false, false] (by kernel_rfl) (by rfl) (by kernel_rfl) (by kernel_rfl) (by kernel_rfl) (fun _ _ _ h => h) (yl isE (by kernel_rfl) 0 (by rfl) (ER.size _) (by kernel_rfl)) hS ?_
    simp only [List.setIfInBounds_toArray, List.set_cons_zero, List.set_cons_succ]
    refine rg_take 1 108 (.load 75 (.tmp 4)) (.agg X.cells) #[true, true, false, false, false, false, false, false, false, false, false] (by kernel_rfl) (by rfl) (by kernel_rfl) (by kernel_rfl) (by kernel_rfl) (fun _ _ _ h => h) (yl isD (by kernel_rfl) 1 (by rfl) (ER.size _) (by kernel_rfl)) hS ?_
    simp only [List.setIfInBounds_toArray, List.set_cons_zero, List.set_cons_succ]
    refine rg_take 2 109 (.move (.tmp 11)) (.bool true) #[true, true, true, false, false, false, false, false, false, false, false] (by kernel_rfl) (by rfl) (by kernel_rfl) (by kernel_rfl) (by kernel_rfl) (fun _ _ _ h => h) (.inl ⟨by kernel_rfl, fun _ _ => by kernel_rfl⟩) hS ?_
    simp only [List.setIfInBounds_toArray, List.set_cons_zero, List.set_cons_succ]
    refine rg_take 3 110 (.move (.tmp 109)) (.bool true) #[true, true, true, true, false, false, false, false, false, false, false] (by kernel_rfl) (by rfl) (by kernel_rfl) (by kernel_rfl) (by kernel_rfl) (fun _ _ _ h => h) (.inl ⟨by kernel_rfl, fun _ _ => by kernel_rfl⟩) hS ?_
    simp only [List.setIfInBounds_toArray, List.set_cons_zero, List.set_cons_succ]
    refine rg_take 4 111 (.move (.tmp 9)) (.int .i64 er) #[true, true, true, true, true, false, false, false, false, false, false] (by kernel_rfl) (by rfl) (by kernel_rfl) (by kernel_rfl) (by kernel_rfl) (fun _ _ _ h => h) (.inl ⟨by kernel_rfl, fun _ _ => by kernel_rfl⟩) hS ?_
    simp only [List.setIfInBounds_toArray, List.set_cons_zero, List.set_cons_succ]
    refine rg_take 5 112 (.move (.tmp 10)) (.int .i64 er) #[true, true, true, true, true, true, false, false, false, false, false] (by kernel_rfl) (by rfl) (by kernel_rfl) (by kernel_rfl) (by kernel_rfl) (fun _ _ _ h => h) (.inl ⟨by kernel_rfl, fun _ _ => by kernel_rfl⟩) hS ?_
    simp only [List.setIfInBounds_toArray, List.set_cons_zero, List.set_cons_succ]
    refine rg_take 6 113 (.binOp .eql 26 (.tmp 111) (.tmp 112) 26) (.bool true) #[true, true, true, true, true, true, true, false, false, false, false] (by kernel_rfl) (by rfl) (by kernel_rfl) (by kernel_rfl) (by kernel_rfl) (fun _ _ _ h => h) (.inl ⟨by kernel_rfl, fun _ _ => by go_simp⟩) hS ?_
    simp only [List.setIfInBounds_toArray, List.set_cons_zero, List.set_cons_succ]
    refine rg_take 7 114 (.pick (.tmp 110) (.tmp 113) (.const (.bool false))) (.bool true) #[true, true, true, true, true, true, true, true, false, false, false] (by kernel_rfl) (by rfl) (by kernel_rfl) (by kernel_rfl) (by kernel_rfl) (fun _ _ _ h => h) (.inl ⟨by kernel_rfl, fun _ _ => by go_simp⟩) hS ?_
    simp only [List.setIfInBounds_toArray, List.set_cons_zero, List.set_cons_succ]
    refine rg_one 8 none (.store 70 (.tmp 6) (.tmp 107)) #[true, true, true, true, true, true, true, true, true, false, false] (by kernel_rfl) (by kernel_rfl) (by rfl) (by kernel_rfl) (fun K hK => ?_)
    refine wp_store isE (b := g + 1 + 1 + 1) (C' := X.cells) (by kernel_rfl) (by kernel_rfl) hB 3 (by rfl) (ER.size _) (ER.size _) (ER.one _) (fun W3 hB => ?_)
    simp only [List.set] at hB
    simp only [Act.put, List.setIfInBounds_toArray, List.set_cons_zero, List.set_cons_succ]
    have hS : Bs w W3 [(g, 70, X.cells), (g + 1, 75, X.cells)] := hB.sub (fun i => i) (fun i x h => by rcases i with _ | _ | i <;> first | exact h | (simp at h)) (fun i j _ _ h => h)
    refine hK.out _ _ hS ?_
    clear hK K
    refine rg_one 9 none (.store 75 (.tmp 7) (.tmp 108)) #[true, true, true, true, true, true, true, true, true, true, false] (by kernel_rfl) (by kernel_rfl) (by rfl) (by kernel_rfl) (fun K hK => ?_)
    refine wp_store isD (b := g + 1 + 1 + 1 + 1) (C' := X.cells) (by kernel_rfl) (by kernel_rfl) hB 4 (by rfl) (ER.size _) (ER.size _) (ER.one _) (fun W3 hB => ?_)
    simp only [List.set] at hB
    simp only [Act.put, List.setIfInBounds_toArray, List.set_cons_zero, List.set_cons_succ]
    have hS : Bs w W3 [(g, 70, X.cells), (g + 1, 75, X.cells)] := hB.sub (fun i => i) (fun i x h => by rcases i with _ | _ | i <;> first | exact h | (simp at h)) (fun i j _ _ h => h)
    refine hK.out _ _ hS ?_
    clear hK K
    refine rg_one 10 (some 8) (.assign (.tmp 114)) #[true, true, true, true, true, true, true, true, true, true, true] (by kernel_rfl) (by kernel_rfl) (by rfl) (by kernel_rfl) (fun K hK => ?_)
    go_wp2_with fail
    refine hK.out _ _ hS ?_
    clear hK K
    refine wpAnyH_done (by kernel_rfl) ?_ _
    go_wp2_with fail
    exact bodyPost_ret (res_three rfl rfl rfl rfl isE isD hB 3 rfl (ER.size _) 4 rfl (ER.size _)) rfl ⟨rfl, by first | exact hB.below | (rw [← hg]; exact hB.below)⟩
  · have HR : Hold (({ e with fr := true }, 0) = (X, er)) := ⟨by rw [← hX]; unfold actS; simp [e6]⟩
    obtain ⟨rfl, rfl⟩ : { e with fr := true } = X ∧ 0 = er := by have := HR.out; rw [Prod.mk.injEq] at this; exact this
    clear hX
    go_enter Try.func53, Try.ntmps53
    go_wp2_with (first
      | (go_at_call 110; with_reducible refine (free_calls e _).mono ?_; rintro r w1 ⟨rfl, hb1⟩; replace hB := hB.step hb1; have hx := hB.cell 2 rfl)
      | (refine wpl_storeF (C' := ER.cells { e with fr := true }) szBool rfl rfl rfl hB 1 rfl rfl (by rw [ER.size]; omega) one_bool rfl rfl ?_; intro W2 hB; simp only [List.set] at hB; have hx := hB.cell 2 rfl)
      | (refine wpl_load isE rfl hB 0 rfl (ER.size _) rfl ?_)
      | (refine wpl_load isD rfl hB 1 rfl (ER.size _) rfl ?_)
      | (refine wpl_loadF isV (V := VR.cells v) rfl hB 2 rfl rfl rfl rfl ?_)
      | (refine wpl_store isE rfl rfl hB 0 rfl (ER.size _) (ER.size _) (ER.one _) rfl ?_; intro W2 hB; simp only [List.set] at hB; have hx := hB.cell 2 rfl)
      | (refine wpl_store isD rfl rfl hB 1 rfl (ER.size _) (ER.size _) (ER.one _) rfl ?_; intro W2 hB; simp only [List.set] at hB; have hx := hB.cell 2 rfl)
      | (go_at_call 58; with_reducible refine (HS.out _ hB.below).mono ?_; rintro r w1 ⟨rfl, hb1⟩; replace hB := hB.step hb1; have hx := hB.cell 2 rfl))
    replace hB := hB.drew
    have hS : Bs w _ [(g, 70, (ER.cells { e with fr := true })), (g + 1, 75, (ER.cells { e with fr := true }))] := hB.sub (fun i => i) (fun i x h => by rcases i with _ | _ | i <;> first | exact h | (simp at h)) (fun i j _ _ h => h)
    refine rg_start (S := fun w' => Bs w w' [(g, 70, (ER.cells { e with fr := true })), (g + 1, 75, (ER.cells { e with fr := true }))]) 11 #[false, false, false, false, false, false, false, false, false, false, false] (by kernel_rfl) (by kernel_rfl) (by kernel_rfl) hS ?_
    refine rg_take 0 107 (.load 70 (.tmp 3)) (.agg (ER.cells { e with fr := true })) #[true, false, false, false, false, false, false, false, false, false, false] (by kernel_rfl) (by rfl) (by kernel_rfl) (by kernel_rfl) (by kernel_rfl) (fun _ _ _ h => h) (yl isE (by kernel_rfl) 0 (by rfl) (ER.size _) (by kernel_rfl)) hS ?_
    simp only [List.setIfInBounds_toArray, List.set_cons_zero, List.set_cons_succ]
    refine rg_take 1 108 (.load 75 (.tmp 4)) (.agg (ER.cells { e with fr := true })) #[true, true, false, false, false, false, false, false, false, false, false] (by kernel_rfl) (by rfl) (by kernel_rfl) (by kernel_rfl) (by kernel_rfl) (fun _ _ _ h => h) (yl isD (by kernel_rfl) 1 (by rfl) (ER.size _) (by kernel_rfl)) hS ?_
    simp only [List.setIfInBounds_toArray, List.set_cons_zero, List.set_cons_succ]
    refine rg_take 2 109 (.move (.tmp 11)) (.bool true) #[true, true, true, false, false, false, false, false, false, false, false] (by kernel_rfl) (by rfl) (by kernel_rfl) (by kernel_rfl) (by kernel_rfl) (fun _ _ _ h => h) (.inl ⟨by kernel_rfl, fun _ _ => by kernel_rfl⟩) hS ?_
    simp only [List.setIfInBounds_toArray, List.set_cons_zero, List.set_cons_succ]
    refine rg_take 3 110 (.move (.tmp 109)) (.bool true) #[true, true, true, true, false, false, false, false, false, false, false] (by kernel_rfl) (by rfl) (by kernel_rfl) (by kernel_rfl) (by kernel_rfl) (fun _ _ _ h => h) (.inl ⟨by kernel_rfl, fun _ _ => by kernel_rfl⟩) hS ?_
    simp only [List.setIfInBounds_toArray, List.set_cons_zero, List.set_cons_succ]
    refine rg_take 4 111 (.move (.tmp 9)) (.int .i64 0) #[true, true, true, true, true, false, false, false, false, false, false] (by kernel_rfl) (by rfl) (by kernel_rfl) (by kernel_rfl) (by kernel_rfl) (fun _ _ _ h => h) (.inl ⟨by kernel_rfl, fun _ _ => by kernel_rfl⟩) hS ?_
    simp only [List.setIfInBounds_toArray, List.set_cons_zero, List.set_cons_succ]
    refine rg_take 5 112 (.move (.tmp 10)) (.int .i64 0) #[true, true, true, true, true, true, false, false, false, false, false] (by kernel_rfl) (by rfl) (by kernel_rfl) (by kernel_rfl) (by kernel_rfl) (fun _ _ _ h => h) (.inl ⟨by kernel_rfl, fun _ _ => by kernel_rfl⟩) hS ?_
    simp only [List.setIfInBounds_toArray, List.set_cons_zero, List.set_cons_succ]
    refine rg_take 6 113 (.binOp .eql 26 (.tmp 111) (.tmp 112) 26) (.bool true) #[true, true, true, true, true, true, true, false, false, false, false] (by kernel_rfl) (by rfl) (by kernel_rfl) (by kernel_rfl) (by kernel_rfl) (fun _ _ _ h => h) (.inl ⟨by kernel_rfl, fun _ _ => by go_simp⟩) hS ?_
    simp only [List.setIfInBounds_toArray, List.set_cons_zero, List.set_cons_succ]
    refine rg_take 7 114 (.pick (.tmp 110) (.tmp 113) (.const (.bool false))) (.bool true) #[true, true, true, true, true, true, true, true, false, false, false] (by kernel_rfl) (by rfl) (by kernel_rfl) (by kernel_rfl) (by kernel_rfl) (fun _ _ _ h => h) (.inl ⟨by kernel_rfl, fun _ _ => by go_simp⟩) hS ?_
    simp only [List.setIfInBounds_toArray, List.set_cons_zero, List.set_cons_succ]
    refine rg_one 8 none (.store 70 (.tmp 6) (.tmp 107)) #[true, true, true, true, true, true, true, true, true, false, false] (by kernel_rfl) (by kernel_rfl) (by rfl) (by kernel_rfl) (fun K hK => ?_)
    refine wp_store isE (b := g + 1 + 1 + 1) (C' := (ER.cells { e with fr := true })) (by kernel_rfl) (by kernel_rfl) hB 3 (by rfl) (ER.size _) (ER.size _) (ER.one _) (fun W3 hB => ?_)
    simp only [List.set] at hB
    simp only [Act.put, List.setIfInBounds_toArray, List.set_cons_zero, List.set_cons_succ]
    have hS : Bs w W3 [(g, 70, (ER.cells { e with fr := true })), (g + 1, 75, (ER.cells { e with fr := true }))] := hB.sub (fun i => i) (fun i x h => by rcases i with _ | _ | i <;> first | exact h | (simp at h)) (fun i j _ _ h => h)
    refine hK.out _ _ hS ?_
    clear hK K
    refine rg_one 9 none (.store 75 (.tmp 7) (.tmp 108)) #[true, true, true, true, true, true, true, true, true, true, false] (by kernel_rfl) (by kernel_rfl) (by rfl) (by kernel_rfl) (fun K hK => ?_)
    refine wp_store isD (b := g + 1 + 1 + 1 + 1) (C' := (ER.cells { e with fr := true })) (by kernel_rfl) (by kernel_rfl) hB 4 (by rfl) (ER.size _) (ER.size _) (ER.one _) (fun W3 hB => ?_)
    simp only [List.set] at hB
    simp only [Act.put, List.setIfInBounds_toArray, List.set_cons_zero, List.set_cons_succ]
    have hS : Bs w W3 [(g, 70, (ER.cells { e with fr := true })), (g + 1, 75, (ER.cells { e with fr := true }))] := hB.sub (fun i => i) (fun i x h => by rcases i with _ | _ | i <;> first | exact h | (simp at h)) (fun i j _ _ h => h)
    refine hK.out _ _ hS ?_
    clear hK K
    refine rg_one 10 (some 8) (.assign (.tmp 114)) #[true, true, true, true, true, true, true, true, true, true, true] (by kernel_rfl) (by kernel_rfl) (by rfl) (by kernel_rfl) (fun K hK => ?_)
    go_wp2_with fail
    refine hK.out _ _ hS ?_
    clear hK K
    refine wpAnyH_done (by kernel_rfl) ?_ _
    go_wp2_with fail
    exact bodyPost_ret (res_three rfl rfl rfl rfl isE isD hB 3 rfl (ER.size _) 4 rfl (ER.size _)) rfl ⟨rfl, by first | exact hB.below | (rw [← hg]; exact hB.below)⟩
  · have HR : Hold (finS e v full sv = (X, er)) := ⟨by rw [← hX]; unfold actS; simp [e6]⟩
    clear hX
    go_enter Try.func53, Try.ntmps53
    go_wp2_with (first
      | (go_at_call 111; with_reducible refine (finish_calls e v lw lv full sv _ (HE.out.v.below hB.below) (HV.out.below hB.below) H1.out H3.out).mono ?_; rintro r w1 ⟨rfl, hb1⟩; rw [HR.out]; replace hB := hB.step hb1; have hx := hB.cell 2 rfl)
      | (go_at_call 112; with_reducible refine (refFinish_calls e v lw lv full sv _ (HE.out.v.below hB.below) (HV.out.below hB.below) H1.out H3.out).mono ?_; rintro r w1 ⟨rfl, hb1⟩; rw [HR.out]; replace hB := hB.step hb1; have hx := hB.cell 2 rfl)
      | (refine wpl_load isE rfl hB 0 rfl (ER.size _) rfl ?_)
      | (refine wpl_load isD rfl hB 1 rfl (ER.size _) rfl ?_)
      | (refine wpl_loadF isV (V := VR.cells v) rfl hB 2 rfl rfl rfl rfl ?_)
      | (refine wpl_store isE rfl rfl hB 0 rfl (ER.size _) (ER.size _) (ER.one _) rfl ?_; intro W2 hB; simp only [List.set] at hB; have hx := hB.cell 2 rfl)
      | (refine wpl_store isD rfl rfl hB 1 rfl (ER.size _) (ER.size _) (ER.one _) rfl ?_; intro W2 hB; simp only [List.set] at hB; have hx := hB.cell 2 rfl)
      | (go_at_call 58; with_reducible refine (HS.out _ hB.below).mono ?_; rintro r w1 ⟨rfl, hb1⟩; replace hB := hB.step hb1; have hx := hB.cell 2 rfl))
    replace hB := hB.drew
    have hS : Bs w _ [(g, 70, X.cells), (g + 1, 75, X.cells)] := hB.sub (fun i => i) (fun i x h => by rcases i with _ | _ | i <;> first | exact h | (simp at h)) (fun i j _ _ h => h)
    refine rg_start (S := fun w' => Bs w w' [(g, 70, X.cells), (g + 1, 75, X.cells)]) 11 #[false, false, false, false, false, false, false, false, false, false, false] (by kernel_rfl) (by kernel_rfl) (by kernel_rfl) hS ?_
    refine rg_take 0 107 (.load 70 (.tmp 3)) (.agg X.cells) #[true, false, false, false, false, false, false, false, false, false, false] (by kernel_rfl) (by rfl) (by kernel_rfl) (by kernel_rfl) (by kernel_rfl) (fun _ _ _ h => h) (yl isE (by kernel_rfl) 0 (by rfl) (ER.size _) (by kernel_rfl)) hS ?_
    simp only [List.setIfInBounds_toArray, List.set_cons_zero, List.set_cons_succ]
    refine rg_take 1 108 (.load 75 (.tmp 4)) (.agg X.cells) #[true, true, false, false, false, false, false, false, false, false, false] (by kernel_rfl) (by rfl) (by kernel_rfl) (by kernel_rfl) (by kernel_rfl) (fun _ _ _ h => h) (yl isD (by kernel_rfl) 1 (by rfl) (ER.size _) (by kernel_rfl)) hS ?_
    simp only [List.setIfInBounds_toArray, List.set_cons_zero, List.set_cons_succ]
    refine rg_take 2 109 (.move (.tmp 11)) (.bool true) #[true, true, true, false, false, false, false, false, false, false, false] (by kernel_rfl) (by rfl) (by kernel_rfl) (by kernel_rfl) (by kernel_rfl) (fun _ _ _ h => h) (.inl ⟨by kernel_rfl, fun _ _ => by kernel_rfl⟩) hS ?_
    simp only [List.setIfInBounds_toArray, List.set_cons_zero, List.set_cons_succ]
    refine rg_take 3 110 (.move (.tmp 109)) (.bool true) #[true, true, true, true, false, false, false, false, false, false, false] (by kernel_rfl) (by rfl) (by kernel_rfl) (by kernel_rfl) (by kernel_rfl) (fun _ _ _ h => h) (.inl ⟨by kernel_rfl, fun _ _ => by kernel_rfl⟩) hS ?_
    simp only [List.setIfInBounds_toArray, List.set_cons_zero, List.set_cons_succ]
    refine rg_take 4 111 (.move (.tmp 9)) (.int .i64 er) #[true, true, true, true, true, false, false, false, false, false, false] (by kernel_rfl) (by rfl) (by kernel_rfl) (by kernel_rfl) (by kernel_rfl) (fun _ _ _ h => h) (.inl ⟨by kernel_rfl, fun _ _ => by kernel_rfl⟩) hS ?_
    simp only [List.setIfInBounds_toArray, List.set_cons_zero, List.set_cons_succ]
    refine rg_take 5 112 (.move (.tmp 10)) (.int .i64 er) #[true, true, true, true, true, true, false, false, false, false, false] (by kernel_rfl) (by rfl) (by kernel_rfl) (by kernel_rfl) (by kernel_rfl) (fun _ _ _ h => h) (.inl ⟨by kernel_rfl, fun _ _ => by kernel_rfl⟩) hS ?_
    simp only [List.setIfInBounds_toArray, List.set_cons_zero, List.set_cons_succ]
    refine rg_take 6 113 (.binOp .eql 26 (.tmp 111) (.tmp 112) 26) (.bool true) #[true, true, true, true, true, true, true, false, false, false, false] (by kernel_rfl) (by rfl) (by kernel_rfl) (by kernel_rfl) (by kernel_rfl) (fun _ _ _ h => h) (.inl ⟨by kernel_rfl, fun _ _ => by go_simp⟩) hS ?_
    simp only [List.setIfInBounds_toArray, List.set_cons_zero, List.set_cons_succ]
    refine rg_take 7 114 (.pick (.tmp 110) (.tmp 113) (.const (.bool false))) (.bool true) #[true, true, true, true, true, true, true, true, false, false, false] (by kernel_rfl) (by rfl) (by kernel_rfl) (by kernel_rfl) (by kernel_rfl) (fun _ _ _ h => h) (.inl ⟨by kernel_rfl, fun _ _ => by go_simp⟩) hS ?_
    simp only [List.setIfInBounds_toArray, List.set_cons_zero, List.set_cons_succ]
    refine rg_one 8 none (.store 70 (.tmp 6) (.tmp 107)) #[true, true, true, true, true, true, true, true, true, false, false] (by kernel_rfl) (by kernel_rfl) (by rfl) (by kernel_rfl) (fun K hK => ?_)
    refine wp_store isE (b := g + 1 + 1 + 1) (C' := X.cells) (by kernel_rfl) (by kernel_rfl) hB 3 (by rfl) (ER.size _) (ER.size _) (ER.one _) (fun W3 hB => ?_)
    simp only [List.set] at hB
    simp only [Act.put, List.setIfInBounds_toArray, List.set_cons_zero, List.set_cons_succ]
    have hS : Bs w W3 [(g, 70, X.cells), (g + 1, 75, X.cells)] := hB.sub (fun i => i) (fun i x h => by rcases i with _ | _ | i <;> first | exact h | (simp at h)) (fun i j _ _ h => h)
    refine hK.out _ _ hS ?_
    clear hK K
    refine rg_one 9 none (.store 75 (.tmp 7) (.tmp 108)) #[true, true, true, true, true, true, true, true, true, true, false] (by kernel_rfl) (by kernel_rfl) (by rfl) (by kernel_rfl) (fun K hK => ?_)
    refine wp_store isD (b := g + 1 + 1 + 1 + 1) (C' := X.cells) (by kernel_rfl) (by kernel_rfl) hB 4 (by rfl) (ER.size _) (ER.size _) (ER.one _) (fun W3 hB => ?_)
    simp only [List.set] at hB
    simp only [Act.put, List.setIfInBounds_toArray, List.set_cons_zero, List.set_cons_succ]
    have hS : Bs w W3 [(g, 70, X.cells), (g + 1, 75, X.cells)] := hB.sub (fun i => i) (fun i x h => by rcases i with _ | _ | i <;> first | exact h | (simp at h)) (fun i j _ _ h => h)
    refine hK.out _ _ hS ?_
    clear hK K
    refine rg_one 10 (some 8) (.assign (.tmp 114)) #[true, true, true, true, true, true, true, true, true, true, true] (by kernel_rfl) (by kernel_rfl) (by rfl) (by kernel_rfl) (fun K hK => ?_)
    go_wp2_with fail
    refine hK.out _ _ hS ?_
    clear hK K
    refine wpAnyH_done (by kernel_rfl) ?_ _
    go_wp2_with fail
    exact bodyPost_ret (res_three rfl rfl rfl rfl isE isD hB 3 rfl (ER.size _) 4 rfl (ER.size _)) rfl ⟨rfl, by first | exact hB.below | (rw [← hg]; exact hB.below)⟩
end Go.Proofs.Ytebhclgnpnlekaa.Ent
