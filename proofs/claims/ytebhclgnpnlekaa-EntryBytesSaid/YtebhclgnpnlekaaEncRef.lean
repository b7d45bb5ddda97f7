/- append within a region that draws its order. -/
import Derived.Test.YtebhclgnpnlekaaEnc
import Derived.Test.YtebhclgnpnlekaaAgg2
namespace Go.Proofs.Ytebhclgnpnlekaa.Ent
open Go.RowKit Go.Proofs.Ytebhclgnpnlekaa.B Go.Proofs.Ytebhclgnpnlekaa.Cmd Go.Proofs.Ytebhclgnpnlekaa.Agg Go.Proofs.Ytebhclgnpnlekaa.Oct Go.Proofs.Ytebhclgnpnlekaa.Cat Go.Proofs.Ytebhclgnpnlekaa.B.Rep
open Go.Proofs.Ytebhclgnpnlekaa.Preds (okSet)
section
variable {P : Program} {a : Act} {Q : Exit → Act → World → Prop} {dst : Option Tmp} {ty : TypeId} {pos : String} {after : Array Edge} {gd : Option (Nat × Bool)}
theorem opw_more {α : Type} (d : Rep α) (s x : Operand) (t e : TypeId) (z : Value) (bytes : Nat)
    (ht : P.underlying t = some (.slice e)) (hinfo : (P.info? e).map (fun i => (i.zero, i.size, i.bytes)) = some (some z, d.sz, bytes)) (hzs : z.cells.size = d.sz) (hsz : 0 < d.sz) (hb0 : 0 < bytes)
    {w0 : World} (base : Nat) (I J : Nat → Prop) (v : Value) (xs ys : List α) (A : Option Addr) (m c : Nat) (hs : a.eval s = v) (hx : a.eval x = .slice A m c) (hm : m = ys.length)
    (HO : Own d e base I w0 v xs) (HR : RowV d J w0 A ys) (hI : ∀ k, J k → k < w0.heap.size → some k ≠ v.ownBlock) (hnil : A = none → c = 0) (hbase : base ≤ w0.heap.size) (hl : (xs.length + ys.length) * bytes ≤ 140737488355328) {K : Act → World → Prop}
    (h : ∀ v1 w1, Own d e base (fun k => I k ∨ J k) w1 v1 (xs ++ ys) → w0.grownBy w1 v.ownBlock → (v1.ownBlock = v.ownBlock ∨ v1.ownBlock = some w0.heap.size) → K (a.put dst v1) w1) :
    Oper.wp P ⟨dst, .call ⟨.builtin .append, #[s, x], #[t, t]⟩, ty, pos, after, gd⟩ a w0 K Q := by
  subst hm
  obtain ⟨v1, w1, hr, hown, hg, hat⟩ := run_appendV t ty e z bytes ht hinfo hzs hsz hb0 HO HR hI hnil hbase hl
  unfold Oper.wp execOp
  simp only [resolve, invoke, builtin, Sem.run_bind, Sem.run_pure, Result.andThen_ok, List.map_toArray, List.map_cons, List.map_nil, hs, hx, hr]
  exact h v1 w1 hown hg hat
end
/-- What follows, said once for both ways there. -/
theorem share5 {M L : World → Option Addr → Nat → Option Addr → Nat → Prop} {G : Prop} (rest : ∀ W a b c d, L W a b c d → M W a b c d) (main : Hold (∀ W a b c d, L W a b c d → M W a b c d) → G) : G := main ⟨rest⟩
theorem info_int : (Try.prog.info? 3).map (fun i => (i.zero, i.size, i.bytes)) = some (some (.int .i64 0), 1, 8) := by kernel_rfl
theorem row_flatI {J I : Nat → Prop} {w : World} {A : Option Addr} {xs : List Int} (h : Rep.Row (Rep.int .i64) I w A xs) : Rep.RowV (Rep.int .i64) J w A xs := by
  obtain ⟨h1, h2⟩ := h.v
  refine ⟨h1, fun h0 => ?_⟩
  obtain ⟨ad, e, hc⟩ := h2 h0
  exact ⟨ad, e, fun i x hx => by obtain ⟨cs, hk, hcs⟩ := hc i x hx; exact ⟨cs, Rep.flat_int _ hk, hcs⟩⟩
theorem bs_fr {w0 w w' : World} {l : List (Nat × TypeId × Array Value)} {M : Nat → Prop} (h : Bs w0 w l) (hf : Fr M w w') (hM : ∀ k, M k → w0.heap.size ≤ k ∧ ∀ (i b : Nat) (T : TypeId) (C : Array Value), l[i]? = some (b, T, C) → b ≠ k) : Bs w0 w' l :=
  ⟨⟨hf.os.trans h.below.os, hf.tape.trans h.below.tape, hf.output.trans h.below.output, Nat.le_trans h.below.size hf.size, fun k hk => (hf.block k (Nat.lt_of_lt_of_le hk h.below.size) (fun hm => by have := (hM k hm).1; omega)).trans (h.below.block k hk)⟩,
   fun i b T C hi => ⟨(hf.block b (h.lt i hi) (fun hm => (hM b hm).2 i b T C hi rfl)).trans (h.at_ i b T C hi).1, (h.at_ i b T C hi).2⟩, h.ne⟩
/-- A load out of the middle that is taken first. -/
theorem ylF {P : Program} {ops : Array Oper} {a : Act} {w0 : World} {dst : Option Tmp} {T T' ty : TypeId} {pos : String} {after : Array Edge} {gd : Option (Nat × Bool)} {x : Operand} {b n o : Nat} {C V : Array Value} {l : List (Nat × TypeId × Array Value)} (hT : IsStruct P T n) (hx : a.eval x = .pointer (some ⟨b, o, none⟩)) (i : Nat) (hi : l[i]? = some (b, T', C)) (hs : V.size = n) (hC : (C.toList.drop o).take n = V.toList) (hw : Region.wanted ⟨dst, .load T x, ty, pos, after, gd⟩ (yielded ops a.tmps) = true) : YieldsIf P ops (fun w' => Bs w0 w' l) ⟨dst, .load T x, ty, pos, after, gd⟩ (.agg V) a :=
  .inl ⟨hw, fun w hB => by
    obtain ⟨d, hu, hd⟩ := hT.und'
    have hb := (hB.at_ i b T' C hi).1
    have hl := run_loadAt_mid (P := P) w b o T V.toList d (fun j v hv => by
      rw [cell_of_row w b (o + j) C T' (0, 0) hb]
      rw [← hC] at hv
      have hj : j < n := by
        have := (List.getElem?_eq_some_iff.1 hv).1
        rw [List.length_take] at this; omega
      rw [List.getElem?_take, if_pos hj, List.getElem?_drop] at hv
      simpa using hv) hu hd (by rw [hT.size]; simp [hs])
    simp only [Array.toArray_toList] at hl
    unfold execOp
    simp only [hx, Sem.run_bind, hl, Result.andThen_ok, Sem.run_pure]⟩
set_option maxHeartbeats 8000000 in
set_option maxRecDepth 100000 in
theorem refBytes_calls (e : ER) (lf la lw : List CmdD) (w : World) (h : EAt w e lf la lw) (hok : okE e lf la lw = true) :
    Calls Try.prog 59 #[.agg e.cells] w fun r w' => ∃ A1 c1, r = .returned (.slice A1 (entBytes e lf la lw).length c1) ∧ Hold (Rep.Row (Rep.int .u8) (fun _ => True) w' A1 (entBytes e lf la lw)) ∧ Hold (Below w.heap.size w w') := by
  have ka := e.all
  have H := Hold.mk h
  have HOk := Hold.mk hok
  obtain ⟨g, hg⟩ : ∃ g, w.heap.size = g := ⟨_, rfl⟩
  obtain ⟨W, hW⟩ : ∃ W, w.alloc (.cells e.cells 75) = W := ⟨_, rfl⟩
  have hB := one_new w e.cells 75
  rw [hW, hg] at hB
  have hc := hB.cell 0 rfl
  go_enter Try.func59, Try.ntmps59
  go_wp2_with fail
  replace hB := hB.drew
  have hS : Bs w _ [(g, 75, e.cells)] := hB
  have k7 : e.cells[7]? = some (.int .i64 e.pr) := rfl
  have k8 : e.cells[8]? = some (.int .i64 e.lo) := rfl
  have k9 : e.cells[9]? = some (.int .i64 e.hi) := rfl
  apply share5 (L := fun W' A1 g3 A2 c2 => Bs w W' [(g, 75, e.cells)] ∧ Rep.Row (Rep.int .i64) (fun _ => True) W' A2 (headNums e))
  case main =>
    intro HM
    refine rg_start (S := fun w' => Bs w w' [(g, 75, e.cells)]) 12 #[false, false, false, false, false, false, false, false, false, false, false, false] (by kernel_rfl) (by kernel_rfl) (by kernel_rfl) hS ?_
    refine rg_take 0 14 (.fieldAddr 75 (.tmp 1) 0) (.pointer (some ⟨g, 0, none⟩)) #[true, false, false, false, false, false, false, false, false, false, false, false] (by kernel_rfl) (by rfl) (by kernel_rfl) (by kernel_rfl) (by kernel_rfl) (fun _ _ _ h => h) (.inl ⟨by kernel_rfl, fun _ _ => by go_simp⟩) hS ?_
    simp only [List.setIfInBounds_toArray, List.set_cons_zero, List.set_cons_succ]
    refine rg_take 1 15 (.load 45 (.tmp 14)) (.agg (cmdArr e.c)) #[true, true, false, false, false, false, false, false, false, false, false, false] (by kernel_rfl) (by rfl) (by kernel_rfl) (by kernel_rfl) (by kernel_rfl) (fun _ _ _ h => h) (ylF isC (T' := 75) (C := e.cells) (o := 0) (b := g) (by kernel_rfl) 0 (by exact rfl) (by exact rfl) (by exact rfl) (by kernel_rfl)) hS ?_
    simp only [List.setIfInBounds_toArray, List.set_cons_zero, List.set_cons_succ]
    refine rg_take 3 17 (.fieldAddr 75 (.tmp 1) 1) (.pointer (some ⟨g, 7, none⟩)) #[true, true, false, true, false, false, false, false, false, false, false, false] (by kernel_rfl) (by rfl) (by kernel_rfl) (by kernel_rfl) (by kernel_rfl) (fun _ _ _ h => h) (.inl ⟨by kernel_rfl, fun _ _ => by go_simp⟩) hS ?_
    simp only [List.setIfInBounds_toArray, List.set_cons_zero, List.set_cons_succ]
    refine rg_take 4 18 (.load 3 (.tmp 17)) (.int .i64 e.pr) #[true, true, false, true, true, false, false, false, false, false, false, false] (by kernel_rfl) (by rfl) (by kernel_rfl) (by kernel_rfl) (by kernel_rfl) (fun _ _ _ h => h) (.inl ⟨by kernel_rfl, fun w' hw' => by have q := hw'.cell 0 rfl 7; rw [k7] at q; go_simp⟩) hS ?_
    simp only [List.setIfInBounds_toArray, List.set_cons_zero, List.set_cons_succ]
    refine rg_take 5 19 (.fieldAddr 75 (.tmp 1) 2) (.pointer (some ⟨g, 8, none⟩)) #[true, true, false, true, true, true, false, false, false, false, false, false] (by kernel_rfl) (by rfl) (by kernel_rfl) (by kernel_rfl) (by kernel_rfl) (fun _ _ _ h => h) (.inl ⟨by kernel_rfl, fun _ _ => by go_simp⟩) hS ?_
    simp only [List.setIfInBounds_toArray, List.set_cons_zero, List.set_cons_succ]
    refine rg_take 6 20 (.load 3 (.tmp 19)) (.int .i64 e.lo) #[true, true, false, true, true, true, true, false, false, false, false, false] (by kernel_rfl) (by rfl) (by kernel_rfl) (by kernel_rfl) (by kernel_rfl) (fun _ _ _ h => h) (.inl ⟨by kernel_rfl, fun w' hw' => by have q := hw'.cell 0 rfl 8; rw [k8] at q; go_simp⟩) hS ?_
    simp only [List.setIfInBounds_toArray, List.set_cons_zero, List.set_cons_succ]
    refine rg_take 7 21 (.fieldAddr 75 (.tmp 1) 3) (.pointer (some ⟨g, 9, none⟩)) #[true, true, false, true, true, true, true, true, false, false, false, false] (by kernel_rfl) (by rfl) (by kernel_rfl) (by kernel_rfl) (by kernel_rfl) (fun _ _ _ h => h) (.inl ⟨by kernel_rfl, fun _ _ => by go_simp⟩) hS ?_
    simp only [List.setIfInBounds_toArray, List.set_cons_zero, List.set_cons_succ]
    refine rg_take 8 22 (.load 3 (.tmp 21)) (.int .i64 e.hi) #[true, true, false, true, true, true, true, true, true, false, false, false] (by kernel_rfl) (by rfl) (by kernel_rfl) (by kernel_rfl) (by kernel_rfl) (fun _ _ _ h => h) (.inl ⟨by kernel_rfl, fun w' hw' => by have q := hw'.cell 0 rfl 9; rw [k9] at q; go_simp⟩) hS ?_
    simp only [List.setIfInBounds_toArray, List.set_cons_zero, List.set_cons_succ]
    refine wpAnyH_ready (rs := [2, 9]) (by kernel_rfl) (by simp) ?_
    refine (rg_cons 2 (some 16) (.call ⟨.value (.func 82), #[.tmp 15], _⟩) #[true, true, true, true, true, true, true, true, true, false, false, false] (by kernel_rfl) (by rfl) (by kernel_rfl) (fun K hK => ?_) (rg_cons 9 (some 23) (.buildSlice 22 3 #[(0, .tmp 18), (1, .tmp 20), (2, .tmp 22)]) #[true, true, false, true, true, true, true, true, true, true, false, false] (by kernel_rfl) (by rfl) (by kernel_rfl) (fun K hK => ?_) AllReadyH.nil))
    · go_wp2_with fail
      obtain ⟨wd, hwd⟩ : ∃ wd, W.drew = wd := ⟨_, rfl⟩
      rw [hwd] at hS ⊢
      refine (nums_calls e.c wd H.out.c).mono ?_
      rintro r w1 ⟨A1, rfl, O1, B1⟩
      dsimp only
      have hgd := Hold.mk (hS.lt 0 rfl)
      replace hS := hS.step B1.out
      have hle := Hold.mk B1.out.size
      refine hK.out _ _ hS ?_
      clear hK K
      refine rg_one 9 (some 23) (.buildSlice 22 3 #[(0, .tmp 18), (1, .tmp 20), (2, .tmp 22)]) #[true, true, true, true, true, true, true, true, true, true, false, false] (by kernel_rfl) (by kernel_rfl) (by rfl) (by kernel_rfl) (fun K hK => ?_)
      go_wp2_with fail
      have hbA : Below w1.heap.size w1 (w1.alloc (.cells #[.int .i64 e.pr, .int .i64 e.lo, .int .i64 e.hi] 3)) := (Below.refl _ _).alloc (Nat.le_refl _) _
      have HR3 : Hold (Rep.Row (Rep.int .i64) (fun k => k = w1.heap.size) (w1.alloc (.cells #[.int .i64 e.pr, .int .i64 e.lo, .int .i64 e.hi] 3)) (some ⟨w1.heap.size, 0, none⟩) [e.pr, e.lo, e.hi]) := ⟨ints_row w1 [e.pr, e.lo, e.hi] (by simp [maxLen]) (by intro x hx; simp only [List.mem_cons, List.not_mem_nil, or_false] at hx; rcases hx with rfl | rfl | rfl; exact H.out.pr; exact H.out.lo; exact H.out.hi) _ rfl⟩
      obtain ⟨g3, hg3⟩ : ∃ g3, w1.heap.size = g3 := ⟨_, rfl⟩
      rw [hg3] at HR3 ⊢
      replace hS := hS.step hbA
      replace O1 := Hold.mk (O1.out.below hbA)
      replace hle := Hold.mk (Nat.le_trans hle.out hbA.size)
      refine hK.out _ _ hS ?_
      clear hK K
      refine rg_one 10 (some 24) (.call ⟨.builtin .append, #[.tmp 16, .tmp 23], #[22, 22]⟩) #[true, true, true, true, true, true, true, true, true, true, true, false] (by kernel_rfl) (by kernel_rfl) (by rfl) (by kernel_rfl) (fun K hK => ?_)
      refine opw_more (Rep.int .i64) (.tmp 16) (.tmp 23) 22 3 (.int .i64 0) 8 Try.underlying22 info_int rfl (by decide) (by decide) wd.heap.size nob nob (.slice A1 7 7) (nums e.c) [e.pr, e.lo, e.hi] (some ⟨g3, 0, none⟩) 3 3 (by kernel_rfl) (by kernel_rfl) rfl O1.out (row_flatI HR3.out) (fun _ h _ => h.elim) (fun h => by simp at h) hle.out (by simp [nums]) ?_
      intro v2 w4 hown hgr hat
      obtain ⟨A2, c2, rfl, hlen, hnil⟩ := hown.len_form
      have hS : Bs w w4 [(g, 75, e.cells)] := bs_fr hS ((Fr.refl (fun k => (Value.slice A1 7 7).ownBlock = some k) _).grown hgr (fun k hk => .inl hk)) (fun k hk => by have h1 := (O1.out.block_lt k hk).1; have h2 := hgd.out; have h3 := hS.at_ 0 _ _ _ rfl; refine ⟨by omega, fun i b T C hi => ?_⟩; rcases i with _ | i; simp only [List.getElem?_cons_zero, Option.some.injEq, Prod.mk.injEq] at hi; omega; simp at hi)
      simp only [Act.put, List.setIfInBounds_toArray, List.set_cons_zero, List.set_cons_succ]
      refine hK.out _ _ hS ?_
      clear hK K
      refine rg_one 11 (some 3) (.assign (.tmp 24)) #[true, true, true, true, true, true, true, true, true, true, true, true] (by kernel_rfl) (by kernel_rfl) (by rfl) (by kernel_rfl) (fun K hK => ?_)
      go_wp2_with fail
      refine hK.out _ _ hS ?_
      clear hK K
      refine wpAnyH_done (by kernel_rfl) ?_ _
      exact HM.out w4 A1 g3 A2 c2 ⟨hS, hown.row.move fun _ _ _ => ⟨trivial, rfl⟩⟩
    · obtain ⟨wb, hwb⟩ : ∃ wb, W.drew = wb := ⟨_, rfl⟩
      rw [hwb] at hS ⊢
      go_wp2_with fail
      have hbA : Below wb.heap.size wb (wb.alloc (.cells #[.int .i64 e.pr, .int .i64 e.lo, .int .i64 e.hi] 3)) := (Below.refl _ _).alloc (Nat.le_refl _) _
      have HR3 : Hold (Rep.Row (Rep.int .i64) (fun k => k = wb.heap.size) (wb.alloc (.cells #[.int .i64 e.pr, .int .i64 e.lo, .int .i64 e.hi] 3)) (some ⟨wb.heap.size, 0, none⟩) [e.pr, e.lo, e.hi]) := ⟨ints_row wb [e.pr, e.lo, e.hi] (by simp [maxLen]) (by intro x hx; simp only [List.mem_cons, List.not_mem_nil, or_false] at hx; rcases hx with rfl | rfl | rfl; exact H.out.pr; exact H.out.lo; exact H.out.hi) _ rfl⟩
      obtain ⟨g3, hg3⟩ : ∃ g3, wb.heap.size = g3 := ⟨_, rfl⟩
      rw [hg3] at HR3 ⊢
      replace hS := hS.step hbA
      refine hK.out _ _ hS ?_
      clear hK K
      refine rg_one 2 (some 16) (.call ⟨.value (.func 82), #[.tmp 15], _⟩) #[true, true, true, true, true, true, true, true, true, true, false, false] (by kernel_rfl) (by kernel_rfl) (by rfl) (by kernel_rfl) (fun K hK => ?_)
      go_wp2_with fail
      obtain ⟨wd, hwd⟩ : ∃ wd, wb.alloc (.cells #[.int .i64 e.pr, .int .i64 e.lo, .int .i64 e.hi] 3) = wd := ⟨_, rfl⟩
      rw [hwd] at hS ⊢
      refine (nums_calls e.c wd H.out.c).mono ?_
      rintro r w1 ⟨A1, rfl, O1, B1⟩
      dsimp only
      have hgd := Hold.mk (hS.lt 0 rfl)
      replace hS := hS.step B1.out
      have hle := Hold.mk B1.out.size
      rw [hwd] at HR3
      replace HR3 := Hold.mk (HR3.out.below B1.out)
      refine hK.out _ _ hS ?_
      clear hK K
      refine rg_one 10 (some 24) (.call ⟨.builtin .append, #[.tmp 16, .tmp 23], #[22, 22]⟩) #[true, true, true, true, true, true, true, true, true, true, true, false] (by kernel_rfl) (by kernel_rfl) (by rfl) (by kernel_rfl) (fun K hK => ?_)
      refine opw_more (Rep.int .i64) (.tmp 16) (.tmp 23) 22 3 (.int .i64 0) 8 Try.underlying22 info_int rfl (by decide) (by decide) wd.heap.size nob nob (.slice A1 7 7) (nums e.c) [e.pr, e.lo, e.hi] (some ⟨g3, 0, none⟩) 3 3 (by kernel_rfl) (by kernel_rfl) rfl O1.out (row_flatI HR3.out) (fun _ h _ => h.elim) (fun h => by simp at h) hle.out (by simp [nums]) ?_
      intro v2 w4 hown hgr hat
      obtain ⟨A2, c2, rfl, hlen, hnil⟩ := hown.len_form
      have hS : Bs w w4 [(g, 75, e.cells)] := bs_fr hS ((Fr.refl (fun k => (Value.slice A1 7 7).ownBlock = some k) _).grown hgr (fun k hk => .inl hk)) (fun k hk => by have h1 := (O1.out.block_lt k hk).1; have h2 := hgd.out; have h3 := hS.at_ 0 _ _ _ rfl; refine ⟨by omega, fun i b T C hi => ?_⟩; rcases i with _ | i; simp only [List.getElem?_cons_zero, Option.some.injEq, Prod.mk.injEq] at hi; omega; simp at hi)
      simp only [Act.put, List.setIfInBounds_toArray, List.set_cons_zero, List.set_cons_succ]
      refine hK.out _ _ hS ?_
      clear hK K
      refine rg_one 11 (some 3) (.assign (.tmp 24)) #[true, true, true, true, true, true, true, true, true, true, true, true] (by kernel_rfl) (by kernel_rfl) (by rfl) (by kernel_rfl) (fun K hK => ?_)
      go_wp2_with fail
      refine hK.out _ _ hS ?_
      clear hK K
      refine wpAnyH_done (by kernel_rfl) ?_ _
      exact HM.out w4 A1 g3 A2 c2 ⟨hS, hown.row.move fun _ _ _ => ⟨trivial, rfl⟩⟩
  case rest =>
    intro W1 A1 g3 A2 c2 hL
    obtain ⟨hB, hR⟩ := hL
    have HR := Hold.mk hR
    clear hR
    have HHead := Hold.mk (head_ok hok)
    obtain ⟨_, _, _, h4, h5, h6, h7⟩ := okE_iff.1 hok
    have HV5 := Hold.mk (okMust_value h5 h.f.len)
    have HV6 := Hold.mk (okMust_value h6 h.a.len)
    have HV7 := Hold.mk (okMust_value h7 h.v.len)
    have HAb := Hold.mk (okBallot_num h4)
    clear h4 h5 h6 h7 h hok
    have hc := hB.cell 0 rfl
    go_wp2_with fail
    refine (refPut_calls A2 c2 _ (headNums e) _ W1 rfl HR.out (by simp [headNums, nums])).mono ?_
    rintro r w1 hs
    rw [PutSaid, if_pos HHead.out] at hs
    obtain ⟨B1, d1, rfl, O1, V1⟩ := hs
    have hBg := Hold.mk (hB.lt 0 rfl)
    replace hB := hB.step V1.out
    have hc := hB.cell 0 rfl
    have SZ := Hold.mk V1.out.size
    have OA := O1
    clear V1 O1
    obtain ⟨Z1, hZ1⟩ : ∃ z, encs (headNums e) = z := ⟨_, rfl⟩
    have HZ1 := Hold.mk hZ1
    have K1 : Hold (Z1.length ≤ 60) := ⟨by
      rw [← hZ1]
      have k1 := encs_le HHead.out
      simp only [headNums, nums, List.length_cons, List.length_nil, List.length_append] at k1
      simp only [headNums, nums]
      omega⟩
    rw [hZ1] at OA ⊢
    clear hZ1
    go_wp2_with fail
    refine (refPutValue_calls e.f.A e.f.c _ e.f.t lf _ _ H.out.f.len (H.out.f.row.below hB.below) H.out.f.wf).mono ?_
    rintro r w2 hs
    rw [BytesSaid, if_pos HV5.out] at hs
    obtain ⟨B2, d2, rfl, O2, V2⟩ := hs
    replace hB := hB.step V2.out
    have hc := hB.cell 0 rfl
    replace OA := Hold.mk (OA.out.below V2.out)
    replace SZ := Hold.mk (Nat.le_trans SZ.out V2.out.size)
    have N2 := Hold.mk (own_lim O2.out)
    have R2 := Hold.mk O2.out.row
    clear V2 O2
    obtain ⟨Z2, hZ2⟩ : ∃ z, Z1 ++ valueBytes e.f.t lf = z := ⟨_, rfl⟩
    have HZ2 := Hold.mk hZ2
    have K2 : Hold (Z1.length + (valueBytes e.f.t lf).length ≤ 50060 ∧ Z2.length ≤ 50060) := ⟨by rw [← hZ2, List.length_append]; have := K1.out; have := value_len HV5.out; omega⟩
    clear hZ2
    go_wp2_with (at_builtin; refine Rep.wp_more (Rep.int .u8) rfl (.tmp 36) (.tmp 37) 25 5 (.int .u8 0) 1 rfl Try.underlying25 Oct.info_u8 rfl (by decide) (by decide) W1.heap.size nob nob _ Z1 (valueBytes e.f.t lf) Z2 B2 _ d2 rfl rfl rfl HZ2.out OA.out (row_flatV R2.out) (fun _ h _ => h.elim) N2.out.2 ?e1 ?e2 ?_)
    case e1 => exact SZ.out
    case e2 => have := K2.out; omega
    intro C2 g2 v2 HG2
    replace hB := bs_fr hB HG2.out.fr (fun k hk => by have h1 := (OA.out.block_lt k hk).1; have h2 := hBg.out; have h3 := hB.at_ 0 _ _ _ rfl; refine ⟨by omega, fun i b T C hi => ?_⟩; rcases i with _ | i; simp only [List.getElem?_cons_zero, Option.some.injEq, Prod.mk.injEq] at hi; omega; simp at hi)
    have hc := hB.cell 0 rfl
    replace SZ := Hold.mk (Nat.le_trans SZ.out HG2.out.fr.size)
    replace OA := Hold.mk HG2.out.own
    replace K2 := Hold.mk K2.out.2
    obtain ⟨nab, hnab⟩ : ∃ n : Nat, e.ab = (n : Int) := ⟨e.ab.toNat, by have := of_decide_eq_true HAb.out; omega⟩
    have HNab := Hold.mk hnab
    have HOne : Hold (∀ w', Calls Try.prog 79 #[.int .i64 e.ab] w' (OneSaid nab w')) := ⟨fun w' => by rw [hnab]; exact one_calls nab (by have := of_decide_eq_true HAb.out; omega) w'⟩
    have HEab : Hold ((enc nab).length ≤ 6) := ⟨by have := enc_le HAb.out; rw [hnab] at this; simpa using this⟩
    clear hnab
    go_wp2_with fail
    refine (HOne.out _).mono ?_
    rintro r w3 ⟨B3, d3, rfl, O3, V3⟩
    replace hB := hB.step V3.out
    have hc := hB.cell 0 rfl
    replace OA := Hold.mk (OA.out.below V3.out)
    replace SZ := Hold.mk (Nat.le_trans SZ.out V3.out.size)
    have N3 := Hold.mk (own_lim O3.out)
    have R3 := Hold.mk O3.out.row
    clear V3 O3
    obtain ⟨Z3, hZ3⟩ : ∃ z, Z2 ++ enc nab = z := ⟨_, rfl⟩
    have HZ3 := Hold.mk hZ3
    have K3 : Hold (Z2.length + (enc nab).length ≤ 100060 ∧ Z3.length ≤ 100060) := ⟨by rw [← hZ3, List.length_append]; have := K2.out; have := HEab.out; omega⟩
    clear hZ3
    go_wp2_with (at_builtin; refine Rep.wp_more (Rep.int .u8) rfl (.tmp 39) (.tmp 42) 25 5 (.int .u8 0) 1 rfl Try.underlying25 Oct.info_u8 rfl (by decide) (by decide) W1.heap.size nob nob _ Z2 (enc nab) Z3 B3 _ d3 rfl rfl rfl HZ3.out OA.out (row_flatV R3.out) (fun _ h _ => h.elim) N3.out.2 ?e1 ?e2 ?_)
    case e1 => exact SZ.out
    case e2 => have := K3.out; omega
    intro C3 g3 v3 HG3
    replace hB := bs_fr hB HG3.out.fr (fun k hk => by have h1 := (OA.out.block_lt k hk).1; have h2 := hBg.out; have h3 := hB.at_ 0 _ _ _ rfl; refine ⟨by omega, fun i b T C hi => ?_⟩; rcases i with _ | i; simp only [List.getElem?_cons_zero, Option.some.injEq, Prod.mk.injEq] at hi; omega; simp at hi)
    have hc := hB.cell 0 rfl
    replace SZ := Hold.mk (Nat.le_trans SZ.out HG3.out.fr.size)
    replace OA := Hold.mk HG3.out.own
    replace K3 := Hold.mk K3.out.2
    go_wp2_with fail
    refine (refPutValue_calls e.a.A e.a.c _ e.a.t la _ _ H.out.a.len (H.out.a.row.below hB.below) H.out.a.wf).mono ?_
    rintro r w4 hs
    rw [BytesSaid, if_pos HV6.out] at hs
    obtain ⟨B4, d4, rfl, O4, V4⟩ := hs
    replace hB := hB.step V4.out
    have hc := hB.cell 0 rfl
    replace OA := Hold.mk (OA.out.below V4.out)
    replace SZ := Hold.mk (Nat.le_trans SZ.out V4.out.size)
    have N4 := Hold.mk (own_lim O4.out)
    have R4 := Hold.mk O4.out.row
    clear V4 O4
    obtain ⟨Z4, hZ4⟩ : ∃ z, Z3 ++ valueBytes e.a.t la = z := ⟨_, rfl⟩
    have HZ4 := Hold.mk hZ4
    have K4 : Hold (Z3.length + (valueBytes e.a.t la).length ≤ 150060 ∧ Z4.length ≤ 150060) := ⟨by rw [← hZ4, List.length_append]; have := K3.out; have := value_len HV6.out; omega⟩
    clear hZ4
    go_wp2_with (at_builtin; refine Rep.wp_more (Rep.int .u8) rfl (.tmp 50) (.tmp 51) 25 5 (.int .u8 0) 1 rfl Try.underlying25 Oct.info_u8 rfl (by decide) (by decide) W1.heap.size nob nob _ Z3 (valueBytes e.a.t la) Z4 B4 _ d4 rfl rfl rfl HZ4.out OA.out (row_flatV R4.out) (fun _ h _ => h.elim) N4.out.2 ?e1 ?e2 ?_)
    case e1 => exact SZ.out
    case e2 => have := K4.out; omega
    intro C4 g4 v4 HG4
    replace hB := bs_fr hB HG4.out.fr (fun k hk => by have h1 := (OA.out.block_lt k hk).1; have h2 := hBg.out; have h3 := hB.at_ 0 _ _ _ rfl; refine ⟨by omega, fun i b T C hi => ?_⟩; rcases i with _ | i; simp only [List.getElem?_cons_zero, Option.some.injEq, Prod.mk.injEq] at hi; omega; simp at hi)
    have hc := hB.cell 0 rfl
    replace SZ := Hold.mk (Nat.le_trans SZ.out HG4.out.fr.size)
    replace OA := Hold.mk HG4.out.own
    replace K4 := Hold.mk K4.out.2
    go_wp2_with fail
    have hB7 := hB
    obtain ⟨w7, hw7⟩ : ∃ w7, v4 = w7 := ⟨_, rfl⟩
    subst hw7
    replace hB := hB.drew
    have hS : Bs w _ [(g, 75, e.cells)] := hB
    have ka7 : e.cells[15]? = some (.bool e.fr) := rfl
    have ka8 : e.cells[16]? = some (.bool e.dn) := rfl
    refine rg_start (S := fun w' => Bs w w' [(g, 75, e.cells)]) 13 #[false, false, false, false, false, false, false, false, false, false, false, false, false] (by kernel_rfl) (by kernel_rfl) (by kernel_rfl) hS ?_
    refine rg_take 0 54 (.fieldAddr 75 (.tmp 1) 7) (.pointer (some ⟨g, 15, none⟩)) #[true, false, false, false, false, false, false, false, false, false, false, false, false] (by kernel_rfl) (by rfl) (by kernel_rfl) (by kernel_rfl) (by kernel_rfl) (fun _ _ _ h => h) (.inl ⟨by kernel_rfl, fun _ _ => by go_simp⟩) hS ?_
    simp only [List.setIfInBounds_toArray, List.set_cons_zero, List.set_cons_succ]
    refine rg_take 1 55 (.load 4 (.tmp 54)) (.bool e.fr) #[true, true, false, false, false, false, false, false, false, false, false, false, false] (by kernel_rfl) (by rfl) (by kernel_rfl) (by kernel_rfl) (by kernel_rfl) (fun _ _ _ h => h) (.inl ⟨by kernel_rfl, fun w' hw' => by have q := hw'.cell 0 rfl 15; rw [ka7] at q; go_simp⟩) hS ?_
    simp only [List.setIfInBounds_toArray, List.set_cons_zero, List.set_cons_succ]
    refine rg_take 3 57 (.fieldAddr 75 (.tmp 1) 8) (.pointer (some ⟨g, 16, none⟩)) #[true, true, false, true, false, false, false, false, false, false, false, false, false] (by kernel_rfl) (by rfl) (by kernel_rfl) (by kernel_rfl) (by kernel_rfl) (fun _ _ _ h => h) (.inl ⟨by kernel_rfl, fun _ _ => by go_simp⟩) hS ?_
    simp only [List.setIfInBounds_toArray, List.set_cons_zero, List.set_cons_succ]
    refine rg_take 4 58 (.load 4 (.tmp 57)) (.bool e.dn) #[true, true, false, true, true, false, false, false, false, false, false, false, false] (by kernel_rfl) (by rfl) (by kernel_rfl) (by kernel_rfl) (by kernel_rfl) (fun _ _ _ h => h) (.inl ⟨by kernel_rfl, fun w' hw' => by have q := hw'.cell 0 rfl 16; rw [ka8] at q; go_simp⟩) hS ?_
    simp only [List.setIfInBounds_toArray, List.set_cons_zero, List.set_cons_succ]
    refine rg_one 2 (some 56) (.call ⟨.value (.func 118), #[.tmp 55], _⟩) #[true, true, true, true, true, false, false, false, false, false, false, false, false] (by kernel_rfl) (by kernel_rfl) (by rfl) (by kernel_rfl) (fun K hK => ?_)
    go_wp2_with fail
    refine (refFlag_calls e.fr _).mono ?_
    rintro r w8 ⟨rfl, rfl⟩
    dsimp only
    refine hK.out _ _ hS ?_
    clear hK K
    refine rg_one 5 (some 59) (.call ⟨.value (.func 118), #[.tmp 58], _⟩) #[true, true, true, true, true, true, false, false, false, false, false, false, false] (by kernel_rfl) (by kernel_rfl) (by rfl) (by kernel_rfl) (fun K hK => ?_)
    go_wp2_with fail
    refine (refFlag_calls e.dn _).mono ?_
    rintro r w8 ⟨rfl, rfl⟩
    dsimp only
    refine hK.out _ _ hS ?_
    clear hK K
    refine rg_one 6 (some 60) (.buildSlice 22 2 #[(0, .tmp 56), (1, .tmp 59)]) #[true, true, true, true, true, true, true, false, false, false, false, false, false] (by kernel_rfl) (by kernel_rfl) (by rfl) (by kernel_rfl) (fun K hK => ?_)
    go_wp2_with fail
    have HR3 : Hold (Rep.Row (Rep.int .i64) (fun k => k = v4.heap.size) (v4.alloc (.cells #[.int .i64 (flagN e.fr), .int .i64 (flagN e.dn)] 3)).drew (some ⟨v4.heap.size, 0, none⟩) [flagN e.fr, flagN e.dn]) := ⟨(ints_row v4 [flagN e.fr, flagN e.dn] (by simp [maxLen]) (flags_wf _ _) _ rfl).drew⟩
    obtain ⟨w8, hw8⟩ : ∃ w8, (v4.alloc (.cells #[.int .i64 (flagN e.fr), .int .i64 (flagN e.dn)] 3)).drew = w8 := ⟨_, rfl⟩
    have hbel7 : Below v4.heap.size v4 w8 := by rw [← hw8]; exact ((Below.refl _ _).alloc (Nat.le_refl _) _).trans ⟨rfl, rfl, rfl, Nat.le_refl _, fun _ _ => rfl⟩
    have HBel7 := Hold.mk hbel7
    replace hS := hB7.step hbel7
    rw [hw8] at HR3 ⊢
    clear hw8 hbel7
    refine hK.out _ _ hS ?_
    clear hK K
    refine rg_one 7 (some 61) (.call ⟨.value (.func 15), #[.tmp 60], _⟩) #[true, true, true, true, true, true, true, true, false, false, false, false, false] (by kernel_rfl) (by kernel_rfl) (by rfl) (by kernel_rfl) (fun K hK => ?_)
    go_wp2_with fail
    refine (refPut_calls (some ⟨v4.heap.size, 0, none⟩) 2 2 [flagN e.fr, flagN e.dn] _ _ rfl HR3.out (by simp)).mono ?_
    rintro r w9 hs
    rw [PutSaid, if_pos (flags_ok _ _)] at hs
    obtain ⟨B5, d5, rfl, O5, V5⟩ := hs
    dsimp only
    replace hS := hS.step V5.out
    refine hK.out _ _ hS ?_
    clear hK K
    refine rg_take 8 53 (.move (.tmp 61)) (.tuple #[.slice B5 (encs [flagN e.fr, flagN e.dn]).length d5, .int .i64 0]) #[true, true, true, true, true, true, true, true, true, false, false, false, false] (by kernel_rfl) (by rfl) (by kernel_rfl) (by kernel_rfl) (by kernel_rfl) (fun _ _ _ h => h) (.inl ⟨by kernel_rfl, fun _ _ => by kernel_rfl⟩) hS ?_
    simp only [List.setIfInBounds_toArray, List.set_cons_zero, List.set_cons_succ]
    refine rg_take 9 62 (.extract (.tmp 53) 0) (.slice B5 (encs [flagN e.fr, flagN e.dn]).length d5) #[true, true, true, true, true, true, true, true, true, true, false, false, false] (by kernel_rfl) (by rfl) (by kernel_rfl) (by kernel_rfl) (by kernel_rfl) (fun _ _ _ h => h) (.inl ⟨by kernel_rfl, fun _ _ => by go_simp⟩) hS ?_
    simp only [List.setIfInBounds_toArray, List.set_cons_zero, List.set_cons_succ]
    refine rg_take 10 63 (.extract (.tmp 53) 1) (.int .i64 0) #[true, true, true, true, true, true, true, true, true, true, true, false, false] (by kernel_rfl) (by rfl) (by kernel_rfl) (by kernel_rfl) (by kernel_rfl) (fun _ _ _ h => h) (.inl ⟨by kernel_rfl, fun _ _ => by go_simp⟩) hS ?_
    simp only [List.setIfInBounds_toArray, List.set_cons_zero, List.set_cons_succ]
    refine rg_one 11 (some 10) (.assign (.tmp 62)) #[true, true, true, true, true, true, true, true, true, true, true, true, false] (by kernel_rfl) (by kernel_rfl) (by rfl) (by kernel_rfl) (fun K hK => ?_)
    go_wp2_with fail
    refine hK.out _ _ hS ?_
    clear hK K
    refine rg_one 12 (some 11) (.assign (.tmp 63)) #[true, true, true, true, true, true, true, true, true, true, true, true, true] (by kernel_rfl) (by kernel_rfl) (by rfl) (by kernel_rfl) (fun K hK => ?_)
    go_wp2_with fail
    refine hK.out _ _ hS ?_
    clear hK K
    refine wpAnyH_done (by kernel_rfl) ?_ _
    have V5 := Hold.mk (HBel7.out.trans (V5.out.mono HBel7.out.size))
    replace hB := hB7
    replace hB := hB.step V5.out
    have hc := hB.cell 0 rfl
    replace OA := Hold.mk (OA.out.below V5.out)
    replace SZ := Hold.mk (Nat.le_trans SZ.out V5.out.size)
    have N5 := Hold.mk (own_lim O5.out)
    have R5 := Hold.mk O5.out.row
    clear V5 O5
    clear HBel7 hB7 hS
    obtain ⟨Z5, hZ5⟩ : ∃ z, Z4 ++ encs [flagN e.fr, flagN e.dn] = z := ⟨_, rfl⟩
    have HZ5 := Hold.mk hZ5
    have K5 : Hold (Z4.length + (encs [flagN e.fr, flagN e.dn]).length ≤ 200060 ∧ Z5.length ≤ 200060) := ⟨by rw [← hZ5, List.length_append]; have := K4.out; have := (show _ ≤ 12 from encs_le (flags_ok e.fr e.dn)); omega⟩
    clear hZ5
    go_wp2_with (at_builtin; refine Rep.wp_more (Rep.int .u8) rfl (.tmp 64) (.tmp 65) 25 5 (.int .u8 0) 1 rfl Try.underlying25 Oct.info_u8 rfl (by decide) (by decide) W1.heap.size nob nob _ Z4 (encs [flagN e.fr, flagN e.dn]) Z5 B5 _ d5 rfl rfl rfl HZ5.out OA.out (row_flatV R5.out) (fun _ h _ => h.elim) N5.out.2 ?e1 ?e2 ?_)
    case e1 => exact SZ.out
    case e2 => have := K5.out; omega
    intro C5 g5 v5 HG5
    replace hB := bs_fr hB HG5.out.fr (fun k hk => by have h1 := (OA.out.block_lt k hk).1; have h2 := hBg.out; have h3 := hB.at_ 0 _ _ _ rfl; refine ⟨by omega, fun i b T C hi => ?_⟩; rcases i with _ | i; simp only [List.getElem?_cons_zero, Option.some.injEq, Prod.mk.injEq] at hi; omega; simp at hi)
    have hc := hB.cell 0 rfl
    replace SZ := Hold.mk (Nat.le_trans SZ.out HG5.out.fr.size)
    replace OA := Hold.mk HG5.out.own
    replace K5 := Hold.mk K5.out.2
    go_wp2_with fail
    refine (refPutValue_calls e.v.A e.v.c _ e.v.t lw _ _ H.out.v.len (H.out.v.row.below hB.below) H.out.v.wf).mono ?_
    rintro r w6 hs
    rw [BytesSaid, if_pos HV7.out] at hs
    obtain ⟨B6, d6, rfl, O6, V6⟩ := hs
    replace hB := hB.step V6.out
    have hc := hB.cell 0 rfl
    replace OA := Hold.mk (OA.out.below V6.out)
    replace SZ := Hold.mk (Nat.le_trans SZ.out V6.out.size)
    have N6 := Hold.mk (own_lim O6.out)
    have R6 := Hold.mk O6.out.row
    clear V6 O6
    obtain ⟨Z6, hZ6⟩ : ∃ z, Z5 ++ valueBytes e.v.t lw = z := ⟨_, rfl⟩
    have HZ6 := Hold.mk hZ6
    have K6 : Hold (Z5.length + (valueBytes e.v.t lw).length ≤ 250060 ∧ Z6.length ≤ 250060) := ⟨by rw [← hZ6, List.length_append]; have := K5.out; have := value_len HV7.out; omega⟩
    clear hZ6
    go_wp2_with (at_builtin; refine Rep.wp_more (Rep.int .u8) rfl (.tmp 73) (.tmp 74) 25 5 (.int .u8 0) 1 rfl Try.underlying25 Oct.info_u8 rfl (by decide) (by decide) W1.heap.size nob nob _ Z5 (valueBytes e.v.t lw) Z6 B6 _ d6 rfl rfl rfl HZ6.out OA.out (row_flatV R6.out) (fun _ h _ => h.elim) N6.out.2 ?e1 ?e2 ?_)
    case e1 => exact SZ.out
    case e2 => have := K6.out; omega
    intro C6 g6 v6 HG6
    replace hB := bs_fr hB HG6.out.fr (fun k hk => by have h1 := (OA.out.block_lt k hk).1; have h2 := hBg.out; have h3 := hB.at_ 0 _ _ _ rfl; refine ⟨by omega, fun i b T C hi => ?_⟩; rcases i with _ | i; simp only [List.getElem?_cons_zero, Option.some.injEq, Prod.mk.injEq] at hi; omega; simp at hi)
    have hc := hB.cell 0 rfl
    replace SZ := Hold.mk (Nat.le_trans SZ.out HG6.out.fr.size)
    replace OA := Hold.mk HG6.out.own
    replace K6 := Hold.mk K6.out.2
    have HEnt : Hold (entBytes e lf la lw = Z6) := ⟨by rw [← HZ6.out, ← HZ5.out, ← HZ4.out, ← HZ3.out, ← HZ2.out, ← HZ1.out]; unfold entBytes entParts; rw [HNab.out]; simp [encs, List.append_assoc]⟩
    go_wp2_with fail
    rw [HEnt.out]
    go_ret
    exact ⟨C6, g6, rfl, ⟨OA.out.row.move fun _ _ _ => ⟨trivial, rfl⟩⟩, ⟨by first | exact hB.below | (rw [← hg]; exact hB.below)⟩⟩
end Go.Proofs.Ytebhclgnpnlekaa.Ent
