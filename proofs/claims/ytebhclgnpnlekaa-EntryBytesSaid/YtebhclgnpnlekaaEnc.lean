/- package entry's Encode, of an entry that may be, by its walk. -/
import Derived.Test.YtebhclgnpnlekaaEntLaw
import Derived.Test.YtebhclgnpnlekaaPutCmds
import Derived.Test.YtebhclgnpnlekaaConcat
namespace Go.Proofs.Ytebhclgnpnlekaa.Ent
open Go.RowKit Go.Proofs.Ytebhclgnpnlekaa.B Go.Proofs.Ytebhclgnpnlekaa.Cmd Go.Proofs.Ytebhclgnpnlekaa.Agg Go.Proofs.Ytebhclgnpnlekaa.Oct Go.Proofs.Ytebhclgnpnlekaa.Cat
open Go.Proofs.Ytebhclgnpnlekaa.Preds (okSet)
def flagN (b : Bool) : Int := if b = true then 1 else 0
theorem flag_calls (b : Bool) (w : World) : Calls Try.prog 113 #[.bool b] w fun r w' => r = .returned (.int .i64 (flagN b)) ∧ w = w' := by
  cases b
  all_goals
    go_enter Try.func113, Try.ntmps113
    go_wp2
    go_ret
    exact ⟨rfl, rfl⟩
theorem refFlag_calls (b : Bool) (w : World) : Calls Try.prog 118 #[.bool b] w fun r w' => r = .returned (.int .i64 (flagN b)) ∧ w = w' := by
  cases b
  all_goals
    go_enter Try.func118, Try.ntmps118
    go_wp2
    go_ret
    exact ⟨rfl, rfl⟩
theorem isC : IsStruct Try.prog 45 7 := ⟨by kernel_rfl, by kernel_rfl⟩
theorem zeroC : (Try.prog.info? 45).map (fun i => i.zero) = some (some (.agg (cmdArr ⟨0, 0, 0, 0, 0, 0, 0⟩))) := by kernel_rfl
theorem cmdArr_size (c : CmdD) : (cmdArr c).size = 7 := rfl
theorem cmdArr_one (c : CmdD) : (cmdArr c).all (·.oneCell') = true := Array.all_eq_true_iff_forall_mem.2 fun u hu => by
  simp only [cmdArr, List.mem_toArray, List.mem_cons, List.not_mem_nil, or_false] at hu
  rcases hu with rfl | rfl | rfl | rfl | rfl | rfl | rfl <;> rfl
/-- The numbers ahead of an entry's first value. -/
def headNums (e : ER) : List Int := nums e.c ++ [e.pr, e.lo, e.hi]
/-- An entry's bytes. -/
def entParts (e : ER) (lf la lw : List CmdD) : List (List Int) := [encs (headNums e), valueBytes e.f.t lf, encs [e.ab], valueBytes e.a.t la, encs [flagN e.fr, flagN e.dn], valueBytes e.v.t lw]
def entBytes (e : ER) (lf la lw : List CmdD) : List Int := (entParts e lf la lw).flatten
theorem okMust_value {v : VR} {l : List CmdD} {b : Bool} (h : okMust v l b = true) (hl : v.n = l.length) : valueOk v.t l = true := by
  unfold okMust at h
  cases b
  · rw [if_neg (by decide)] at h
    unfold okNone at h
    rw [decide_eq_true_eq] at h
    have : l = [] := List.length_eq_zero_iff.1 (by omega)
    rw [this, h.1]; decide
  · rw [if_pos rfl] at h
    have h1 := okStamp_iff.1 (full_stamp h)
    unfold okFull at h
    rw [Bool.and_eq_true] at h
    unfold valueOk
    rw [h.2, Bool.true_and]
    exact decide_eq_true ⟨by omega, by omega⟩
theorem okBallot_num {b : Int} (h : okBallot b = true) : numOk b = true := by
  unfold okBallot at h; rw [decide_eq_true_eq] at h; exact decide_eq_true ⟨h.1, by omega⟩
theorem times_num {lo hi : Int} (h : okTimes lo hi = true) : numOk lo = true ∧ numOk hi = true := by
  rcases okTimes_iff.1 h with ⟨rfl, rfl⟩ | ⟨a, b, _⟩
  · exact ⟨by decide, by decide⟩
  · have h1 := okStamp_iff.1 a; have h2 := okStamp_iff.1 b
    exact ⟨decide_eq_true ⟨by omega, by omega⟩, decide_eq_true ⟨by omega, by omega⟩⟩
theorem head_ok {e : ER} {lf la lw : List CmdD} (h : okE e lf la lw = true) : numsOk (headNums e) = true := by
  obtain ⟨h1, h2, h3, _⟩ := okE_iff.1 h
  have h4 := times_num h1
  have h5 := okCmd_nums h2
  unfold numsOk at h5 ⊢
  unfold headNums
  rw [List.all_append, h5, Bool.true_and]
  simp [okBallot_num h3, h4.1, h4.2]
theorem flags_ok (a b : Bool) : numsOk [flagN a, flagN b] = true := by cases a <;> cases b <;> decide
theorem flags_wf (a b : Bool) : ∀ x ∈ [flagN a, flagN b], (Lit.int .i64 x).wf = true := by cases a <;> cases b <;> decide
/-- A row of ints that stands behind one another. -/
theorem ints_row (W : World) (xs : List Int) (hm : xs.length ≤ maxLen) (hw : ∀ x ∈ xs, (Lit.int .i64 x).wf = true) (cs : Array Value) (hc : cs = (xs.map (Value.int .i64)).toArray) : Rep.Row (Rep.int .i64) (fun k => k = W.heap.size) (W.alloc (.cells cs 3)) (some ⟨W.heap.size, 0, none⟩) xs := by
  rw [hc]; exact Rep.row_lit W 3 (0, 0) xs hm hw
theorem own_lim {e : TypeId} {base c : Nat} {I : Nat → Prop} {w : World} {A : Option Addr} {xs : List Int} (h : Rep.Own (Rep.int .u8) e base I w (.slice A xs.length c) xs) : xs.length ≤ c ∧ (A = none → c = 0) := by
  obtain ⟨A1, c1, e1, h1, h2⟩ := h.len_form
  injection e1 with e1 e2 e3
  subst e1 e3
  exact ⟨h1, h2⟩
/-- Slices that stand behind one another. -/
theorem rows_row (W : World) (T : TypeId) (ss : List (Option Addr × Nat × List Int)) (hm : ss.length ≤ maxLen) (hs : ∀ x ∈ ss, (x.2.2.length ≤ x.2.1 ∧ (x.1 = none → x.2.1 = 0)) ∧ Rep.Row (Rep.int .u8) (fun _ => True) W x.1 x.2.2) (cs : Array Value) (hc : cs = (ss.map fun x => Value.slice x.1 x.2.2.length x.2.1).toArray) (ls : List (List Int)) (hl : ls = ss.map fun x => x.2.2) :
    Rep.Row bytesRep (fun _ => True) (W.alloc (.cells cs T)) (some ⟨W.heap.size, 0, none⟩) ls := by
  subst hc hl
  have hb : Below W.heap.size W (W.alloc (.cells (ss.map fun x => Value.slice x.1 x.2.2.length x.2.1).toArray T)) := (Below.refl _ _).alloc (Nat.le_refl _) _
  refine ⟨by simpa using hm, fun _ => ⟨⟨W.heap.size, 0, none⟩, rfl, trivial, by simp, fun i x hx => ?_⟩⟩
  rw [List.getElem?_map] at hx
  cases hq : ss[i]? with
  | none => rw [hq] at hx; simp at hx
  | some y =>
    rw [hq] at hx
    simp only [Option.map_some, Option.some.injEq] at hx
    subst hx
    obtain ⟨⟨h1, h2⟩, h3⟩ := hs y (List.mem_of_getElem? hq)
    refine ⟨[.slice y.1 y.2.2.length y.2.1], ⟨y.1, y.2.1, rfl, h1, h2, h3.below hb⟩, fun j u hu => ?_⟩
    have hj : j = 0 := by have := (List.getElem?_eq_some_iff.1 hu).1; simpa using this
    subst hj
    simp only [List.getElem?_cons_zero, Option.some.injEq] at hu
    subst hu
    have hcell : (W.alloc (.cells (ss.map fun x => Value.slice x.1 x.2.2.length x.2.1).toArray T)).heap[W.heap.size]? = some (.cells (ss.map fun x => Value.slice x.1 x.2.2.length x.2.1).toArray T (0, 0)) := Array.getElem?_push_size ..
    have hadd : (⟨W.heap.size, 0, none⟩ : Addr).add (i * bytesRep.sz + 0) = ⟨W.heap.size, i, none⟩ := by
      show Addr.add _ (i * 1 + 0) = _
      rw [Nat.mul_one, Nat.add_zero]; unfold Addr.add; split <;> simp_all
    rw [hadd, cell_of_row _ _ i _ T (0, 0) hcell]
    simp [hq]
theorem value_len {t : Int} {p : List CmdD} (h : valueOk t p = true) : (valueBytes t p).length ≤ 50000 := by
  rw [valueOk, Bool.and_eq_true] at h
  have h1 := enc_le h.2
  have h2 : cmdsOk p = true := by
    have h0 := h.1
    unfold okSet at h0
    simp only [Bool.and_eq_true] at h0
    unfold cmdsOk
    rw [h0.1.2, h0.2]; rfl
  rw [cmdsOk, Bool.and_eq_true] at h2
  have hl := of_decide_eq_true h2.2
  have h3 := encs_le (cmdsNums_ok h2.1 hl)
  unfold valueBytes cmdsBytes
  rw [List.length_append]
  have h4 : (cmdsNums p).length = 7 * p.length + 1 := by unfold cmdsNums; rw [List.length_cons, cmdNums_len]
  omega
set_option maxHeartbeats 8000000 in
set_option maxRecDepth 100000 in
theorem encode_right (e : ER) (lf la lw : List CmdD) (w : World) (h : EAt w e lf la lw) (hok : okE e lf la lw = true) :
    Calls Try.prog 55 #[.agg e.cells] w fun r w' => ∃ A1 c1, r = .returned (.tuple #[.slice A1 (entBytes e lf la lw).length c1, .int .i64 0]) ∧ Hold (Rep.Row (Rep.int .u8) (fun _ => True) w' A1 (entBytes e lf la lw)) ∧ Hold (Below w.heap.size w w') := by
  have ka := e.all
  have kc := cmdArr_all e.c
  have H := Hold.mk h
  have HOk := Hold.mk hok
  have HHead := Hold.mk (head_ok hok)
  obtain ⟨_, _, _, h4, h5, h6, h7⟩ := okE_iff.1 hok
  have HV5 := Hold.mk (okMust_value h5 h.f.len)
  have HV6 := Hold.mk (okMust_value h6 h.a.len)
  have HV7 := Hold.mk (okMust_value h7 h.v.len)
  have HAb : Hold (numsOk [e.ab] = true) := ⟨by simp [numsOk, okBallot_num h4]⟩
  have HHw : Hold (∀ x ∈ headNums e, (Lit.int .i64 x).wf = true) := ⟨by
    obtain ⟨⟨w0, w1, w2, w3, w4, w5, w6⟩, k1, k2, k3, _⟩ := h
    intro x hx
    simp only [headNums, nums, List.cons_append, List.nil_append, List.mem_cons, List.not_mem_nil, or_false] at hx
    rcases hx with rfl | rfl | rfl | rfl | rfl | rfl | rfl | rfl | rfl | rfl <;> assumption⟩
  clear h hok h4 h5 h6 h7
  obtain ⟨g, hg⟩ : ∃ g, w.heap.size = g := ⟨_, rfl⟩
  obtain ⟨W, hW⟩ : ∃ W, w.alloc (.cells e.cells 70) = W := ⟨_, rfl⟩
  have hB := one_new w e.cells 70
  rw [hW, hg] at hB
  have hc := hB.cell 0 rfl
  go_enter Try.func55, Try.ntmps55
  go_wp2_with (first
    | (refine wpl_load isE rfl hB 0 rfl (ER.size _) rfl ?_)
    | (refine wpl_loadF isC (V := cmdArr e.c) rfl hB 0 rfl rfl rfl rfl ?_)
    | (refine wpl_alloc zeroC hB rfl ?_; intro W2 g4 hB; simp only [List.cons_append, List.nil_append] at hB; have hc := hB.cell 0 rfl; have hd := hB.cell 1 rfl)
    | (refine wpl_store isC rfl rfl hB 1 rfl (cmdArr_size _) (cmdArr_size _) (cmdArr_one _) rfl ?_; intro W2 hB; simp only [List.set] at hB; have hc := hB.cell 0 rfl; have hd := hB.cell 1 rfl)
    | (go_at_call 50; with_reducible refine (right_calls e lf la lw _ true (H.out.below hB.below) HOk.out).mono ?_; rintro r w1 ⟨rfl, hb1⟩; replace hB := hB.step hb1; have hc := hB.cell 0 rfl; have fz := hB.fz 0 rfl))
  obtain ⟨w3, hw3⟩ : ∃ w3, W2 = w3 := ⟨_, rfl⟩
  have hR := ints_row W2 (headNums e) (by simp [headNums, nums, maxLen]) HHw.out _ rfl
  have HR := Hold.mk hR
  clear hR
  refine (put_calls (some ⟨W2.heap.size, 0, none⟩) 10 10 (headNums e) _ _ rfl HR.out (by simp [headNums, nums])).mono ?_
  rintro r w4 hs
  rw [PutSaid, if_pos HHead.out] at hs
  obtain ⟨A1, c1, rfl, O1, B1⟩ := hs
  replace hB := hB.step (((Below.refl _ _).alloc (Nat.le_refl _) _).trans (B1.out.mono (by simp)))
  have hc := hB.cell 0 rfl
  have L1 := Hold.mk (own_lim O1.out)
  have O1 := Hold.mk ((O1.out.row).move fun _ _ _ => ⟨trivial, rfl⟩ : Rep.Row (Rep.int .u8) (fun _ => True) _ A1 _)
  clear B1
  go_wp2_with fail
  refine (putValue_calls e.f.A e.f.c _ e.f.t lf _ _ H.out.f.len (H.out.f.row.below hB.below) H.out.f.wf).mono ?_
  rintro r w5 hs
  rw [BytesSaid, if_pos HV5.out] at hs
  obtain ⟨A2, c2, rfl, O2, B2⟩ := hs
  replace hB := hB.step B2.out
  have hc := hB.cell 0 rfl
  have O1 := Hold.mk (O1.out.below B2.out)
  have L2 := Hold.mk (own_lim O2.out)
  have O2 := Hold.mk ((O2.out.row).move fun _ _ _ => ⟨trivial, rfl⟩ : Rep.Row (Rep.int .u8) (fun _ => True) _ A2 _)
  clear B2
  go_wp2_with fail
  have HR2 := Hold.mk (ints_row w5 [e.ab] (by simp [maxLen]) (by simpa using H.out.ab) _ rfl)
  refine (put_calls (some ⟨w5.heap.size, 0, none⟩) 1 1 [e.ab] _ _ rfl HR2.out (by simp)).mono ?_
  rintro r w6 hs
  rw [PutSaid, if_pos HAb.out] at hs
  obtain ⟨A3, c3, rfl, O3, B3⟩ := hs
  have B3 := Hold.mk (((Below.refl w5.heap.size w5).alloc (Nat.le_refl _) (.cells #[.int .i64 e.ab] 3)).trans (B3.out.mono (by simp)))
  replace hB := hB.step B3.out
  have hc := hB.cell 0 rfl
  have O1 := Hold.mk (O1.out.below B3.out)
  have O2 := Hold.mk (O2.out.below B3.out)
  have L3 := Hold.mk (own_lim O3.out)
  have O3 := Hold.mk ((O3.out.row).move fun _ _ _ => ⟨trivial, rfl⟩ : Rep.Row (Rep.int .u8) (fun _ => True) _ A3 _)
  clear B3
  go_wp2_with fail
  refine (putValue_calls e.a.A e.a.c _ e.a.t la _ _ H.out.a.len (H.out.a.row.below hB.below) H.out.a.wf).mono ?_
  rintro r w7 hs
  rw [BytesSaid, if_pos HV6.out] at hs
  obtain ⟨A4, c4, rfl, O4, B4⟩ := hs
  replace hB := hB.step B4.out
  have hc := hB.cell 0 rfl
  have O1 := Hold.mk (O1.out.below B4.out)
  have O2 := Hold.mk (O2.out.below B4.out)
  have O3 := Hold.mk (O3.out.below B4.out)
  have L4 := Hold.mk (own_lim O4.out)
  have O4 := Hold.mk ((O4.out.row).move fun _ _ _ => ⟨trivial, rfl⟩ : Rep.Row (Rep.int .u8) (fun _ => True) _ A4 _)
  clear B4
  go_wp2_with fail
  have hB7 := hB
  replace hB := hB.drew
  have hS : Bs w _ [(g, 70, e.cells), (g4, 45, cmdArr e.c)] := hB
  have ka7 : e.cells[15]? = some (.bool e.fr) := rfl
  have ka8 : e.cells[16]? = some (.bool e.dn) := rfl
  refine rg_start (S := fun w' => Bs w w' [(g, 70, e.cells), (g4, 45, cmdArr e.c)]) 13 #[false, false, false, false, false, false, false, false, false, false, false, false, false] (by kernel_rfl) (by kernel_rfl) (by kernel_rfl) hS ?_
  refine rg_take 0 67 (.fieldAddr 70 (.tmp 1) 7) (.pointer (some ⟨g, 15, none⟩)) #[true, false, false, false, false, false, false, false, false, false, false, false, false] (by kernel_rfl) (by rfl) (by kernel_rfl) (by kernel_rfl) (by kernel_rfl) (fun _ _ _ h => h) (.inl ⟨by kernel_rfl, fun _ _ => by go_simp⟩) hS ?_
  simp only [List.setIfInBounds_toArray, List.set_cons_zero, List.set_cons_succ]
  refine rg_take 1 68 (.load 4 (.tmp 67)) (.bool e.fr) #[true, true, false, false, false, false, false, false, false, false, false, false, false] (by kernel_rfl) (by rfl) (by kernel_rfl) (by kernel_rfl) (by kernel_rfl) (fun _ _ _ h => h) (.inl ⟨by kernel_rfl, fun w' hw' => by have q := hw'.cell 0 rfl 15; rw [ka7] at q; go_simp⟩) hS ?_
  simp only [List.setIfInBounds_toArray, List.set_cons_zero, List.set_cons_succ]
  refine rg_take 3 70 (.fieldAddr 70 (.tmp 1) 8) (.pointer (some ⟨g, 16, none⟩)) #[true, true, false, true, false, false, false, false, false, false, false, false, false] (by kernel_rfl) (by rfl) (by kernel_rfl) (by kernel_rfl) (by kernel_rfl) (fun _ _ _ h => h) (.inl ⟨by kernel_rfl, fun _ _ => by go_simp⟩) hS ?_
  simp only [List.setIfInBounds_toArray, List.set_cons_zero, List.set_cons_succ]
  refine rg_take 4 71 (.load 4 (.tmp 70)) (.bool e.dn) #[true, true, false, true, true, false, false, false, false, false, false, false, false] (by kernel_rfl) (by rfl) (by kernel_rfl) (by kernel_rfl) (by kernel_rfl) (fun _ _ _ h => h) (.inl ⟨by kernel_rfl, fun w' hw' => by have q := hw'.cell 0 rfl 16; rw [ka8] at q; go_simp⟩) hS ?_
  simp only [List.setIfInBounds_toArray, List.set_cons_zero, List.set_cons_succ]
  refine rg_one 2 (some 69) (.call ⟨.value (.func 113), #[.tmp 68], _⟩) #[true, true, true, true, true, false, false, false, false, false, false, false, false] (by kernel_rfl) (by kernel_rfl) (by rfl) (by kernel_rfl) (fun K hK => ?_)
  go_wp2_with fail
  refine (flag_calls e.fr _).mono ?_
  rintro r w8 ⟨rfl, rfl⟩
  dsimp only
  refine hK.out _ _ hS ?_
  clear hK K
  refine rg_one 5 (some 72) (.call ⟨.value (.func 113), #[.tmp 71], _⟩) #[true, true, true, true, true, true, false, false, false, false, false, false, false] (by kernel_rfl) (by kernel_rfl) (by rfl) (by kernel_rfl) (fun K hK => ?_)
  go_wp2_with fail
  refine (flag_calls e.dn _).mono ?_
  rintro r w8 ⟨rfl, rfl⟩
  dsimp only
  refine hK.out _ _ hS ?_
  clear hK K
  refine rg_one 6 (some 73) (.buildSlice 22 2 #[(0, .tmp 69), (1, .tmp 72)]) #[true, true, true, true, true, true, true, false, false, false, false, false, false] (by kernel_rfl) (by kernel_rfl) (by rfl) (by kernel_rfl) (fun K hK => ?_)
  go_wp2_with fail
  have HR3 : Hold (Rep.Row (Rep.int .i64) (fun k => k = w7.heap.size) (w7.alloc (.cells #[.int .i64 (flagN e.fr), .int .i64 (flagN e.dn)] 3)).drew (some ⟨w7.heap.size, 0, none⟩) [flagN e.fr, flagN e.dn]) := ⟨(ints_row w7 [flagN e.fr, flagN e.dn] (by simp [maxLen]) (flags_wf _ _) _ rfl).drew⟩
  obtain ⟨w8, hw8⟩ : ∃ w8, (w7.alloc (.cells #[.int .i64 (flagN e.fr), .int .i64 (flagN e.dn)] 3)).drew = w8 := ⟨_, rfl⟩
  have hbel7 : Below w7.heap.size w7 w8 := by rw [← hw8]; exact ((Below.refl _ _).alloc (Nat.le_refl _) _).trans ⟨rfl, rfl, rfl, Nat.le_refl _, fun _ _ => rfl⟩
  have HBel7 := Hold.mk hbel7
  replace hS := hB7.step hbel7
  rw [hw8] at HR3 ⊢
  clear hw8 hbel7
  refine hK.out _ _ hS ?_
  clear hK K
  refine rg_one 7 (some 74) (.call ⟨.value (.func 14), #[.tmp 73], _⟩) #[true, true, true, true, true, true, true, true, false, false, false, false, false] (by kernel_rfl) (by kernel_rfl) (by rfl) (by kernel_rfl) (fun K hK => ?_)
  go_wp2_with fail
  refine (put_calls (some ⟨w7.heap.size, 0, none⟩) 2 2 [flagN e.fr, flagN e.dn] _ _ rfl HR3.out (by simp)).mono ?_
  rintro r w9 hs
  rw [PutSaid, if_pos (flags_ok _ _)] at hs
  obtain ⟨A5, c5, rfl, O5, B5⟩ := hs
  dsimp only
  replace hS := hS.step B5.out
  refine hK.out _ _ hS ?_
  clear hK K
  refine rg_take 8 66 (.move (.tmp 74)) (.tuple #[.slice A5 (encs [flagN e.fr, flagN e.dn]).length c5, .int .i64 0]) #[true, true, true, true, true, true, true, true, true, false, false, false, false] (by kernel_rfl) (by rfl) (by kernel_rfl) (by kernel_rfl) (by kernel_rfl) (fun _ _ _ h => h) (.inl ⟨by kernel_rfl, fun _ _ => by kernel_rfl⟩) hS ?_
  simp only [List.setIfInBounds_toArray, List.set_cons_zero, List.set_cons_succ]
  refine rg_take 9 75 (.extract (.tmp 66) 0) (.slice A5 (encs [flagN e.fr, flagN e.dn]).length c5) #[true, true, true, true, true, true, true, true, true, true, false, false, false] (by kernel_rfl) (by rfl) (by kernel_rfl) (by kernel_rfl) (by kernel_rfl) (fun _ _ _ h => h) (.inl ⟨by kernel_rfl, fun _ _ => by go_simp⟩) hS ?_
  simp only [List.setIfInBounds_toArray, List.set_cons_zero, List.set_cons_succ]
  refine rg_take 10 76 (.extract (.tmp 66) 1) (.int .i64 0) #[true, true, true, true, true, true, true, true, true, true, true, false, false] (by kernel_rfl) (by rfl) (by kernel_rfl) (by kernel_rfl) (by kernel_rfl) (fun _ _ _ h => h) (.inl ⟨by kernel_rfl, fun _ _ => by go_simp⟩) hS ?_
  simp only [List.setIfInBounds_toArray, List.set_cons_zero, List.set_cons_succ]
  refine rg_one 11 (some 13) (.assign (.tmp 75)) #[true, true, true, true, true, true, true, true, true, true, true, true, false] (by kernel_rfl) (by kernel_rfl) (by rfl) (by kernel_rfl) (fun K hK => ?_)
  go_wp2_with fail
  refine hK.out _ _ hS ?_
  clear hK K
  refine rg_one 12 (some 14) (.assign (.tmp 76)) #[true, true, true, true, true, true, true, true, true, true, true, true, true] (by kernel_rfl) (by kernel_rfl) (by rfl) (by kernel_rfl) (fun K hK => ?_)
  go_wp2_with fail
  refine hK.out _ _ hS ?_
  clear hK K
  refine wpAnyH_done (by kernel_rfl) ?_ _
  have B5 := Hold.mk (HBel7.out.trans (B5.out.mono HBel7.out.size))
  replace hB := hS
  have hc := hB.cell 0 rfl
  have O1 := Hold.mk (O1.out.below B5.out)
  have O2 := Hold.mk (O2.out.below B5.out)
  have O3 := Hold.mk (O3.out.below B5.out)
  have O4 := Hold.mk (O4.out.below B5.out)
  have L5 := Hold.mk (own_lim O5.out)
  have O5 := Hold.mk ((O5.out.row).move fun _ _ _ => ⟨trivial, rfl⟩ : Rep.Row (Rep.int .u8) (fun _ => True) _ A5 _)
  clear B5 HBel7 hB7
  go_wp2_with fail
  refine (putValue_calls e.v.A e.v.c _ e.v.t lw _ _ H.out.v.len (H.out.v.row.below hB.below) H.out.v.wf).mono ?_
  rintro r w10 hs
  rw [BytesSaid, if_pos HV7.out] at hs
  obtain ⟨A6, c6, rfl, O6, B6⟩ := hs
  replace hB := hB.step B6.out
  have O1 := Hold.mk (O1.out.below B6.out)
  have O2 := Hold.mk (O2.out.below B6.out)
  have O3 := Hold.mk (O3.out.below B6.out)
  have O4 := Hold.mk (O4.out.below B6.out)
  have O5 := Hold.mk (O5.out.below B6.out)
  have L6 := Hold.mk (own_lim O6.out)
  have O6 := Hold.mk ((O6.out.row).move fun _ _ _ => ⟨trivial, rfl⟩ : Rep.Row (Rep.int .u8) (fun _ => True) _ A6 _)
  clear B6
  go_wp2_with fail
  have HR6 : Hold (Rep.Row bytesRep (fun _ => True) (w10.alloc (.cells #[.slice A1 (encs (headNums e)).length c1, .slice A2 (valueBytes e.f.t lf).length c2, .slice A3 (encs [e.ab]).length c3, .slice A4 (valueBytes e.a.t la).length c4, .slice A5 (encs [flagN e.fr, flagN e.dn]).length c5, .slice A6 (valueBytes e.v.t lw).length c6] 25)) (some ⟨w10.heap.size, 0, none⟩) (entParts e lf la lw)) := ⟨rows_row w10 25 [(A1, c1, encs (headNums e)), (A2, c2, valueBytes e.f.t lf), (A3, c3, encs [e.ab]), (A4, c4, valueBytes e.a.t la), (A5, c5, encs [flagN e.fr, flagN e.dn]), (A6, c6, valueBytes e.v.t lw)] (by simp [maxLen]) (by
    intro x hx
    simp only [List.mem_cons, List.not_mem_nil, or_false] at hx
    rcases hx with rfl | rfl | rfl | rfl | rfl | rfl
    · exact ⟨L1.out, O1.out⟩
    · exact ⟨L2.out, O2.out⟩
    · exact ⟨L3.out, O3.out⟩
    · exact ⟨L4.out, O4.out⟩
    · exact ⟨L5.out, O5.out⟩
    · exact ⟨L6.out, O6.out⟩) _ rfl _ rfl⟩
  have hlen : (entParts e lf la lw).flatten.length ≤ 1000000000 := by
    have k1 := encs_le HHead.out
    have k2 := value_len HV5.out
    have k3 := encs_le HAb.out
    have k4 := value_len HV6.out
    have k5 := encs_le (flags_ok e.fr e.dn)
    have k6 := value_len HV7.out
    simp only [entParts, List.flatten_cons, List.flatten_nil, List.length_append, List.append_nil]
    simp only [headNums, nums, List.length_cons, List.length_nil, List.length_append] at k1 k3 k5
    simp only [headNums, nums]
    omega
  refine (concat_calls (some ⟨w10.heap.size, 0, none⟩) 6 6 (entParts e lf la lw) _ _ rfl HR6.out hlen).mono ?_
  rintro r w11 ⟨A7, c7, rfl, O7, B7⟩
  have hb7 : Below w10.heap.size w10 w11 := ((Below.refl _ _).alloc (Nat.le_refl _) _).trans (B7.out.mono (by simp))
  replace hB := hB.step hb7
  have O7 : Hold (Rep.Row (Rep.int .u8) (fun _ => True) w11 A7 (entBytes e lf la lw)) := ⟨O7.out.row.move fun _ _ _ => ⟨trivial, rfl⟩⟩
  go_wp2_with fail
  go_ret2
  exact ⟨A7, c7, by rw [entBytes, List.length_flatten]; rfl, O7, ⟨by first | exact hB.below | (rw [← hg]; exact hB.below)⟩⟩
set_option maxHeartbeats 8000000 in
set_option maxRecDepth 100000 in
theorem encode_wrong (e : ER) (lf la lw : List CmdD) (w : World) (h : EAt w e lf la lw) (hok : okE e lf la lw = false) :
    Calls Try.prog 55 #[.agg e.cells] w fun r w' => r = .returned (.tuple #[.slice none 0 0, .int .i64 1]) ∧ Below w.heap.size w w' := by
  have H := Hold.mk h
  have HOk := Hold.mk hok
  clear h hok
  obtain ⟨g, hg⟩ : ∃ g, w.heap.size = g := ⟨_, rfl⟩
  obtain ⟨W, hW⟩ : ∃ W, w.alloc (.cells e.cells 70) = W := ⟨_, rfl⟩
  have hB := one_new w e.cells 70
  rw [hW, hg] at hB
  go_enter Try.func55, Try.ntmps55
  go_wp2_with (first
    | (refine wpl_load isE rfl hB 0 rfl (ER.size _) rfl ?_)
    | (go_at_call 50; with_reducible refine (right_calls e lf la lw _ false (H.out.below hB.below) HOk.out).mono ?_; rintro r w1 ⟨rfl, hb1⟩; replace hB := hB.step hb1))
  go_ret2
  exact ⟨rfl, by first | exact hB.below | (rw [← hg]; exact hB.below)⟩
end Go.Proofs.Ytebhclgnpnlekaa.Ent
