/- The document's All and Waits of chapter 17, by their walks. No condition. -/
import Derived.Test.YtebhclgnpnlekaaOrdE
import Derived.Test.YtebhclgnpnlekaaOrdW
namespace Go.Proofs.Ytebhclgnpnlekaa.Ord
open Go.RowKit Go.Proofs.Ytebhclgnpnlekaa.B Go.Proofs.Ytebhclgnpnlekaa.Cmd Go.Proofs.Ytebhclgnpnlekaa.Agg Go.Proofs.Ytebhclgnpnlekaa.Ent
open Go.Proofs.Ytebhclgnpnlekaa.Pr (CO arr arr_size arr_one isC zeroC IO info_i)
theorem arr_pre (x : ER) (j : Nat) (v : Value) (h : (arr x.c)[j]? = some v) : x.cells[j]? = some v := by
  have hj : j < 7 := by have := (Array.getElem?_eq_some_iff.1 h).1; simpa [arr_size] using this
  rcases j with _ | _ | _ | _ | _ | _ | _ | j
  all_goals first | exact h | omega
section
variable {α : Type} {d : Rep α} {T : TypeId} {N : Nat} {w w1 : World} {v u : Value} {A1 : Option Addr} {c1 : Nat} {zs : List α}
/-- What one append leaves of another row. -/
theorem own_beside {β : Type} {d' : Rep β} {T' : TypeId} {ys : List β} (h : Rep.Own d' T' N nob w u ys) (G : Rep.Grown d T N nob w v w1 A1 c1 zs) (hne : ∀ k, v.ownBlock = some k → u.ownBlock ≠ some k) : Rep.Own d' T' N nob w1 u ys :=
  h.move (fun k hk => G.fr.block k (h.block_lt k hk).2 (fun e => hne k e hk)) (fun _ h _ _ => h.elim)
theorem apart_left {β : Type} {d' : Rep β} {T' : TypeId} {ys : List β} (h : Rep.Own d' T' N nob w u ys) (G : Rep.Grown d T N nob w v w1 A1 c1 zs) (hne : ∀ k, v.ownBlock = some k → u.ownBlock ≠ some k) : ∀ k, (Value.slice A1 zs.length c1).ownBlock = some k → u.ownBlock ≠ some k := by
  intro k hk hu
  rcases G.at_ with e | ⟨m, e, hm⟩
  · exact hne k (by rw [← e]; exact hk) hu
  · rw [e] at hk
    cases hk
    have := (h.block_lt _ hu).2
    omega
theorem apart_right {β : Type} {d' : Rep β} {T' : TypeId} {ys : List β} (h : Rep.Own d' T' N nob w u ys) (G : Rep.Grown d T N nob w v w1 A1 c1 zs) (hne : ∀ k, u.ownBlock = some k → v.ownBlock ≠ some k) : ∀ k, u.ownBlock = some k → (Value.slice A1 zs.length c1).ownBlock ≠ some k := by
  intro k hu hk
  rcases G.at_ with e | ⟨m, e, hm⟩
  · exact hne k hu (by rw [← e]; exact hk)
  · rw [e] at hk
    cases hk
    have := (h.block_lt _ hu).2
    omega
end
section
variable (A A' : Option Addr) (c c' n n' : Nat) (l : List QE) (had : List Int) (I J : Nat → Prop) (w : World) (hn : n = l.length) (hn' : n' = had.length) (h : Rep.Row qeRep I w A l) (h' : Rep.Row (Rep.int .i64) J w A' had) (hA' : A' = none → c' = 0) (hl : l.length ≤ 100000) (hh : had.length ≤ 100000)
include hn hn' h h' hA' hl hh
set_option maxHeartbeats 8000000 in
set_option maxRecDepth 100000 in
theorem refAll_calls : Calls Try.prog 67 #[.slice A n c, .slice A' n' c'] w fun r w' => ∃ v, r = .returned v ∧ Hold (CO w w' v (cmds (allS l had))) := by
  subst hn hn'
  have H := Hold.mk h
  have H' := Hold.mk h'
  have hm := h.len_le
  have HL := Hold.mk hl
  have HH := Hold.mk hh
  have HNil := Hold.mk hA'
  have HLn0 : Hold (had.length * 8 ≤ 140737488355328) := ⟨by omega⟩
  clear h h' hA'
  go_enter Try.func67, Try.ntmps67
  go_wp2_with (first
    | (at_builtin; refine Rep.wp_copy (Rep.int .i64) rfl (.tmp 8) (.tmp 9) 22 3 (.int .i64 0) 8 rfl Try.underlying22 info_i rfl (by decide) (by decide) J had A' _ c' rfl rfl rfl H'.out HNil.out HLn0.out ?_; intro A1 c1 w1 HO1 HC1 HB1; have HI1 : Hold (IO w w1 (.slice A1 had.length c1) had) := ⟨⟨HO1.out.flat nob (Rep.flat_int _), HB1.out⟩⟩)
    | (go_at_call 65; with_reducible refine (refNext_calls A A1 c c1 _ _ l had _ _ w1 rfl rfl (H.out.below HB1.out) HI1.out.own.row).mono ?_; rintro r w2 ⟨j, rfl, HAt, HB2⟩))
  have hi0 : had ++ ids [] = had := by simp [ids]
  have HI2 := Hold.mk (HI1.out.below HB2.out)
  have HC2 : Hold (CO w w2 (.slice none 0 0) []) := ⟨⟨Rep.Own.nil _ _ _ _ _, HI2.out.bel⟩⟩
  clear HO1 HC1 HB1 HI1
  go_loopw [5, 6, 7] (fun out hs js wr => ∃ os : List QE, ∃ nx : Option QE, ∃ i : Int, Hold (Run l had os) ∧ Hold (nextS l (had ++ ids os) = nx) ∧ Hold (At l nx i) ∧ js = .int .i64 i ∧ lenOf out = os.length ∧ ∃ A2 c2 P, hs = .slice A2 P.length c2 ∧ Hold (had ++ ids os = P) ∧ Hold (CO w wr out (cmds os)) ∧ Hold (IO w wr hs P) ∧ Hold (∀ k, out.ownBlock = some k → hs.ownBlock ≠ some k)) (fun out _ _ _ => l.length + 1 - lenOf out)
  case atStart => exact ⟨[], nextS l had, j, ⟨Run.start l had⟩, ⟨by rw [hi0]⟩, HAt, rfl, rfl, A1, c1, had, rfl, ⟨hi0⟩, HC2, HI2, ⟨fun k hk => by simp [Value.ownBlock] at hk⟩⟩
  case round =>
    obtain ⟨os, nx, i, HRun, HNx, HAt2, rfl, hlen, A2, c2, P, rfl, HP, HC, HI, HNe⟩ := hrel
    rcases HAt2.out with ⟨rfl, rfl⟩ | ⟨k, hk, rfl, rfl⟩
    · have HE : Hold (os = allS l had) := ⟨HRun.out.stop HNx.out⟩
      go_wp2
      go_ret
      exact ⟨_, rfl, by rw [← HE.out]; exact HC⟩
    · obtain ⟨hst, hlt⟩ := HRun.out.step HNx.out
      have HSt := Hold.mk hst
      have l1 : (k : Int) < (l.length : Int) := by omega
      have l2 : (0 : Int) ≤ (k : Int) := by omega
      obtain ⟨ad, p, rfl, hp, hpl, hQ0, hF⟩ := row_qe H.out k hk
      obtain ⟨e, he⟩ : ∃ e, l[k] = e := ⟨_, rfl⟩
      rw [he] at hQ0 hF HSt
      have HPl : Hold (∀ W, Below w.heap.size w W → QAt W p e) := ⟨fun W hW => hQ0.below hW hpl⟩
      obtain ⟨x, hx⟩ : ∃ x, e.er = x := ⟨_, rfl⟩
      have HPc : Hold (∀ W, Below w.heap.size w W → ∀ (j : Nat) (v : Value), (arr x.c)[j]? = some v → W.cell? (p.add j) = some v) := ⟨fun W hW j v hv => HPl.out W hW j v (by rw [hx]; exact arr_pre x j v hv)⟩
      obtain ⟨id, hid⟩ : ∃ id, x.c.id = id := ⟨_, rfl⟩
      have HPi : Hold (∀ W, Below w.heap.size w W → W.cell? p = some (.int .i64 id)) := ⟨fun W hW => by rw [← hid, ← hx]; exact (HPl.out W hW).fld.1⟩
      have HW : Hold x.c.wf := ⟨hx ▸ hF.c⟩
      have HWi : Hold ((Lit.int .i64 id).wf = true) := ⟨hid ▸ HW.out.1⟩
      have hPl : P.length ≤ 200000 := by
        rw [← HP.out, List.length_append, ids, List.length_map]
        have := HL.out
        have := HH.out
        omega
      have HLn1 : Hold (((cmds os).length + 1) * 56 ≤ 140737488355328) := ⟨by rw [cmds, List.length_map]; have := HL.out; omega⟩
      have HLn2 : Hold ((P.length + 1) * 8 ≤ 140737488355328) := ⟨by omega⟩
      have HCs : Hold (cmds (os ++ [e]) = cmds os ++ [x.c]) := ⟨by rw [cmds_snoc, hx]⟩
      have HCl : Hold ((cmds os).length = os.length) := ⟨by simp [cmds]⟩
      have HPn : Hold (had ++ ids (os ++ [e]) = P ++ [id]) := ⟨by rw [ids_snoc, ← List.append_assoc, HP.out, ← hid, ← hx]⟩
      have HCc := Hold.mk HPc.out
      have hpc := HPc.out _ HI.out.bel
      clear hQ0 hF hst hx hid he HPl hpl
      go_wp2_with (first
        | (with_reducible refine gateL 45 ?_; refine wpl_loadO isC rfl (arr_size x.c) hpc rfl ?_)
        | (at_builtin; refine Rep.wp_push cmdRep rfl (.tmp 16) (.tmp 22) 23 45 (.agg #[.int .i64 0, .int .i64 0, .int .i64 0, .int .i64 0, .int .i64 0, .int .i64 0, .int .i64 0]) 56 rfl Try.underlying23 info_cmd Rd.cmd_zs Rd.cmd_sz0 (by decide) w.heap.size nob nob u5 (cmds os) x.c [.int .i64 x.c.id, .int .i64 x.c.kind, .int .i64 x.c.sym, .int .i64 x.c.tgt, .int .i64 x.c.side, .int .i64 x.c.price, .int .i64 x.c.qty] rfl rfl HC.out.own ⟨rfl, HW.out⟩ (fun _ h _ => h.elim) HC.out.bel.size HLn1.out ?_; intro A3 c3 w3 HG3; have HO3 := Hold.mk (HG3.out.own); have HN3 := Hold.mk (apart_left HI.out.own HG3.out HNe.out); rw [List.length_append, List.length_singleton] at HO3 HN3; have HI3 := Hold.mk (own_beside HI.out.own HG3.out HNe.out); have HB3 := Hold.mk (HC.out.bel.trans (HG3.out.below (fun k hk => (HC.out.own.block_lt k hk).1) HC.out.bel.size)); have c0 := HPi.out _ HB3.out)
        | (at_builtin; refine Rep.wp_push (Rep.int .i64) rfl (.tmp 24) (.tmp 31) 22 3 (.int .i64 0) 8 rfl Try.underlying22 info_i rfl (by decide) (by decide) w.heap.size nob nob _ P id [.int .i64 id] rfl rfl HI3.out ⟨rfl, HWi.out⟩ (fun _ h _ => h.elim) HB3.out.size HLn2.out ?_; intro A4 c4 w4 HG4; have HI4 := Hold.mk HG4.out.own; have HN4 := Hold.mk (apart_right HO3.out HG4.out HN3.out); rw [List.length_append, List.length_singleton] at HI4 HN4; have HO4 := Hold.mk (own_beside HO3.out HG4.out (fun k h1 h2 => HN3.out k h2 h1)); have HB4 := Hold.mk (HB3.out.trans (HG4.out.below (fun k hk => (HI3.out.block_lt k hk).1) HB3.out.size)))
        | (go_at_call 65; with_reducible refine (refNext_calls (some ad) A4 c c4 _ _ l (P ++ [id]) _ _ w4 rfl (by simp) (H.out.below HB4.out) HG4.out.own.row).mono ?_; rintro r w5 ⟨j5, rfl, HAt5, HB5⟩))
      have ho5 := HO4.out.below HB5.out
      rw [← HCs.out] at ho5
      have hi5 : Rep.Own (Rep.int .i64) 3 w.heap.size nob w5 (.slice A4 (P ++ [id]).length c4) (P ++ [id]) := HG4.out.own.below HB5.out
      have hb5 : Below w.heap.size w w5 := HB4.out.trans (HB5.out.mono HB4.out.size)
      have hs : (P ++ [id]).length = P.length + 1 := by simp
      rw [← hs] at HN4 ⊢
      exact ⟨⟨os ++ [e], nextS l (P ++ [id]), j5, HSt, ⟨by rw [HPn.out]⟩, HAt5, rfl, by simp [lenOf, HCl.out], A4, c4, P ++ [id], rfl, HPn, ⟨⟨ho5, hb5⟩⟩, ⟨⟨hi5, hb5⟩⟩, HN4⟩, by rw [hlen]; simp only [lenOf, HCl.out]; omega⟩
set_option maxHeartbeats 8000000 in
set_option maxRecDepth 100000 in
theorem refWaits_calls : Calls Try.prog 69 #[.slice A n c, .slice A' n' c'] w fun r w' => ∃ v, r = .returned v ∧ Hold (IO w w' v (waitsS l had)) := by
  subst hn hn'
  have H := Hold.mk h
  have H' := Hold.mk h'
  have hm := h.len_le
  have HL := Hold.mk hl
  have HH := Hold.mk hh
  have HNil := Hold.mk hA'
  have HLn0 : Hold (had.length * 8 ≤ 140737488355328) := ⟨by omega⟩
  obtain ⟨T, hT⟩ : ∃ T, cmds (allS l had) = T := ⟨_, rfl⟩
  have hTl : T.length ≤ 100000 := by rw [← hT, cmds, List.length_map]; have := all_len l had; omega
  have hTi : T.map (·.id) = ids (allS l had) := by rw [← hT]; simp [cmds, ids]
  have HT := Hold.mk hT
  have HTi := Hold.mk hTi
  obtain ⟨G, hG⟩ : ∃ G, had ++ T.map (·.id) = G := ⟨_, rfl⟩
  have hGl : G.length ≤ 200000 := by rw [← hG, List.length_append, List.length_map]; omega
  have HG := Hold.mk hG
  have hw0 : waitsS l had = waitS l G (dd l) := by rw [← hG, hTi]; rfl
  rw [hw0]
  have HWell : Hold (∀ i (hi : i < T.length), (Lit.int .i64 (T[i]).id).wf = true) := ⟨by
    subst hT
    intro i hi
    have hi' : i < (allS l had).length := by simpa [cmds] using hi
    have e1 : (cmds (allS l had))[i] = ((allS l had)[i]).er.c := by simp [cmds]
    rw [e1]
    have hmem : ∀ n h, ∀ e ∈ comes l n h, e ∈ l := by
      intro n
      induction n with
      | zero => intro h e he; simp [comes] at he
      | succ n ih =>
        intro h e he
        rw [comes] at he
        split at he
        · simp at he
        · rename_i e1 h1
          rcases List.mem_cons.1 he with rfl | he
          · exact (next_some h1).1
          · exact ih _ e he
    obtain ⟨j, hj, hej⟩ := List.getElem_of_mem (hmem _ _ _ (List.getElem_mem hi'))
    obtain ⟨_, _, _, _, _, _, hF⟩ := row_qe h j hj
    rw [← hej]
    exact hF.c.1⟩
  clear h h' hA' hT hTi hG hw0
  go_enter Try.func69, Try.ntmps69
  go_wp2_with (first
    | (at_builtin; refine Rep.wp_copy (Rep.int .i64) rfl (.tmp 11) (.tmp 12) 22 3 (.int .i64 0) 8 rfl Try.underlying22 info_i rfl (by decide) (by decide) J had A' _ c' rfl rfl rfl H'.out HNil.out HLn0.out ?_; intro A1 c1 w1 HO1 HC1 HB1; have HI1 : Hold (IO w w1 (.slice A1 had.length c1) had) := ⟨⟨HO1.out.flat nob (Rep.flat_int _), HB1.out⟩⟩)
    | (go_at_call 67; with_reducible refine (refAll_calls A A' c c' _ _ l had I J w1 rfl rfl (H.out.below HB1.out) (H'.out.below HB1.out) HNil.out HL.out HH.out).mono ?_; rintro r w2 ⟨vt, rfl, HC2⟩; rw [HT.out] at HC2; obtain ⟨A6, c6, rfl, _, _⟩ := HC2.out.form))
  have hapart : ∀ k, (Value.slice A1 had.length c1).ownBlock = some k → (Value.slice A6 T.length c6).ownBlock ≠ some k := fun k hk h6 => by
    have h1 := (HI1.out.own.block_lt k hk).2
    have h2 := (HC2.out.own.block_lt k h6).1
    omega
  have HT2 : Hold (Rep.Own cmdRep 45 w.heap.size nob w2 (.slice A6 T.length c6) T) := ⟨HC2.out.own.lower HB1.out.size⟩
  have HI2 : Hold (IO w w2 (.slice A1 had.length c1) had) := ⟨HI1.out.below HC2.out.bel⟩
  have hmT := HT2.out.row.len_le
  have HAp := Hold.mk hapart
  clear HO1 HC1 HB1 HI1 hapart HC2
  go_loopw [5, 7] (fun hs s wr => ∃ i : Nat, i ≤ T.length ∧ s = .int .i64 (i : Int) ∧ ∃ A2 c2 P, hs = .slice A2 P.length c2 ∧ Hold (had ++ (T.take i).map (·.id) = P) ∧ Hold (Rep.Own cmdRep 45 w.heap.size nob wr (.slice A6 T.length c6) T) ∧ Hold (IO w wr hs P) ∧ Hold (∀ k, hs.ownBlock = some k → (Value.slice A6 T.length c6).ownBlock ≠ some k)) (fun _ s _ => T.length - (intOf s).toNat)
  case atStart => exact ⟨0, by omega, rfl, A1, c1, had, rfl, ⟨by simp⟩, HT2, HI2, HAp⟩
  case round =>
    obtain ⟨i, hi, rfl, A2, c2, P, rfl, HP, HTr, HI, HNe⟩ := hrel
    by_cases hlt : i < T.length
    · have l1 : (i : Int) < (T.length : Int) := by omega
      have hwid := HWell.out i hlt
      have hTt : T.take (i + 1) = T.take i ++ [T[i]] := List.take_succ_eq_append_getElem hlt
      have hrow := row_cmd HTr.out.row i hlt
      obtain ⟨id, hid⟩ : ∃ id, T[i].id = id := ⟨_, rfl⟩
      obtain ⟨ad, p, rfl, hp, _, ⟨c0, _⟩⟩ := hrow
      rw [hid] at c0 hwid
      have HPn : Hold (had ++ (T.take (i + 1)).map (·.id) = P ++ [id]) := ⟨by rw [hTt, List.map_append, ← List.append_assoc, HP.out]; simp [hid]⟩
      have hPl : P.length ≤ 200000 := by
        rw [← HP.out, List.length_append, List.length_map, List.length_take]
        have := HH.out
        omega
      have HLn2 : Hold ((P.length + 1) * 8 ≤ 140737488355328) := ⟨by omega⟩
      have HWi := Hold.mk hwid
      clear hTt hid hwid
      go_wp2_with (at_builtin; refine Rep.wp_push (Rep.int .i64) rfl (.tmp 23) (.tmp 29) 22 3 (.int .i64 0) 8 rfl Try.underlying22 info_i rfl (by decide) (by decide) w.heap.size nob nob _ P id [.int .i64 id] rfl rfl HI.out.own ⟨rfl, HWi.out⟩ (fun _ h _ => h.elim) HI.out.bel.size HLn2.out ?_; intro A4 c4 w4 HG4)
      have hs : (P ++ [id]).length = P.length + 1 := by simp
      have hb4 : Below w.heap.size w w4 := HI.out.bel.trans (HG4.out.below (fun k hk => (HI.out.own.block_lt k hk).1) HI.out.bel.size)
      rw [← hs]
      exact ⟨⟨i + 1, by omega, by go_num, A4, c4, P ++ [id], rfl, HPn, ⟨own_beside HTr.out HG4.out HNe.out⟩, ⟨⟨HG4.out.own, hb4⟩⟩, ⟨apart_left HTr.out HG4.out HNe.out⟩⟩, by simp [intOf]; omega⟩
    · obtain rfl : i = T.length := by omega
      have hPG : P = G := by rw [← HP.out, List.take_length]; exact HG.out
      subst hPG
      have HI0 := HI
      have hmG := HI.out.own.row.len_le
      have HNl : Hold (IO w wr (.slice none 0 0) []) := ⟨⟨Rep.Own.nil _ _ _ _ _, HI.out.bel⟩⟩
      have HHo : Hold (Rep.Own (Rep.int .i64) 3 w.heap.size nob wr (.slice A2 P.length c2) P) := ⟨HI.out.own⟩
      clear HI0 HTr HNe HT2 HI2 HAp
      go_wp2
      go_loopw [8, 9] (fun out s w9 => ∃ i : Nat, i ≤ l.length ∧ s = .int .i64 (i : Int) ∧ Hold (IO w w9 out (waitS l P (dd (l.take i)))) ∧ Hold (Rep.Own (Rep.int .i64) 3 w.heap.size nob w9 (.slice A2 P.length c2) P) ∧ Hold (∀ k, out.ownBlock = some k → (Value.slice A2 P.length c2).ownBlock ≠ some k)) (fun _ s _ => l.length - (intOf s).toNat)
      case atStart => exact ⟨0, by omega, rfl, HNl, HHo, ⟨fun k hk => by simp [Value.ownBlock] at hk⟩⟩
      case round =>
        obtain ⟨i, hi, rfl, HO, HHr, HNe⟩ := hrel
        by_cases hlt : i < l.length
        · have l1 : (i : Int) < (l.length : Int) := by omega
          obtain ⟨ad, p, rfl, hp, hpl, hQ0, hF⟩ := row_qe H.out i hlt
          have hws := wait_take_succ l P i hlt
          obtain ⟨e, he⟩ : ∃ e, l[i] = e := ⟨_, rfl⟩
          rw [he] at hQ0 hF hws
          have hfl := (hQ0.below HO.out.bel hpl).fld
          have c0 := hfl.1
          have c16 := hfl.2.1
          have hwl := wait_len l P (dd (l.take i))
          have hdl := dd_len (l.take i)
          rw [List.length_take] at hdl
          obtain ⟨U, hU⟩ : ∃ U, waitS l P (dd (l.take i)) = U := ⟨_, rfl⟩
          rw [hU] at HO hws hwl
          obtain ⟨x, hx⟩ : ∃ x, e.er = x := ⟨_, rfl⟩
          rw [hx] at c0 c16
          obtain ⟨id, hid⟩ : ∃ id, x.c.id = id := ⟨_, rfl⟩
          obtain ⟨d, hd⟩ : ∃ d, x.dn = d := ⟨_, rfl⟩
          rw [hid] at c0
          rw [hd] at c16
          have HWi : Hold ((Lit.int .i64 id).wf = true) := ⟨by rw [← hid, ← hx]; exact hF.c.1⟩
          obtain ⟨d2, h2⟩ : ∃ d2, P.contains id = d2 := ⟨_, rfl⟩
          obtain ⟨d3, h3⟩ : ∃ d3, findI l id = d3 := ⟨_, rfl⟩
          have HW2 : Hold (waitS l P (dd (l.take (i + 1))) = if (d && !d2 && (d3 == (i : Int))) = true then U ++ [id] else U) := ⟨by
            rw [hws]
            simp only [QE.dn, QE.id, hx, hid, hd, h2, h3]⟩
          have HH2 := Hold.mk h2
          have HH3 := Hold.mk h3
          have HLn2 : Hold ((U.length + 1) * 8 ≤ 140737488355328) := ⟨by have := HL.out; omega⟩
          clear hfl hQ0 hF hws hwl hdl hU hx hid hd h2 h3 he
          cases d
          · go_wp2_with (go_at_call 124; with_reducible refine (has_calls A2 c2 _ P id _ wr rfl HHr.out.row d2 HH2.out).mono ?_; rintro r w1 ⟨rfl, rfl⟩)
            exact ⟨⟨i + 1, by omega, by go_num, by rw [HW2.out]; exact HO, HHr, HNe⟩, by simp [intOf]; omega⟩
          · cases d2
            · by_cases hf : d3 = (i : Int)
              · subst hf
                go_wp2_with (first
                  | (go_at_call 124; with_reducible refine (has_calls A2 c2 _ P id _ wr rfl HHr.out.row false HH2.out).mono ?_; rintro r w1 ⟨rfl, rfl⟩)
                  | (go_at_call 125; with_reducible refine (find_calls (some ad) c _ l id _ wr rfl (H.out.below HO.out.bel) _ HH3.out).mono ?_; rintro r w1 ⟨rfl, rfl⟩)
                  | (at_builtin; refine Rep.wp_push (Rep.int .i64) rfl (.tmp 66) (.tmp 73) 22 3 (.int .i64 0) 8 rfl Try.underlying22 info_i rfl (by decide) (by decide) w.heap.size nob nob u8 U id [.int .i64 id] rfl rfl HO.out.own ⟨rfl, HWi.out⟩ (fun _ h _ => h.elim) HO.out.bel.size HLn2.out ?_; intro A4 c4 w4 HG4))
                have hs : (U ++ [id]).length = U.length + 1 := by simp
                have hb4 : Below w.heap.size w w4 := HO.out.bel.trans (HG4.out.below (fun k hk => (HO.out.own.block_lt k hk).1) HO.out.bel.size)
                rw [← hs]
                exact ⟨⟨i + 1, by omega, by go_num, by rw [HW2.out]; simp only [Bool.not_false, Bool.and_self, beq_self_eq_true, if_true]; exact ⟨⟨HG4.out.own, hb4⟩⟩, ⟨own_beside HHr.out HG4.out HNe.out⟩, ⟨apart_left HHr.out HG4.out HNe.out⟩⟩, by simp [intOf]; omega⟩
              · have hfb : (d3 == (i : Int)) = false := by simpa using hf
                have hfd := decide_eq_false hf
                go_wp2_with (first
                  | (go_at_call 124; with_reducible refine (has_calls A2 c2 _ P id _ wr rfl HHr.out.row false HH2.out).mono ?_; rintro r w1 ⟨rfl, rfl⟩)
                  | (go_at_call 125; with_reducible refine (find_calls (some ad) c _ l id _ wr rfl (H.out.below HO.out.bel) _ HH3.out).mono ?_; rintro r w1 ⟨rfl, rfl⟩))
                exact ⟨⟨i + 1, by omega, by go_num, by rw [HW2.out, hfb]; exact HO, HHr, HNe⟩, by simp [intOf]; omega⟩
            · go_wp2_with (go_at_call 124; with_reducible refine (has_calls A2 c2 _ P id _ wr rfl HHr.out.row true HH2.out).mono ?_; rintro r w1 ⟨rfl, rfl⟩)
              exact ⟨⟨i + 1, by omega, by go_num, by rw [HW2.out]; exact HO, HHr, HNe⟩, by simp [intOf]; omega⟩
        · obtain rfl : i = l.length := by omega
          rw [List.take_length] at HO
          go_wp2
          go_ret
          exact ⟨_, rfl, HO⟩
end
end Go.Proofs.Ytebhclgnpnlekaa.Ord
