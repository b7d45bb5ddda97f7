/- package order's Next, All, Waits, by their walks. No condition. -/
import Derived.Test.YtebhclgnpnlekaaOrdA
import Derived.Test.YtebhclgnpnlekaaPrS
namespace Go.Proofs.Ytebhclgnpnlekaa.Ord
open Go.RowKit Go.Proofs.Ytebhclgnpnlekaa.B Go.Proofs.Ytebhclgnpnlekaa.Cmd Go.Proofs.Ytebhclgnpnlekaa.Agg Go.Proofs.Ytebhclgnpnlekaa.Ent
open Go.Proofs.Ytebhclgnpnlekaa.Pr (CO arr arr_size arr_one isC zeroC IO info_i)
open Go.Proofs.Ytebhclgnpnlekaa.Rd (zeroCmd)
theorem all_le (l : List QE) (had : List Int) : (ids (allS l had)).length ≤ l.length := by rw [ids, List.length_map]; exact all_len l had
section
variable (A A' : Option Addr) (c c' n n' : Nat) (l : List QE) (had : List Int) (I J : Nat → Prop) (w : World) (hn : n = l.length) (hn' : n' = had.length) (h : Rep.Row qeRep I w A l) (h' : Rep.Row (Rep.int .i64) J w A' had) (hl : l.length ≤ 100000) (hh : had.length ≤ 100000)
include hn hn' h h' hl hh
set_option maxHeartbeats 4000000 in
set_option maxRecDepth 100000 in
theorem orderNext_calls : Calls Try.prog 64 #[.slice A n c, .slice A' n' c'] w fun r w' => r = .returned (.tuple #[.agg (arr (bestOf (nextS l had)).c), .bool (nextS l had).isSome]) ∧ Hold (Below w.heap.size w w') := by
  subst hn hn'
  obtain ⟨g, hg⟩ : ∃ g, w.heap.size = g := ⟨_, rfl⟩
  obtain ⟨W, hW⟩ : ∃ W, w.alloc (.cells (arr zeroCmd) 45) = W := ⟨_, rfl⟩
  have hB : Bs w W [(g, 45, arr zeroCmd)] := by
    have h1 := (Bs.nil w).alloc (arr zeroCmd) 45
    rw [hW] at h1
    simpa [hg] using h1
  have HO := Hold.mk (open_calls A A' c c' l had I J W (h.below hB.below) (h'.below hB.below) hl hh)
  have hn0 : nextS l had = upS l had (dd l) := rfl
  obtain ⟨x, hx⟩ : ∃ x, bestOf (nextS l had) = x := ⟨_, rfl⟩
  have HX := Hold.mk hx
  rw [hn0] at hx
  clear h h' hn0
  unfold arr zeroCmd at hW
  rw [HX.out]
  obtain ⟨k, hk⟩ : ∃ k, (nextS l had).isSome = k := ⟨_, rfl⟩
  rw [hk]
  have HK := Hold.mk hk
  clear hk
  go_enter Try.func64, Try.ntmps64
  go_wp2_with (first
    | (go_at_call 120; with_reducible refine HO.out.mono ?_; rintro r w1 ⟨B, mb, db, v, rfl, HQ⟩; replace hB := hB.step HQ.out.bel)
    | (go_at_call 121; with_reducible refine (next_calls _ HQ.out).mono ?_; rintro r w2 ⟨rfl, hb2⟩; rw [hx]; replace hB := hB.step hb2)
    | (with_reducible refine gateA 70 ?_; refine wpl_alloc zeroE hB rfl ?_; intro W3 g3 hB; simp only [List.cons_append, List.nil_append] at hB)
    | (with_reducible refine gateS 70 ?_; refine wpl_store (C' := x.cells) isE rfl rfl hB 1 rfl (ER.size _) (ER.size _) (ER.one _) rfl ?_; intro W4 hB; simp only [List.set] at hB)
    | (with_reducible refine gateL 45 ?_; refine wpl_loadF isC (V := arr x.c) rfl hB 1 rfl rfl rfl rfl ?_)
    | (with_reducible refine gateS 45 ?_; refine wpl_store (C' := arr x.c) isC rfl rfl hB 0 rfl (arr_size _) (arr_size _) (arr_one _) rfl ?_; intro W5 hB; simp only [List.set] at hB))
  exact bodyPost_ret (res_two rfl rfl (by exact congrArg Value.bool HK.out) isC hB 0 rfl (arr_size _)) rfl ⟨rfl, ⟨hB.below⟩⟩
set_option maxHeartbeats 4000000 in
theorem orderAll_calls : Calls Try.prog 66 #[.slice A n c, .slice A' n' c'] w fun r w' => ∃ v, r = .returned v ∧ Hold (CO w w' v (cmds (allS l had))) := by
  subst hn hn'
  have HO := Hold.mk (open_calls A A' c c' l had I J w h h' hl hh)
  clear h h'
  go_enter Try.func66, Try.ntmps66
  go_wp2_with (first
    | (go_at_call 120; with_reducible refine HO.out.mono ?_; rintro r w1 ⟨B, mb, db, v, rfl, HQ⟩)
    | (go_at_call 123; with_reducible refine (all_calls _ HQ.out hl hh).mono ?_; rintro r w2 ⟨out, rfl, HC, HQ2⟩))
  go_ret
  exact ⟨_, rfl, HC⟩
set_option maxHeartbeats 8000000 in
set_option maxRecDepth 100000 in
theorem orderWaits_calls : Calls Try.prog 68 #[.slice A n c, .slice A' n' c'] w fun r w' => ∃ v, r = .returned v ∧ Hold (IO w w' v (waitsS l had)) := by
  subst hn hn'
  have HO := Hold.mk (open_calls A A' c c' l had I J w h h' hl hh)
  have hal := all_le l had
  obtain ⟨G, hG⟩ : ∃ G, had ++ ids (allS l had) = G := ⟨_, rfl⟩
  have hGl : G.length ≤ 200000 := by rw [← hG, List.length_append]; omega
  have hw0 : waitsS l had = waitS l G (dd l) := by rw [← hG]; rfl
  rw [hw0]
  have hXl : (dd l).length ≤ 100000 := Nat.le_trans (dd_len l) hl
  have HGl := Hold.mk hGl
  obtain ⟨D, hD⟩ : ∃ D, dd l = D := ⟨_, rfl⟩
  rw [hD] at hXl ⊢
  have HD := Hold.mk hD
  clear h h' hw0 hal hGl hD
  go_enter Try.func68, Try.ntmps68
  go_upto_region 4 with (first
    | (go_at_call 120; with_reducible refine HO.out.mono ?_; rintro r w1 ⟨B, mb, db, v, rfl, HQ⟩)
    | (go_at_call 123; with_reducible refine (all_calls _ HQ.out hl hh).mono ?_; rintro r w2 ⟨out, rfl, HC, HQ2⟩))
  rw [hG] at HQ2
  rw [HD.out] at HQ2
  obtain ⟨VA, vc, rfl, _, _⟩ := HQ2.out.own.form
  obtain ⟨N, hN⟩ : ∃ N, w2.heap.size = N := ⟨_, rfl⟩
  have HN := Hold.mk HQ2.out.qn
  rw [hN] at HN
  have h0 : w.heap.size ≤ N := by rw [← hN]; exact HQ2.out.bel.size
  have HR := Hold.mk HQ2.out.own.own.row
  have hm := HR.out.len_le
  have f0 := HQ2.out.cells.1
  have HXl := Hold.mk hXl
  have HZ : Hold (N ≤ w2.heap.size) := ⟨by omega⟩
  have hbN : Below N w2 w2 := Below.refl _ _
  have HBN := Hold.mk hbN
  clear HC HQ HO hXl hN hbN
  go_wp2
  go_loopw [6, 19] (fun out s wr => ∃ i : Nat, i ≤ D.length ∧ s = .int .i64 (i : Int) ∧ Hold (Rep.Own (Rep.int .i64) 3 N nob wr out (waitS l G (D.take i))) ∧ Hold (Below N w2 wr)) (fun _ s _ => D.length - (intOf s).toNat)
  case atStart => exact ⟨0, by omega, rfl, ⟨Rep.Own.nil _ _ _ _ _⟩, HBN⟩
  case round =>
    obtain ⟨i, hi, rfl, HOw, HBr⟩ := hrel
    have HQr := Hold.mk (HQ2.out.belowN HN.out h0 HBr.out)
    by_cases hlt : i < D.length
    · have l1 : (i : Int) < (D.length : Int) := by omega
      obtain ⟨ad, p, rfl, hp, _, hQx', hF⟩ := row_qe HQr.out.own.own.row i hlt
      obtain ⟨e, he⟩ : ∃ e, D[i] = e := ⟨_, rfl⟩
      have hws := wait_snoc l G (D.take i) D[i]
      rw [← List.take_succ_eq_append_getElem hlt, he] at hws
      rw [he] at hQx' hF
      have hwl := wait_len l G (D.take i)
      rw [List.length_take] at hwl
      obtain ⟨P, hP⟩ : ∃ P, waitS l G (D.take i) = P := ⟨_, rfl⟩
      rw [hP] at HOw hws hwl
      obtain ⟨x, hx⟩ : ∃ x, e.er = x := ⟨_, rfl⟩
      have hQx : ∀ (j : Nat) (u : Value), x.cells[j]? = some u → wr.cell? (p.add j) = some u := hx ▸ hQx'
      obtain ⟨id, hid⟩ : ∃ id, x.c.id = id := ⟨_, rfl⟩
      obtain ⟨d, hd⟩ : ∃ d, x.dn = d := ⟨_, rfl⟩
      have HWi : Hold ((Lit.int .i64 id).wf = true) := ⟨by rw [← hid, ← hx]; exact hF.c.1⟩
      obtain ⟨m, hm3⟩ : ∃ m, ((G.count id : Nat) : Int) = m := ⟨_, rfl⟩
      have hz := count_zero G id
      rw [hm3] at hz
      have hws' : waitS l G (D.take (i + 1)) = if (d && decide (m = 0)) = true then P ++ [id] else P := by
        rw [hws, hz]
        simp only [QE.dn, QE.id, hx, hid, hd]
      have ka := x.all
      rw [hid, hd] at ka
      have HLn : Hold ((P.length + 1) * 8 ≤ 140737488355328) := ⟨by have := HXl.out; omega⟩
      have HBw := Bs.nil wr
      have hown := HOw.out.block_lt
      have HO2 : Hold (∀ k, u6.ownBlock = some k → N ≤ k) := ⟨fun k hk => (hown k hk).1⟩
      have HZr : Hold (N ≤ wr.heap.size) := ⟨Nat.le_trans HZ.out HBr.out.size⟩
      have HLk : Hold (∀ w', Below wr.heap.size wr w' → (Instr.lookup 161 (.map (some db)) (.int .i64 id) false).run Try.prog w' = .ok (.int .i64 m) w') := ⟨fun w' h => by rw [← hm3]; exact (HQr.out.below h).count id HWi.out⟩
      clear hQx' hws hz hm3 hF hd hid hx he hP hwl hown
      have HWs := Hold.mk hws'
      clear hws'
      go_upto_region 7 with (first
        | (with_reducible refine gateL 70 ?_; refine wpl_loadO isE rfl (ER.size x) hQx rfl ?_)
        | (with_reducible refine gateA 70 ?_; refine wpl_alloc zeroE HBw rfl ?_; intro W3 g3 hB; simp only [List.nil_append] at hB)
        | (with_reducible refine gateS 70 ?_; refine wpl_store (C' := x.cells) isE rfl rfl hB 0 rfl (ER.size _) (ER.size _) (ER.one _) rfl ?_; intro W4 hB; simp only [List.set] at hB))
      simp only [Act.put, List.setIfInBounds_toArray, List.set_cons_zero, List.set_cons_succ]
      have hc := hB.cell 0 rfl
      have f2 := (HQr.out.below hB.below).cells.2.2
      have fl : ∀ n, (Instr.lookup 161 (.map (some db)) (.int .i64 id) false).run Try.prog (W4.drewN n) = .ok (.int .i64 m) (W4.drewN n) := fun n => HLk.out _ (hB.below.trans ((below_drewN _ _).mono hB.below.size))
      have HB4 := Hold.mk hB.below
      clear hB
      cases d
      · go_quiet (fail)
        go_wp2
        exact ⟨⟨i + 1, by omega, by go_num, ⟨by rw [HWs.out]; exact (HOw.out.below HB4.out).drewN _⟩, ⟨HBr.out.trans ((HB4.out.trans ((below_drewN _ _).mono HB4.out.size)).mono HZr.out)⟩⟩, by simp [intOf]; omega⟩
      · by_cases h00 : m = 0
        · have hd0 := decide_eq_true h00
          have HO5 : Hold (∀ n, Rep.Own (Rep.int .i64) 3 N nob (W4.drewN n) u6 P) := ⟨fun n => (HOw.out.below HB4.out).drewN n⟩
          have HZ4 : Hold (∀ n, N ≤ (W4.drewN n).heap.size) := ⟨fun n => Nat.le_trans HZr.out HB4.out.size⟩
          go_quiet (fail)
          go_wp2_with (at_builtin; refine Rep.wp_push (Rep.int .i64) rfl (.tmp 36) (.tmp 40) 22 3 (.int .i64 0) 8 rfl Try.underlying22 info_i rfl (by decide) (by decide) N nob nob u6 P id [.int .i64 id] rfl rfl (HO5.out _) ⟨rfl, HWi.out⟩ (fun _ h _ => h.elim) (HZ4.out _) HLn.out ?_; intro A1 c1 w5 HG)
          have hb5 := HG.out.below HO2.out (HZ4.out _)
          have ho5 := HG.out.own
          rw [List.length_append, List.length_singleton] at ho5
          exact ⟨⟨i + 1, by omega, by go_num, ⟨by rw [HWs.out, h00]; exact ho5⟩, ⟨HBr.out.trans (((HB4.out.mono HZr.out).trans ((below_drewN _ _).mono (Nat.le_trans HZr.out HB4.out.size))).trans hb5)⟩⟩, by simp [intOf]; omega⟩
        · have hd0 := decide_eq_false h00
          go_quiet (fail)
          go_wp2
          exact ⟨⟨i + 1, by omega, by go_num, ⟨by rw [HWs.out]; simp only [h00, decide_false, Bool.and_false, Bool.false_eq_true, if_false]; exact (HOw.out.below HB4.out).drewN _⟩, ⟨HBr.out.trans ((HB4.out.trans ((below_drewN _ _).mono HB4.out.size)).mono HZr.out)⟩⟩, by simp [intOf]; omega⟩
    · obtain rfl : i = D.length := by omega
      go_wp2
      go_ret
      have ho := HOw.out
      rw [List.take_length] at ho
      exact ⟨_, rfl, ⟨⟨ho.lower h0, HQr.out.bel⟩⟩⟩
end
end Go.Proofs.Ytebhclgnpnlekaa.Ord
