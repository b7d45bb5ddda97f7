/- Law 17's entries, by its walk. No condition. -/
import Derived.Test.YtebhclgnpnlekaaTimO
namespace Go.Proofs.Ytebhclgnpnlekaa.Ord
open Go.RowKit Go.Proofs.Ytebhclgnpnlekaa.B Go.Proofs.Ytebhclgnpnlekaa.Cmd Go.Proofs.Ytebhclgnpnlekaa.Agg Go.Proofs.Ytebhclgnpnlekaa.Ent
open Go.Proofs.Ytebhclgnpnlekaa.Pr (CO arr arr_size arr_one isC zeroC IO info_i wp_pushC)
theorem wf_i64 {n : Int} (h0 : -9223372036854775808 ≤ n) (h1 : n ≤ 9223372036854775807) : (Lit.int .i64 n).wf = true := by
  simp only [Lit.wf, IntKind.min, IntKind.max, IntKind.signed, IntKind.bits]
  simp
  omega
theorem wf_made (i : Nat) (s : Int) (hi : (i : Int) ≤ 30) (h0 : 0 ≤ s) (h1 : s < 256) : CmdD.wf ⟨16 * ((i : Int) + 1), 1, s % 4, 16, 0, 0, 0⟩ := by
  refine ⟨?_, ?_, ?_, ?_, ?_, ?_, ?_⟩
  · exact wf_i64 (n := 16 * ((i : Int) + 1)) (by omega) (by omega)
  · exact wf_i64 (n := 1) (by omega) (by omega)
  · exact wf_i64 (n := s % 4) (by omega) (by omega)
  · exact wf_i64 (n := 16) (by omega) (by omega)
  · exact wf_i64 (n := 0) (by omega) (by omega)
  · exact wf_i64 (n := 0) (by omega) (by omega)
  · exact wf_i64 (n := 0) (by omega) (by omega)
def cmdI (l : List ItemD) (i : Nat) : CmdD := ⟨16 * ((i : Int) + 1), 1, (l.getD i (0, 0, ())).1 % 4, 16, 0, 0, 0⟩
theorem cell_blk {w w' : World} {b o : Nat} (h : w'.heap[b]? = w.heap[b]?) : w'.cell? ⟨b, o, none⟩ = w.cell? ⟨b, o, none⟩ := World.cell?_of_block (w := w) h
def tmI (l : List ItemD) (i : Nat) : Int := (l.getD i (0, 0, ())).2.1
/-- Of the items ahead of k: those that are predecessors of the one at i. -/
structure PsUpto (l : List ItemD) (i k : Nat) (ps : List CmdD) : Prop where
  len : ps.length ≤ k
  mem : ∀ c ∈ ps, ∃ j : Nat, j < k ∧ j ≠ i ∧ (cmdI l j).sym = (cmdI l i).sym ∧ c = cmdI l j
  low : ∀ j : Nat, j < k → j ≠ i → (cmdI l j).sym = (cmdI l i).sym → tmI l j < tmI l i → cmdI l j ∈ ps
theorem PsUpto.nil (l : List ItemD) (i : Nat) : PsUpto l i 0 [] := ⟨by simp, by simp, fun j hj => by omega⟩
theorem PsUpto.skip {l : List ItemD} {i k : Nat} {ps : List CmdD} (h : PsUpto l i k ps) (hs : k ≠ i → (cmdI l k).sym = (cmdI l i).sym → ¬ tmI l k < tmI l i) : PsUpto l i (k + 1) ps :=
  ⟨by have := h.len; omega, fun c hc => by obtain ⟨j, h1, h2⟩ := h.mem c hc; exact ⟨j, by omega, h2⟩, fun j hj h1 h2 h3 => by
    by_cases e : j = k
    · subst e; exact absurd h3 (hs h1 h2)
    · exact h.low j (by omega) h1 h2 h3⟩
theorem PsUpto.push {l : List ItemD} {i k : Nat} {ps : List CmdD} (h : PsUpto l i k ps) (h1 : k ≠ i) (h2 : (cmdI l k).sym = (cmdI l i).sym) : PsUpto l i (k + 1) (ps ++ [cmdI l k]) :=
  ⟨by have := h.len; simp; omega, fun c hc => by
    rcases List.mem_append.1 hc with hc | hc
    · obtain ⟨j, g1, g2⟩ := h.mem c hc; exact ⟨j, by omega, g2⟩
    · exact ⟨k, by omega, h1, h2, List.mem_singleton.1 hc⟩, fun j hj g1 g2 g3 => by
    by_cases e : j = k
    · subst e; simp
    · exact List.mem_append_left _ (h.low j (by omega) g1 g2 g3)⟩
/-- An entry, as it is made of an item. -/
structure ItemOk (l : List ItemD) (k : Nat) (e : QE) : Prop where
  c : e.er.c = cmdI l k
  dn : e.er.dn = true
  t : e.er.v.t = 16 * (tmI l k + 1) + (k : Int) % 9
  ps : PsUpto l k l.length e.ps
structure IsE (l : List ItemD) (i : Nat) (E : List QE) : Prop where
  len : E.length = i
  at_ : ∀ (k : Nat) (hk : k < E.length), ItemOk l k E[k]
/-- The entries that are made of items. -/
def Made (l : List ItemD) (w w' : World) (v : Value) : Prop := ∃ E, IsE l l.length E ∧ Rep.Own qeRep 70 w.heap.size (fun _ => True) w' v E ∧ Below w.heap.size w w'
set_option maxHeartbeats 16000000 in
set_option maxRecDepth 100000 in
theorem entries_calls (A : Option Addr) (c : Nat) (l : List ItemD) (more : Int) (I : Nat → Prop) (w : World) (h : Rep.Row itemRep I w A l) (hl : l.length ≤ 30) (hmo : (Lit.int .u64 more).wf = true) :
    Calls Try.prog 70 #[.slice A l.length c, .int .u64 more] w fun r w' => ∃ v, r = .returned v ∧ Hold (Made l w w' v) := by
  have H := Hold.mk h
  have HL := Hold.mk hl
  have hm := h.len_le
  clear h
  go_enter Try.func70, Try.ntmps70
  go_wp2
  go_loopw [6, 7] (fun v s wr => ∃ i : Nat, i ≤ l.length ∧ s = .int .i64 (i : Int) ∧ Hold (CO w wr v ((List.range i).map (cmdI l)))) (fun _ s _ => l.length - (intOf s).toNat)
  case atStart => exact ⟨0, by omega, rfl, ⟨CO.nil w⟩⟩
  case round =>
    obtain ⟨i, hi, rfl, HO⟩ := hrel
    by_cases hlt : i < l.length
    · have l1 : (i : Int) < (l.length : Int) := by omega
      have l2 : (i : Int) ≤ 30 := by omega
      obtain ⟨ad, p, rfl, hp, _, c0, _, s0, s1, _, _⟩ := row_item (H.out.below HO.out.bel) i hlt
      obtain ⟨y, hy⟩ : ∃ y, cmdI l i = y := ⟨_, rfl⟩
      obtain ⟨s, hs⟩ : ∃ s, l[i].1 = s := ⟨_, rfl⟩
      rw [hs] at c0 s0 s1
      have HS : Hold ((List.range (i + 1)).map (cmdI l) = (List.range i).map (cmdI l) ++ [y]) := ⟨by rw [List.range_succ, List.map_append, ← hy]; rfl⟩
      have HW : Hold (CmdD.wf ⟨16 * ((i : Int) + 1), 1, s % 4, 16, 0, 0, 0⟩) := ⟨wf_made i s l2 s0 s1⟩
      have HLn : Hold (((List.range i).map (cmdI l)).length ≤ 1000000) := ⟨by simp; omega⟩
      have HY : Hold (y = ⟨16 * ((i : Int) + 1), 1, s % 4, 16, 0, 0, 0⟩) := ⟨by rw [← hy, ← hs]; unfold cmdI; rw [List.getD_eq_getElem?_getD, List.getElem?_eq_getElem hlt]; rfl⟩
      obtain ⟨P, hP⟩ : ∃ P, (List.range i).map (cmdI l) = P := ⟨_, rfl⟩
      rw [hP] at HO HS HLn
      clear hP hy hs
      go_wp2_with (at_builtin; refine wp_pushC rfl (.tmp 18) (.tmp 30) rfl u6 P ⟨16 * ((i : Int) + 1), 1, s % 4, 16, 0, 0, 0⟩ rfl rfl HO.out HW.out HLn.out ?_; intro A1 c1 w1 HG)
      exact ⟨⟨i + 1, by omega, by go_num, by rw [HS.out, HY.out]; exact HG⟩, by simp [intOf]; omega⟩
    · obtain rfl : i = l.length := by omega
      obtain ⟨C, hC⟩ : ∃ C, (List.range l.length).map (cmdI l) = C := ⟨_, rfl⟩
      rw [hC] at HO
      have hCl : C.length = l.length := by rw [← hC]; simp
      have HCa : Hold (∀ (k : Nat) (hk : k < C.length), C[k] = cmdI l k) := ⟨fun k hk => by subst hC; simp⟩
      obtain ⟨A6, c6, rfl, _, _⟩ := HO.out.form
      have HC0 : Hold (Rep.Own cmdRep 45 w.heap.size nob wr (.slice A6 C.length c6) C) := ⟨HO.out.own⟩
      have HB0 := Hold.mk HO.out.bel
      have HCl := Hold.mk hCl
      clear hC HO
      rw [hCl]
      rw [hCl] at HC0
      go_wp2
      go_loopw [5, 8] (fun v s wr => ∃ i : Nat, i ≤ l.length ∧ s = .int .i64 (i : Int) ∧ ∃ E, Hold (IsE l i E) ∧ Hold (Rep.Own qeRep 70 w.heap.size (fun _ => True) wr v E) ∧ Hold (Rep.Own cmdRep 45 w.heap.size nob wr (.slice A6 l.length c6) C) ∧ Hold (Below w.heap.size w wr) ∧ Hold (∀ k, v.ownBlock = some k → (Value.slice A6 l.length c6).ownBlock ≠ some k)) (fun _ s _ => l.length - (intOf s).toNat)
      case atStart => exact ⟨0, by omega, rfl, [], ⟨⟨rfl, fun k hk => by simp at hk⟩⟩, ⟨Rep.Own.nil _ _ _ _ _⟩, HC0, HB0, ⟨fun k hk => by simp [Value.ownBlock] at hk⟩⟩
      case round =>
        obtain ⟨i, hi, rfl, E, HE, HOE, HOC, HBr, HAp⟩ := hrel
        by_cases hlt : i < l.length
        · have l1 : (i : Int) < (l.length : Int) := by omega
          have l2 : (i : Int) ≤ 30 := by omega
          obtain ⟨N, hN⟩ : ∃ N, wr.heap.size = N := ⟨_, rfl⟩
          have hNw : w.heap.size ≤ N := by rw [← hN]; exact HBr.out.size
          have HNil : Hold (Rep.Own cmdRep 45 N nob wr (.slice none 0 0) []) := ⟨Rep.Own.nil _ _ _ _ _⟩
          have HBs : Hold (Below N wr wr) := ⟨Below.refl _ _⟩
          have HNs : Hold (N ≤ wr.heap.size) := ⟨by omega⟩
          have HN6 : Hold (∀ k, (Value.slice A6 l.length c6).ownBlock = some k → k < N) := ⟨fun k hk => by rw [← hN]; exact (HOC.out.block_lt k hk).2⟩
          have HNo : Hold (∀ k, u5.ownBlock = some k → k < N) := ⟨fun k hk => by rw [← hN]; exact (HOE.out.block_lt k hk).2⟩
          have HOE0 : Hold (Rep.Own qeRep 70 w.heap.size (fun k => k < N) wr u5 E) := ⟨HOE.out.mono fun k _ _ hlt => by rw [← hN]; exact hlt⟩
          clear HOE hN
          go_wp2
          go_loopw [9, 10] (fun v s w3 => ∃ k : Nat, k ≤ l.length ∧ s = .int .i64 (k : Int) ∧ ∃ ps, Hold (PsUpto l i k ps) ∧ Hold (Rep.Own cmdRep 45 N nob w3 v ps) ∧ Hold (Below N wr w3)) (fun _ s _ => l.length - (intOf s).toNat)
          case atStart => exact ⟨0, by omega, rfl, [], ⟨PsUpto.nil l i⟩, HNil, HBs⟩
          case round =>
            obtain ⟨k, hk, rfl, ps, HPs, HO9, HB3⟩ := hrel
            by_cases hlk : k < l.length
            · have l3 : (k : Int) < (l.length : Int) := by omega
              have l4 : (k : Int) ≤ 30 := by omega
              have hb3 : Below w.heap.size w wr := HBr.out.trans (HB3.out.mono hNw)
              obtain ⟨ad, p, hA1, hp, _, c0, c1, s0, s1, t0, t1⟩ := row_item (H.out.below hb3) i hlt
              obtain ⟨ad', q, hA2, hq, _, d0, d1, r0, r1, v0, v1⟩ := row_item (H.out.below hb3) k hlk
              have had : ad' = ad := by rw [hA1] at hA2; injection hA2 with e; exact e.symm
              subst had
              have hti : tmI l i = l[i].2.1 := by unfold tmI; rw [List.getD_eq_getElem?_getD, List.getElem?_eq_getElem hlt]; rfl
              have htk : tmI l k = l[k].2.1 := by unfold tmI; rw [List.getD_eq_getElem?_getD, List.getElem?_eq_getElem hlk]; rfl
              rw [← hti] at c1 t0 t1
              rw [← htk] at d1 v0 v1
              obtain ⟨Ti, hTi⟩ : ∃ T, tmI l i = T := ⟨_, rfl⟩
              obtain ⟨Tk, hTk⟩ : ∃ T, tmI l k = T := ⟨_, rfl⟩
              rw [hTi] at c1
              rw [hTk] at d1
              have hc3 := HOC.out.move (w' := wr) (J := nob) (fun k hk => HB3.out.block k (HN6.out k hk)) (fun _ h _ _ => h.elim)
              obtain ⟨bd, x1, hx1, hxp, _, ⟨_, _, k2, _⟩⟩ := row_cmd hc3.row i (by rw [HCl.out]; exact hlt)
              obtain ⟨bd', x2, hx2, hxq, _, ⟨m0, m1, m2, m3, m4, m5, m6, hmw⟩⟩ := row_cmd hc3.row k (by rw [HCl.out]; exact hlk)
              have hbd : bd' = bd := by rw [hx1] at hx2; injection hx2 with e; exact e.symm
              subst hbd
              rw [HCa.out] at k2
              rw [HCa.out] at m0 m1 m2 m3 m4 m5 m6 hmw
              subst hA1 hx1
              have hcm : cmdI l k = cmdI l k := rfl
              obtain ⟨y, hy⟩ : ∃ y, cmdI l k = y := ⟨_, rfl⟩
              rw [hy] at m0 m1 m2 m3 m4 m5 m6 hmw
              obtain ⟨Si, hSi⟩ : ∃ S, (cmdI l i).sym = S := ⟨_, rfl⟩
              rw [hSi] at k2
              have HSk : (cmdI l k).sym = y.sym := by rw [hy]
              have HPsh := HPs
              have HWy := Hold.mk hmw
              have HY := Hold.mk hy
              have HSi := Hold.mk hSi
              have HTi := Hold.mk hTi
              have HTk := Hold.mk hTk
              have HC3 := Hold.mk hc3
              clear hy hSi hTi hTk hti htk hc3 hmw hcm hA2 hx2 c0 d0 s0 s1 r0 r1 HSk HPsh hb3
              have HLp : Hold ((ps.length + 1) * 56 ≤ 140737488355328) := ⟨by have := HPs.out.len; omega⟩
              have HO9d : Hold (∀ n, Rep.Own cmdRep 45 N nob (wr.drewN n) u9 ps) := ⟨fun n => HO9.out.drewN n⟩
              have hsz : N ≤ wr.heap.size := Nat.le_trans HNs.out HB3.out.size
              have HNd : Hold (∀ n, N ≤ (wr.drewN n).heap.size) := ⟨fun n => hsz⟩
              have hbd0 := HB3.out
              have HBd : Hold (∀ n, Below N _ (wr.drewN n)) := ⟨fun n => hbd0.trans ((below_drewN wr n).mono hsz)⟩
              have HO92 : Hold (∀ k, u9.ownBlock = some k → N ≤ k) := ⟨fun k hk => (HO9.out.block_lt k hk).1⟩
              clear hbd0 hsz HO9
              by_cases hT : Tk < Ti
              · have hdT := decide_eq_true hT
                have hki : k ≠ i := fun h => by subst h; rw [HTi.out] at HTk; have := HTk.out; omega
                have hk1 : ((k : Int) != (i : Int)) = true := by simpa using fun h => hki (by omega)
                by_cases hS : y.sym = Si
                · have hdS : (y.sym == Si) = true := by simpa using hS
                  have HPn : Hold (PsUpto l i (k + 1) (ps ++ [y])) := ⟨by have := HPs.out.push hki (by rw [HY.out, HSi.out]; exact hS); rwa [HY.out] at this⟩
                  clear hS hT
                  go_wp2
                  go_big_quiet (fail)
                  go_wp2
                  go_big_quiet (fail)
                  go_wp2_with (at_builtin; refine Rep.wp_push cmdRep rfl (.tmp 85) (.tmp 90) 23 45 (.agg #[.int .i64 0, .int .i64 0, .int .i64 0, .int .i64 0, .int .i64 0, .int .i64 0, .int .i64 0]) 56 rfl Try.underlying23 info_cmd Rd.cmd_zs Rd.cmd_sz0 (by decide) N nob nob u9 ps y [.int .i64 y.id, .int .i64 y.kind, .int .i64 y.sym, .int .i64 y.tgt, .int .i64 y.side, .int .i64 y.price, .int .i64 y.qty] rfl rfl (HO9d.out _) ⟨rfl, HWy.out⟩ (fun _ h _ => h.elim) (HNd.out _) HLp.out ?_; intro A9 c9 w9 HG9)
                  have ho9 := HG9.out.own
                  rw [List.length_append, List.length_singleton] at ho9
                  exact ⟨⟨k + 1, by omega, by go_num, ps ++ [y], HPn, ⟨ho9⟩, ⟨(HBd.out _).trans (HG9.out.below HO92.out (HNd.out _))⟩⟩, by simp [intOf]; omega⟩
                · have hdS : (y.sym == Si) = false := by simpa using hS
                  have HPn : Hold (PsUpto l i (k + 1) ps) := ⟨HPs.out.skip (fun _ h => absurd (by rw [HY.out, HSi.out] at h; exact h) hS)⟩
                  clear hS hT
                  go_wp2
                  go_big_quiet (fail)
                  go_wp2
                  go_big_quiet (fail)
                  go_wp2
                  exact ⟨⟨k + 1, by omega, by go_num, ps, HPn, HO9d.out _ |> Hold.mk, HBd.out _ |> Hold.mk⟩, by simp [intOf]; omega⟩
              · have hdT := decide_eq_false hT
                have hnT : ¬ tmI l k < tmI l i := by rw [HTi.out, HTk.out]; exact hT
                have hdT2 : ¬ Tk < Ti := hT
                have HPn : Hold (PsUpto l i (k + 1) ps) := ⟨HPs.out.skip (fun _ _ => hnT)⟩
                by_cases hki : k = i
                · subst hki
                  clear hT hnT
                  go_wp2
                  go_big_quiet (fail)
                  go_wp2
                  go_big_quiet (fail)
                  go_wp2
                  exact ⟨⟨k + 1, by omega, by go_num, ps, HPn, HO9d.out _ |> Hold.mk, HBd.out _ |> Hold.mk⟩, by simp [intOf]; omega⟩
                · have hk1 : ((k : Int) != (i : Int)) = true := by simpa using fun h => hki (by omega)
                  by_cases hS : y.sym = Si
                  · have hdS : (y.sym == Si) = true := by simpa using hS
                    obtain ⟨bb, hbb⟩ : ∃ bb, ((more / 2 ^ ((i + k) % 64)).tmod 2 == 1) = bb := ⟨_, rfl⟩
                    cases bb
                    · clear hS hT hnT
                      go_wp2
                      go_big_quiet (fail)
                      go_wp2
                      go_big_quiet (fail)
                      go_wp2
                      exact ⟨⟨k + 1, by omega, by go_num, ps, HPn, HO9d.out _ |> Hold.mk, HBd.out _ |> Hold.mk⟩, by simp [intOf]; omega⟩
                    · replace HPn : Hold (PsUpto l i (k + 1) (ps ++ [y])) := ⟨by have := HPs.out.push hki (by rw [HY.out, HSi.out]; exact hS); rwa [HY.out] at this⟩
                      clear hS hT hnT
                      go_wp2
                      go_big_quiet (fail)
                      go_wp2
                      go_big_quiet (fail)
                      go_wp2_with (at_builtin; refine Rep.wp_push cmdRep rfl (.tmp 85) (.tmp 90) 23 45 (.agg #[.int .i64 0, .int .i64 0, .int .i64 0, .int .i64 0, .int .i64 0, .int .i64 0, .int .i64 0]) 56 rfl Try.underlying23 info_cmd Rd.cmd_zs Rd.cmd_sz0 (by decide) N nob nob u9 ps y [.int .i64 y.id, .int .i64 y.kind, .int .i64 y.sym, .int .i64 y.tgt, .int .i64 y.side, .int .i64 y.price, .int .i64 y.qty] rfl rfl (HO9d.out _) ⟨rfl, HWy.out⟩ (fun _ h _ => h.elim) (HNd.out _) HLp.out ?_; intro A9 c9 w9 HG9)
                      have ho9 := HG9.out.own
                      rw [List.length_append, List.length_singleton] at ho9
                      exact ⟨⟨k + 1, by omega, by go_num, ps ++ [y], HPn, ⟨ho9⟩, ⟨(HBd.out _).trans (HG9.out.below HO92.out (HNd.out _))⟩⟩, by simp [intOf]; omega⟩
                  · have hdS : (y.sym == Si) = false := by simpa using hS
                    clear hS hT hnT
                    go_wp2
                    go_big_quiet (fail)
                    go_wp2
                    go_big_quiet (fail)
                    go_wp2
                    exact ⟨⟨k + 1, by omega, by go_num, ps, HPn, HO9d.out _ |> Hold.mk, HBd.out _ |> Hold.mk⟩, by simp [intOf]; omega⟩
            · obtain rfl : k = l.length := by omega
              have hb3 : Below w.heap.size w wr := HBr.out.trans (HB3.out.mono hNw)
              obtain ⟨ad, p, hA1, hp, hpl, c0, c1, s0, s1, t0, t1⟩ := row_item (H.out.below hb3) i hlt
              have hplw : p.block < w.heap.size := by
                obtain ⟨ad2, p2, hA2, hp2, hpl2, _⟩ := row_item H.out i hlt
                have e : ad2 = ad := by rw [hA1] at hA2; injection hA2 with e; exact e.symm
                subst e
                rw [← hp, hp2]; exact hpl2
              have hti : tmI l i = l[i].2.1 := by unfold tmI; rw [List.getD_eq_getElem?_getD, List.getElem?_eq_getElem hlt]; rfl
              rw [← hti] at c1 t0 t1
              obtain ⟨Ti, hTi⟩ : ∃ T, tmI l i = T := ⟨_, rfl⟩
              rw [hTi] at c1 t0 t1
              have hc3 := HOC.out.move (w' := wr) (J := nob) (fun k hk => HB3.out.block k (HN6.out k hk)) (fun _ h _ _ => h.elim)
              obtain ⟨bd, x1, hx1, hxp, hxl, ⟨m0, m1, m2, m3, m4, m5, m6, hmw⟩⟩ := row_cmd hc3.row i (by rw [HCl.out]; exact hlt)
              rw [HCa.out] at m0 m1 m2 m3 m4 m5 m6 hmw
              subst hA1 hx1
              obtain ⟨y, hy⟩ : ∃ y, cmdI l i = y := ⟨_, rfl⟩
              rw [hy] at m0 m1 m2 m3 m4 m5 m6 hmw
              obtain ⟨A9, c9, rfl, _, _⟩ := HO9.out.len_form
              obtain ⟨t, ht⟩ : ∃ t, 16 * (Ti + 1) + (i : Int) % 9 = t := ⟨_, rfl⟩
              obtain ⟨e, he⟩ : ∃ e : ER, e = ⟨y, 0, 0, 0, noVR, 0, noVR, false, true, ⟨t, A9, ps.length, c9⟩⟩ := ⟨_, rfl⟩
              have hec : e.cells = #[.int .i64 y.id, .int .i64 y.kind, .int .i64 y.sym, .int .i64 y.tgt, .int .i64 y.side, .int .i64 y.price, .int .i64 y.qty, .int .i64 0, .int .i64 0, .int .i64 0, .int .i64 0, .slice none 0 0, .int .i64 0, .int .i64 0, .slice none 0 0, .bool false, .bool true, .int .i64 t, .slice A9 ps.length c9] := by rw [he]; rfl
              have HOk : Hold (ItemOk l i ⟨e, ps⟩) := ⟨by rw [he]; exact hy.symm, by rw [he], by rw [he]; show t = _; rw [hTi, ht], HPs.out⟩
              have hw1 : IntKind.i64.wrap Ti = Ti := by rw [IntKind.wrap_i64]; omega
              have hw2 : IntKind.i64.wrap (Ti + 1) = Ti + 1 := by rw [IntKind.wrap_i64]; omega
              have hw3 : IntKind.i64.wrap (16 * (Ti + 1)) = 16 * (Ti + 1) := by rw [IntKind.wrap_i64]; omega
              have hw4 : IntKind.i64.wrap t = t := by rw [IntKind.wrap_i64]; omega
              have hw9 : (i : Int).tmod 9 = (i : Int) % 9 := Int.tmod_eq_emod_of_nonneg (by omega)
              have htw : (Lit.int .i64 t).wf = true := wf_i64 (by omega) (by omega)
              have hoe : Rep.Own qeRep 70 w.heap.size (fun _ => True) wr u5 E := HOE0.out.move (fun k hk => HB3.out.block k (HNo.out k hk)) (fun k hk _ _ => ⟨trivial, HB3.out.block k hk⟩)
              have h9 := HO9.out.block_lt
              have hqf : QF (fun k => some k ≠ u5.ownBlock) wr ⟨e, ps⟩ := ⟨by rw [he]; exact hmw, by rw [he]; exact htw, by rw [he], by
                have hr := HO9.out.row.move (J := fun k => some k ≠ u5.ownBlock) (w1 := wr) (fun k hk _ => ⟨fun h5 => by
                  rcases hk with hk | hk
                  · exact hk
                  · have h1 := (h9 k hk).1
                    have h2 := HNo.out k h5.symm
                    omega, rfl⟩)
                rw [he]; exact hr⟩
              have HOE1 := Hold.mk hoe.drew
              have HQF : Hold (QF (fun k => some k ≠ u5.ownBlock) wr.drew ⟨e, ps⟩) := ⟨QF.move (I := fun k => some k ≠ u5.ownBlock) (w := wr) (w1 := wr.drew) (fun k hk _ => ⟨hk, rfl⟩) hqf⟩
              have HC3 := Hold.mk hc3.drew
              have HB3d : Hold (Below w.heap.size w wr.drew) := ⟨hb3.drew⟩
              have hx1o : x1.block < N ∧ ¬ u5.ownBlock = some x1.block := ⟨by
                have := HN6.out x1.block (by
                  obtain ⟨ad3, e3, hI3, _⟩ := hc3.row.2 (by rw [HCl.out]; omega)
                  rcases hI3 with h | h
                  · exact h.elim
                  · cases e3; rw [← hxp, Rep.add_block]; exact h)
                exact this, fun h5 => HAp.out _ h5 (by
                  obtain ⟨ad3, e3, hI3, _⟩ := hc3.row.2 (by rw [HCl.out]; omega)
                  rcases hI3 with h | h
                  · exact h.elim
                  · cases e3; rw [← hxp, Rep.add_block]; exact h)⟩
              have hpo : ¬ u5.ownBlock = some p.block := fun h5 => by have := (HOE0.out.block_lt _ h5).1; omega
              have HX1 := Hold.mk hx1o
              have HPo := Hold.mk hpo
              have HEl : Hold ((E.length + 1) * 192 ≤ 140737488355328) := ⟨by rw [HE.out.len]; omega⟩
              have HJ : Hold (∀ k, some k ≠ u5.ownBlock → k < wr.drew.heap.size → True ∧ some k ≠ u5.ownBlock) := ⟨fun k hk _ => ⟨trivial, hk⟩⟩
              have hcs : ∀ (j : Nat) (v : Value), (#[.int .i64 y.id, .int .i64 y.kind, .int .i64 y.sym, .int .i64 y.tgt, .int .i64 y.side, .int .i64 y.price, .int .i64 y.qty] : Array Value)[j]? = some v → wr.cell? (x1.add j) = some v := by
                have add_pos : ∀ j, 0 < j → x1.add j = ⟨x1.block, x1.off + j, none⟩ := fun j hj => by
                  unfold Addr.add
                  rw [if_neg (by omega)]
                intro j v hv
                rcases j with _ | _ | _ | _ | _ | _ | _ | j
                · cases hv; exact m0
                · cases hv; rw [add_pos _ (by omega)]; exact m1
                · cases hv; rw [add_pos _ (by omega)]; exact m2
                · cases hv; rw [add_pos _ (by omega)]; exact m3
                · cases hv; rw [add_pos _ (by omega)]; exact m4
                · cases hv; rw [add_pos _ (by omega)]; exact m5
                · cases hv; rw [add_pos _ (by omega)]; exact m6
                · simp at hv
              have hS : (∀ (j : Nat) (v : Value), (#[.int .i64 y.id, .int .i64 y.kind, .int .i64 y.sym, .int .i64 y.tgt, .int .i64 y.side, .int .i64 y.price, .int .i64 y.qty] : Array Value)[j]? = some v → wr.drew.cell? (x1.add j) = some v) ∧ wr.drew.cell? ⟨p.block, p.off + 1, none⟩ = some (.int .u16 Ti) := ⟨hcs, c1⟩
              have hgs : wr.drew.heap.size = wr.heap.size := rfl
              obtain ⟨g3, hg3⟩ : ∃ g, wr.drew.heap.size = g := ⟨_, rfl⟩
              have HG3 := Hold.mk hg3
              have hxl2 : x1.block < wr.drew.heap.size := hxl
              have hpl2 : p.block < wr.drew.heap.size := hpl
              have hBl := HB3d.out
              clear hec c0 c1 m0 m1 m2 m3 m4 m5 m6 hmw hoe hqf hc3 hb3 htw hcs hgs hg3 h9 hy hti hTi hBl
              go_upto_region 17 with (fail)
              have hS0 := hS
              refine rg_start (S := fun w' => (∀ (j : Nat) (v : Value), (#[.int .i64 y.id, .int .i64 y.kind, .int .i64 y.sym, .int .i64 y.tgt, .int .i64 y.side, .int .i64 y.price, .int .i64 y.qty] : Array Value)[j]? = some v → w'.cell? (x1.add j) = some v) ∧ w'.cell? ⟨p.block, p.off + 1, none⟩ = some (.int .u16 Ti)) 22 #[false, false, false, false, false, false, false, false, false, false, false, false, false, false, false, false, false, false, false, false, false, false] (by kernel_rfl) (by kernel_rfl) (by kernel_rfl) hS ?_
              refine rg_take 0 92 (.move (.tmp 5)) u5 #[true, false, false, false, false, false, false, false, false, false, false, false, false, false, false, false, false, false, false, false, false, false] (by kernel_rfl) (by rfl) (by kernel_rfl) (by kernel_rfl) (by kernel_rfl) (fun _ _ _ h => h) (.inl ⟨by kernel_rfl, fun _ _ => by kernel_rfl⟩) hS ?_
              simp only [List.setIfInBounds_toArray, List.set_cons_zero, List.set_cons_succ]
              refine rg_take 1 93 (.move (.tmp 6)) (.slice (some bd) l.length c6) #[true, true, false, false, false, false, false, false, false, false, false, false, false, false, false, false, false, false, false, false, false, false] (by kernel_rfl) (by rfl) (by kernel_rfl) (by kernel_rfl) (by kernel_rfl) (fun _ _ _ h => h) (.inl ⟨by kernel_rfl, fun _ _ => by kernel_rfl⟩) hS ?_
              simp only [List.setIfInBounds_toArray, List.set_cons_zero, List.set_cons_succ]
              refine rg_take 2 94 (.move (.tmp 8)) (.int .i64 (i : Int)) #[true, true, true, false, false, false, false, false, false, false, false, false, false, false, false, false, false, false, false, false, false, false] (by kernel_rfl) (by rfl) (by kernel_rfl) (by kernel_rfl) (by kernel_rfl) (fun _ _ _ h => h) (.inl ⟨by kernel_rfl, fun _ _ => by kernel_rfl⟩) hS ?_
              simp only [List.setIfInBounds_toArray, List.set_cons_zero, List.set_cons_succ]
              refine rg_take 3 95 (.indexAddr 23 (.tmp 93) (.tmp 94)) (.pointer (some x1)) #[true, true, true, true, false, false, false, false, false, false, false, false, false, false, false, false, false, false, false, false, false, false] (by kernel_rfl) (by rfl) (by kernel_rfl) (by kernel_rfl) (by kernel_rfl) (fun _ _ _ h => h) (.inl ⟨by kernel_rfl, fun _ _ => by go_simp⟩) hS ?_
              simp only [List.setIfInBounds_toArray, List.set_cons_zero, List.set_cons_succ]
              refine rg_take 4 96 (.load 45 (.tmp 95)) (.agg #[.int .i64 y.id, .int .i64 y.kind, .int .i64 y.sym, .int .i64 y.tgt, .int .i64 y.side, .int .i64 y.price, .int .i64 y.qty]) #[true, true, true, true, true, false, false, false, false, false, false, false, false, false, false, false, false, false, false, false, false, false] (by kernel_rfl) (by rfl) (by kernel_rfl) (by kernel_rfl) (by kernel_rfl) (fun _ _ _ h => h) (yl_old isC (by kernel_rfl) rfl (fun _ h => h.1) (by kernel_rfl)) hS ?_
              simp only [List.setIfInBounds_toArray, List.set_cons_zero, List.set_cons_succ]
              refine rg_take 5 97 (.move (.tmp 0)) (.slice (some ad) l.length c) #[true, true, true, true, true, true, false, false, false, false, false, false, false, false, false, false, false, false, false, false, false, false] (by kernel_rfl) (by rfl) (by kernel_rfl) (by kernel_rfl) (by kernel_rfl) (fun _ _ _ h => h) (.inl ⟨by kernel_rfl, fun _ _ => by kernel_rfl⟩) hS ?_
              simp only [List.setIfInBounds_toArray, List.set_cons_zero, List.set_cons_succ]
              refine rg_take 6 98 (.move (.tmp 8)) (.int .i64 (i : Int)) #[true, true, true, true, true, true, true, false, false, false, false, false, false, false, false, false, false, false, false, false, false, false] (by kernel_rfl) (by rfl) (by kernel_rfl) (by kernel_rfl) (by kernel_rfl) (fun _ _ _ h => h) (.inl ⟨by kernel_rfl, fun _ _ => by kernel_rfl⟩) hS ?_
              simp only [List.setIfInBounds_toArray, List.set_cons_zero, List.set_cons_succ]
              refine rg_take 7 99 (.indexAddr 101 (.tmp 97) (.tmp 98)) (.pointer (some p)) #[true, true, true, true, true, true, true, true, false, false, false, false, false, false, false, false, false, false, false, false, false, false] (by kernel_rfl) (by rfl) (by kernel_rfl) (by kernel_rfl) (by kernel_rfl) (fun _ _ _ h => h) (.inl ⟨by kernel_rfl, fun _ _ => by go_simp⟩) hS ?_
              simp only [List.setIfInBounds_toArray, List.set_cons_zero, List.set_cons_succ]
              refine rg_take 8 100 (.fieldAddr 106 (.tmp 99) 1) (.pointer (some ⟨p.block, p.off + 1, none⟩)) #[true, true, true, true, true, true, true, true, true, false, false, false, false, false, false, false, false, false, false, false, false, false] (by kernel_rfl) (by rfl) (by kernel_rfl) (by kernel_rfl) (by kernel_rfl) (fun _ _ _ h => h) (.inl ⟨by kernel_rfl, fun _ _ => by go_simp⟩) hS ?_
              simp only [List.setIfInBounds_toArray, List.set_cons_zero, List.set_cons_succ]
              refine rg_take 9 101 (.load 104 (.tmp 100)) (.int .u16 Ti) #[true, true, true, true, true, true, true, true, true, true, false, false, false, false, false, false, false, false, false, false, false, false] (by kernel_rfl) (by rfl) (by kernel_rfl) (by kernel_rfl) (by kernel_rfl) (fun _ _ _ h => h) (.inl ⟨by kernel_rfl, fun w hSw => by have hcell := hSw.2; go_simp⟩) hS ?_
              simp only [List.setIfInBounds_toArray, List.set_cons_zero, List.set_cons_succ]
              refine rg_take 10 102 (.convert 104 3 (.tmp 101)) (.int .i64 Ti) #[true, true, true, true, true, true, true, true, true, true, true, false, false, false, false, false, false, false, false, false, false, false] (by kernel_rfl) (by rfl) (by kernel_rfl) (by kernel_rfl) (by kernel_rfl) (fun _ _ _ h => h) (.inl ⟨by kernel_rfl, fun _ _ => by go_simp⟩) hS ?_
              simp only [List.setIfInBounds_toArray, List.set_cons_zero, List.set_cons_succ]
              refine rg_take 11 103 (.binOp .add 3 (.tmp 102) (.const (.int .i64 1)) 3) (.int .i64 (Ti + 1)) #[true, true, true, true, true, true, true, true, true, true, true, true, false, false, false, false, false, false, false, false, false, false] (by kernel_rfl) (by rfl) (by kernel_rfl) (by kernel_rfl) (by kernel_rfl) (fun _ _ _ h => h) (.inl ⟨by kernel_rfl, fun _ _ => by go_simp⟩) hS ?_
              simp only [List.setIfInBounds_toArray, List.set_cons_zero, List.set_cons_succ]
              refine rg_take 12 104 (.binOp .mul 3 (.const (.int .i64 16)) (.tmp 103) 3) (.int .i64 (16 * (Ti + 1))) #[true, true, true, true, true, true, true, true, true, true, true, true, true, false, false, false, false, false, false, false, false, false] (by kernel_rfl) (by rfl) (by kernel_rfl) (by kernel_rfl) (by kernel_rfl) (fun _ _ _ h => h) (.inl ⟨by kernel_rfl, fun _ _ => by go_simp⟩) hS ?_
              simp only [List.setIfInBounds_toArray, List.set_cons_zero, List.set_cons_succ]
              refine rg_take 13 105 (.move (.tmp 8)) (.int .i64 (i : Int)) #[true, true, true, true, true, true, true, true, true, true, true, true, true, true, false, false, false, false, false, false, false, false] (by kernel_rfl) (by rfl) (by kernel_rfl) (by kernel_rfl) (by kernel_rfl) (fun _ _ _ h => h) (.inl ⟨by kernel_rfl, fun _ _ => by kernel_rfl⟩) hS ?_
              simp only [List.setIfInBounds_toArray, List.set_cons_zero, List.set_cons_succ]
              refine rg_take 14 106 (.binOp .rem 3 (.tmp 105) (.const (.int .i64 9)) 3) (.int .i64 ((i : Int) % 9)) #[true, true, true, true, true, true, true, true, true, true, true, true, true, true, true, false, false, false, false, false, false, false] (by kernel_rfl) (by rfl) (by kernel_rfl) (by kernel_rfl) (by kernel_rfl) (fun _ _ _ h => h) (.inl ⟨by kernel_rfl, fun _ _ => by go_simp⟩) hS ?_
              simp only [List.setIfInBounds_toArray, List.set_cons_zero, List.set_cons_succ]
              refine rg_take 15 107 (.binOp .add 3 (.tmp 104) (.tmp 106) 3) (.int .i64 t) #[true, true, true, true, true, true, true, true, true, true, true, true, true, true, true, true, false, false, false, false, false, false] (by kernel_rfl) (by rfl) (by kernel_rfl) (by kernel_rfl) (by kernel_rfl) (fun _ _ _ h => h) (.inl ⟨by kernel_rfl, fun _ _ => by go_simp⟩) hS ?_
              simp only [List.setIfInBounds_toArray, List.set_cons_zero, List.set_cons_succ]
              refine rg_take 16 108 (.move (.tmp 9)) (.slice A9 ps.length c9) #[true, true, true, true, true, true, true, true, true, true, true, true, true, true, true, true, true, false, false, false, false, false] (by kernel_rfl) (by rfl) (by kernel_rfl) (by kernel_rfl) (by kernel_rfl) (fun _ _ _ h => h) (.inl ⟨by kernel_rfl, fun _ _ => by kernel_rfl⟩) hS ?_
              simp only [List.setIfInBounds_toArray, List.set_cons_zero, List.set_cons_succ]
              refine rg_take 17 109 (.build 34 #[(0, (.tmp 107)), (1, (.tmp 108))]) (.agg #[.int .i64 t, .slice A9 ps.length c9]) #[true, true, true, true, true, true, true, true, true, true, true, true, true, true, true, true, true, true, false, false, false, false] (by kernel_rfl) (by rfl) (by kernel_rfl) (by kernel_rfl) (by kernel_rfl) (fun _ _ _ h => h) (.inl ⟨by kernel_rfl, fun _ _ => by go_simp⟩) hS ?_
              simp only [List.setIfInBounds_toArray, List.set_cons_zero, List.set_cons_succ]
              refine rg_take 18 110 (.build 70 #[(0, (.tmp 96)), (8, (.const (.bool true))), (9, (.tmp 109))]) (.agg #[.int .i64 y.id, .int .i64 y.kind, .int .i64 y.sym, .int .i64 y.tgt, .int .i64 y.side, .int .i64 y.price, .int .i64 y.qty, .int .i64 0, .int .i64 0, .int .i64 0, .int .i64 0, .slice none 0 0, .int .i64 0, .int .i64 0, .slice none 0 0, .bool false, .bool true, .int .i64 t, .slice A9 ps.length c9]) #[true, true, true, true, true, true, true, true, true, true, true, true, true, true, true, true, true, true, true, false, false, false] (by kernel_rfl) (by rfl) (by kernel_rfl) (by kernel_rfl) (by kernel_rfl) (fun _ _ _ h => h) (.inl ⟨by kernel_rfl, fun _ _ => by go_simp⟩) hS ?_
              simp only [List.setIfInBounds_toArray, List.set_cons_zero, List.set_cons_succ]
              refine rg_one 19 (some 111) (.buildSlice 90 1 #[(0, (.tmp 110))]) #[true, true, true, true, true, true, true, true, true, true, true, true, true, true, true, true, true, true, true, true, false, false] (by kernel_rfl) (by kernel_rfl) (by rfl) (by kernel_rfl) (fun K hK => ?_)
              refine wp_box1 (C := e.cells) Try.underlying90 (by rw [he]; kernel_rfl) (built_qe e) g3 HG3.out ?_
              have hal := Below.heap_alloc wr.drew (.cells e.cells 70)
              have hS : (∀ (j : Nat) (v : Value), (#[.int .i64 y.id, .int .i64 y.kind, .int .i64 y.sym, .int .i64 y.tgt, .int .i64 y.side, .int .i64 y.price, .int .i64 y.qty] : Array Value)[j]? = some v → (wr.drew.alloc (.cells e.cells 70)).cell? (x1.add j) = some v) ∧ (wr.drew.alloc (.cells e.cells 70)).cell? ⟨p.block, p.off + 1, none⟩ = some (.int .u16 Ti) := ⟨fun j v hv => (World.cell?_of_block (hal _ (by rw [Rep.add_block]; exact hxl2))).trans (hS.1 j v hv), (cell_blk (o := p.off + 1) (hal p.block hpl2)).trans hS.2⟩
              simp only [Act.put, List.setIfInBounds_toArray, List.set_cons_zero, List.set_cons_succ]
              refine hK.out _ _ hS ?_
              clear hK K
              refine rg_one 20 (some 112) (.call { callee := .builtin .append, args := #[(.tmp 92), (.tmp 111)], argTypes := #[90, 90] }) #[true, true, true, true, true, true, true, true, true, true, true, true, true, true, true, true, true, true, true, true, true, false] (by kernel_rfl) (by kernel_rfl) (by rfl) (by kernel_rfl) (fun K hK => ?_)
              refine wp_push1 qeRep 90 70 (.agg noER.cells) 192 Try.underlying90 info_qe noER_sz qe_sz0 (by decide) w.heap.size (fun _ => True) (fun k => some k ≠ u5.ownBlock) u5 E ⟨e, ps⟩ e.cells.toList g3 HG3.out (by kernel_rfl) (by kernel_rfl) HOE1.out ⟨rfl, HQF.out⟩ HJ.out HB3d.out.size HEl.out rfl (fun A1 c1 W7 hG => ?_)
              have hS : (∀ (j : Nat) (v : Value), (#[.int .i64 y.id, .int .i64 y.kind, .int .i64 y.sym, .int .i64 y.tgt, .int .i64 y.side, .int .i64 y.price, .int .i64 y.qty] : Array Value)[j]? = some v → W7.cell? (x1.add j) = some v) ∧ W7.cell? ⟨p.block, p.off + 1, none⟩ = some (.int .u16 Ti) := ⟨fun j v hv => (World.cell?_of_block (hG.fr.block _ (by rw [Rep.add_block]; exact hxl2) (by rw [Rep.add_block]; exact HX1.out.2))).trans (hS0.1 j v hv), (cell_blk (o := p.off + 1) (hG.fr.block p.block hpl2 HPo.out)).trans hS0.2⟩
              have HG7 := Hold.mk hG
              clear hG
              simp only [Act.put, List.setIfInBounds_toArray, List.set_cons_zero, List.set_cons_succ]
              refine hK.out _ _ hS ?_
              clear hK K
              refine rg_take 21 5 (.assign (.tmp 112)) (.slice A1 (E.length + 1) c1) #[true, true, true, true, true, true, true, true, true, true, true, true, true, true, true, true, true, true, true, true, true, true] (by kernel_rfl) (by rfl) (by kernel_rfl) (by kernel_rfl) (by kernel_rfl) (fun _ _ _ h => h) (.inl ⟨by kernel_rfl, fun _ _ => by kernel_rfl⟩) hS ?_
              simp only [List.setIfInBounds_toArray, List.set_cons_zero, List.set_cons_succ]
              refine wpAnyH_done (by kernel_rfl) ?_ _
              have hb7 : Below w.heap.size w W7 := HB3d.out.trans (HG7.out.below (fun k hk => (HOE1.out.block_lt k hk).1) HB3d.out.size)
              have hc7 : Rep.Own cmdRep 45 w.heap.size nob W7 (.slice (some bd) l.length c6) C := HC3.out.move (fun k hk => HG7.out.fr.block k (HC3.out.block_lt k hk).2 (fun e => HAp.out k e hk)) (fun _ h _ _ => h.elim)
              have hap7 : ∀ k, (Value.slice A1 (E ++ [(⟨e, ps⟩ : QE)]).length c1).ownBlock = some k → (Value.slice (some bd) l.length c6).ownBlock ≠ some k := by
                intro k hk hu
                rcases HG7.out.at_ with e | ⟨m, e, hm⟩
                · exact HAp.out k (by rw [← e]; exact hk) hu
                · rw [e] at hk
                  cases hk
                  have := (HC3.out.block_lt _ hu).2
                  omega
              have hE1 : IsE l (i + 1) (E ++ [⟨e, ps⟩]) := ⟨by simp [HE.out.len], fun k hk => by
                by_cases hlt2 : k < E.length
                · rw [List.getElem_append_left hlt2]
                  exact HE.out.at_ k hlt2
                · have hk' : k = E.length := by simp at hk; omega
                  subst hk'
                  rw [List.getElem_append_right (Nat.le_refl _)]
                  simp only [Nat.sub_self, List.getElem_cons_zero]
                  rw [HE.out.len]
                  exact HOk.out⟩
              have ho7 := HG7.out.own
              rw [List.length_append, List.length_singleton] at ho7 hap7
              have HO7 := Hold.mk ho7
              have HC7 := Hold.mk hc7
              have HB7 := Hold.mk hb7
              have HA7 := Hold.mk hap7
              have HE7 := Hold.mk hE1
              clear hb7 hc7 hap7 hE1 ho7 hS hS0 HOk HQF he ht hw1 hw2 hw3 hw4 hw9
              go_wp2
              refine ⟨⟨i + 1, ?_, ?_, E ++ [⟨e, ps⟩], HE7, ?_, HC7, HB7, ?_⟩, ?_⟩
              · omega
              · go_num
              · exact HO7
              · exact HA7
              · simp only [intOf]
                omega
        · obtain rfl : i = l.length := by omega
          go_wp2
          go_ret
          exact ⟨_, rfl, ⟨⟨E, HE.out, HOE.out, HBr.out⟩⟩⟩
end Go.Proofs.Ytebhclgnpnlekaa.Ord
