/- The document's own, and done, of chapter 21, by their walks. No condition. -/
import Derived.Test.YtebhclgnpnlekaaChkV
namespace Go.Proofs.Ytebhclgnpnlekaa.Chk
open Go.RowKit Go.Proofs.Ytebhclgnpnlekaa.B Go.Proofs.Ytebhclgnpnlekaa.Cmd Go.Proofs.Ytebhclgnpnlekaa.Agg Go.Proofs.Ytebhclgnpnlekaa.Ent Go.Proofs.Ytebhclgnpnlekaa.Ord
set_option maxHeartbeats 8000000 in
set_option maxRecDepth 100000 in
/-- The first entries of names that are done, of one view. -/
theorem own21_calls (A B : Option Addr) (c m d : Nat) (L : List QE) (I : Nat → Prop) (w : World) (hI : ∀ k, I k → k < w.heap.size) (h : Rep.Row qeRep I w A L) (hl : L.length ≤ 100000) :
    Calls Try.prog 152 #[.agg #[.slice A L.length c, .slice B m d]] w fun r w' => ∃ v, r = .returned v ∧ Hold (RO qeRep 75 I w w' v (own L)) := by
  have hm := h.len_le
  obtain ⟨hv, hhv⟩ : ∃ b, w.heap.size = b := ⟨_, rfl⟩
  obtain ⟨W, hW⟩ : ∃ W, w.alloc (.cells #[.slice A L.length c, .slice B m d] 184) = W := ⟨_, rfl⟩
  have hB : Bs w W [(hv, 184, #[.slice A L.length c, .slice B m d])] := by
    have h1 := (Bs.nil w).alloc #[.slice A L.length c, .slice B m d] 184
    rw [hW] at h1
    simpa [hhv] using h1
  have HV0 : Hold (W.cell? ⟨hv, 0, none⟩ = some (.slice A L.length c)) := ⟨hB.cell 0 rfl 0⟩
  have HVl : Hold (hv < W.heap.size) := ⟨hB.lt 0 rfl⟩
  have HBl := Hold.mk hB.below
  have H := Hold.mk (h.below hB.below)
  have HL := Hold.mk hl
  have HIn := Hold.mk fun k hk => Nat.lt_of_lt_of_le (hI k hk) hB.below.size
  have HO0 : Hold (RO qeRep 75 I W W (.slice none 0 0) []) := ⟨RO.nil⟩
  clear h hl hI hB
  go_enter Try.func152, Try.ntmps152
  go_wp2
  clear hW hhv
  go_loopw [3, 4] (fun v s wr => ∃ i : Nat, i ≤ L.length ∧ s = .int .i64 (i : Int) ∧ Hold (RO qeRep 75 I W wr v (own (L.take i)))) (fun _ s _ => L.length - (intOf s).toNat)
  case atStart => exact ⟨0, by omega, rfl, HO0⟩
  case round =>
    obtain ⟨i, hi, rfl, HO⟩ := hrel
    have v0 := (below_cell HO.out.bel (p := ⟨hv, 0, none⟩) HVl.out).trans HV0.out
    by_cases hlt : i < L.length
    · have l1 : (i : Int) < (L.length : Int) := by omega
      have hos := own_take_succ L i hlt
      have hrow := H.out.below HO.out.bel
      obtain ⟨ad, p, rfl, hp, hpl, hQ, hF⟩ := row_qe hrow i hlt
      have hfi : ∀ n id, Calls Try.prog 157 #[.slice (some ad) L.length c, .int .i64 id] (wr.drewN n) fun e w' => e = .returned (.int .i64 (findI L id)) ∧ wr.drewN n = w' := fun n id => find_calls _ _ _ L id _ _ rfl (hrow.drewN n) _ rfl
      obtain ⟨e, he⟩ : ∃ e, L[i] = e := ⟨_, rfl⟩
      rw [he] at hos hQ hF
      obtain ⟨x, pe⟩ := e
      obtain ⟨g0, g16, _⟩ := hQ.fld
      obtain ⟨D, hD⟩ : ∃ D, x.dn = D := ⟨_, rfl⟩
      obtain ⟨id, hid⟩ : ∃ id, x.c.id = id := ⟨_, rfl⟩
      obtain ⟨k, hk⟩ : ∃ k, findI L id = k := ⟨_, rfl⟩
      have HC : Hold (∀ n, Calls Try.prog 157 #[.slice (some ad) L.length c, .int .i64 id] (wr.drewN n) fun e w' => e = .returned (.int .i64 k) ∧ wr.drewN n = w') := ⟨fun n => hk ▸ hfi n id⟩
      obtain ⟨q, hq⟩ : ∃ q, (k == (i : Int)) = q := ⟨_, rfl⟩
      have HOs : Hold (own (L.take (i + 1)) = if (D && q) = true then own (L.take i) ++ [⟨x, pe⟩] else own (L.take i)) := ⟨by rw [hos]; simp only [QE.id, QE.dn, hid, hD, hk, hq]⟩
      have HF := Hold.mk hF
      have HQx : Hold (∀ n (j : Nat) (u : Value), x.cells[j]? = some u → (wr.drewN n).cell? (p.add j) = some u) := ⟨fun n j u hu => hQ j u hu⟩
      have g0' : wr.cell? p = some (.int .i64 id) := by rw [g0]; exact congrArg _ (congrArg _ hid)
      have g16' : wr.cell? ⟨p.block, p.off + 16, none⟩ = some (.bool D) := by rw [g16]; exact congrArg _ (congrArg _ hD)
      obtain ⟨P, hP⟩ : ∃ P, own (L.take i) = P := ⟨_, rfl⟩
      have hPl : P.length ≤ i := by rw [← hP]; have := own_len (L.take i); rw [List.length_take] at this; omega
      have HLn : Hold ((P.length + 1) * 192 ≤ 140737488355328) := ⟨by have := HL.out; omega⟩
      rw [hP] at HO HOs
      clear hrow hfi hos he hQ hF g0 g16 hD hid hk hP hPl
      go_upto_region 5 with (fail)
      cases q
      · go_big_quiet (exact quiet_left (HC.out _))
        go_wp2
        have HO8 := Hold.mk (HO.out.below (below_drewN wr nq))
        refine ⟨⟨i + 1, ?_, ?_, ?_⟩, ?_⟩
        · omega
        · go_num
        · rw [HOs.out]; simpa using HO8
        · simp only [intOf]; omega
      · cases D
        · go_big_quiet (exact quiet_left (HC.out _))
          go_wp2
          have HO8 := Hold.mk (HO.out.below (below_drewN wr nq))
          refine ⟨⟨i + 1, ?_, ?_, ?_⟩, ?_⟩
          · omega
          · go_num
          · rw [HOs.out]; simpa using HO8
          · simp only [intOf]; omega
        · go_big_quiet (exact quiet_left (HC.out _))
          have HO3 := Hold.mk (HO.out.below (below_drewN wr nq))
          have hQx := HQx.out nq
          go_wp2_with (first
            | (with_reducible refine gateL 75 ?_; refine wpl_loadO isD rfl (ER.size x) hQx rfl ?_)
            | (with_reducible refine gateB 92 ?_; refine wpl_box1 Try.underlying92 rfl (built_qd x) rfl ?_)
            | (at_builtin; refine Rep.wp_push qeRep rfl (.tmp 32) (.tmp 38) 92 75 (.agg noER.cells) 192 rfl Try.underlying92 info_qd noER_sz qe_sz0 (by decide) W.heap.size I I u3 P ⟨x, pe⟩ x.cells.toList rfl rfl HO3.out.own ⟨rfl, HF.out.below (below_drewN wr nq)⟩ (fun k hk _ => ⟨hk, fun h => by have h1 := (HO3.out.own.block_lt k h.symm).1; have h2 := HIn.out k hk; omega⟩) HO3.out.bel.size HLn.out ?_; intro A1 c1 w2 HG))
          have ho := HO3.out.grown HG.out
          rw [List.length_append, List.length_singleton] at ho
          refine ⟨⟨i + 1, ?_, ?_, ?_⟩, ?_⟩
          · omega
          · go_num
          · rw [HOs.out]; exact ⟨ho⟩
          · simp only [intOf]; omega
    · obtain rfl : i = L.length := by omega
      rw [List.take_length] at HO
      go_wp2
      go_ret
      exact ⟨_, rfl, ⟨HO.out.lower HBl.out⟩⟩
theorem isV21 : IsStruct Try.prog 184 2 := ⟨by kernel_rfl, by kernel_rfl⟩
theorem isV : IsStruct Try.prog 114 2 := ⟨by kernel_rfl, by kernel_rfl⟩
theorem two_cells {w : World} {p : Addr} {a b : Value} (h0 : w.cell? p = some a) (h1 : w.cell? (p.add 1) = some b) : ∀ (j : Nat) (u : Value), #[a, b][j]? = some u → w.cell? (p.add j) = some u := by
  intro j u hu
  rcases j with _ | _ | j
  · have : a = u := by simpa using hu
    subst this
    exact h0
  · have : b = u := by simpa using hu
    subst this
    exact h1
  · simp at hu
set_option maxHeartbeats 8000000 in
set_option maxRecDepth 100000 in
/-- The first entries of names that are done, of all views. -/
theorem done21_calls (A : Option Addr) (c : Nat) (l : List ViewD) (I : Nat → Prop) (w : World) (hI : ∀ k, I k → k < w.heap.size) (h : Rep.Row viewRep I w A l) (hl : l.length ≤ 1000) (hb : ∀ v ∈ l, v.1.length ≤ 1000) :
    Calls Try.prog 131 #[.slice A l.length c] w fun r w' => ∃ v, r = .returned v ∧ Hold (RO qeRep 75 I w w' v (allOwn l)) := by
  have H := Hold.mk h
  have HL := Hold.mk hl
  have HBd := Hold.mk hb
  have HIn := Hold.mk hI
  clear h hb hI
  go_enter Try.func131, Try.ntmps131
  go_wp2
  go_loopw [3, 4] (fun v s wr => ∃ i : Nat, i ≤ l.length ∧ s = .int .i64 (i : Int) ∧ Hold (RO qeRep 75 I w wr v (allOwn (l.take i)))) (fun _ s _ => l.length - (intOf s).toNat)
  case atStart => exact ⟨0, by omega, rfl, ⟨RO.nil⟩⟩
  case round =>
    obtain ⟨i, hi, rfl, HO⟩ := hrel
    by_cases hlt : i < l.length
    · have l1 : (i : Int) < (l.length : Int) := by omega
      have hT : l.take (i + 1) = l.take i ++ [l[i]] := List.take_succ_eq_append_getElem hlt
      have hbd := HBd.out l[i] (List.getElem_mem hlt)
      have hPl := allOwn_len (l.take i) 1000 (fun v hv => HBd.out v (List.mem_of_mem_take hv))
      have hos := allOwn_snoc (l.take i) l[i]
      rw [← hT] at hos
      rw [List.length_take] at hPl
      obtain ⟨ad, p, A1, c1, B1, d1, rfl, hp, hpl, k0, k1, _, _, _, _, hr, _⟩ := row_view (H.out.below HO.out.bel) i hlt
      obtain ⟨v, hv⟩ : ∃ v, l[i] = v := ⟨_, rfl⟩
      rw [hv] at k0 k1 hr hos hbd
      obtain ⟨L, had⟩ := v
      have hQ := two_cells k0 k1
      have HOw := Hold.mk (own21_calls A1 B1 c1 had.length d1 L I wr (fun k hk => Nat.lt_of_lt_of_le (HIn.out k hk) HO.out.bel.size) hr (by have : L.length ≤ 1000 := hbd; omega))
      obtain ⟨P, hP⟩ : ∃ P, allOwn (l.take i) = P := ⟨_, rfl⟩
      obtain ⟨Y, hY⟩ : ∃ Y, own L = Y := ⟨_, rfl⟩
      have hYl : Y.length ≤ 1000 := by rw [← hY]; have := own_len L; have : L.length ≤ 1000 := hbd; omega
      obtain ⟨Z, hZ⟩ : ∃ Z, P ++ Y = Z := ⟨_, rfl⟩
      have HOs : Hold (allOwn (l.take (i + 1)) = Z) := ⟨by rw [hos, hP, ← hZ, ← hY]⟩
      rw [hP] at HO hPl
      rw [hY] at HOw
      have HLn : Hold ((P.length + Y.length) * 192 ≤ 140737488355328) := ⟨by have := HL.out; have : min i l.length * 1000 ≤ 1000 * 1000 := Nat.mul_le_mul_right _ (by omega); omega⟩
      have HZ := Hold.mk hZ
      clear hT hbd hPl hos k0 k1 hr hP hY hYl hZ hv
      go_wp2_with (first
        | (with_reducible refine gateL 184 ?_; refine wpl_loadO isV21 rfl rfl hQ rfl ?_)
        | (go_at_call 152; with_reducible refine HOw.out.mono ?_; rintro r w1 ⟨v2, rfl, HY⟩; obtain ⟨A2, c2, rfl, _, hn2⟩ := HY.out.form; have HN2 := Hold.mk hn2; clear hn2; have HO1 := Hold.mk (HO.out.below HY.out.bel))
        | (at_builtin; refine Rep.wp_more qeRep rfl (.tmp 11) (.tmp 16) 92 75 (.agg noER.cells) 192 rfl Try.underlying92 info_qd noER_sz qe_sz0 (by decide) w.heap.size I I u3 P Y Z A2 _ c2 rfl rfl rfl HZ.out HO1.out.own (own_rowV HY.out.own) (fun k hk _ => ⟨hk, fun h => by have h1 := (HO1.out.own.block_lt k h.symm).1; have h2 := HIn.out k hk; omega⟩) HN2.out HO1.out.bel.size HLn.out ?_; intro A3 c3 w3 HG))
      have ho := HO1.out.grown HG.out
      refine ⟨⟨i + 1, ?_, ?_, ?_⟩, ?_⟩
      · omega
      · go_num
      · rw [HOs.out]; exact ⟨ho⟩
      · simp only [intOf]; omega
    · obtain rfl : i = l.length := by omega
      rw [List.take_length] at HO
      go_wp2
      go_ret
      exact ⟨_, rfl, HO⟩
end Go.Proofs.Ytebhclgnpnlekaa.Chk
