/- Law 17's OrderTimes, by its walk. -/
import Derived.Test.YtebhclgnpnlekaaTimE
namespace Go.Proofs.Ytebhclgnpnlekaa.Ord
open Go.RowKit Go.Proofs.Ytebhclgnpnlekaa.B Go.Proofs.Ytebhclgnpnlekaa.Cmd Go.Proofs.Ytebhclgnpnlekaa.Agg Go.Proofs.Ytebhclgnpnlekaa.Ent
open Go.Proofs.Ytebhclgnpnlekaa.Pr (CO arr arr_size arr_one isC zeroC IO info_i wp_pushC)
/-- Different times. -/
def Diff (l : List ItemD) (n : Nat) : Prop := ∀ a b : Nat, a < b → b < n → tmI l a ≠ tmI l b
theorem Diff.ne {l : List ItemD} {n : Nat} (h : Diff l n) {a b : Nat} (ha : a < n) (hb : b < n) (he : tmI l a = tmI l b) : a = b := by
  rcases Nat.lt_trichotomy a b with h1 | h1 | h1
  · exact absurd he (h a b h1 hb)
  · exact h1
  · exact absurd he.symm (h b a h1 ha)
/-- What is made of items with different times is good. -/
theorem good_of {l : List ItemD} {E : List QE} (hE : IsE l l.length E) (hD : Diff l l.length) : Good E ∧ (∀ (k : Nat) (hk : k < E.length), E[k] ∉ E.take k) := by
  have ix : ∀ x ∈ E, ∃ k : Nat, ∃ hk : k < E.length, x = E[k] := fun x hx => by
    obtain ⟨k, hk, e⟩ := List.getElem_of_mem hx
    exact ⟨k, hk, e.symm⟩
  have hid : ∀ (k : Nat) (hk : k < E.length), E[k].id = 16 * ((k : Int) + 1) := fun k hk => by
    show E[k].er.c.id = _
    rw [(hE.at_ k hk).c]; rfl
  have inj : ∀ (a b : Nat) (ha : a < E.length) (hb : b < E.length), E[a].id = E[b].id → a = b := fun a b ha hb h => by
    rw [hid a ha, hid b hb] at h; omega
  have ht : ∀ (k : Nat) (hk : k < E.length), E[k].t = 16 * (tmI l k + 1) + (k : Int) % 9 := fun k hk => (hE.at_ k hk).t
  have hlen := hE.len
  refine ⟨⟨fun x hx y hy h => ?_, fun x hx y hy h => ?_, fun x hx => ?_, fun x hx c hc => ?_, fun x hx y hy hs hlt => ?_⟩, fun k hk hm => ?_⟩
  · obtain ⟨a, ha, rfl⟩ := ix x hx
    obtain ⟨b, hb, rfl⟩ := ix y hy
    obtain rfl := inj a b ha hb h
    rfl
  · obtain ⟨a, ha, rfl⟩ := ix x hx
    obtain ⟨b, hb, rfl⟩ := ix y hy
    rw [ht a ha, ht b hb] at h
    have : tmI l a = tmI l b := by omega
    obtain rfl := hD.ne (by omega) (by omega) this
    rfl
  · obtain ⟨a, ha, rfl⟩ := ix x hx
    exact (hE.at_ a ha).dn
  · obtain ⟨a, ha, rfl⟩ := ix x hx
    obtain ⟨j, h1, h2, h3, rfl⟩ := (hE.at_ a ha).ps.mem c hc
    have hj : j < E.length := by omega
    refine ⟨fun h => ?_, E[j], List.getElem_mem hj, (hE.at_ j hj).c⟩
    have h4 := hid j hj
    have h5 : E[j].id = E[a].id := by rw [← h]; show E[j].er.c.id = _; rw [(hE.at_ j hj).c]
    exact h2 (inj j a hj ha h5)
  · obtain ⟨a, ha, rfl⟩ := ix x hx
    obtain ⟨b, hb, rfl⟩ := ix y hy
    rw [ht a ha, ht b hb] at hlt
    have hne : b ≠ a := fun h => by subst h; omega
    have hs' : (cmdI l b).sym = (cmdI l a).sym := by rw [← (hE.at_ b hb).c, ← (hE.at_ a ha).c]; exact hs
    have := (hE.at_ a ha).ps.low b (by omega) hne hs' (by
      have : tmI l b ≠ tmI l a := fun h => hne (hD.ne (by omega) (by omega) h)
      omega)
    rw [(hE.at_ b hb).c]
    exact this
  · obtain ⟨j, hj, hje⟩ := List.getElem_of_mem hm
    rw [List.length_take] at hj
    rw [List.getElem_take] at hje
    have := inj j k (by omega) hk (by rw [hje])
    omega
set_option maxHeartbeats 16000000 in
set_option maxRecDepth 100000 in
theorem times_calls (A : Option Addr) (c : Nat) (l : List ItemD) (more some_ : Int) (w : World) (h : Rep.Row itemRep (fun _ => True) w A l) (hmo : (Lit.int .u64 more).wf = true) (hso : (Lit.int .u32 some_).wf = true) :
    Calls Try.prog 11 #[.slice A l.length c, .int .u64 more, .int .u32 some_] w fun e w' => e = .returned (.bool true) ∧ Below w.heap.size w w' := by
  have H := Hold.mk h
  have hm := h.len_le
  clear h
  by_cases b1 : 30 < l.length
  · have t1 : (30 : Int) < (l.length : Int) := by omega
    go_enter Try.func11, Try.ntmps11
    go_wp2_with (go_at_call 62; refine (alive_calls _).mono ?_; rintro r w2 ⟨rfl, HB2⟩)
    go_ret
    exact ⟨rfl, HB2.out⟩
  · have t1 : ¬ (30 : Int) < (l.length : Int) := by omega
    have hl : l.length ≤ 30 := by omega
    clear b1
    have HW0 : Hold (Below w.heap.size w w) := ⟨Below.refl _ _⟩
    have HD0 : Hold (Diff l 0) := ⟨fun a b _ h => by omega⟩
    go_enter Try.func11, Try.ntmps11
    go_wp2
    go_loopw [7] (fun s wr => ∃ i : Nat, i ≤ l.length ∧ s = .int .i64 (i : Int) ∧ Hold (Diff l i) ∧ Hold (Below w.heap.size w wr)) (fun s _ => l.length - (intOf s).toNat)
    case atStart => exact ⟨0, by omega, rfl, HD0, HW0⟩
    case round =>
      obtain ⟨i, hi, rfl, HD, HB⟩ := hrel
      by_cases hlt : i < l.length
      · have l1 : (i : Int) < (l.length : Int) := by omega
        have HA0 : Hold (∀ a : Nat, a < 0 → tmI l a ≠ tmI l i) := ⟨fun a h => by omega⟩
        go_wp2
        go_loopw [8] (fun s w3 => ∃ k : Nat, k ≤ i ∧ s = .int .i64 (k : Int) ∧ Hold (∀ a : Nat, a < k → tmI l a ≠ tmI l i) ∧ Hold (Below w.heap.size w w3)) (fun s _ => i - (intOf s).toNat)
        case atStart => exact ⟨0, by omega, rfl, HA0, HB⟩
        case round =>
          obtain ⟨k, hk, rfl, HA, HB3⟩ := hrel
          by_cases hlk : k < i
          · have l3 : (k : Int) < (i : Int) := by omega
            have l4 : (k : Int) < (l.length : Int) := by omega
            obtain ⟨ad, p, hA1, hp, _, c0, c1, s0, s1, u0, u1⟩ := row_item (H.out.below HB3.out) i hlt
            obtain ⟨ad', q, hA2, hq, _, d0, d1, r0, r1, v0, v1⟩ := row_item (H.out.below HB3.out) k (by omega)
            have had : ad' = ad := by rw [hA1] at hA2; injection hA2 with e; exact e.symm
            subst had hA1
            have hti : tmI l i = l[i].2.1 := by unfold tmI; rw [List.getD_eq_getElem?_getD, List.getElem?_eq_getElem hlt]; rfl
            have htk : tmI l k = l[k].2.1 := by unfold tmI; rw [List.getD_eq_getElem?_getD, List.getElem?_eq_getElem (by omega)]; rfl
            rw [← hti] at c1
            rw [← htk] at d1
            obtain ⟨Ti, hTi⟩ : ∃ T, tmI l i = T := ⟨_, rfl⟩
            obtain ⟨Tk, hTk⟩ : ∃ T, tmI l k = T := ⟨_, rfl⟩
            rw [hTi] at c1
            rw [hTk] at d1
            have HTi := Hold.mk hTi
            have HTk := Hold.mk hTk
            clear hTi hTk hti htk hA2 c0 d0 s0 s1 r0 r1 u0 u1 v0 v1
            by_cases hT : Ti = Tk
            · have hd : (Ti == Tk) = true := by simpa using hT
              clear hT
              go_wp2
              go_big_quiet (fail)
              go_wp2_with (go_at_call 62; refine (alive_calls _).mono ?_; rintro r w5 ⟨rfl, HB5⟩)
              go_ret
              exact ⟨rfl, (HB3.out.trans ((below_drewN _ _).mono HB3.out.size)).trans (HB5.out.mono HB3.out.size)⟩
            · have hd : (Ti == Tk) = false := by simpa using hT
              have HA1 : Hold (∀ a : Nat, a < k + 1 → tmI l a ≠ tmI l i) := ⟨fun a ha => by
                by_cases e : a = k
                · subst e; rw [HTi.out, HTk.out]; exact fun h => hT h.symm
                · exact HA.out a (by omega)⟩
              clear hT
              go_wp2
              go_big_quiet (fail)
              go_wp2
              exact ⟨⟨k + 1, by omega, by go_num, HA1, ⟨HB3.out.trans ((below_drewN _ _).mono HB3.out.size)⟩⟩, by simp [intOf]; omega⟩
          · obtain rfl : k = i := by omega
            have HD1 : Hold (Diff l (k + 1)) := ⟨fun a b h1 h2 => by
              by_cases e : b = k
              · subst e; exact HA.out a h1
              · exact HD.out a b h1 (by omega)⟩
            go_wp2
            exact ⟨⟨k + 1, by omega, by go_num, HD1, HB3⟩, by simp [intOf]; omega⟩
      · obtain rfl : i = l.length := by omega
        go_wp2_with fail
        refine (entries_calls A c l more _ wr (H.out.below HB.out) hl hmo).mono ?_
        rintro r w1 ⟨v, rfl, HM⟩
        obtain ⟨E, hE, hO, hb1⟩ := HM.out
        have hEl := hE.len
        obtain ⟨A9, c9, rfl, _, _⟩ := hO.len_form
        rw [hEl]
        rw [hEl] at hO
        have HE := Hold.mk hE
        have HO := Hold.mk hO
        have HB1 := Hold.mk (HB.out.trans (hb1.mono HB.out.size))
        clear hE hO hb1
        go_upto_region 14 with (go_at_call 66; refine (orderAll_calls A9 none c9 0 _ 0 E [] _ (fun _ => True) w1 hEl.symm rfl HO.out.row (Rep.Row.nil _ _ _ _) (by omega) (by simp)).mono ?_; rintro r w2 ⟨v2, rfl, HC2⟩)
        obtain ⟨hG, hnd⟩ := good_of HE.out HD.out
        have hXl := all_length hG hnd
        have HFewA : Hold (∀ L : List QE, (∀ x ∈ L, x ∈ E) → ∀ s, (ofSym s (allS L [])).length ≤ (ofSym s (allS E [])).length ∧ (ofSym s (allS E [])).take (ofSym s (allS L [])).length = ofSym s (allS L [])) := ⟨fun L hL s => few_take hG hL s⟩
        have HRise : Hold (∀ s (k : Nat) x y, (ofSym s (allS E []))[k]? = some x → (ofSym s (allS E []))[k + 1]? = some y → x.t < y.t) := ⟨fun s k x y h1 h2 => by
          obtain ⟨g1, e1⟩ := List.getElem?_eq_some_iff.1 h1
          obtain ⟨g2, e2⟩ := List.getElem?_eq_some_iff.1 h2
          have := all_rise hG s k g2
          rw [e1, e2] at this
          exact this⟩
        have HMem : Hold (∀ s, ∀ x ∈ ofSym s (allS E []), ∃ k : Nat, k < l.length ∧ x.er.c.id = 16 * ((k : Int) + 1) ∧ x.t = 16 * (tmI l k + 1) + (k : Int) % 9) := ⟨fun s x hx => by
          obtain ⟨k, hk, rfl⟩ := List.getElem_of_mem (sym_mem hG s x hx)
          exact ⟨k, by omega, by rw [(HE.out.at_ k hk).c]; rfl, (HE.out.at_ k hk).t⟩⟩
        have HWt : Hold (waitsS E [] = []) := ⟨waits_none hG⟩
        obtain ⟨X, hX⟩ : ∃ X, allS E [] = X := ⟨_, rfl⟩
        rw [hX] at HC2 hXl HFewA HRise HMem
        obtain ⟨A2, c2, rfl, _, _⟩ := HC2.out.form
        have hcl : (cmds X).length = l.length := by rw [cmds, List.length_map, hXl, hEl]
        rw [hcl]
        rw [hcl] at HC2
        have HB2 := Hold.mk (HB1.out.trans (HC2.out.bel.mono HB1.out.size))
        have HR2 := Hold.mk (HO.out.row.below HC2.out.bel)
        have HEl := Hold.mk hEl
        have HXl := Hold.mk hXl
        have HQ0 : Hold (QO 70 w2 w2 (.slice none 0 0) []) := ⟨QO.nil _ _⟩
        have HHl := Hold.mk hl
        have hle9 := HR2.out.len_le
        clear hG hnd hX hXl hcl
        go_wp2
        go_loopw [11, 12] (fun v s w3 => ∃ i : Nat, i ≤ l.length ∧ s = .int .i64 (i : Int) ∧ ∃ L, Hold (∀ x ∈ L, x ∈ E) ∧ Hold (L.length ≤ i) ∧ Hold (QO 70 w2 w3 v L)) (fun _ s _ => l.length - (intOf s).toNat)
        case atStart => exact ⟨0, by omega, rfl, [], ⟨by simp⟩, ⟨by simp⟩, HQ0⟩
        case round =>
          obtain ⟨i, hi, rfl, L, HL, HLl, HQ⟩ := hrel
          by_cases hlt : i < l.length
          · have l1 : (i : Int) < (l.length : Int) := by omega
            have l2 : (i : Int) ≤ 30 := by omega
            have hie : i < E.length := by omega
            have hF0' := row_qe HR2.out i hie
            obtain ⟨ad, p, hA9, hp, _, hQx', _⟩ := row_qe (HR2.out.below HQ.out.bel) i hie
            obtain ⟨e, he⟩ : ∃ e, E[i] = e := ⟨_, rfl⟩
            have hmem : e ∈ E := he ▸ List.getElem_mem hie
            rw [he] at hQx' hF0'
            have hF0 : QF (fun k => k < w2.heap.size) w2 e := by
              obtain ⟨_, _, _, _, _, _, hF⟩ := hF0'
              exact hF.move fun k _ hlt => ⟨hlt, rfl⟩
            have HF := Hold.mk hF0
            have HLn : Hold ((L.length + 1) * 192 ≤ 140737488355328) := ⟨by have := HLl.out; omega⟩
            have HLp : Hold (∀ x ∈ L ++ [e], x ∈ E) := ⟨fun x hx => by
              rcases List.mem_append.1 hx with h | h
              · exact HL.out x h
              · rw [List.mem_singleton.1 h]; exact hmem⟩
            have HLpl : Hold ((L ++ [e]).length ≤ i + 1) := ⟨by have := HLl.out; simp; omega⟩
            have HLl1 : Hold (L.length ≤ i + 1) := ⟨by have := HLl.out; omega⟩
            obtain ⟨x, pe⟩ := e
            have hQx : ∀ (j : Nat) (u : Value), x.cells[j]? = some u → wr.cell? (p.add j) = some u := hQx'
            clear hQx' hF0' hF0 he hmem
            subst hA9
            obtain ⟨bb, hbb⟩ : ∃ bb, ((some_ / 2 ^ i).tmod 2 == 1) = bb := ⟨_, rfl⟩
            cases bb
            · go_wp2
              exact ⟨⟨i + 1, by omega, by go_num, L, HL, HLl1, HQ⟩, by simp [intOf]; omega⟩
            · go_wp2_with (first
                | (with_reducible refine gateL 70 ?_; refine wpl_loadO isE rfl (ER.size x) hQx rfl ?_)
                | (with_reducible refine gateB 90 ?_; refine wpl_box1 Try.underlying90 rfl (built_qe x) rfl ?_)
                | (at_builtin; refine Rep.wp_push qeRep rfl (.tmp 63) (.tmp 68) 90 70 (.agg noER.cells) 192 rfl Try.underlying90 info_qe noER_sz qe_sz0 (by decide) w2.heap.size (fun k => k < w2.heap.size) (fun k => k < w2.heap.size) u11 L ⟨x, pe⟩ x.cells.toList rfl rfl HQ.out.own ⟨rfl, HF.out.below HQ.out.bel⟩ (fun k hk _ => ⟨hk, fun h => by have := (HQ.out.own.block_lt k h.symm).1; omega⟩) HQ.out.bel.size HLn.out ?_; intro A1 c1 w5 HG5))
              have hb2 : Below w2.heap.size w2 w5 := HQ.out.bel.trans (HG5.out.below (fun k hk => (HQ.out.own.block_lt k hk).1) HQ.out.bel.size)
              have ho := HG5.out.own
              rw [List.length_append, List.length_singleton] at ho
              have HQ5 : Hold (QO 70 w2 w5 (.slice A1 (L.length + 1) c1) (L ++ [⟨x, pe⟩])) := ⟨⟨ho, hb2⟩⟩
              refine ⟨⟨i + 1, ?_, ?_, L ++ [⟨x, pe⟩], HLp, HLpl, HQ5⟩, ?_⟩
              · omega
              · go_num
              · simp only [intOf]
                omega
          · obtain rfl : i = l.length := by omega
            obtain ⟨A11, c11, rfl, _, _⟩ := HQ.out.form
            have hL5 : L.length ≤ 100000 := by have := HLl.out; omega
            have HAll2 := Hold.mk (orderAll_calls A11 none c11 0 _ 0 L [] _ (fun _ => True) wr rfl rfl HQ.out.own.row (Rep.Row.nil _ _ _ _) hL5 (by simp))
            have HRE := Hold.mk (HR2.out.below HQ.out.bel)
            have hE5 : E.length ≤ 100000 := by omega
            have HWa : Hold (∀ W, Below w2.heap.size w2 W → Calls Try.prog 68 #[.slice A9 l.length c9, .slice none 0 0] W fun r w' => ∃ A5 c5, r = .returned (.slice A5 0 c5) ∧ Hold (Below W.heap.size W w')) := ⟨fun W hW => by
              refine (orderWaits_calls A9 none c9 0 _ 0 E [] _ (fun _ => True) W HEl.out.symm rfl (HR2.out.below hW) (Rep.Row.nil _ _ _ _) hE5 (by simp)).mono ?_
              rintro r w' ⟨v, rfl, HI⟩
              rw [HWt.out] at HI
              obtain ⟨A5, c5, rfl, _, _⟩ := HI.out.own.len_form
              exact ⟨A5, c5, rfl, ⟨HI.out.bel⟩⟩⟩
            have HB3 := Hold.mk (HB2.out.trans (HQ.out.bel.mono HB2.out.size))
            have HQb := Hold.mk HQ.out.bel
            obtain ⟨Y, hY⟩ : ∃ Y, allS L [] = Y := ⟨_, rfl⟩
            have HFew := Hold.mk (HFewA.out L HL.out)
            rw [hY] at HFew
            have HYl : Hold ((cmds Y).length ≤ 1000000) := ⟨by rw [← hY, cmds, List.length_map]; have := all_len L []; omega⟩
            rw [hY] at HAll2
            have HXl2 : Hold ((cmds X).length ≤ 1000000) := ⟨by rw [cmds, List.length_map, HXl.out]; omega⟩
            have HXl3 : Hold (l.length = (cmds X).length) := ⟨by rw [cmds, List.length_map, HXl.out, HEl.out]⟩
            clear hY hL5 hE5 HQ0 hEl
            go_upto_region 22 with (first
              | (go_at_call 66; with_reducible refine HAll2.out.mono ?_; rintro r w4 ⟨v4, rfl, HC4⟩; obtain ⟨A4, c4, rfl, _, _⟩ := HC4.out.form; have HB4 := Hold.mk (HB3.out.trans (HC4.out.bel.mono HB3.out.size)); have HQ4 := Hold.mk (HQb.out.trans (HC4.out.bel.mono HQb.out.size)))
              | (go_at_call 68; with_reducible refine (HWa.out w4 HQ4.out).mono ?_; rintro r w5 ⟨A5, c5, rfl, HB5'⟩; have HB5 := Hold.mk (HB4.out.trans (HB5'.out.mono HB4.out.size))))
            have HRX : Hold (Rep.Row cmdRep _ w5 A2 (cmds X)) := ⟨HC2.out.own.row.below (HQ4.out.trans (HB5'.out.mono HQ4.out.size))⟩
            have HRY : Hold (Rep.Row cmdRep _ w5 A4 (cmds Y)) := ⟨HC4.out.own.row.below HB5'.out⟩
            go_wp2
            go_loopw [14] (fun s w6 => ∃ j : Nat, j ≤ 4 ∧ s = .int .i64 (j : Int) ∧ Hold (Below w5.heap.size w5 w6)) (fun s _ => 4 - (intOf s).toNat)
            case atStart => exact ⟨0, by omega, rfl, ⟨Below.refl _ _⟩⟩
            case round =>
              obtain ⟨j, hj, rfl, HB6⟩ := hrel
              by_cases hj4 : j < 4
              · have l1 : (j : Int) < 4 := by omega
                have hfew := HFew.out (j : Int)
                have e1 := bySym_cmds (j : Int) X
                have e2 := bySym_cmds (j : Int) Y
                obtain ⟨F, hF⟩ : ∃ F, ofSym (j : Int) X = F := ⟨_, rfl⟩
                obtain ⟨G, hG⟩ : ∃ G, ofSym (j : Int) Y = G := ⟨_, rfl⟩
                rw [hF] at e1 hfew
                rw [hG] at e2 hfew
                have HRs := Hold.mk (HRise.out (j : Int))
                have HMs := Hold.mk (HMem.out (j : Int))
                rw [hF] at HRs HMs
                have HO1 := Hold.mk (of_sym_calls A2 c2 l.length (cmds X) (j : Int) _ wr HXl3.out (HRX.out.below HB6.out) HXl2.out)
                rw [e1] at HO1
                have hc1 : (cmds F).length = F.length := by simp [cmds]
                have hc2 : (cmds G).length = G.length := by simp [cmds]
                have hle : ¬ (F.length : Int) < (G.length : Int) := by omega
                have HTk : Hold ((cmds F).take G.length = cmds G) := ⟨by rw [cmds, ← List.map_take, hfew.2]; rfl⟩
                have HC1 := Hold.mk hc1
                have HC2' := Hold.mk hc2
                have HO2 : Hold (∀ W, Below w5.heap.size w5 W → Calls Try.prog 71 #[.slice A4 (cmds Y).length c4, .int .i64 (j : Int)] W fun r w' => ∃ v, r = .returned v ∧ Hold (CO W w' v (cmds G))) := ⟨fun W hW => by rw [← e2]; exact of_sym_calls A4 c4 _ (cmds Y) (j : Int) _ W rfl (HRY.out.below hW) HYl.out⟩
                have HGF : Hold (G.length ≤ F.length) := ⟨hfew.1⟩
                clear hfew e1 e2 hF hG hc1 hc2
                go_upto_region 29 with (first
                  | (go_at_call 71; with_reducible refine HO1.out.mono ?_; rintro r w7 ⟨v7, rfl, HC7⟩; obtain ⟨A7, c7, rfl, hcap7, hnil7⟩ := HC7.out.form; rw [HC1.out]; rw [HC1.out] at HC7 hcap7; have HB7 := Hold.mk (HB6.out.trans (HC7.out.bel.mono HB6.out.size)))
                  | (go_at_call 71; with_reducible refine (HO2.out w7 HB7.out).mono ?_; rintro r w8 ⟨v8, rfl, HC8⟩; obtain ⟨A8, c8, rfl, _, _⟩ := HC8.out.form; rw [HC2'.out]; rw [HC2'.out] at HC8; have HB8 := Hold.mk (HB7.out.trans (HC8.out.bel.mono HB7.out.size))))
                have l7 : G.length ≤ c7 := Nat.le_trans HGF.out hcap7
                have l8 : (G.length : Int) ≤ (c7 : Int) := by omega
                have l9 : (0 : Int) ≤ (G.length : Int) := by omega
                have HSame := Hold.mk (Pr.same02_calls A7 A8 c7 c8 G.length G.length (cmds G) (cmds G) _ _ w8 HC2'.out.symm HC2'.out.symm (by rw [← HTk.out]; exact (HC7.out.own.row.below HC8.out.bel).take _) HC8.out.own.row true (decide_eq_true rfl))
                go_wp2_with (go_at_call 25; refine HSame.out.mono ?_; rintro r w9 ⟨rfl, HB9'⟩; have HB9 := Hold.mk (HB8.out.trans (HB9'.out.mono HB8.out.size)))
                have HRF : Hold (Rep.Row cmdRep _ w9 A7 (cmds F)) := ⟨(HC7.out.own.row.below HC8.out.bel).below HB9'.out⟩
                have HW9 : Hold (Below w.heap.size w w9) := ⟨HB5.out.trans (HB9.out.mono HB5.out.size)⟩
                have HB90 : Hold (Below w9.heap.size w9 w9) := ⟨Below.refl _ _⟩
                have hFl : F.length ≤ 9223372036854775807 := by have := HRF.out.len_le; rw [HC1.out] at this; exact this
                clear HSame HC7 HC8 hcap7 hnil7 l7 l8 l9 hle HO1 HO2
                go_loopw [18] (fun s w10 => ∃ k : Nat, 1 ≤ k ∧ s = .int .i64 (k : Int) ∧ Hold (Below w9.heap.size w9 w10)) (fun s _ => F.length - (intOf s).toNat)
                case atStart => exact ⟨1, by omega, rfl, HB90⟩
                case round =>
                  obtain ⟨k, hk1, rfl, HB10⟩ := hrel
                  by_cases hkl : k < F.length
                  · have l2 : (k : Int) < (F.length : Int) := by omega
                    obtain ⟨m, hkm⟩ : ∃ m : Nat, k = m + 1 := ⟨k - 1, by omega⟩
                    have hm1 : (k : Int) - 1 = (m : Int) := by omega
                    have l3 : (m : Int) < (F.length : Int) := by omega
                    have hmF : m < F.length := by omega
                    obtain ⟨xd, p1, hx1, hp1, _, ⟨c0, _⟩⟩ := row_cmd (HRF.out.below HB10.out) m (by rw [HC1.out]; exact hmF)
                    obtain ⟨xd', p2, hx2, hp2, _, ⟨d0, _⟩⟩ := row_cmd (HRF.out.below HB10.out) k (by rw [HC1.out]; exact hkl)
                    have hxd : xd' = xd := by rw [hx1] at hx2; injection hx2 with e; exact e.symm
                    subst hxd
                    have em : (cmds F)[m]'(by rw [HC1.out]; exact hmF) = F[m].er.c := by simp [cmds]
                    have ek : (cmds F)[k]'(by rw [HC1.out]; exact hkl) = F[k].er.c := by simp [cmds]
                    rw [em] at c0
                    rw [ek] at d0
                    have hlt := HRs.out m F[m] F[k] (List.getElem?_eq_getElem hmF) (by rw [← hkm]; exact List.getElem?_eq_getElem hkl)
                    obtain ⟨a, ha, hida, hta⟩ := HMs.out F[m] (List.getElem_mem hmF)
                    obtain ⟨b, hb, hidb, htb⟩ := HMs.out F[k] (List.getElem_mem hkl)
                    rw [hida] at c0
                    rw [hidb] at d0
                    have hbw : Below w.heap.size w wr := HW9.out.trans (HB10.out.mono HW9.out.size)
                    obtain ⟨ad, q1, hA1, hq1, _, _, g1, _, _, _, _⟩ := row_item (H.out.below hbw) a ha
                    obtain ⟨ad', q2, hA2, hq2, _, _, g2, _, _, _, _⟩ := row_item (H.out.below hbw) b hb
                    have had : ad' = ad := by rw [hA1] at hA2; injection hA2 with e; exact e.symm
                    subst had
                    have hti : tmI l a = l[a].2.1 := by unfold tmI; rw [List.getD_eq_getElem?_getD, List.getElem?_eq_getElem ha]; rfl
                    have htk : tmI l b = l[b].2.1 := by unfold tmI; rw [List.getD_eq_getElem?_getD, List.getElem?_eq_getElem hb]; rfl
                    rw [← hti] at g1
                    rw [← htk] at g2
                    have hTT : ¬ tmI l b ≤ tmI l a := fun hle => by
                      rw [hta, htb] at hlt
                      have heq : tmI l a = tmI l b := by omega
                      have := HD.out.ne ha hb heq
                      subst this
                      omega
                    obtain ⟨Ta, hTa⟩ : ∃ T, tmI l a = T := ⟨_, rfl⟩
                    obtain ⟨Tb, hTb⟩ : ∃ T, tmI l b = T := ⟨_, rfl⟩
                    rw [hTa] at g1 hTT
                    rw [hTb] at g2 hTT
                    have hd := decide_eq_false hTT
                    obtain ⟨ia, hia⟩ : ∃ i, 16 * ((a : Int) + 1) = i := ⟨_, rfl⟩
                    obtain ⟨ib, hib⟩ : ∃ i, 16 * ((b : Int) + 1) = i := ⟨_, rfl⟩
                    rw [hia] at c0
                    rw [hib] at d0
                    have HQa : Hold (ia.tdiv 16 = (a : Int) + 1) := ⟨by rw [← hia]; exact Int.mul_tdiv_cancel_left _ (by omega)⟩
                    have HQb : Hold (ib.tdiv 16 = (b : Int) + 1) := ⟨by rw [← hib]; exact Int.mul_tdiv_cancel_left _ (by omega)⟩
                    have HWa1 : Hold (IntKind.i64.wrap ((a : Int) + 1) = (a : Int) + 1) := ⟨by rw [IntKind.wrap_i64]; omega⟩
                    have HWb1 : Hold (IntKind.i64.wrap ((b : Int) + 1) = (b : Int) + 1) := ⟨by rw [IntKind.wrap_i64]; omega⟩
                    have HWa0 : Hold (IntKind.i64.wrap (a : Int) = (a : Int)) := ⟨by rw [IntKind.wrap_i64]; omega⟩
                    have HWb0 : Hold (IntKind.i64.wrap (b : Int) = (b : Int)) := ⟨by rw [IntKind.wrap_i64]; omega⟩
                    have HWm0 : Hold (IntKind.i64.wrap (m : Int) = (m : Int)) := ⟨by rw [IntKind.wrap_i64]; omega⟩
                    have HSa : Hold ((a : Int) + 1 - 1 = (a : Int)) := ⟨by omega⟩
                    have HSb : Hold ((b : Int) + 1 - 1 = (b : Int)) := ⟨by omega⟩
                    have HM1 := Hold.mk hm1
                    have la : (a : Int) < (l.length : Int) := by omega
                    have lb : (b : Int) < (l.length : Int) := by omega
                    have HKm := Hold.mk hkm
                    subst hA1 hx1
                    clear hm1 hlt hida hidb hta htb hti htk hTT hTa hTb hia hib em ek hkm hA2 hx2
                    go_upto_region 35 with (fail)
                    have hS : wr.drew.cell? p1 = some (.int .i64 ia) ∧ wr.drew.cell? p2 = some (.int .i64 ib) ∧ wr.drew.cell? ⟨q1.block, q1.off + 1, none⟩ = some (.int .u16 Ta) ∧ wr.drew.cell? ⟨q2.block, q2.off + 1, none⟩ = some (.int .u16 Tb) := ⟨c0, d0, g1, g2⟩
                    clear c0 d0 g1 g2
                    refine rg_start (S := fun w' => w'.cell? p1 = some (.int .i64 ia) ∧ w'.cell? p2 = some (.int .i64 ib) ∧ w'.cell? ⟨q1.block, q1.off + 1, none⟩ = some (.int .u16 Ta) ∧ w'.cell? ⟨q2.block, q2.off + 1, none⟩ = some (.int .u16 Tb)) 24 #[false, false, false, false, false, false, false, false, false, false, false, false, false, false, false, false, false, false, false, false, false, false, false, false] (by kernel_rfl) (by kernel_rfl) (by kernel_rfl) hS ?_
                    refine rg_take 0 112 (.move (.tmp 0)) (.slice (some ad') l.length c) #[true, false, false, false, false, false, false, false, false, false, false, false, false, false, false, false, false, false, false, false, false, false, false, false] (by kernel_rfl) (by rfl) (by kernel_rfl) (by kernel_rfl) (by kernel_rfl) (fun _ _ _ h => h) (.inl ⟨by kernel_rfl, fun _ _ => by kernel_rfl⟩) hS ?_
                    simp only [List.setIfInBounds_toArray, List.set_cons_zero, List.set_cons_succ]
                    refine rg_take 1 113 (.move (.tmp 15)) (.slice (some xd') F.length c7) #[true, true, false, false, false, false, false, false, false, false, false, false, false, false, false, false, false, false, false, false, false, false, false, false] (by kernel_rfl) (by rfl) (by kernel_rfl) (by kernel_rfl) (by kernel_rfl) (fun _ _ _ h => h) (.inl ⟨by kernel_rfl, fun _ _ => by kernel_rfl⟩) hS ?_
                    simp only [List.setIfInBounds_toArray, List.set_cons_zero, List.set_cons_succ]
                    refine rg_take 2 114 (.move (.tmp 18)) (.int .i64 (k : Int)) #[true, true, true, false, false, false, false, false, false, false, false, false, false, false, false, false, false, false, false, false, false, false, false, false] (by kernel_rfl) (by rfl) (by kernel_rfl) (by kernel_rfl) (by kernel_rfl) (fun _ _ _ h => h) (.inl ⟨by kernel_rfl, fun _ _ => by kernel_rfl⟩) hS ?_
                    simp only [List.setIfInBounds_toArray, List.set_cons_zero, List.set_cons_succ]
                    refine rg_take 3 115 (.binOp .sub 3 (.tmp 114) (.const (.int .i64 1)) 3) (.int .i64 (m : Int)) #[true, true, true, true, false, false, false, false, false, false, false, false, false, false, false, false, false, false, false, false, false, false, false, false] (by kernel_rfl) (by rfl) (by kernel_rfl) (by kernel_rfl) (by kernel_rfl) (fun _ _ _ h => h) (.inl ⟨by kernel_rfl, fun _ _ => by have h0 := HM1.out; have h1 := HWm0.out; go_simp⟩) hS ?_
                    simp only [List.setIfInBounds_toArray, List.set_cons_zero, List.set_cons_succ]
                    refine rg_take 4 116 (.indexAddr 23 (.tmp 113) (.tmp 115)) (.pointer (some p1)) #[true, true, true, true, true, false, false, false, false, false, false, false, false, false, false, false, false, false, false, false, false, false, false, false] (by kernel_rfl) (by rfl) (by kernel_rfl) (by kernel_rfl) (by kernel_rfl) (fun _ _ _ h => h) (.inl ⟨by kernel_rfl, fun _ _ => by go_simp⟩) hS ?_
                    simp only [List.setIfInBounds_toArray, List.set_cons_zero, List.set_cons_succ]
                    refine rg_take 5 117 (.fieldAddr 45 (.tmp 116) 0) (.pointer (some p1)) #[true, true, true, true, true, true, false, false, false, false, false, false, false, false, false, false, false, false, false, false, false, false, false, false] (by kernel_rfl) (by rfl) (by kernel_rfl) (by kernel_rfl) (by kernel_rfl) (fun _ _ _ h => h) (.inl ⟨by kernel_rfl, fun _ _ => by go_simp⟩) hS ?_
                    simp only [List.setIfInBounds_toArray, List.set_cons_zero, List.set_cons_succ]
                    refine rg_take 6 118 (.load 3 (.tmp 117)) (.int .i64 ia) #[true, true, true, true, true, true, true, false, false, false, false, false, false, false, false, false, false, false, false, false, false, false, false, false] (by kernel_rfl) (by rfl) (by kernel_rfl) (by kernel_rfl) (by kernel_rfl) (fun _ _ _ h => h) (.inl ⟨by kernel_rfl, fun w hSw => by have hcell := hSw.1; go_simp⟩) hS ?_
                    simp only [List.setIfInBounds_toArray, List.set_cons_zero, List.set_cons_succ]
                    refine rg_take 7 119 (.binOp .quo 3 (.tmp 118) (.const (.int .i64 16)) 3) (.int .i64 ((a : Int) + 1)) #[true, true, true, true, true, true, true, true, false, false, false, false, false, false, false, false, false, false, false, false, false, false, false, false] (by kernel_rfl) (by rfl) (by kernel_rfl) (by kernel_rfl) (by kernel_rfl) (fun _ _ _ h => h) (.inl ⟨by kernel_rfl, fun _ _ => by have h0 := HQa.out; have h1 := HWa1.out; go_simp⟩) hS ?_
                    simp only [List.setIfInBounds_toArray, List.set_cons_zero, List.set_cons_succ]
                    refine rg_take 8 120 (.binOp .sub 3 (.tmp 119) (.const (.int .i64 1)) 3) (.int .i64 (a : Int)) #[true, true, true, true, true, true, true, true, true, false, false, false, false, false, false, false, false, false, false, false, false, false, false, false] (by kernel_rfl) (by rfl) (by kernel_rfl) (by kernel_rfl) (by kernel_rfl) (fun _ _ _ h => h) (.inl ⟨by kernel_rfl, fun _ _ => by have h0 := HSa.out; have h1 := HWa0.out; go_simp⟩) hS ?_
                    simp only [List.setIfInBounds_toArray, List.set_cons_zero, List.set_cons_succ]
                    refine rg_take 9 121 (.indexAddr 101 (.tmp 112) (.tmp 120)) (.pointer (some q1)) #[true, true, true, true, true, true, true, true, true, true, false, false, false, false, false, false, false, false, false, false, false, false, false, false] (by kernel_rfl) (by rfl) (by kernel_rfl) (by kernel_rfl) (by kernel_rfl) (fun _ _ _ h => h) (.inl ⟨by kernel_rfl, fun _ _ => by go_simp⟩) hS ?_
                    simp only [List.setIfInBounds_toArray, List.set_cons_zero, List.set_cons_succ]
                    refine rg_take 10 122 (.fieldAddr 106 (.tmp 121) 1) (.pointer (some ⟨q1.block, q1.off + 1, none⟩)) #[true, true, true, true, true, true, true, true, true, true, true, false, false, false, false, false, false, false, false, false, false, false, false, false] (by kernel_rfl) (by rfl) (by kernel_rfl) (by kernel_rfl) (by kernel_rfl) (fun _ _ _ h => h) (.inl ⟨by kernel_rfl, fun _ _ => by go_simp⟩) hS ?_
                    simp only [List.setIfInBounds_toArray, List.set_cons_zero, List.set_cons_succ]
                    refine rg_take 11 123 (.load 104 (.tmp 122)) (.int .u16 Ta) #[true, true, true, true, true, true, true, true, true, true, true, true, false, false, false, false, false, false, false, false, false, false, false, false] (by kernel_rfl) (by rfl) (by kernel_rfl) (by kernel_rfl) (by kernel_rfl) (fun _ _ _ h => h) (.inl ⟨by kernel_rfl, fun w hSw => by have hcell := hSw.2.2.1; go_simp⟩) hS ?_
                    simp only [List.setIfInBounds_toArray, List.set_cons_zero, List.set_cons_succ]
                    refine rg_take 12 124 (.move (.tmp 0)) (.slice (some ad') l.length c) #[true, true, true, true, true, true, true, true, true, true, true, true, true, false, false, false, false, false, false, false, false, false, false, false] (by kernel_rfl) (by rfl) (by kernel_rfl) (by kernel_rfl) (by kernel_rfl) (fun _ _ _ h => h) (.inl ⟨by kernel_rfl, fun _ _ => by kernel_rfl⟩) hS ?_
                    simp only [List.setIfInBounds_toArray, List.set_cons_zero, List.set_cons_succ]
                    refine rg_take 13 125 (.move (.tmp 15)) (.slice (some xd') F.length c7) #[true, true, true, true, true, true, true, true, true, true, true, true, true, true, false, false, false, false, false, false, false, false, false, false] (by kernel_rfl) (by rfl) (by kernel_rfl) (by kernel_rfl) (by kernel_rfl) (fun _ _ _ h => h) (.inl ⟨by kernel_rfl, fun _ _ => by kernel_rfl⟩) hS ?_
                    simp only [List.setIfInBounds_toArray, List.set_cons_zero, List.set_cons_succ]
                    refine rg_take 14 126 (.move (.tmp 18)) (.int .i64 (k : Int)) #[true, true, true, true, true, true, true, true, true, true, true, true, true, true, true, false, false, false, false, false, false, false, false, false] (by kernel_rfl) (by rfl) (by kernel_rfl) (by kernel_rfl) (by kernel_rfl) (fun _ _ _ h => h) (.inl ⟨by kernel_rfl, fun _ _ => by kernel_rfl⟩) hS ?_
                    simp only [List.setIfInBounds_toArray, List.set_cons_zero, List.set_cons_succ]
                    refine rg_take 15 127 (.indexAddr 23 (.tmp 125) (.tmp 126)) (.pointer (some p2)) #[true, true, true, true, true, true, true, true, true, true, true, true, true, true, true, true, false, false, false, false, false, false, false, false] (by kernel_rfl) (by rfl) (by kernel_rfl) (by kernel_rfl) (by kernel_rfl) (fun _ _ _ h => h) (.inl ⟨by kernel_rfl, fun _ _ => by go_simp⟩) hS ?_
                    simp only [List.setIfInBounds_toArray, List.set_cons_zero, List.set_cons_succ]
                    refine rg_take 16 128 (.fieldAddr 45 (.tmp 127) 0) (.pointer (some p2)) #[true, true, true, true, true, true, true, true, true, true, true, true, true, true, true, true, true, false, false, false, false, false, false, false] (by kernel_rfl) (by rfl) (by kernel_rfl) (by kernel_rfl) (by kernel_rfl) (fun _ _ _ h => h) (.inl ⟨by kernel_rfl, fun _ _ => by go_simp⟩) hS ?_
                    simp only [List.setIfInBounds_toArray, List.set_cons_zero, List.set_cons_succ]
                    refine rg_take 17 129 (.load 3 (.tmp 128)) (.int .i64 ib) #[true, true, true, true, true, true, true, true, true, true, true, true, true, true, true, true, true, true, false, false, false, false, false, false] (by kernel_rfl) (by rfl) (by kernel_rfl) (by kernel_rfl) (by kernel_rfl) (fun _ _ _ h => h) (.inl ⟨by kernel_rfl, fun w hSw => by have hcell := hSw.2.1; go_simp⟩) hS ?_
                    simp only [List.setIfInBounds_toArray, List.set_cons_zero, List.set_cons_succ]
                    refine rg_take 18 130 (.binOp .quo 3 (.tmp 129) (.const (.int .i64 16)) 3) (.int .i64 ((b : Int) + 1)) #[true, true, true, true, true, true, true, true, true, true, true, true, true, true, true, true, true, true, true, false, false, false, false, false] (by kernel_rfl) (by rfl) (by kernel_rfl) (by kernel_rfl) (by kernel_rfl) (fun _ _ _ h => h) (.inl ⟨by kernel_rfl, fun _ _ => by have h0 := HQb.out; have h1 := HWb1.out; go_simp⟩) hS ?_
                    simp only [List.setIfInBounds_toArray, List.set_cons_zero, List.set_cons_succ]
                    refine rg_take 19 131 (.binOp .sub 3 (.tmp 130) (.const (.int .i64 1)) 3) (.int .i64 (b : Int)) #[true, true, true, true, true, true, true, true, true, true, true, true, true, true, true, true, true, true, true, true, false, false, false, false] (by kernel_rfl) (by rfl) (by kernel_rfl) (by kernel_rfl) (by kernel_rfl) (fun _ _ _ h => h) (.inl ⟨by kernel_rfl, fun _ _ => by have h0 := HSb.out; have h1 := HWb0.out; go_simp⟩) hS ?_
                    simp only [List.setIfInBounds_toArray, List.set_cons_zero, List.set_cons_succ]
                    refine rg_take 20 132 (.indexAddr 101 (.tmp 124) (.tmp 131)) (.pointer (some q2)) #[true, true, true, true, true, true, true, true, true, true, true, true, true, true, true, true, true, true, true, true, true, false, false, false] (by kernel_rfl) (by rfl) (by kernel_rfl) (by kernel_rfl) (by kernel_rfl) (fun _ _ _ h => h) (.inl ⟨by kernel_rfl, fun _ _ => by go_simp⟩) hS ?_
                    simp only [List.setIfInBounds_toArray, List.set_cons_zero, List.set_cons_succ]
                    refine rg_take 21 133 (.fieldAddr 106 (.tmp 132) 1) (.pointer (some ⟨q2.block, q2.off + 1, none⟩)) #[true, true, true, true, true, true, true, true, true, true, true, true, true, true, true, true, true, true, true, true, true, true, false, false] (by kernel_rfl) (by rfl) (by kernel_rfl) (by kernel_rfl) (by kernel_rfl) (fun _ _ _ h => h) (.inl ⟨by kernel_rfl, fun _ _ => by go_simp⟩) hS ?_
                    simp only [List.setIfInBounds_toArray, List.set_cons_zero, List.set_cons_succ]
                    refine rg_take 22 134 (.load 104 (.tmp 133)) (.int .u16 Tb) #[true, true, true, true, true, true, true, true, true, true, true, true, true, true, true, true, true, true, true, true, true, true, true, false] (by kernel_rfl) (by rfl) (by kernel_rfl) (by kernel_rfl) (by kernel_rfl) (fun _ _ _ h => h) (.inl ⟨by kernel_rfl, fun w hSw => by have hcell := hSw.2.2.2; go_simp⟩) hS ?_
                    simp only [List.setIfInBounds_toArray, List.set_cons_zero, List.set_cons_succ]
                    refine rg_take 23 135 (.binOp .geq 104 (.tmp 123) (.tmp 134) 104) (.bool false) #[true, true, true, true, true, true, true, true, true, true, true, true, true, true, true, true, true, true, true, true, true, true, true, true] (by kernel_rfl) (by rfl) (by kernel_rfl) (by kernel_rfl) (by kernel_rfl) (fun _ _ _ h => h) (.inl ⟨by kernel_rfl, fun _ _ => by go_simp⟩) hS ?_
                    simp only [List.setIfInBounds_toArray, List.set_cons_zero, List.set_cons_succ]
                    refine wpAnyH_done (by kernel_rfl) ?_ _
                    go_wp2
                    refine ⟨⟨k + 1, ?_, ?_, ?_⟩, ?_⟩
                    · omega
                    · go_num
                    · exact ⟨HB10.out.drew⟩
                    · simp only [intOf]
                      omega
                  · have l2 : ¬ (k : Int) < (F.length : Int) := by omega
                    go_wp2
                    refine ⟨⟨j + 1, ?_, ?_, ?_⟩, ?_⟩
                    · omega
                    · go_num
                    · exact ⟨HB9.out.trans (HB10.out.mono HB9.out.size)⟩
                    · simp only [intOf]
                      omega
              · have l1 : ¬ (j : Int) < 4 := by omega
                go_wp2_with (go_at_call 62; refine (alive_calls _).mono ?_; rintro r w8 ⟨rfl, HB8⟩)
                go_ret
                exact ⟨rfl, (HB5.out.trans (HB6.out.mono HB5.out.size)).trans (HB8.out.mono (Nat.le_trans HB5.out.size HB6.out.size))⟩
theorem timesL_calls (A : Option Addr) (c : Nat) (l : List ItemD) (more some_ : Int) (w : World) (_hc : l.length ≤ c) (_hA : A = none → c = 0) (h : Rep.Row itemRep (fun _ => True) w A l) (hmo : (Lit.int .u64 more).wf = true) (hso : (Lit.int .u32 some_).wf = true) :
    Calls Try.prog 11 #[.slice A l.length c, .int .u64 more, .int .u32 some_] w fun e w' => e = .returned (.bool true) ∧ Below w.heap.size w w' :=
  times_calls A c l more some_ w h hmo hso
end Go.Proofs.Ytebhclgnpnlekaa.Ord
