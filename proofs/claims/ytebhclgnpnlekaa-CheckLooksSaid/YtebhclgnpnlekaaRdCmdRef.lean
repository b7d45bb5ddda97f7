/- A command that comes, as the document says: lictorref04's Reader.Cmd by its walk. -/
import Derived.Test.YtebhclgnpnlekaaRdCmd
import Derived.Deep.RegionHeldLaw
namespace Go.Proofs.Ytebhclgnpnlekaa.Rd
open Go.RowKit Go.Proofs.Ytebhclgnpnlekaa.B Go.Proofs.Ytebhclgnpnlekaa.Cmd
open Go.Proofs.Ytebhclgnpnlekaa.Oct (info_i64)

theorem numsS_range {T : TypeId} {g : Nat} {J : Nat → Prop} {w : World} {st : RSt} {k : Nat} (_h : RAt T g J w (numsS k st).2) (hl : ∀ x ∈ (numsS k st).1, 0 ≤ x ∧ x ≤ 1099511627776) (hn : 0 ≤ (numS (numsS k st).2).1 ∧ (numS (numsS k st).2).1 ≤ 1099511627776) : ∀ x ∈ (numsS (k + 1) st).1, 0 ≤ x ∧ x ≤ 1099511627776 := by
  intro x hx
  rcases List.mem_append.1 (show x ∈ (numsS k st).1 ++ [(numS (numsS k st).2).1] from hx) with hx | hx
  · exact hl x hx
  · rw [List.mem_singleton.1 hx]; exact hn
set_option maxHeartbeats 4000000 in
set_option maxRecDepth 100000 in
theorem refCmd_calls (g : Nat) (J : Nat → Prop) (w : World) (st : RSt) (h : RAt 40 g J w st) (hJ : ∀ k, J k → k < w.heap.size) :
    Calls Try.prog 24 #[.pointer (some ⟨g, 0, none⟩)] w (CmdSaid 40 g J st w) := by
  have H := Hold.mk h
  have HJ := Hold.mk hJ
  obtain ⟨b, hb⟩ : ∃ b, w.heap.size = b := ⟨_, rfl⟩
  have HBb := Hold.mk hb
  have HGb : Hold (g < b) := ⟨by rw [← hb]; exact h.lt⟩
  rw [hb] at HJ
  obtain ⟨w0, hw0⟩ : ∃ W, w.alloc (.cells #[iv 0, iv 0, iv 0, iv 0, iv 0, iv 0, iv 0] 45) = W := ⟨_, rfl⟩
  have hb0 : Below w.heap.size w w0 := by rw [← hw0]; exact (Below.refl _ _).alloc (Nat.le_refl _) _
  have hs0 : w0.heap.size = b + 1 := by rw [← hw0]; simp [hb]
  have HZ0 : Hold (w0.heap[b]? = some (.cells #[iv 0, iv 0, iv 0, iv 0, iv 0, iv 0, iv 0] 45 (0, 0))) := ⟨by rw [← hw0, ← hb]; show (w.heap.push _)[w.heap.size]? = _; simp⟩
  have HR0 := Hold.mk (h.below hb0)
  have HF0 : Hold (Fr (Its g) w w0) := ⟨Fr.of_below _ hb0⟩
  have HS0 := Hold.mk hs0
  clear h hJ hb0 hs0
  go_enter Try.func24, Try.ntmps24
  go_wp2
  clear hb
  go_loopw [3, 4] (fun x s wr => ∃ i : Nat, i ≤ 7 ∧ s = .int .i64 (i : Int) ∧ Hold (Rep.Own (Rep.int .i64) 3 (b + 1) nob wr x (numsS i st).1) ∧ Hold (∀ x ∈ (numsS i st).1, 0 ≤ x ∧ x ≤ 1099511627776) ∧ Hold (wr.heap[b]? = some (.cells #[iv 0, iv 0, iv 0, iv 0, iv 0, iv 0, iv 0] 45 (0, 0))) ∧
    Hold (RAt 40 g J wr (numsS i st).2) ∧ Hold (Fr (Its g) w wr)) (fun _ s _ => 7 - (intOf s).toNat)
  case atStart => exact ⟨0, by omega, rfl, ⟨Rep.Own.nil _ _ _ _ _⟩, ⟨by simp [numsS]⟩, HZ0, HR0, HF0⟩
  case round =>
    obtain ⟨i, hi, rfl, HO, HG, HZ, HR, HF⟩ := hrel
    have HBn : Hold (b + 1 ≤ wr.heap.size) := ⟨(Array.getElem?_eq_some_iff.1 HZ.out).1⟩
    by_cases hlt : i < 7
    · have l1 : (i : Int) < 7 := by omega
      have hll := numsS_len i st
      obtain ⟨P, hP⟩ : ∃ P, (numsS i st).1 = P := ⟨_, rfl⟩
      rw [hP] at HO hll
      have HP := Hold.mk hP
      have HLl := Hold.mk hll
      clear hP hll
      go_wp2_with fail
      refine (refNum_calls g J wr (numsS i st).2 HR.out).mono ?_
      rintro e w2 ⟨rfl, hr2, hf2⟩
      obtain ⟨n, hn⟩ : ∃ n, (numS (numsS i st).2).1 = n := ⟨_, rfl⟩
      have hrg := numS_range HR.out.bytes
      have HG2 := Hold.mk (numsS_range HR.out HG.out hrg)
      have hnx1 : Hold ((numsS (i + 1) st).1 = P ++ [n]) := ⟨by rw [← hn, ← HP.out]; rfl⟩
      have HR2 : Hold (RAt 40 g J w2 (numsS (i + 1) st).2) := ⟨hr2⟩
      have HF2 := Hold.mk (HF.out.trans hf2 (fun _ _ h => h))
      have HO2 : Hold (Rep.Own (Rep.int .i64) 3 (b + 1) nob w2 u3 P) := ⟨HO.out.move (fun k hk => hf2.block k (HO.out.block_lt k hk).2 (fun e => by have := (HO.out.block_lt k hk).1; have := HGb.out; have e : k = g := e; omega)) (fun _ h _ _ => h.elim)⟩
      have HZ2 : Hold (w2.heap[b]? = some (.cells #[iv 0, iv 0, iv 0, iv 0, iv 0, iv 0, iv 0] 45 (0, 0))) := ⟨(hf2.block b (by have := HBn.out; omega) (fun e => by have := HGb.out; have e : b = g := e; omega)).trans HZ.out⟩
      have HS2 : Hold (b + 1 ≤ w2.heap.size) := ⟨Nat.le_trans HBn.out hf2.size⟩
      rw [hn] at hrg ⊢
      have HWn := Hold.mk (wf_num hrg)
      clear hr2 hf2 hn hrg
      go_wp2_with (at_builtin; refine Rep.wp_push (Rep.int .i64) rfl (.tmp 11) (.tmp 14) 22 3 (.int .i64 0) 8 rfl Try.underlying22 info_i64 rfl (by decide) (by decide) (b + 1) nob nob u3 P n [iv n] rfl rfl HO2.out ⟨rfl, HWn.out⟩ (fun _ h _ => h.elim) HS2.out ?c1 ?_)
      case c1 => have := HLl.out; omega
      intro A4 c4 w4 HG4
      have hfr := HG4.out.fr
      have hnot : ∀ k, k ≤ b → k < w2.heap.size → w4.heap[k]? = w2.heap[k]? := fun k hk hlt => hfr.block k hlt (fun e => by have := (HO2.out.block_lt k e).1; omega)
      have HO4 : Hold (Rep.Own (Rep.int .i64) 3 (b + 1) nob w4 (.slice A4 (P.length + 1) c4) (numsS (i + 1) st).1) := ⟨by rw [hnx1.out]; have := HG4.out.own; rw [List.length_append] at this; exact this⟩
      have HZ4 : Hold (w4.heap[b]? = some (.cells #[iv 0, iv 0, iv 0, iv 0, iv 0, iv 0, iv 0] 45 (0, 0))) := ⟨(hnot b (Nat.le_refl _) (by have := HS2.out; omega)).trans HZ2.out⟩
      have HR4 : Hold (RAt 40 g J w4 (numsS (i + 1) st).2) := ⟨by
        obtain ⟨A, c, h1, h2, h3, h4⟩ := HR2.out
        exact ⟨A, c, (hnot g (by have := HGb.out; omega) (by have := HGb.out; have := HS2.out; omega)).trans h1, h2, h3, h4.move fun k hk hlt => ⟨hk, hnot k (by have := HJ.out k hk.2; omega) hlt⟩⟩⟩
      have HF4 : Hold (Fr (Its g) w w4) := ⟨HF2.out.trans (hfr.mono (M' := fun k => b + 1 ≤ k) (fun k _ e => (HO2.out.block_lt k e).1)) (fun k hk h => by have := HBb.out; have h : b + 1 ≤ k := h; omega)⟩
      rw [HLl.out] at HO4
      clear hfr hnot
      go_wp2
      exact ⟨⟨i + 1, by omega, by go_num, by first | exact HO4 | (rw [HLl.out]; exact HO4), HG2, HZ4, HR4, HF4⟩, by simp [intOf]; omega⟩
    · obtain rfl : i = 7 := by omega
      have hl7 := numsS_len 7 st
      obtain ⟨l, hl⟩ : ∃ l, (numsS 7 st).1 = l := ⟨_, rfl⟩
      obtain ⟨s7, hs7⟩ : ∃ l, (numsS 7 st).2 = l := ⟨_, rfl⟩
      rw [hs7] at HR
      rw [hl] at HG HO hl7
      have HL := Hold.mk hl
      have HS7 := Hold.mk hs7
      obtain ⟨rest7, e7⟩ := s7
      clear hl hs7
      obtain ⟨a0, a1, a2, a3, a4, a5, a6, rfl⟩ := seven hl7
      obtain ⟨q, cq, rfl, hcq⟩ := HO.out.form_pos (by simp)
      have hwf := cmdOf_wf HG.out
      have HNums : Hold (numsS 7 st = ([a0, a1, a2, a3, a4, a5, a6], (rest7, e7))) := ⟨by rw [← HL.out, ← HS7.out]⟩
      have row := HO.out.row
      have cell : ∀ i x, ([a0, a1, a2, a3, a4, a5, a6] : List Int)[i]? = some x → wr.cell? ⟨q, i, none⟩ = some (iv x) := by
        intro i x hx
        have hi := (List.getElem?_eq_some_iff.1 hx).1
        obtain ⟨ad, y, e, hy, hc, _⟩ := Rep.Row.get row i hi
        cases e
        rw [hx] at hy
        cases hy
        have e0 : (⟨q, 0, none⟩ : Addr).add i = ⟨q, i, none⟩ := by unfold Addr.add; split <;> simp_all
        rw [e0] at hc
        exact hc
      have v0 := cell 0 a0 rfl
      have v1 := cell 1 a1 rfl
      have v2 := cell 2 a2 rfl
      have v3 := cell 3 a3 rfl
      have v4 := cell 4 a4 rfl
      have v5 := cell 5 a5 rfl
      have v6 := cell 6 a6 rfl
      have HWf := Hold.mk hwf
      obtain ⟨ok, hok⟩ : ∃ ok, okCmd ⟨a0, a1, a2, a3, a4, a5, a6⟩ = ok := ⟨_, rfl⟩
      have HOk := Hold.mk hok
      clear hl7 hwf row cell hok hcq
      go_wp2_with fail
      go_region_held_law (fun w' => w'.cell? ⟨q, 0, none⟩ = some (iv a0) ∧ w'.cell? ⟨q, 1, none⟩ = some (iv a1) ∧ w'.cell? ⟨q, 2, none⟩ = some (iv a2) ∧ w'.cell? ⟨q, 3, none⟩ = some (iv a3) ∧ w'.cell? ⟨q, 4, none⟩ = some (iv a4) ∧ w'.cell? ⟨q, 5, none⟩ = some (iv a5) ∧ w'.cell? ⟨q, 6, none⟩ = some (iv a6)) (go_keep) (fail)
      obtain ⟨q5, hq5⟩ : ∃ q, wr.heap.size = q := ⟨_, rfl⟩
      obtain ⟨w2, hw2⟩ : ∃ W, (wr.alloc (.cells #[iv a0, iv a1, iv a2, iv a3, iv a4, iv a5, iv a6] 45)).drew = W := ⟨_, rfl⟩
      have hb2 : Below wr.heap.size wr w2 := by rw [← hw2]; exact ((Below.refl _ _).alloc (Nat.le_refl _) _).trans ((below_drewN _ 1).mono (by simp))
      rw [hw2, hq5]
      clear v0 v1 v2 v3 v4 v5 v6
      have HBlk2 : Hold (w2.heap[q5]? = some (.cells #[iv a0, iv a1, iv a2, iv a3, iv a4, iv a5, iv a6] 45 (0, 0))) := ⟨by rw [← hw2, ← hq5]; show (wr.heap.push _)[wr.heap.size]? = _; simp⟩
      have HR2 := Hold.mk (HR.out.below hb2)
      have HZ2 : Hold (w2.heap[b]? = some (.cells #[iv 0, iv 0, iv 0, iv 0, iv 0, iv 0, iv 0] 45 (0, 0))) := ⟨(hb2.block b (by have := HBn.out; omega)).trans HZ.out⟩
      have HF2 : Hold (Fr (Its g) w w2) := ⟨HF.out.trans (Fr.of_below (Its g) hb2) (fun _ _ h => h)⟩
      have HQ5 : Hold (wr.heap.size ≤ q5 ∧ q5 < w2.heap.size) := ⟨by rw [← hq5]; exact Nat.le_refl _, by rw [← hw2, ← hq5]; show wr.heap.size < (wr.heap.push _).size; simp⟩
      have HS2 : Hold (b + 1 ≤ w2.heap.size) := ⟨Nat.le_trans HBn.out hb2.size⟩
      clear hb2
      have d0 : w2.cell? ⟨q5, 0, none⟩ = some (iv a0) := by simp [World.cell?, HBlk2.out]
      have d1 : w2.cell? ⟨q5, 1, none⟩ = some (iv a1) := by simp [World.cell?, HBlk2.out]
      have d2 : w2.cell? ⟨q5, 2, none⟩ = some (iv a2) := by simp [World.cell?, HBlk2.out]
      have d3 : w2.cell? ⟨q5, 3, none⟩ = some (iv a3) := by simp [World.cell?, HBlk2.out]
      have d4 : w2.cell? ⟨q5, 4, none⟩ = some (iv a4) := by simp [World.cell?, HBlk2.out]
      have d5 : w2.cell? ⟨q5, 5, none⟩ = some (iv a5) := by simp [World.cell?, HBlk2.out]
      have d6 : w2.cell? ⟨q5, 6, none⟩ = some (iv a6) := by simp [World.cell?, HBlk2.out]
      go_wp2_with fail
      refine (refOne_calls ⟨a0, a1, a2, a3, a4, a5, a6⟩ w2 HWf.out ok HOk.out).mono ?_
      rintro e w3 ⟨rfl, hb3⟩
      have HR3 := Hold.mk (HR2.out.below hb3)
      have HZ3 : Hold (w3.heap[b]? = some (.cells #[iv 0, iv 0, iv 0, iv 0, iv 0, iv 0, iv 0] 45 (0, 0))) := ⟨(hb3.block b (by have := HS2.out; omega)).trans HZ2.out⟩
      have HF3 : Hold (Fr (Its g) w w3) := ⟨HF2.out.trans (Fr.of_below (Its g) hb3) (fun _ _ h => h)⟩
      have HBlk3 : Hold (w3.heap[q5]? = some (.cells #[iv a0, iv a1, iv a2, iv a3, iv a4, iv a5, iv a6] 45 (0, 0))) := ⟨(hb3.block q5 HQ5.out.2).trans HBlk2.out⟩
      clear hb3 d0 d1 d2 d3 d4 d5 d6 hq5 hw2
      obtain ⟨A3, c3, hb3, _⟩ := HR3.out
      by_cases he : e7 = 0
      · subst he
        have r1 : w3.cell? ⟨g, 1, none⟩ = some (.int .i64 0) := by simp [World.cell?, hb3]
        cases ok
        · have HE : Hold (cmdS st = (zeroCmd, ([], 2))) := ⟨by
            unfold cmdS; rw [HNums.out]; simp only [ne_eq, not_true, if_false]; rw [show cmdOf [a0, a1, a2, a3, a4, a5, a6] = ⟨a0, a1, a2, a3, a4, a5, a6⟩ from rfl, if_neg (by rw [HOk.out]; decide)]⟩
          clear hb3
          go_wp2_with fail
          refine (refFail_calls g J w3 _ HR3.out 2).mono ?_
          rintro e w4 ⟨rfl, HR4, hf4⟩
          have HF4 : Hold (Fr (Its g) w w4) := ⟨HF3.out.trans hf4.out (fun _ _ h => h)⟩
          have HZ4 : Hold (w4.heap[b]? = some (.cells #[iv 0, iv 0, iv 0, iv 0, iv 0, iv 0, iv 0] 45 (0, 0))) := ⟨(hf4.out.block b (Array.getElem?_eq_some_iff.1 HZ3.out).1 (by have := HGb.out; show ¬ b = g; omega)).trans HZ3.out⟩
          obtain ⟨A4, c4, hb4, _⟩ := HR4.out
          have r4 : w4.cell? ⟨g, 1, none⟩ = some (.int .i64 2) := by simp [World.cell?, hb4]
          have z0 : ∀ i, i < 7 → w4.cell? ⟨b, i, none⟩ = some (iv 0) := fun i hi => by
            rcases (by omega : i = 0 ∨ i = 1 ∨ i = 2 ∨ i = 3 ∨ i = 4 ∨ i = 5 ∨ i = 6) with rfl | rfl | rfl | rfl | rfl | rfl | rfl <;> simp [World.cell?, HZ4.out]
          have y0 := z0 0 (by decide)
          have y1 := z0 1 (by decide)
          have y2 := z0 2 (by decide)
          have y3 := z0 3 (by decide)
          have y4 := z0 4 (by decide)
          have y5 := z0 5 (by decide)
          have y6 := z0 6 (by decide)
          have fz : ∀ i, w4.frozen? ⟨b, i, none⟩ = false := fun i => by simp [World.frozen?, HZ4.out]
          clear hb4 z0 r1
          have HFin := Hold.mk (set7_facts zeroCmd HZ4.out HR4.out (by have := HGb.out; omega) (fun hj => by have := HJ.out _ hj; omega) HF4.out (by have := HBb.out; omega))
          go_wp2
          obtain ⟨W9, hW9⟩ : ∃ W, set7 w4 b zeroCmd = W := ⟨_, rfl⟩
          have hfin := HFin.out
          rw [hW9] at hfin
          have hW9' := hW9
          simp only [set7, zeroCmd] at hW9'
          rw [hW9']
          obtain ⟨q1, q2, q3⟩ := hfin
          have p0 : W9.cell? ⟨b, 0, none⟩ = some (iv (zeroCmd : CmdD).id) := by simp [World.cell?, q1]
          have p1 : W9.cell? ⟨b, 1, none⟩ = some (iv (zeroCmd : CmdD).kind) := by simp [World.cell?, q1]
          have p2 : W9.cell? ⟨b, 2, none⟩ = some (iv (zeroCmd : CmdD).sym) := by simp [World.cell?, q1]
          have p3 : W9.cell? ⟨b, 3, none⟩ = some (iv (zeroCmd : CmdD).tgt) := by simp [World.cell?, q1]
          have p4 : W9.cell? ⟨b, 4, none⟩ = some (iv (zeroCmd : CmdD).side) := by simp [World.cell?, q1]
          have p5 : W9.cell? ⟨b, 5, none⟩ = some (iv (zeroCmd : CmdD).price) := by simp [World.cell?, q1]
          have p6 : W9.cell? ⟨b, 6, none⟩ = some (iv (zeroCmd : CmdD).qty) := by simp [World.cell?, q1]
          exact bodyPost_ret (v := (zeroCmd : CmdD).v) (by simp [results, Try.results24, go_sem, p0, p1, p2, p3, p4, p5, p6]) rfl ⟨by rw [HE.out], by rw [HE.out]; exact q2, q3, by rw [HE.out]; exact zero_wf⟩
        · have HE : Hold (cmdS st = (⟨a0, a1, a2, a3, a4, a5, a6⟩, (rest7, 0))) := ⟨by
            unfold cmdS; rw [HNums.out]; simp only [ne_eq, not_true, if_false]; rw [show cmdOf [a0, a1, a2, a3, a4, a5, a6] = ⟨a0, a1, a2, a3, a4, a5, a6⟩ from rfl, if_pos HOk.out]⟩
          have d0 : w3.cell? ⟨q5, 0, none⟩ = some (iv a0) := by simp [World.cell?, HBlk3.out]
          have d1 : w3.cell? ⟨q5, 1, none⟩ = some (iv a1) := by simp [World.cell?, HBlk3.out]
          have d2 : w3.cell? ⟨q5, 2, none⟩ = some (iv a2) := by simp [World.cell?, HBlk3.out]
          have d3 : w3.cell? ⟨q5, 3, none⟩ = some (iv a3) := by simp [World.cell?, HBlk3.out]
          have d4 : w3.cell? ⟨q5, 4, none⟩ = some (iv a4) := by simp [World.cell?, HBlk3.out]
          have d5 : w3.cell? ⟨q5, 5, none⟩ = some (iv a5) := by simp [World.cell?, HBlk3.out]
          have d6 : w3.cell? ⟨q5, 6, none⟩ = some (iv a6) := by simp [World.cell?, HBlk3.out]
          have z0 : ∀ i, i < 7 → w3.cell? ⟨b, i, none⟩ = some (iv 0) := fun i hi => by
            rcases (by omega : i = 0 ∨ i = 1 ∨ i = 2 ∨ i = 3 ∨ i = 4 ∨ i = 5 ∨ i = 6) with rfl | rfl | rfl | rfl | rfl | rfl | rfl <;> simp [World.cell?, HZ3.out]
          have y0 := z0 0 (by decide)
          have y1 := z0 1 (by decide)
          have y2 := z0 2 (by decide)
          have y3 := z0 3 (by decide)
          have y4 := z0 4 (by decide)
          have y5 := z0 5 (by decide)
          have y6 := z0 6 (by decide)
          have fz : ∀ i, w3.frozen? ⟨b, i, none⟩ = false := fun i => by simp [World.frozen?, HZ3.out]
          clear hb3 z0
          have HFin := Hold.mk (set7_facts ⟨a0, a1, a2, a3, a4, a5, a6⟩ HZ3.out HR3.out (by have := HGb.out; omega) (fun hj => by have := HJ.out _ hj; omega) HF3.out (by have := HBb.out; omega))
          go_wp2
          obtain ⟨W9, hW9⟩ : ∃ W, set7 w3 b ⟨a0, a1, a2, a3, a4, a5, a6⟩ = W := ⟨_, rfl⟩
          have hfin := HFin.out
          rw [hW9] at hfin
          have hW9' := hW9
          simp only [set7] at hW9'
          rw [hW9']
          obtain ⟨q1, q2, q3⟩ := hfin
          have p0 : W9.cell? ⟨b, 0, none⟩ = some (iv (⟨a0, a1, a2, a3, a4, a5, a6⟩ : CmdD).id) := by simp [World.cell?, q1]
          have p1 : W9.cell? ⟨b, 1, none⟩ = some (iv (⟨a0, a1, a2, a3, a4, a5, a6⟩ : CmdD).kind) := by simp [World.cell?, q1]
          have p2 : W9.cell? ⟨b, 2, none⟩ = some (iv (⟨a0, a1, a2, a3, a4, a5, a6⟩ : CmdD).sym) := by simp [World.cell?, q1]
          have p3 : W9.cell? ⟨b, 3, none⟩ = some (iv (⟨a0, a1, a2, a3, a4, a5, a6⟩ : CmdD).tgt) := by simp [World.cell?, q1]
          have p4 : W9.cell? ⟨b, 4, none⟩ = some (iv (⟨a0, a1, a2, a3, a4, a5, a6⟩ : CmdD).side) := by simp [World.cell?, q1]
          have p5 : W9.cell? ⟨b, 5, none⟩ = some (iv (⟨a0, a1, a2, a3, a4, a5, a6⟩ : CmdD).price) := by simp [World.cell?, q1]
          have p6 : W9.cell? ⟨b, 6, none⟩ = some (iv (⟨a0, a1, a2, a3, a4, a5, a6⟩ : CmdD).qty) := by simp [World.cell?, q1]
          exact bodyPost_ret (v := (⟨a0, a1, a2, a3, a4, a5, a6⟩ : CmdD).v) (by simp [results, Try.results24, go_sem, p0, p1, p2, p3, p4, p5, p6]) rfl ⟨by rw [HE.out], by rw [HE.out]; exact q2, q3, by rw [HE.out]; exact HWf.out⟩
      · have HE : Hold (cmdS st = (zeroCmd, (rest7, e7))) := ⟨by unfold cmdS; rw [HNums.out]; rw [if_pos he]⟩
        have t1 : (e7 != 0) = true := by simp [he]
        have t2 : (e7 == 0) = false := by simp [he]
        have r1 : w3.cell? ⟨g, 1, none⟩ = some (.int .i64 e7) := by simp [World.cell?, hb3]
        have z0 : ∀ i, i < 7 → w3.cell? ⟨b, i, none⟩ = some (iv 0) := fun i hi => by
          rcases (by omega : i = 0 ∨ i = 1 ∨ i = 2 ∨ i = 3 ∨ i = 4 ∨ i = 5 ∨ i = 6) with rfl | rfl | rfl | rfl | rfl | rfl | rfl <;> simp [World.cell?, HZ3.out]
        have y0 := z0 0 (by decide)
        have y1 := z0 1 (by decide)
        have y2 := z0 2 (by decide)
        have y3 := z0 3 (by decide)
        have y4 := z0 4 (by decide)
        have y5 := z0 5 (by decide)
        have y6 := z0 6 (by decide)
        have fz : ∀ i, w3.frozen? ⟨b, i, none⟩ = false := fun i => by simp [World.frozen?, HZ3.out]
        clear hb3 z0 he
        have HFin := Hold.mk (set7_facts zeroCmd HZ3.out HR3.out (by have := HGb.out; omega) (fun hj => by have := HJ.out _ hj; omega) HF3.out (by have := HBb.out; omega))
        go_wp2
        obtain ⟨W9, hW9⟩ : ∃ W, set7 w3 b zeroCmd = W := ⟨_, rfl⟩
        have hfin := HFin.out
        rw [hW9] at hfin
        have hW9' := hW9
        simp only [set7, zeroCmd] at hW9'
        rw [hW9']
        obtain ⟨q1, q2, q3⟩ := hfin
        have p0 : W9.cell? ⟨b, 0, none⟩ = some (iv (zeroCmd : CmdD).id) := by simp [World.cell?, q1]
        have p1 : W9.cell? ⟨b, 1, none⟩ = some (iv (zeroCmd : CmdD).kind) := by simp [World.cell?, q1]
        have p2 : W9.cell? ⟨b, 2, none⟩ = some (iv (zeroCmd : CmdD).sym) := by simp [World.cell?, q1]
        have p3 : W9.cell? ⟨b, 3, none⟩ = some (iv (zeroCmd : CmdD).tgt) := by simp [World.cell?, q1]
        have p4 : W9.cell? ⟨b, 4, none⟩ = some (iv (zeroCmd : CmdD).side) := by simp [World.cell?, q1]
        have p5 : W9.cell? ⟨b, 5, none⟩ = some (iv (zeroCmd : CmdD).price) := by simp [World.cell?, q1]
        have p6 : W9.cell? ⟨b, 6, none⟩ = some (iv (zeroCmd : CmdD).qty) := by simp [World.cell?, q1]
        exact bodyPost_ret (v := (zeroCmd : CmdD).v) (by simp [results, Try.results24, go_sem, p0, p1, p2, p3, p4, p5, p6]) rfl ⟨by rw [HE.out], by rw [HE.out]; exact q2, q3, by rw [HE.out]; exact zero_wf⟩
end Go.Proofs.Ytebhclgnpnlekaa.Rd
