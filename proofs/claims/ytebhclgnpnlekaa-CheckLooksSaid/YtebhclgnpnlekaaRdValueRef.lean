/- A value that comes, the document's way: by its walk. -/
import Derived.Test.YtebhclgnpnlekaaRdValue
namespace Go.Proofs.Ytebhclgnpnlekaa.Rd
open Go.RowKit Go.Proofs.Ytebhclgnpnlekaa.B Go.Proofs.Ytebhclgnpnlekaa.Cmd
open Go.Proofs.Ytebhclgnpnlekaa.Preds (okSet)

set_option maxHeartbeats 4000000 in
set_option maxRecDepth 100000 in
theorem refValue_calls (g : Nat) (J : Nat → Prop) (w : World) (st : RSt) (h : RAt 40 g J w st) (hJ : ∀ k, J k → k < w.heap.size) :
    Calls Try.prog 30 #[.pointer (some ⟨g, 0, none⟩)] w (ValueSaid 40 g J st w) := by
  have HJ := Hold.mk hJ
  obtain ⟨b, hb⟩ : ∃ b, w.heap.size = b := ⟨_, rfl⟩
  have HBb := Hold.mk hb
  have HGw : Hold (g < b) := ⟨by rw [← hb]; exact h.lt⟩
  have HJb : Hold (¬ J b) := ⟨fun hj => by have := hJ b hj; omega⟩
  obtain ⟨t, ht⟩ : ∃ t, (numS st).1 = t := ⟨_, rfl⟩
  obtain ⟨s1, hs1⟩ : ∃ s, (numS st).2 = s := ⟨_, rfl⟩
  obtain ⟨p, r2, e2, hs2⟩ : ∃ p r e, cmdsS s1 = (p, (r, e)) := ⟨_, _, _, rfl⟩
  have hwt : (Lit.int .i64 t).wf = true := by rw [← ht]; exact wf_num (numS_range h.bytes)
  obtain ⟨W0, hW0⟩ : ∃ W, w.alloc (.cells #[.int .i64 0, .slice none 0 0] 34) = W := ⟨_, rfl⟩
  have hbel0 : Below w.heap.size w W0 := by rw [← hW0]; exact (Below.refl _ _).alloc (Nat.le_refl _) _
  have hz0 : W0.heap[b]? = some (.cells #[.int .i64 0, .slice none 0 0] 34 (0, 0)) := by rw [← hW0, ← hb]; exact Array.getElem?_push_size ..
  have H0 := Hold.mk (h.below hbel0)
  have HF0 : Hold (Fr (Its g) w W0) := ⟨Fr.of_below _ hbel0⟩
  have HZ0 := Hold.mk hz0
  have HT := Hold.mk ht
  have HS1 := Hold.mk hs1
  have HS2 := Hold.mk hs2
  have HWt := Hold.mk hwt
  have HS0 : Hold (W0.heap.size = b + 1) := ⟨by rw [← hW0, ← hb]; simp⟩
  clear h hJ ht hs1 hs2 hwt hbel0 hz0
  go_enter Try.func30, Try.ntmps30

  go_wp2_with fail
  first | rw [hW0] | skip
  refine (refNum_calls g J W0 st H0.out).mono ?_
  rintro e w1 ⟨rfl, hr1, hf1⟩
  rw [HT.out]
  rw [HS1.out] at hr1
  have HR1 := Hold.mk hr1
  have HFs1 := Hold.mk hf1
  have HF1 : Hold (Fr (Its g) w w1) := ⟨HF0.out.trans hf1 (fun _ _ h => h)⟩
  have HSz1 : Hold (b + 1 ≤ w1.heap.size) := ⟨by have := hf1.size; have := HS0.out; omega⟩
  have HZ1 : Hold (w1.heap[b]? = some (.cells #[.int .i64 0, .slice none 0 0] 34 (0, 0))) := ⟨(hf1.block b (by have := HS0.out; omega) (by have := HGw.out; show ¬ b = g; omega)).trans HZ0.out⟩
  clear hr1 hf1
  go_wp2_with fail
  refine (refCmds_calls g J w1 s1 HR1.out (fun k hk => by have := HJ.out k hk; have := HBb.out; have := HSz1.out; omega)).mono ?_
  rintro e w2 ⟨A, c, rfl, HO2, HR2, HFs2⟩
  rw [HS2.out] at HO2 HR2 ⊢
  have HF2 : Hold (Fr (Its g) w w2) := ⟨HF1.out.trans HFs2.out (fun _ _ h => h)⟩
  have HSz2 : Hold (b + 1 ≤ w2.heap.size) := ⟨by have := HFs2.out.size; have := HSz1.out; omega⟩
  have HZ2 : Hold (w2.heap[b]? = some (.cells #[.int .i64 0, .slice none 0 0] 34 (0, 0))) := ⟨(HFs2.out.block b (by have := HSz1.out; omega) (by have := HGw.out; show ¬ b = g; omega)).trans HZ1.out⟩
  obtain ⟨ok, hok⟩ : ∃ ok, okSet p = ok := ⟨_, rfl⟩
  have HOk := Hold.mk hok
  have HBad : Hold (ok = false → e2 = 0) := ⟨fun h => by
    have := cmdsS_bad (st := s1) (by rw [HS2.out]; show okSet p = false; rw [hok, h])
    rw [HS2.out] at this; exact this⟩
  clear hok
  go_wp2_with fail
  refine (Preds.refRight_calls A c _ p _ w2 rfl HO2.out.row ok HOk.out).mono ?_
  rintro e w4 ⟨rfl, HB4⟩
  have HO4 := Hold.mk (HO2.out.below HB4.out)
  have HR4 := Hold.mk (HR2.out.below HB4.out)
  have HF4 : Hold (Fr (Its g) w w4) := ⟨HF2.out.trans (Fr.of_below (Its g) HB4.out) (fun _ _ h => h)⟩
  have HZ4 := Hold.mk ((HB4.out.block b (Array.getElem?_eq_some_iff.1 HZ2.out).1).trans HZ2.out)
  have e4 : w4.cell? ⟨g, 1, none⟩ = some (.int .i64 e2) := HR4.out.err
  cases ok
  · obtain rfl : e2 = 0 := HBad.out rfl
    have HE : Hold (valueS st = ((0, []), ([], 2))) := ⟨by unfold valueS; rw [HS1.out, HS2.out]; rw [if_neg (by show ¬ okSet p = true; rw [HOk.out]; decide)]⟩
    go_wp2_with (go_at_call 85; refine (refFail_calls g J w4 (r2, 0) HR4.out 2).mono ?_; rintro e w5 ⟨rfl, HR5, HF5⟩; (have e5 : w5.cell? ⟨g, 1, none⟩ = some (.int .i64 2) := HR5.out.err); (have HF05 : Hold (Fr (Its g) w w5) := ⟨HF4.out.trans HF5.out (fun _ _ h => h)⟩); (have HZ5 := Hold.mk ((HF5.out.block b (Array.getElem?_eq_some_iff.1 HZ4.out).1 (by have := HGw.out; show ¬ b = g; omega)).trans HZ4.out)); (have z0 : w5.cell? ⟨b, 0, none⟩ = some (.int .i64 0) := by simp [World.cell?, HZ5.out]); (have z1 : w5.cell? ⟨b, 1, none⟩ = some (.slice none 0 0) := by simp [World.cell?, HZ5.out]); (have fz : ∀ i, w5.frozen? ⟨b, i, none⟩ = false := fun i => by simp [World.frozen?, HZ5.out]))
    have HFin := Hold.mk (set2_facts (.int .i64 0) (.slice none 0 0) HZ5.out HR5.out (by have := HGw.out; omega) HJb.out HF05.out (by have := HBb.out; omega))
    obtain ⟨W9, hW9⟩ : ∃ W, set2 w5 b (.int .i64 0) (.slice none 0 0) = W := ⟨_, rfl⟩
    have hfin := HFin.out
    rw [hW9] at hfin
    have hW9' := hW9
    simp only [set2] at hW9'
    rw [hW9']
    obtain ⟨q1, q2, q3, q4⟩ := hfin
    have p0 : W9.cell? ⟨b, 0, none⟩ = some (.int .i64 0) := by simp [World.cell?, q1]
    have p1 : W9.cell? ⟨b, 1, none⟩ = some (.slice none 0 0) := by simp [World.cell?, q1]
    exact bodyPost_ret (v := .agg #[.int .i64 0, .slice none 0 0]) (by simp [results, Try.results30, go_sem, p0, p1]) rfl ⟨none, 0, by rw [HE.out]; first | done | rfl, ⟨by rw [HE.out]; exact Rep.Own.nil _ _ _ _ _⟩, ⟨by rw [HE.out]; exact q2⟩, ⟨q3⟩, by rw [HE.out]; exact (show (Lit.int .i64 0).wf = true by decide)⟩
  · by_cases he : e2 = 0
    · subst he
      have HE : Hold (valueS st = ((t, p), (r2, 0))) := ⟨by unfold valueS; rw [HS1.out, HS2.out]; rw [if_pos (show okSet p = true from HOk.out)]; simp only [ne_eq, not_true, if_false]; rw [HT.out]⟩
      have z0 : w4.cell? ⟨b, 0, none⟩ = some (.int .i64 0) := by simp [World.cell?, HZ4.out]
      have z1 : w4.cell? ⟨b, 1, none⟩ = some (.slice none 0 0) := by simp [World.cell?, HZ4.out]
      have fz : ∀ i, w4.frozen? ⟨b, i, none⟩ = false := fun i => by simp [World.frozen?, HZ4.out]
      have HFin := Hold.mk (set2_facts (.int .i64 t) (.slice A p.length c) HZ4.out HR4.out (by have := HGw.out; omega) HJb.out HF4.out (by have := HBb.out; omega))
      go_wp2
      obtain ⟨W9, hW9⟩ : ∃ W, set2 w4 b (.int .i64 t) (.slice A p.length c) = W := ⟨_, rfl⟩
      have hfin := HFin.out
      rw [hW9] at hfin
      have hW9' := hW9
      simp only [set2] at hW9'
      rw [hW9']
      obtain ⟨q1, q2, q3, q4⟩ := hfin
      have p0 : W9.cell? ⟨b, 0, none⟩ = some (.int .i64 t) := by simp [World.cell?, q1]
      have p1 : W9.cell? ⟨b, 1, none⟩ = some (.slice A p.length c) := by simp [World.cell?, q1]
      exact bodyPost_ret (v := .agg #[.int .i64 t, .slice A p.length c]) (by simp [results, Try.results30, go_sem, p0, p1]) rfl ⟨A, c, by rw [HE.out]; first | done | rfl, ⟨by rw [HE.out]; exact (HO4.out.lower (by have := HSz2.out; have := HBb.out; have := HSz1.out; omega)).move (fun k hk => q4 k (by have := (HO4.out.block_lt k hk).1; have := HSz1.out; omega)) (fun _ h _ _ => h.elim)⟩, ⟨by rw [HE.out]; exact q2⟩, ⟨q3⟩, by rw [HE.out]; exact HWt.out⟩
    · have HE : Hold (valueS st = ((0, []), (r2, e2))) := ⟨by unfold valueS; rw [HS1.out, HS2.out]; rw [if_pos (show okSet p = true from HOk.out)]; rw [if_pos he]⟩
      have t1 : (e2 != 0) = true := by simp [he]
      have t2 : (e2 == 0) = false := by simp [he]
      have z0 : w4.cell? ⟨b, 0, none⟩ = some (.int .i64 0) := by simp [World.cell?, HZ4.out]
      have z1 : w4.cell? ⟨b, 1, none⟩ = some (.slice none 0 0) := by simp [World.cell?, HZ4.out]
      have fz : ∀ i, w4.frozen? ⟨b, i, none⟩ = false := fun i => by simp [World.frozen?, HZ4.out]
      have HFin := Hold.mk (set2_facts (.int .i64 0) (.slice none 0 0) HZ4.out HR4.out (by have := HGw.out; omega) HJb.out HF4.out (by have := HBb.out; omega))
      go_wp2
      obtain ⟨W9, hW9⟩ : ∃ W, set2 w4 b (.int .i64 0) (.slice none 0 0) = W := ⟨_, rfl⟩
      have hfin := HFin.out
      rw [hW9] at hfin
      have hW9' := hW9
      simp only [set2] at hW9'
      rw [hW9']
      obtain ⟨q1, q2, q3, q4⟩ := hfin
      have p0 : W9.cell? ⟨b, 0, none⟩ = some (.int .i64 0) := by simp [World.cell?, q1]
      have p1 : W9.cell? ⟨b, 1, none⟩ = some (.slice none 0 0) := by simp [World.cell?, q1]
      exact bodyPost_ret (v := .agg #[.int .i64 0, .slice none 0 0]) (by simp [results, Try.results30, go_sem, p0, p1]) rfl ⟨none, 0, by rw [HE.out]; first | done | rfl, ⟨by rw [HE.out]; exact Rep.Own.nil _ _ _ _ _⟩, ⟨by rw [HE.out]; exact q2⟩, ⟨q3⟩, by rw [HE.out]; exact (show (Lit.int .i64 0).wf = true by decide)⟩
end Go.Proofs.Ytebhclgnpnlekaa.Rd
