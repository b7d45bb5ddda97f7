/- A value that comes: package octet's Reader.Value, by its walk. -/
import Derived.Test.YtebhclgnpnlekaaRdCmdsRef
namespace Go.Proofs.Ytebhclgnpnlekaa.Rd
open Go.RowKit Go.Proofs.Ytebhclgnpnlekaa.B Go.Proofs.Ytebhclgnpnlekaa.Cmd
open Go.Proofs.Ytebhclgnpnlekaa.Preds (okSet)

def valueS (st : RSt) : (Int × List CmdD) × RSt :=
  if okSet (cmdsS (numS st).2).1 = true then (if (cmdsS (numS st).2).2.2 ≠ 0 then ((0, []), (cmdsS (numS st).2).2) else (((numS st).1, (cmdsS (numS st).2).1), (cmdsS (numS st).2).2))
  else ((0, []), ([], 2))
theorem cmdsS_err {st : RSt} (h : (cmdsS st).2.2 ≠ 0) : (cmdsS st).1 = [] := by
  unfold cmdsS at h ⊢
  split
  · rfl
  · rename_i h1
    rw [if_neg h1] at h
    split
    · rfl
    · rename_i h2
      rw [if_neg h2] at h
      exact absurd h h2
theorem cmdsS_bad {st : RSt} (h : okSet (cmdsS st).1 = false) : (cmdsS st).2.2 = 0 := by
  by_cases he : (cmdsS st).2.2 = 0
  · exact he
  · rw [cmdsS_err he] at h
    exact absurd h (by decide)
/-- What Value leaves. -/
def ValueSaid (T : TypeId) (g : Nat) (J : Nat → Prop) (st : RSt) (w : World) (e : Ending) (w' : World) : Prop :=
  ∃ A c, e = .returned (.agg #[.int .i64 (valueS st).1.1, .slice A (valueS st).1.2.length c]) ∧ Hold (Rep.Own cmdRep 45 w.heap.size nob w' (.slice A (valueS st).1.2.length c) (valueS st).1.2) ∧ Hold (RAt T g J w' (valueS st).2) ∧ Hold (Fr (Its g) w w') ∧ (Lit.int .i64 (valueS st).1.1).wf = true
abbrev set2 (w : World) (b : Nat) (u v : Value) : World := (w.setCell ⟨b, 0, none⟩ u).setCell ⟨b, 1, none⟩ v
theorem set2_facts {T tt : TypeId} {g b : Nat} {J : Nat → Prop} {w0 w : World} {st : RSt} {x0 x1 : Value} (u v : Value) (hb : w.heap[b]? = some (.cells #[x0, x1] tt (0, 0))) (hr : RAt T g J w st) (hg : b ≠ g) (hJ : ¬ J b) (hf : Fr (Its g) w0 w) (h0 : w0.heap.size ≤ b) :
    (set2 w b u v).heap[b]? = some (.cells #[u, v] tt (0, 0)) ∧ RAt T g J (set2 w b u v) st ∧ Fr (Its g) w0 (set2 w b u v) ∧ ∀ k, k ≠ b → (set2 w b u v).heap[k]? = w.heap[k]? := by
  refine ⟨?_, ?_, ?_, ?_⟩
  · have := blk_set _ b 1 v (blk_set w b 0 u hb)
    simpa using this
  · exact (hr.far (p := ⟨b, 0, none⟩) hg hJ).far (p := ⟨b, 1, none⟩) hg hJ
  · exact (hf.setCell (p := ⟨b, 0, none⟩) (.inr h0) _).setCell (p := ⟨b, 1, none⟩) (.inr h0) _
  · intro k hk
    exact (Below.heap_setCell _ _ _ _ hk).trans (Below.heap_setCell _ _ _ _ hk)

set_option maxHeartbeats 4000000 in
set_option maxRecDepth 100000 in
theorem value_calls (g : Nat) (J : Nat → Prop) (w : World) (st : RSt) (h : RAt 131 g J w st) (hJ : ∀ k, J k → k < w.heap.size) :
    Calls Try.prog 29 #[.pointer (some ⟨g, 0, none⟩)] w (ValueSaid 131 g J st w) := by
  have HJ := Hold.mk hJ
  obtain ⟨b, hb⟩ : ∃ b, w.heap.size = b := ⟨_, rfl⟩
  have HBb := Hold.mk hb
  have HGw : Hold (g < b) := ⟨by rw [← hb]; exact h.lt⟩
  have HJb : Hold (¬ J b) := ⟨fun hj => by have := hJ b hj; omega⟩
  obtain ⟨t, ht⟩ : ∃ t, (numS st).1 = t := ⟨_, rfl⟩
  obtain ⟨s1, hs1⟩ : ∃ s, (numS st).2 = s := ⟨_, rfl⟩
  obtain ⟨p, r2, e2, hs2⟩ : ∃ p r e, cmdsS s1 = (p, (r, e)) := ⟨_, _, _, rfl⟩
  have hwt : (Lit.int .i64 t).wf = true := by rw [← ht]; exact wf_num (numS_range h.bytes)
  obtain ⟨W0, hW0⟩ : ∃ W, w.alloc (.cells #[.int .i64 0, .slice none 0 0] 34) = W := ⟨_, rfl⟩
  have hbel0 : Below w.heap.size w W0 := by rw [← hW0]; exact (Below.refl _ _).alloc (Nat.le_refl _) _
  have hz0 : W0.heap[b]? = some (.cells #[.int .i64 0, .slice none 0 0] 34 (0, 0)) := by rw [← hW0, ← hb]; exact Array.getElem?_push_size ..
  have H0 := Hold.mk (h.below hbel0)
  have HF0 : Hold (Fr (Its g) w W0) := ⟨Fr.of_below _ hbel0⟩
  have HZ0 := Hold.mk hz0
  have HT := Hold.mk ht
  have HS1 := Hold.mk hs1
  have HS2 := Hold.mk hs2
  have HWt := Hold.mk hwt
  have HS0 : Hold (W0.heap.size = b + 1) := ⟨by rw [← hW0, ← hb]; simp⟩
  clear h hJ ht hs1 hs2 hwt hbel0 hz0
  go_enter Try.func29, Try.ntmps29

  go_wp2_with fail
  first | rw [hW0] | skip
  refine (num_calls g J W0 st H0.out).mono ?_
  rintro e w1 ⟨rfl, hr1, hf1⟩
  rw [HT.out]
  rw [HS1.out] at hr1
  have HR1 := Hold.mk hr1
  have HFs1 := Hold.mk hf1
  have HF1 : Hold (Fr (Its g) w w1) := ⟨HF0.out.trans hf1 (fun _ _ h => h)⟩
  have HSz1 : Hold (b + 1 ≤ w1.heap.size) := ⟨by have := hf1.size; have := HS0.out; omega⟩
  have HZ1 : Hold (w1.heap[b]? = some (.cells #[.int .i64 0, .slice none 0 0] 34 (0, 0))) := ⟨(hf1.block b (by have := HS0.out; omega) (by have := HGw.out; show ¬ b = g; omega)).trans HZ0.out⟩
  clear hr1 hf1
  go_wp2_with fail
  refine (cmds_calls g J w1 s1 HR1.out (fun k hk => by have := HJ.out k hk; have := HBb.out; have := HSz1.out; omega)).mono ?_
  rintro e w2 ⟨A, c, rfl, HO2, HR2, HFs2⟩
  rw [HS2.out] at HO2 HR2 ⊢
  have HF2 : Hold (Fr (Its g) w w2) := ⟨HF1.out.trans HFs2.out (fun _ _ h => h)⟩
  have HSz2 : Hold (b + 1 ≤ w2.heap.size) := ⟨by have := HFs2.out.size; have := HSz1.out; omega⟩
  have HZ2 : Hold (w2.heap[b]? = some (.cells #[.int .i64 0, .slice none 0 0] 34 (0, 0))) := ⟨(HFs2.out.block b (by have := HSz1.out; omega) (by have := HGw.out; show ¬ b = g; omega)).trans HZ1.out⟩
  obtain ⟨v, hv⟩ : ∃ v, w2.heap.size = v := ⟨_, rfl⟩
  obtain ⟨W3, hW3⟩ : ∃ W, w2.alloc (.cells #[.int .i64 t, .slice A p.length c] 34) = W := ⟨_, rfl⟩
  have hbel3 : Below w2.heap.size w2 W3 := by rw [← hW3]; exact (Below.refl _ _).alloc (Nat.le_refl _) _
  have hv3 : W3.heap[v]? = some (.cells #[.int .i64 t, .slice A p.length c] 34 (0, 0)) := by rw [← hW3, ← hv]; exact Array.getElem?_push_size ..
  have k1 : W3.cell? ⟨v, 1, none⟩ = some (.slice A p.length c) := by simp [World.cell?, hv3]
  have k2 : W3.cell? ⟨v, 0, none⟩ = some (.int .i64 t) := by simp [World.cell?, hv3]
  have HO3 := Hold.mk (HO2.out.below hbel3)
  have HR3 := Hold.mk (HR2.out.below hbel3)
  have HF3 : Hold (Fr (Its g) w W3) := ⟨HF2.out.trans (Fr.of_below (Its g) hbel3) (fun _ _ h => h)⟩
  have HZ3 := Hold.mk ((hbel3.block b (by have := HSz2.out; omega)).trans HZ2.out)
  have HV3 := Hold.mk hv3
  have HVv := Hold.mk hv
  have HL3 := Hold.mk (Array.getElem?_eq_some_iff.1 hv3).1
  obtain ⟨ok, hok⟩ : ∃ ok, okSet p = ok := ⟨_, rfl⟩
  have HOk := Hold.mk hok
  have HBad : Hold (ok = false → e2 = 0) := ⟨fun h => by
    have := cmdsS_bad (st := s1) (by rw [HS2.out]; show okSet p = false; rw [hok, h])
    rw [HS2.out] at this; exact this⟩
  clear hbel3 hv3 hok
  go_wp2_with fail
  refine (Preds.right_calls A c _ p _ W3 rfl HO3.out.row ok HOk.out).mono ?_
  rintro e w4 ⟨rfl, HB4⟩
  have HO4 := Hold.mk (HO3.out.below HB4.out)
  have HR4 := Hold.mk (HR3.out.below HB4.out)
  have HF4 : Hold (Fr (Its g) w w4) := ⟨HF3.out.trans (Fr.of_below (Its g) HB4.out) (fun _ _ h => h)⟩
  have HZ4 := Hold.mk ((HB4.out.block b (Array.getElem?_eq_some_iff.1 HZ3.out).1).trans HZ3.out)
  have HV4 := Hold.mk ((HB4.out.block v HL3.out).trans HV3.out)
  clear k1 k2
  cases ok
  · obtain rfl : e2 = 0 := HBad.out rfl
    have HE : Hold (valueS st = ((0, []), ([], 2))) := ⟨by unfold valueS; rw [HS1.out, HS2.out]; rw [if_neg (by show ¬ okSet p = true; rw [HOk.out]; decide)]⟩
    go_wp2_with (go_at_call 84; refine (fail_calls g J w4 r2 HR4.out 2).mono ?_; rintro e w5 ⟨rfl, HR5, HF5⟩)
    refine (err_calls g J w5 _ HR5.out).mono ?_
    rintro e w6 ⟨rfl, rfl⟩
    have HF05 : Hold (Fr (Its g) w w5) := ⟨HF4.out.trans HF5.out (fun _ _ h => h)⟩
    have HZ5 := Hold.mk ((HF5.out.block b (Array.getElem?_eq_some_iff.1 HZ4.out).1 (by have := HGw.out; show ¬ b = g; omega)).trans HZ4.out)
    have z0 : w5.cell? ⟨b, 0, none⟩ = some (.int .i64 0) := by simp [World.cell?, HZ5.out]
    have z1 : w5.cell? ⟨b, 1, none⟩ = some (.slice none 0 0) := by simp [World.cell?, HZ5.out]
    have fz : ∀ i, w5.frozen? ⟨b, i, none⟩ = false := fun i => by simp [World.frozen?, HZ5.out]
    have HFin := Hold.mk (set2_facts (.int .i64 0) (.slice none 0 0) HZ5.out HR5.out (by have := HGw.out; omega) HJb.out HF05.out (by have := HBb.out; omega))
    go_wp2
    obtain ⟨W9, hW9⟩ : ∃ W, set2 w5 b (.int .i64 0) (.slice none 0 0) = W := ⟨_, rfl⟩
    have hfin := HFin.out
    rw [hW9] at hfin
    have hW9' := hW9
    simp only [set2] at hW9'
    rw [hW9']
    obtain ⟨q1, q2, q3, q4⟩ := hfin
    have p0 : W9.cell? ⟨b, 0, none⟩ = some (.int .i64 0) := by simp [World.cell?, q1]
    have p1 : W9.cell? ⟨b, 1, none⟩ = some (.slice none 0 0) := by simp [World.cell?, q1]
    exact bodyPost_ret (v := .agg #[.int .i64 0, .slice none 0 0]) (by simp [results, Try.results29, go_sem, p0, p1]) rfl ⟨none, 0, by rw [HE.out]; first | done | rfl, ⟨by rw [HE.out]; exact Rep.Own.nil _ _ _ _ _⟩, ⟨by rw [HE.out]; exact q2⟩, ⟨q3⟩, by rw [HE.out]; exact (show (Lit.int .i64 0).wf = true by decide)⟩
  · by_cases he : e2 = 0
    · subst he
      have HE : Hold (valueS st = ((t, p), (r2, 0))) := ⟨by unfold valueS; rw [HS1.out, HS2.out]; rw [if_pos (show okSet p = true from HOk.out)]; simp only [ne_eq, not_true, if_false]; rw [HT.out]⟩
      go_wp2_with fail
      refine (err_calls g J w4 _ HR4.out).mono ?_
      rintro e w6 ⟨rfl, rfl⟩
      have y0 : w4.cell? ⟨v, 0, none⟩ = some (.int .i64 t) := by simp [World.cell?, HV4.out]
      have y1 : w4.cell? ⟨v, 1, none⟩ = some (.slice A p.length c) := by simp [World.cell?, HV4.out]
      have z0 : w4.cell? ⟨b, 0, none⟩ = some (.int .i64 0) := by simp [World.cell?, HZ4.out]
      have z1 : w4.cell? ⟨b, 1, none⟩ = some (.slice none 0 0) := by simp [World.cell?, HZ4.out]
      have fz : ∀ i, w4.frozen? ⟨b, i, none⟩ = false := fun i => by simp [World.frozen?, HZ4.out]
      have HFin := Hold.mk (set2_facts (.int .i64 t) (.slice A p.length c) HZ4.out HR4.out (by have := HGw.out; omega) HJb.out HF4.out (by have := HBb.out; omega))
      go_wp2
      obtain ⟨W9, hW9⟩ : ∃ W, set2 w4 b (.int .i64 t) (.slice A p.length c) = W := ⟨_, rfl⟩
      have hfin := HFin.out
      rw [hW9] at hfin
      have hW9' := hW9
      simp only [set2] at hW9'
      rw [hW9']
      obtain ⟨q1, q2, q3, q4⟩ := hfin
      have p0 : W9.cell? ⟨b, 0, none⟩ = some (.int .i64 t) := by simp [World.cell?, q1]
      have p1 : W9.cell? ⟨b, 1, none⟩ = some (.slice A p.length c) := by simp [World.cell?, q1]
      exact bodyPost_ret (v := .agg #[.int .i64 t, .slice A p.length c]) (by simp [results, Try.results29, go_sem, p0, p1]) rfl ⟨A, c, by rw [HE.out]; first | done | rfl, ⟨by rw [HE.out]; exact (HO4.out.lower (by have := HSz2.out; have := HBb.out; have := HSz1.out; omega)).move (fun k hk => q4 k (by have := (HO4.out.block_lt k hk).1; have := HSz1.out; omega)) (fun _ h _ _ => h.elim)⟩, ⟨by rw [HE.out]; exact q2⟩, ⟨q3⟩, by rw [HE.out]; exact HWt.out⟩
    · have HE : Hold (valueS st = ((0, []), (r2, e2))) := ⟨by unfold valueS; rw [HS1.out, HS2.out]; rw [if_pos (show okSet p = true from HOk.out)]; rw [if_pos he]⟩
      have t1 : (e2 != 0) = true := by simp [he]
      go_wp2_with fail
      refine (err_calls g J w4 _ HR4.out).mono ?_
      rintro e w6 ⟨rfl, rfl⟩
      have z0 : w4.cell? ⟨b, 0, none⟩ = some (.int .i64 0) := by simp [World.cell?, HZ4.out]
      have z1 : w4.cell? ⟨b, 1, none⟩ = some (.slice none 0 0) := by simp [World.cell?, HZ4.out]
      have fz : ∀ i, w4.frozen? ⟨b, i, none⟩ = false := fun i => by simp [World.frozen?, HZ4.out]
      have HFin := Hold.mk (set2_facts (.int .i64 0) (.slice none 0 0) HZ4.out HR4.out (by have := HGw.out; omega) HJb.out HF4.out (by have := HBb.out; omega))
      go_wp2
      obtain ⟨W9, hW9⟩ : ∃ W, set2 w4 b (.int .i64 0) (.slice none 0 0) = W := ⟨_, rfl⟩
      have hfin := HFin.out
      rw [hW9] at hfin
      have hW9' := hW9
      simp only [set2] at hW9'
      rw [hW9']
      obtain ⟨q1, q2, q3, q4⟩ := hfin
      have p0 : W9.cell? ⟨b, 0, none⟩ = some (.int .i64 0) := by simp [World.cell?, q1]
      have p1 : W9.cell? ⟨b, 1, none⟩ = some (.slice none 0 0) := by simp [World.cell?, q1]
      exact bodyPost_ret (v := .agg #[.int .i64 0, .slice none 0 0]) (by simp [results, Try.results29, go_sem, p0, p1]) rfl ⟨none, 0, by rw [HE.out]; first | done | rfl, ⟨by rw [HE.out]; exact Rep.Own.nil _ _ _ _ _⟩, ⟨by rw [HE.out]; exact q2⟩, ⟨q3⟩, by rw [HE.out]; exact (show (Lit.int .i64 0).wf = true by decide)⟩
end Go.Proofs.Ytebhclgnpnlekaa.Rd
