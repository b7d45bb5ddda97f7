/- The document's must and Right of an entry, by their walks. -/
import Derived.Test.YtebhclgnpnlekaaEnt3
namespace Go.Proofs.Ytebhclgnpnlekaa.Ent
open Go.RowKit Go.Proofs.Ytebhclgnpnlekaa.B Go.Proofs.Ytebhclgnpnlekaa.Cmd Go.Proofs.Ytebhclgnpnlekaa.Agg
open Go.Proofs.Ytebhclgnpnlekaa.Preds (okSet)
set_option maxHeartbeats 8000000 in
set_option maxRecDepth 100000 in
theorem refMust_calls (v : VR) (l : List CmdD) (is : Bool) (w : World) (b : Bool) (h : VAt w v l) (hb : okMust v l is = b) : Calls Try.prog 116 #[.agg #[.int .i64 v.t, .slice v.A v.n v.c], .bool is] w fun r w' => r = .returned (.bool b) ∧ Below w.heap.size w w' := by
  have kv := v.all
  have H := Hold.mk h
  clear h
  obtain ⟨g, hg⟩ : ∃ g, w.heap.size = g := ⟨_, rfl⟩
  obtain ⟨W, hW⟩ : ∃ W, (w.alloc (.cells v.cells 34)) = W := ⟨_, rfl⟩
  have hB := one_new w v.cells 34
  rw [hW, hg] at hB
  simp only [VR.cells] at hW
  have hd := hB.cell 0 rfl
  obtain ⟨b1, h1⟩ : ∃ b1, okFull v l = b1 := ⟨_, rfl⟩
  obtain ⟨b2, h2⟩ : ∃ b1, okNone v = b1 := ⟨_, rfl⟩
  have HE : Hold (b = if is = true then b1 else b2) := ⟨by rw [← hb, okMust, h1, h2]⟩
  have H1 := Hold.mk h1
  have H2 := Hold.mk h2
  clear hb h1 h2
  cases is <;> cases b1 <;> cases b2
  all_goals
    go_enter Try.func116, Try.ntmps116
    go_wp2_with (first
      | (go_at_call 145; with_reducible refine (refNone_calls v _).mono ?_; rintro r w1 ⟨rfl, hb1⟩; rw [H2.out]; replace hB := hB.step hb1; have hd := hB.cell 0 rfl)
      | (go_at_call 144; with_reducible refine (refFull_calls v l _ _ (H.out.below hB.below) H1.out).mono ?_; rintro r w1 ⟨rfl, hb1⟩; replace hB := hB.step hb1; have hd := hB.cell 0 rfl)
      | (refine wpl_load isV rfl hB 0 rfl (VR.size _) rfl ?_))
    go_ret
    exact ⟨by rw [HE.out]; rfl, by first | exact hB.below | (rw [← hg]; exact hB.below)⟩
set_option maxHeartbeats 8000000 in
set_option maxRecDepth 100000 in
theorem refRight_calls (e : ER) (lf la lv : List CmdD) (w : World) (b : Bool) (h : EAt w e lf la lv) (hb : okE e lf la lv = b) : Calls Try.prog 56 #[.agg e.cells] w fun r w' => r = .returned (.bool b) ∧ Below w.heap.size w w' := by
  have ka := e.all
  have H := Hold.mk h
  clear h
  obtain ⟨g, hg⟩ : ∃ g, w.heap.size = g := ⟨_, rfl⟩
  obtain ⟨W, hW⟩ : ∃ W, w.alloc (.cells e.cells 75) = W := ⟨_, rfl⟩
  have hB := one_new w e.cells 75
  rw [hW, hg] at hB
  have hc := hB.cell 0 rfl
  obtain ⟨tm, h1⟩ : ∃ b0, okTimes e.lo e.hi = b0 := ⟨_, rfl⟩
  obtain ⟨b2, h2⟩ : ∃ b0, okCmd e.c = b0 := ⟨_, rfl⟩
  obtain ⟨b3, h3⟩ : ∃ b0, okBallot e.pr = b0 := ⟨_, rfl⟩
  obtain ⟨b4, h4⟩ : ∃ b0, okBallot e.ab = b0 := ⟨_, rfl⟩
  obtain ⟨b5, h5⟩ : ∃ b0, okMust e.f lf (e.f.t != 0) = b0 := ⟨_, rfl⟩
  obtain ⟨b6, h6⟩ : ∃ b0, okMust e.a la (e.ab != 0) = b0 := ⟨_, rfl⟩
  obtain ⟨b7, h7⟩ : ∃ b0, okMust e.v lv e.dn = b0 := ⟨_, rfl⟩
  have HE : Hold (b = (tm && b2 && b3 && b4 && b5 && b6 && b7)) := ⟨by rw [← hb, okE, h1, h2, h3, h4, h5, h6, h7]⟩
  have H1 := Hold.mk h1
  have H2 := Hold.mk h2
  have H3 := Hold.mk h3
  have H4 := Hold.mk h4
  have H5 := Hold.mk h5
  have H6 := Hold.mk h6
  have H7 := Hold.mk h7
  clear hb h1 h2 h3 h4 h5 h6 h7
  obtain ⟨z1, hz1⟩ : ∃ z, (e.lo == 0) = z := ⟨_, rfl⟩
  obtain ⟨z2, hz2⟩ : ∃ z, (e.hi == 0) = z := ⟨_, rfl⟩
  obtain ⟨v1, hv1⟩ : ∃ z, okStamp e.lo = z := ⟨_, rfl⟩
  obtain ⟨v2, hv2⟩ : ∃ z, okStamp e.hi = z := ⟨_, rfl⟩
  obtain ⟨d, hd⟩ : ∃ z, decide (e.lo ≤ e.hi) = z := ⟨_, rfl⟩
  have HT : Hold (tm = ((z1 && z2) || (v1 && v2 && d))) := ⟨by rw [← H1.out, ← hz1, ← hz2, ← hv1, ← hv2, ← hd]; unfold okTimes; rw [Bool.eq_iff_iff]; simp [and_assoc]⟩
  have HZ1 : Hold (z1 = true → v1 = false) := ⟨fun h => by rw [← hv1]; rw [h] at hz1; rw [show e.lo = 0 by simpa using hz1]; exact stamp0⟩
  have HV1 := Hold.mk hv1
  have HV2 := Hold.mk hv2
  clear hv1 hv2
  cases z1
  · cases v1
    · obtain rfl : tm = false := by rw [HT.out]; simp
      cases b2
      · go_enter Try.func56, Try.ntmps56
        go_wp2_with (first
      | (go_at_call 115; with_reducible refine (refValid_calls e.lo _ _ H.out.lo HV1.out).mono ?_; rintro r w1 ⟨rfl, rfl⟩)
      | (go_at_call 115; with_reducible refine (refValid_calls e.hi _ _ H.out.hi HV2.out).mono ?_; rintro r w1 ⟨rfl, rfl⟩)
      | (go_at_call 117; with_reducible refine (refBallot_calls e.pr _).mono ?_; rintro r w1 ⟨rfl, rfl⟩; rw [H3.out])
      | (go_at_call 117; with_reducible refine (refBallot_calls e.ab _).mono ?_; rintro r w1 ⟨rfl, rfl⟩; rw [H4.out])
      | (go_at_call 116; with_reducible refine (refMust_calls e.f lf _ _ _ (H.out.f.below hB.below) H5.out).mono ?_; rintro r w1 ⟨rfl, hb1⟩; replace hB := hB.step hb1; have hc := hB.cell 0 rfl)
      | (go_at_call 116; with_reducible refine (refMust_calls e.a la _ _ _ (H.out.a.below hB.below) H6.out).mono ?_; rintro r w1 ⟨rfl, hb1⟩; replace hB := hB.step hb1; have hc := hB.cell 0 rfl)
      | (go_at_call 116; with_reducible refine (refMust_calls e.v lv _ _ _ (H.out.v.below hB.below) H7.out).mono ?_; rintro r w1 ⟨rfl, hb1⟩; replace hB := hB.step hb1; have hc := hB.cell 0 rfl)
      | (go_at_call 86; with_reducible refine (refOne_calls e.c _ H.out.c _ H2.out).mono ?_; rintro r w1 ⟨rfl, hb1⟩; replace hB := hB.step hb1; have hc := hB.cell 0 rfl))
        go_ret
        exact ⟨by rw [HE.out]; first | rfl | simp, by first | exact hB.below | (rw [← hg]; exact hB.below)⟩
      ·
        cases b3
        · go_enter Try.func56, Try.ntmps56
          go_wp2_with (first
      | (go_at_call 115; with_reducible refine (refValid_calls e.lo _ _ H.out.lo HV1.out).mono ?_; rintro r w1 ⟨rfl, rfl⟩)
      | (go_at_call 115; with_reducible refine (refValid_calls e.hi _ _ H.out.hi HV2.out).mono ?_; rintro r w1 ⟨rfl, rfl⟩)
      | (go_at_call 117; with_reducible refine (refBallot_calls e.pr _).mono ?_; rintro r w1 ⟨rfl, rfl⟩; rw [H3.out])
      | (go_at_call 117; with_reducible refine (refBallot_calls e.ab _).mono ?_; rintro r w1 ⟨rfl, rfl⟩; rw [H4.out])
      | (go_at_call 116; with_reducible refine (refMust_calls e.f lf _ _ _ (H.out.f.below hB.below) H5.out).mono ?_; rintro r w1 ⟨rfl, hb1⟩; replace hB := hB.step hb1; have hc := hB.cell 0 rfl)
      | (go_at_call 116; with_reducible refine (refMust_calls e.a la _ _ _ (H.out.a.below hB.below) H6.out).mono ?_; rintro r w1 ⟨rfl, hb1⟩; replace hB := hB.step hb1; have hc := hB.cell 0 rfl)
      | (go_at_call 116; with_reducible refine (refMust_calls e.v lv _ _ _ (H.out.v.below hB.below) H7.out).mono ?_; rintro r w1 ⟨rfl, hb1⟩; replace hB := hB.step hb1; have hc := hB.cell 0 rfl)
      | (go_at_call 86; with_reducible refine (refOne_calls e.c _ H.out.c _ H2.out).mono ?_; rintro r w1 ⟨rfl, hb1⟩; replace hB := hB.step hb1; have hc := hB.cell 0 rfl))
          go_ret
          exact ⟨by rw [HE.out]; first | rfl | simp, by first | exact hB.below | (rw [← hg]; exact hB.below)⟩
        ·
          go_enter Try.func56, Try.ntmps56
          go_wp2_with (first
      | (go_at_call 115; with_reducible refine (refValid_calls e.lo _ _ H.out.lo HV1.out).mono ?_; rintro r w1 ⟨rfl, rfl⟩)
      | (go_at_call 115; with_reducible refine (refValid_calls e.hi _ _ H.out.hi HV2.out).mono ?_; rintro r w1 ⟨rfl, rfl⟩)
      | (go_at_call 117; with_reducible refine (refBallot_calls e.pr _).mono ?_; rintro r w1 ⟨rfl, rfl⟩; rw [H3.out])
      | (go_at_call 117; with_reducible refine (refBallot_calls e.ab _).mono ?_; rintro r w1 ⟨rfl, rfl⟩; rw [H4.out])
      | (go_at_call 116; with_reducible refine (refMust_calls e.f lf _ _ _ (H.out.f.below hB.below) H5.out).mono ?_; rintro r w1 ⟨rfl, hb1⟩; replace hB := hB.step hb1; have hc := hB.cell 0 rfl)
      | (go_at_call 116; with_reducible refine (refMust_calls e.a la _ _ _ (H.out.a.below hB.below) H6.out).mono ?_; rintro r w1 ⟨rfl, hb1⟩; replace hB := hB.step hb1; have hc := hB.cell 0 rfl)
      | (go_at_call 116; with_reducible refine (refMust_calls e.v lv _ _ _ (H.out.v.below hB.below) H7.out).mono ?_; rintro r w1 ⟨rfl, hb1⟩; replace hB := hB.step hb1; have hc := hB.cell 0 rfl)
      | (go_at_call 86; with_reducible refine (refOne_calls e.c _ H.out.c _ H2.out).mono ?_; rintro r w1 ⟨rfl, hb1⟩; replace hB := hB.step hb1; have hc := hB.cell 0 rfl))
          go_ret
          exact ⟨by rw [HE.out]; first | rfl | simp, by first | exact hB.below | (rw [← hg]; exact hB.below)⟩
    · cases v2
      · obtain rfl : tm = false := by rw [HT.out]; simp
        cases b2
        · go_enter Try.func56, Try.ntmps56
          go_wp2_with (first
      | (go_at_call 115; with_reducible refine (refValid_calls e.lo _ _ H.out.lo HV1.out).mono ?_; rintro r w1 ⟨rfl, rfl⟩)
      | (go_at_call 115; with_reducible refine (refValid_calls e.hi _ _ H.out.hi HV2.out).mono ?_; rintro r w1 ⟨rfl, rfl⟩)
      | (go_at_call 117; with_reducible refine (refBallot_calls e.pr _).mono ?_; rintro r w1 ⟨rfl, rfl⟩; rw [H3.out])
      | (go_at_call 117; with_reducible refine (refBallot_calls e.ab _).mono ?_; rintro r w1 ⟨rfl, rfl⟩; rw [H4.out])
      | (go_at_call 116; with_reducible refine (refMust_calls e.f lf _ _ _ (H.out.f.below hB.below) H5.out).mono ?_; rintro r w1 ⟨rfl, hb1⟩; replace hB := hB.step hb1; have hc := hB.cell 0 rfl)
      | (go_at_call 116; with_reducible refine (refMust_calls e.a la _ _ _ (H.out.a.below hB.below) H6.out).mono ?_; rintro r w1 ⟨rfl, hb1⟩; replace hB := hB.step hb1; have hc := hB.cell 0 rfl)
      | (go_at_call 116; with_reducible refine (refMust_calls e.v lv _ _ _ (H.out.v.below hB.below) H7.out).mono ?_; rintro r w1 ⟨rfl, hb1⟩; replace hB := hB.step hb1; have hc := hB.cell 0 rfl)
      | (go_at_call 86; with_reducible refine (refOne_calls e.c _ H.out.c _ H2.out).mono ?_; rintro r w1 ⟨rfl, hb1⟩; replace hB := hB.step hb1; have hc := hB.cell 0 rfl))
          go_ret
          exact ⟨by rw [HE.out]; first | rfl | simp, by first | exact hB.below | (rw [← hg]; exact hB.below)⟩
        ·
          cases b3
          · go_enter Try.func56, Try.ntmps56
            go_wp2_with (first
      | (go_at_call 115; with_reducible refine (refValid_calls e.lo _ _ H.out.lo HV1.out).mono ?_; rintro r w1 ⟨rfl, rfl⟩)
      | (go_at_call 115; with_reducible refine (refValid_calls e.hi _ _ H.out.hi HV2.out).mono ?_; rintro r w1 ⟨rfl, rfl⟩)
      | (go_at_call 117; with_reducible refine (refBallot_calls e.pr _).mono ?_; rintro r w1 ⟨rfl, rfl⟩; rw [H3.out])
      | (go_at_call 117; with_reducible refine (refBallot_calls e.ab _).mono ?_; rintro r w1 ⟨rfl, rfl⟩; rw [H4.out])
      | (go_at_call 116; with_reducible refine (refMust_calls e.f lf _ _ _ (H.out.f.below hB.below) H5.out).mono ?_; rintro r w1 ⟨rfl, hb1⟩; replace hB := hB.step hb1; have hc := hB.cell 0 rfl)
      | (go_at_call 116; with_reducible refine (refMust_calls e.a la _ _ _ (H.out.a.below hB.below) H6.out).mono ?_; rintro r w1 ⟨rfl, hb1⟩; replace hB := hB.step hb1; have hc := hB.cell 0 rfl)
      | (go_at_call 116; with_reducible refine (refMust_calls e.v lv _ _ _ (H.out.v.below hB.below) H7.out).mono ?_; rintro r w1 ⟨rfl, hb1⟩; replace hB := hB.step hb1; have hc := hB.cell 0 rfl)
      | (go_at_call 86; with_reducible refine (refOne_calls e.c _ H.out.c _ H2.out).mono ?_; rintro r w1 ⟨rfl, hb1⟩; replace hB := hB.step hb1; have hc := hB.cell 0 rfl))
            go_ret
            exact ⟨by rw [HE.out]; first | rfl | simp, by first | exact hB.below | (rw [← hg]; exact hB.below)⟩
          ·
            go_enter Try.func56, Try.ntmps56
            go_wp2_with (first
      | (go_at_call 115; with_reducible refine (refValid_calls e.lo _ _ H.out.lo HV1.out).mono ?_; rintro r w1 ⟨rfl, rfl⟩)
      | (go_at_call 115; with_reducible refine (refValid_calls e.hi _ _ H.out.hi HV2.out).mono ?_; rintro r w1 ⟨rfl, rfl⟩)
      | (go_at_call 117; with_reducible refine (refBallot_calls e.pr _).mono ?_; rintro r w1 ⟨rfl, rfl⟩; rw [H3.out])
      | (go_at_call 117; with_reducible refine (refBallot_calls e.ab _).mono ?_; rintro r w1 ⟨rfl, rfl⟩; rw [H4.out])
      | (go_at_call 116; with_reducible refine (refMust_calls e.f lf _ _ _ (H.out.f.below hB.below) H5.out).mono ?_; rintro r w1 ⟨rfl, hb1⟩; replace hB := hB.step hb1; have hc := hB.cell 0 rfl)
      | (go_at_call 116; with_reducible refine (refMust_calls e.a la _ _ _ (H.out.a.below hB.below) H6.out).mono ?_; rintro r w1 ⟨rfl, hb1⟩; replace hB := hB.step hb1; have hc := hB.cell 0 rfl)
      | (go_at_call 116; with_reducible refine (refMust_calls e.v lv _ _ _ (H.out.v.below hB.below) H7.out).mono ?_; rintro r w1 ⟨rfl, hb1⟩; replace hB := hB.step hb1; have hc := hB.cell 0 rfl)
      | (go_at_call 86; with_reducible refine (refOne_calls e.c _ H.out.c _ H2.out).mono ?_; rintro r w1 ⟨rfl, hb1⟩; replace hB := hB.step hb1; have hc := hB.cell 0 rfl))
            go_ret
            exact ⟨by rw [HE.out]; first | rfl | simp, by first | exact hB.below | (rw [← hg]; exact hB.below)⟩
      · cases d
        · obtain rfl : tm = false := by rw [HT.out]; simp
          cases b2
          · go_enter Try.func56, Try.ntmps56
            go_wp2_with (first
      | (go_at_call 115; with_reducible refine (refValid_calls e.lo _ _ H.out.lo HV1.out).mono ?_; rintro r w1 ⟨rfl, rfl⟩)
      | (go_at_call 115; with_reducible refine (refValid_calls e.hi _ _ H.out.hi HV2.out).mono ?_; rintro r w1 ⟨rfl, rfl⟩)
      | (go_at_call 117; with_reducible refine (refBallot_calls e.pr _).mono ?_; rintro r w1 ⟨rfl, rfl⟩; rw [H3.out])
      | (go_at_call 117; with_reducible refine (refBallot_calls e.ab _).mono ?_; rintro r w1 ⟨rfl, rfl⟩; rw [H4.out])
      | (go_at_call 116; with_reducible refine (refMust_calls e.f lf _ _ _ (H.out.f.below hB.below) H5.out).mono ?_; rintro r w1 ⟨rfl, hb1⟩; replace hB := hB.step hb1; have hc := hB.cell 0 rfl)
      | (go_at_call 116; with_reducible refine (refMust_calls e.a la _ _ _ (H.out.a.below hB.below) H6.out).mono ?_; rintro r w1 ⟨rfl, hb1⟩; replace hB := hB.step hb1; have hc := hB.cell 0 rfl)
      | (go_at_call 116; with_reducible refine (refMust_calls e.v lv _ _ _ (H.out.v.below hB.below) H7.out).mono ?_; rintro r w1 ⟨rfl, hb1⟩; replace hB := hB.step hb1; have hc := hB.cell 0 rfl)
      | (go_at_call 86; with_reducible refine (refOne_calls e.c _ H.out.c _ H2.out).mono ?_; rintro r w1 ⟨rfl, hb1⟩; replace hB := hB.step hb1; have hc := hB.cell 0 rfl))
            go_ret
            exact ⟨by rw [HE.out]; first | rfl | simp, by first | exact hB.below | (rw [← hg]; exact hB.below)⟩
          ·
            cases b3
            · go_enter Try.func56, Try.ntmps56
              go_wp2_with (first
      | (go_at_call 115; with_reducible refine (refValid_calls e.lo _ _ H.out.lo HV1.out).mono ?_; rintro r w1 ⟨rfl, rfl⟩)
      | (go_at_call 115; with_reducible refine (refValid_calls e.hi _ _ H.out.hi HV2.out).mono ?_; rintro r w1 ⟨rfl, rfl⟩)
      | (go_at_call 117; with_reducible refine (refBallot_calls e.pr _).mono ?_; rintro r w1 ⟨rfl, rfl⟩; rw [H3.out])
      | (go_at_call 117; with_reducible refine (refBallot_calls e.ab _).mono ?_; rintro r w1 ⟨rfl, rfl⟩; rw [H4.out])
      | (go_at_call 116; with_reducible refine (refMust_calls e.f lf _ _ _ (H.out.f.below hB.below) H5.out).mono ?_; rintro r w1 ⟨rfl, hb1⟩; replace hB := hB.step hb1; have hc := hB.cell 0 rfl)
      | (go_at_call 116; with_reducible refine (refMust_calls e.a la _ _ _ (H.out.a.below hB.below) H6.out).mono ?_; rintro r w1 ⟨rfl, hb1⟩; replace hB := hB.step hb1; have hc := hB.cell 0 rfl)
      | (go_at_call 116; with_reducible refine (refMust_calls e.v lv _ _ _ (H.out.v.below hB.below) H7.out).mono ?_; rintro r w1 ⟨rfl, hb1⟩; replace hB := hB.step hb1; have hc := hB.cell 0 rfl)
      | (go_at_call 86; with_reducible refine (refOne_calls e.c _ H.out.c _ H2.out).mono ?_; rintro r w1 ⟨rfl, hb1⟩; replace hB := hB.step hb1; have hc := hB.cell 0 rfl))
              go_ret
              exact ⟨by rw [HE.out]; first | rfl | simp, by first | exact hB.below | (rw [← hg]; exact hB.below)⟩
            ·
              go_enter Try.func56, Try.ntmps56
              go_wp2_with (first
      | (go_at_call 115; with_reducible refine (refValid_calls e.lo _ _ H.out.lo HV1.out).mono ?_; rintro r w1 ⟨rfl, rfl⟩)
      | (go_at_call 115; with_reducible refine (refValid_calls e.hi _ _ H.out.hi HV2.out).mono ?_; rintro r w1 ⟨rfl, rfl⟩)
      | (go_at_call 117; with_reducible refine (refBallot_calls e.pr _).mono ?_; rintro r w1 ⟨rfl, rfl⟩; rw [H3.out])
      | (go_at_call 117; with_reducible refine (refBallot_calls e.ab _).mono ?_; rintro r w1 ⟨rfl, rfl⟩; rw [H4.out])
      | (go_at_call 116; with_reducible refine (refMust_calls e.f lf _ _ _ (H.out.f.below hB.below) H5.out).mono ?_; rintro r w1 ⟨rfl, hb1⟩; replace hB := hB.step hb1; have hc := hB.cell 0 rfl)
      | (go_at_call 116; with_reducible refine (refMust_calls e.a la _ _ _ (H.out.a.below hB.below) H6.out).mono ?_; rintro r w1 ⟨rfl, hb1⟩; replace hB := hB.step hb1; have hc := hB.cell 0 rfl)
      | (go_at_call 116; with_reducible refine (refMust_calls e.v lv _ _ _ (H.out.v.below hB.below) H7.out).mono ?_; rintro r w1 ⟨rfl, hb1⟩; replace hB := hB.step hb1; have hc := hB.cell 0 rfl)
      | (go_at_call 86; with_reducible refine (refOne_calls e.c _ H.out.c _ H2.out).mono ?_; rintro r w1 ⟨rfl, hb1⟩; replace hB := hB.step hb1; have hc := hB.cell 0 rfl))
              go_ret
              exact ⟨by rw [HE.out]; first | rfl | simp, by first | exact hB.below | (rw [← hg]; exact hB.below)⟩
        · obtain rfl : tm = true := by rw [HT.out]; simp
          cases b2
          · go_enter Try.func56, Try.ntmps56
            go_wp2_with (first
      | (go_at_call 115; with_reducible refine (refValid_calls e.lo _ _ H.out.lo HV1.out).mono ?_; rintro r w1 ⟨rfl, rfl⟩)
      | (go_at_call 115; with_reducible refine (refValid_calls e.hi _ _ H.out.hi HV2.out).mono ?_; rintro r w1 ⟨rfl, rfl⟩)
      | (go_at_call 117; with_reducible refine (refBallot_calls e.pr _).mono ?_; rintro r w1 ⟨rfl, rfl⟩; rw [H3.out])
      | (go_at_call 117; with_reducible refine (refBallot_calls e.ab _).mono ?_; rintro r w1 ⟨rfl, rfl⟩; rw [H4.out])
      | (go_at_call 116; with_reducible refine (refMust_calls e.f lf _ _ _ (H.out.f.below hB.below) H5.out).mono ?_; rintro r w1 ⟨rfl, hb1⟩; replace hB := hB.step hb1; have hc := hB.cell 0 rfl)
      | (go_at_call 116; with_reducible refine (refMust_calls e.a la _ _ _ (H.out.a.below hB.below) H6.out).mono ?_; rintro r w1 ⟨rfl, hb1⟩; replace hB := hB.step hb1; have hc := hB.cell 0 rfl)
      | (go_at_call 116; with_reducible refine (refMust_calls e.v lv _ _ _ (H.out.v.below hB.below) H7.out).mono ?_; rintro r w1 ⟨rfl, hb1⟩; replace hB := hB.step hb1; have hc := hB.cell 0 rfl)
      | (go_at_call 86; with_reducible refine (refOne_calls e.c _ H.out.c _ H2.out).mono ?_; rintro r w1 ⟨rfl, hb1⟩; replace hB := hB.step hb1; have hc := hB.cell 0 rfl))
            go_ret
            exact ⟨by rw [HE.out]; first | rfl | simp, by first | exact hB.below | (rw [← hg]; exact hB.below)⟩
          ·
            cases b3
            · go_enter Try.func56, Try.ntmps56
              go_wp2_with (first
      | (go_at_call 115; with_reducible refine (refValid_calls e.lo _ _ H.out.lo HV1.out).mono ?_; rintro r w1 ⟨rfl, rfl⟩)
      | (go_at_call 115; with_reducible refine (refValid_calls e.hi _ _ H.out.hi HV2.out).mono ?_; rintro r w1 ⟨rfl, rfl⟩)
      | (go_at_call 117; with_reducible refine (refBallot_calls e.pr _).mono ?_; rintro r w1 ⟨rfl, rfl⟩; rw [H3.out])
      | (go_at_call 117; with_reducible refine (refBallot_calls e.ab _).mono ?_; rintro r w1 ⟨rfl, rfl⟩; rw [H4.out])
      | (go_at_call 116; with_reducible refine (refMust_calls e.f lf _ _ _ (H.out.f.below hB.below) H5.out).mono ?_; rintro r w1 ⟨rfl, hb1⟩; replace hB := hB.step hb1; have hc := hB.cell 0 rfl)
      | (go_at_call 116; with_reducible refine (refMust_calls e.a la _ _ _ (H.out.a.below hB.below) H6.out).mono ?_; rintro r w1 ⟨rfl, hb1⟩; replace hB := hB.step hb1; have hc := hB.cell 0 rfl)
      | (go_at_call 116; with_reducible refine (refMust_calls e.v lv _ _ _ (H.out.v.below hB.below) H7.out).mono ?_; rintro r w1 ⟨rfl, hb1⟩; replace hB := hB.step hb1; have hc := hB.cell 0 rfl)
      | (go_at_call 86; with_reducible refine (refOne_calls e.c _ H.out.c _ H2.out).mono ?_; rintro r w1 ⟨rfl, hb1⟩; replace hB := hB.step hb1; have hc := hB.cell 0 rfl))
              go_ret
              exact ⟨by rw [HE.out]; first | rfl | simp, by first | exact hB.below | (rw [← hg]; exact hB.below)⟩
            ·
              cases b5
              · go_enter Try.func56, Try.ntmps56
                go_wp2_with (first
      | (go_at_call 115; with_reducible refine (refValid_calls e.lo _ _ H.out.lo HV1.out).mono ?_; rintro r w1 ⟨rfl, rfl⟩)
      | (go_at_call 115; with_reducible refine (refValid_calls e.hi _ _ H.out.hi HV2.out).mono ?_; rintro r w1 ⟨rfl, rfl⟩)
      | (go_at_call 117; with_reducible refine (refBallot_calls e.pr _).mono ?_; rintro r w1 ⟨rfl, rfl⟩; rw [H3.out])
      | (go_at_call 117; with_reducible refine (refBallot_calls e.ab _).mono ?_; rintro r w1 ⟨rfl, rfl⟩; rw [H4.out])
      | (go_at_call 116; with_reducible refine (refMust_calls e.f lf _ _ _ (H.out.f.below hB.below) H5.out).mono ?_; rintro r w1 ⟨rfl, hb1⟩; replace hB := hB.step hb1; have hc := hB.cell 0 rfl)
      | (go_at_call 116; with_reducible refine (refMust_calls e.a la _ _ _ (H.out.a.below hB.below) H6.out).mono ?_; rintro r w1 ⟨rfl, hb1⟩; replace hB := hB.step hb1; have hc := hB.cell 0 rfl)
      | (go_at_call 116; with_reducible refine (refMust_calls e.v lv _ _ _ (H.out.v.below hB.below) H7.out).mono ?_; rintro r w1 ⟨rfl, hb1⟩; replace hB := hB.step hb1; have hc := hB.cell 0 rfl)
      | (go_at_call 86; with_reducible refine (refOne_calls e.c _ H.out.c _ H2.out).mono ?_; rintro r w1 ⟨rfl, hb1⟩; replace hB := hB.step hb1; have hc := hB.cell 0 rfl))
                go_ret
                exact ⟨by rw [HE.out]; first | rfl | simp, by first | exact hB.below | (rw [← hg]; exact hB.below)⟩
              ·
                cases b4
                · go_enter Try.func56, Try.ntmps56
                  go_wp2_with (first
      | (go_at_call 115; with_reducible refine (refValid_calls e.lo _ _ H.out.lo HV1.out).mono ?_; rintro r w1 ⟨rfl, rfl⟩)
      | (go_at_call 115; with_reducible refine (refValid_calls e.hi _ _ H.out.hi HV2.out).mono ?_; rintro r w1 ⟨rfl, rfl⟩)
      | (go_at_call 117; with_reducible refine (refBallot_calls e.pr _).mono ?_; rintro r w1 ⟨rfl, rfl⟩; rw [H3.out])
      | (go_at_call 117; with_reducible refine (refBallot_calls e.ab _).mono ?_; rintro r w1 ⟨rfl, rfl⟩; rw [H4.out])
      | (go_at_call 116; with_reducible refine (refMust_calls e.f lf _ _ _ (H.out.f.below hB.below) H5.out).mono ?_; rintro r w1 ⟨rfl, hb1⟩; replace hB := hB.step hb1; have hc := hB.cell 0 rfl)
      | (go_at_call 116; with_reducible refine (refMust_calls e.a la _ _ _ (H.out.a.below hB.below) H6.out).mono ?_; rintro r w1 ⟨rfl, hb1⟩; replace hB := hB.step hb1; have hc := hB.cell 0 rfl)
      | (go_at_call 116; with_reducible refine (refMust_calls e.v lv _ _ _ (H.out.v.below hB.below) H7.out).mono ?_; rintro r w1 ⟨rfl, hb1⟩; replace hB := hB.step hb1; have hc := hB.cell 0 rfl)
      | (go_at_call 86; with_reducible refine (refOne_calls e.c _ H.out.c _ H2.out).mono ?_; rintro r w1 ⟨rfl, hb1⟩; replace hB := hB.step hb1; have hc := hB.cell 0 rfl))
                  go_ret
                  exact ⟨by rw [HE.out]; first | rfl | simp, by first | exact hB.below | (rw [← hg]; exact hB.below)⟩
                ·
                  cases b6
                  · go_enter Try.func56, Try.ntmps56
                    go_wp2_with (first
      | (go_at_call 115; with_reducible refine (refValid_calls e.lo _ _ H.out.lo HV1.out).mono ?_; rintro r w1 ⟨rfl, rfl⟩)
      | (go_at_call 115; with_reducible refine (refValid_calls e.hi _ _ H.out.hi HV2.out).mono ?_; rintro r w1 ⟨rfl, rfl⟩)
      | (go_at_call 117; with_reducible refine (refBallot_calls e.pr _).mono ?_; rintro r w1 ⟨rfl, rfl⟩; rw [H3.out])
      | (go_at_call 117; with_reducible refine (refBallot_calls e.ab _).mono ?_; rintro r w1 ⟨rfl, rfl⟩; rw [H4.out])
      | (go_at_call 116; with_reducible refine (refMust_calls e.f lf _ _ _ (H.out.f.below hB.below) H5.out).mono ?_; rintro r w1 ⟨rfl, hb1⟩; replace hB := hB.step hb1; have hc := hB.cell 0 rfl)
      | (go_at_call 116; with_reducible refine (refMust_calls e.a la _ _ _ (H.out.a.below hB.below) H6.out).mono ?_; rintro r w1 ⟨rfl, hb1⟩; replace hB := hB.step hb1; have hc := hB.cell 0 rfl)
      | (go_at_call 116; with_reducible refine (refMust_calls e.v lv _ _ _ (H.out.v.below hB.below) H7.out).mono ?_; rintro r w1 ⟨rfl, hb1⟩; replace hB := hB.step hb1; have hc := hB.cell 0 rfl)
      | (go_at_call 86; with_reducible refine (refOne_calls e.c _ H.out.c _ H2.out).mono ?_; rintro r w1 ⟨rfl, hb1⟩; replace hB := hB.step hb1; have hc := hB.cell 0 rfl))
                    go_ret
                    exact ⟨by rw [HE.out]; first | rfl | simp, by first | exact hB.below | (rw [← hg]; exact hB.below)⟩
                  ·
                    go_enter Try.func56, Try.ntmps56
                    go_wp2_with (first
      | (go_at_call 115; with_reducible refine (refValid_calls e.lo _ _ H.out.lo HV1.out).mono ?_; rintro r w1 ⟨rfl, rfl⟩)
      | (go_at_call 115; with_reducible refine (refValid_calls e.hi _ _ H.out.hi HV2.out).mono ?_; rintro r w1 ⟨rfl, rfl⟩)
      | (go_at_call 117; with_reducible refine (refBallot_calls e.pr _).mono ?_; rintro r w1 ⟨rfl, rfl⟩; rw [H3.out])
      | (go_at_call 117; with_reducible refine (refBallot_calls e.ab _).mono ?_; rintro r w1 ⟨rfl, rfl⟩; rw [H4.out])
      | (go_at_call 116; with_reducible refine (refMust_calls e.f lf _ _ _ (H.out.f.below hB.below) H5.out).mono ?_; rintro r w1 ⟨rfl, hb1⟩; replace hB := hB.step hb1; have hc := hB.cell 0 rfl)
      | (go_at_call 116; with_reducible refine (refMust_calls e.a la _ _ _ (H.out.a.below hB.below) H6.out).mono ?_; rintro r w1 ⟨rfl, hb1⟩; replace hB := hB.step hb1; have hc := hB.cell 0 rfl)
      | (go_at_call 116; with_reducible refine (refMust_calls e.v lv _ _ _ (H.out.v.below hB.below) H7.out).mono ?_; rintro r w1 ⟨rfl, hb1⟩; replace hB := hB.step hb1; have hc := hB.cell 0 rfl)
      | (go_at_call 86; with_reducible refine (refOne_calls e.c _ H.out.c _ H2.out).mono ?_; rintro r w1 ⟨rfl, hb1⟩; replace hB := hB.step hb1; have hc := hB.cell 0 rfl))
                    go_ret
                    exact ⟨by rw [HE.out]; first | rfl | simp, by first | exact hB.below | (rw [← hg]; exact hB.below)⟩
  · obtain rfl : v1 = false := HZ1.out rfl
    cases z2
    · obtain rfl : tm = false := by rw [HT.out]; simp
      cases b2
      · go_enter Try.func56, Try.ntmps56
        go_wp2_with (first
      | (go_at_call 115; with_reducible refine (refValid_calls e.lo _ _ H.out.lo HV1.out).mono ?_; rintro r w1 ⟨rfl, rfl⟩)
      | (go_at_call 115; with_reducible refine (refValid_calls e.hi _ _ H.out.hi HV2.out).mono ?_; rintro r w1 ⟨rfl, rfl⟩)
      | (go_at_call 117; with_reducible refine (refBallot_calls e.pr _).mono ?_; rintro r w1 ⟨rfl, rfl⟩; rw [H3.out])
      | (go_at_call 117; with_reducible refine (refBallot_calls e.ab _).mono ?_; rintro r w1 ⟨rfl, rfl⟩; rw [H4.out])
      | (go_at_call 116; with_reducible refine (refMust_calls e.f lf _ _ _ (H.out.f.below hB.below) H5.out).mono ?_; rintro r w1 ⟨rfl, hb1⟩; replace hB := hB.step hb1; have hc := hB.cell 0 rfl)
      | (go_at_call 116; with_reducible refine (refMust_calls e.a la _ _ _ (H.out.a.below hB.below) H6.out).mono ?_; rintro r w1 ⟨rfl, hb1⟩; replace hB := hB.step hb1; have hc := hB.cell 0 rfl)
      | (go_at_call 116; with_reducible refine (refMust_calls e.v lv _ _ _ (H.out.v.below hB.below) H7.out).mono ?_; rintro r w1 ⟨rfl, hb1⟩; replace hB := hB.step hb1; have hc := hB.cell 0 rfl)
      | (go_at_call 86; with_reducible refine (refOne_calls e.c _ H.out.c _ H2.out).mono ?_; rintro r w1 ⟨rfl, hb1⟩; replace hB := hB.step hb1; have hc := hB.cell 0 rfl))
        go_ret
        exact ⟨by rw [HE.out]; first | rfl | simp, by first | exact hB.below | (rw [← hg]; exact hB.below)⟩
      ·
        cases b3
        · go_enter Try.func56, Try.ntmps56
          go_wp2_with (first
      | (go_at_call 115; with_reducible refine (refValid_calls e.lo _ _ H.out.lo HV1.out).mono ?_; rintro r w1 ⟨rfl, rfl⟩)
      | (go_at_call 115; with_reducible refine (refValid_calls e.hi _ _ H.out.hi HV2.out).mono ?_; rintro r w1 ⟨rfl, rfl⟩)
      | (go_at_call 117; with_reducible refine (refBallot_calls e.pr _).mono ?_; rintro r w1 ⟨rfl, rfl⟩; rw [H3.out])
      | (go_at_call 117; with_reducible refine (refBallot_calls e.ab _).mono ?_; rintro r w1 ⟨rfl, rfl⟩; rw [H4.out])
      | (go_at_call 116; with_reducible refine (refMust_calls e.f lf _ _ _ (H.out.f.below hB.below) H5.out).mono ?_; rintro r w1 ⟨rfl, hb1⟩; replace hB := hB.step hb1; have hc := hB.cell 0 rfl)
      | (go_at_call 116; with_reducible refine (refMust_calls e.a la _ _ _ (H.out.a.below hB.below) H6.out).mono ?_; rintro r w1 ⟨rfl, hb1⟩; replace hB := hB.step hb1; have hc := hB.cell 0 rfl)
      | (go_at_call 116; with_reducible refine (refMust_calls e.v lv _ _ _ (H.out.v.below hB.below) H7.out).mono ?_; rintro r w1 ⟨rfl, hb1⟩; replace hB := hB.step hb1; have hc := hB.cell 0 rfl)
      | (go_at_call 86; with_reducible refine (refOne_calls e.c _ H.out.c _ H2.out).mono ?_; rintro r w1 ⟨rfl, hb1⟩; replace hB := hB.step hb1; have hc := hB.cell 0 rfl))
          go_ret
          exact ⟨by rw [HE.out]; first | rfl | simp, by first | exact hB.below | (rw [← hg]; exact hB.below)⟩
        ·
          go_enter Try.func56, Try.ntmps56
          go_wp2_with (first
      | (go_at_call 115; with_reducible refine (refValid_calls e.lo _ _ H.out.lo HV1.out).mono ?_; rintro r w1 ⟨rfl, rfl⟩)
      | (go_at_call 115; with_reducible refine (refValid_calls e.hi _ _ H.out.hi HV2.out).mono ?_; rintro r w1 ⟨rfl, rfl⟩)
      | (go_at_call 117; with_reducible refine (refBallot_calls e.pr _).mono ?_; rintro r w1 ⟨rfl, rfl⟩; rw [H3.out])
      | (go_at_call 117; with_reducible refine (refBallot_calls e.ab _).mono ?_; rintro r w1 ⟨rfl, rfl⟩; rw [H4.out])
      | (go_at_call 116; with_reducible refine (refMust_calls e.f lf _ _ _ (H.out.f.below hB.below) H5.out).mono ?_; rintro r w1 ⟨rfl, hb1⟩; replace hB := hB.step hb1; have hc := hB.cell 0 rfl)
      | (go_at_call 116; with_reducible refine (refMust_calls e.a la _ _ _ (H.out.a.below hB.below) H6.out).mono ?_; rintro r w1 ⟨rfl, hb1⟩; replace hB := hB.step hb1; have hc := hB.cell 0 rfl)
      | (go_at_call 116; with_reducible refine (refMust_calls e.v lv _ _ _ (H.out.v.below hB.below) H7.out).mono ?_; rintro r w1 ⟨rfl, hb1⟩; replace hB := hB.step hb1; have hc := hB.cell 0 rfl)
      | (go_at_call 86; with_reducible refine (refOne_calls e.c _ H.out.c _ H2.out).mono ?_; rintro r w1 ⟨rfl, hb1⟩; replace hB := hB.step hb1; have hc := hB.cell 0 rfl))
          go_ret
          exact ⟨by rw [HE.out]; first | rfl | simp, by first | exact hB.below | (rw [← hg]; exact hB.below)⟩
    · obtain rfl : tm = true := by rw [HT.out]; simp
      cases b2
      · go_enter Try.func56, Try.ntmps56
        go_wp2_with (first
      | (go_at_call 115; with_reducible refine (refValid_calls e.lo _ _ H.out.lo HV1.out).mono ?_; rintro r w1 ⟨rfl, rfl⟩)
      | (go_at_call 115; with_reducible refine (refValid_calls e.hi _ _ H.out.hi HV2.out).mono ?_; rintro r w1 ⟨rfl, rfl⟩)
      | (go_at_call 117; with_reducible refine (refBallot_calls e.pr _).mono ?_; rintro r w1 ⟨rfl, rfl⟩; rw [H3.out])
      | (go_at_call 117; with_reducible refine (refBallot_calls e.ab _).mono ?_; rintro r w1 ⟨rfl, rfl⟩; rw [H4.out])
      | (go_at_call 116; with_reducible refine (refMust_calls e.f lf _ _ _ (H.out.f.below hB.below) H5.out).mono ?_; rintro r w1 ⟨rfl, hb1⟩; replace hB := hB.step hb1; have hc := hB.cell 0 rfl)
      | (go_at_call 116; with_reducible refine (refMust_calls e.a la _ _ _ (H.out.a.below hB.below) H6.out).mono ?_; rintro r w1 ⟨rfl, hb1⟩; replace hB := hB.step hb1; have hc := hB.cell 0 rfl)
      | (go_at_call 116; with_reducible refine (refMust_calls e.v lv _ _ _ (H.out.v.below hB.below) H7.out).mono ?_; rintro r w1 ⟨rfl, hb1⟩; replace hB := hB.step hb1; have hc := hB.cell 0 rfl)
      | (go_at_call 86; with_reducible refine (refOne_calls e.c _ H.out.c _ H2.out).mono ?_; rintro r w1 ⟨rfl, hb1⟩; replace hB := hB.step hb1; have hc := hB.cell 0 rfl))
        go_ret
        exact ⟨by rw [HE.out]; first | rfl | simp, by first | exact hB.below | (rw [← hg]; exact hB.below)⟩
      ·
        cases b3
        · go_enter Try.func56, Try.ntmps56
          go_wp2_with (first
      | (go_at_call 115; with_reducible refine (refValid_calls e.lo _ _ H.out.lo HV1.out).mono ?_; rintro r w1 ⟨rfl, rfl⟩)
      | (go_at_call 115; with_reducible refine (refValid_calls e.hi _ _ H.out.hi HV2.out).mono ?_; rintro r w1 ⟨rfl, rfl⟩)
      | (go_at_call 117; with_reducible refine (refBallot_calls e.pr _).mono ?_; rintro r w1 ⟨rfl, rfl⟩; rw [H3.out])
      | (go_at_call 117; with_reducible refine (refBallot_calls e.ab _).mono ?_; rintro r w1 ⟨rfl, rfl⟩; rw [H4.out])
      | (go_at_call 116; with_reducible refine (refMust_calls e.f lf _ _ _ (H.out.f.below hB.below) H5.out).mono ?_; rintro r w1 ⟨rfl, hb1⟩; replace hB := hB.step hb1; have hc := hB.cell 0 rfl)
      | (go_at_call 116; with_reducible refine (refMust_calls e.a la _ _ _ (H.out.a.below hB.below) H6.out).mono ?_; rintro r w1 ⟨rfl, hb1⟩; replace hB := hB.step hb1; have hc := hB.cell 0 rfl)
      | (go_at_call 116; with_reducible refine (refMust_calls e.v lv _ _ _ (H.out.v.below hB.below) H7.out).mono ?_; rintro r w1 ⟨rfl, hb1⟩; replace hB := hB.step hb1; have hc := hB.cell 0 rfl)
      | (go_at_call 86; with_reducible refine (refOne_calls e.c _ H.out.c _ H2.out).mono ?_; rintro r w1 ⟨rfl, hb1⟩; replace hB := hB.step hb1; have hc := hB.cell 0 rfl))
          go_ret
          exact ⟨by rw [HE.out]; first | rfl | simp, by first | exact hB.below | (rw [← hg]; exact hB.below)⟩
        ·
          cases b5
          · go_enter Try.func56, Try.ntmps56
            go_wp2_with (first
      | (go_at_call 115; with_reducible refine (refValid_calls e.lo _ _ H.out.lo HV1.out).mono ?_; rintro r w1 ⟨rfl, rfl⟩)
      | (go_at_call 115; with_reducible refine (refValid_calls e.hi _ _ H.out.hi HV2.out).mono ?_; rintro r w1 ⟨rfl, rfl⟩)
      | (go_at_call 117; with_reducible refine (refBallot_calls e.pr _).mono ?_; rintro r w1 ⟨rfl, rfl⟩; rw [H3.out])
      | (go_at_call 117; with_reducible refine (refBallot_calls e.ab _).mono ?_; rintro r w1 ⟨rfl, rfl⟩; rw [H4.out])
      | (go_at_call 116; with_reducible refine (refMust_calls e.f lf _ _ _ (H.out.f.below hB.below) H5.out).mono ?_; rintro r w1 ⟨rfl, hb1⟩; replace hB := hB.step hb1; have hc := hB.cell 0 rfl)
      | (go_at_call 116; with_reducible refine (refMust_calls e.a la _ _ _ (H.out.a.below hB.below) H6.out).mono ?_; rintro r w1 ⟨rfl, hb1⟩; replace hB := hB.step hb1; have hc := hB.cell 0 rfl)
      | (go_at_call 116; with_reducible refine (refMust_calls e.v lv _ _ _ (H.out.v.below hB.below) H7.out).mono ?_; rintro r w1 ⟨rfl, hb1⟩; replace hB := hB.step hb1; have hc := hB.cell 0 rfl)
      | (go_at_call 86; with_reducible refine (refOne_calls e.c _ H.out.c _ H2.out).mono ?_; rintro r w1 ⟨rfl, hb1⟩; replace hB := hB.step hb1; have hc := hB.cell 0 rfl))
            go_ret
            exact ⟨by rw [HE.out]; first | rfl | simp, by first | exact hB.below | (rw [← hg]; exact hB.below)⟩
          ·
            cases b4
            · go_enter Try.func56, Try.ntmps56
              go_wp2_with (first
      | (go_at_call 115; with_reducible refine (refValid_calls e.lo _ _ H.out.lo HV1.out).mono ?_; rintro r w1 ⟨rfl, rfl⟩)
      | (go_at_call 115; with_reducible refine (refValid_calls e.hi _ _ H.out.hi HV2.out).mono ?_; rintro r w1 ⟨rfl, rfl⟩)
      | (go_at_call 117; with_reducible refine (refBallot_calls e.pr _).mono ?_; rintro r w1 ⟨rfl, rfl⟩; rw [H3.out])
      | (go_at_call 117; with_reducible refine (refBallot_calls e.ab _).mono ?_; rintro r w1 ⟨rfl, rfl⟩; rw [H4.out])
      | (go_at_call 116; with_reducible refine (refMust_calls e.f lf _ _ _ (H.out.f.below hB.below) H5.out).mono ?_; rintro r w1 ⟨rfl, hb1⟩; replace hB := hB.step hb1; have hc := hB.cell 0 rfl)
      | (go_at_call 116; with_reducible refine (refMust_calls e.a la _ _ _ (H.out.a.below hB.below) H6.out).mono ?_; rintro r w1 ⟨rfl, hb1⟩; replace hB := hB.step hb1; have hc := hB.cell 0 rfl)
      | (go_at_call 116; with_reducible refine (refMust_calls e.v lv _ _ _ (H.out.v.below hB.below) H7.out).mono ?_; rintro r w1 ⟨rfl, hb1⟩; replace hB := hB.step hb1; have hc := hB.cell 0 rfl)
      | (go_at_call 86; with_reducible refine (refOne_calls e.c _ H.out.c _ H2.out).mono ?_; rintro r w1 ⟨rfl, hb1⟩; replace hB := hB.step hb1; have hc := hB.cell 0 rfl))
              go_ret
              exact ⟨by rw [HE.out]; first | rfl | simp, by first | exact hB.below | (rw [← hg]; exact hB.below)⟩
            ·
              cases b6
              · go_enter Try.func56, Try.ntmps56
                go_wp2_with (first
      | (go_at_call 115; with_reducible refine (refValid_calls e.lo _ _ H.out.lo HV1.out).mono ?_; rintro r w1 ⟨rfl, rfl⟩)
      | (go_at_call 115; with_reducible refine (refValid_calls e.hi _ _ H.out.hi HV2.out).mono ?_; rintro r w1 ⟨rfl, rfl⟩)
      | (go_at_call 117; with_reducible refine (refBallot_calls e.pr _).mono ?_; rintro r w1 ⟨rfl, rfl⟩; rw [H3.out])
      | (go_at_call 117; with_reducible refine (refBallot_calls e.ab _).mono ?_; rintro r w1 ⟨rfl, rfl⟩; rw [H4.out])
      | (go_at_call 116; with_reducible refine (refMust_calls e.f lf _ _ _ (H.out.f.below hB.below) H5.out).mono ?_; rintro r w1 ⟨rfl, hb1⟩; replace hB := hB.step hb1; have hc := hB.cell 0 rfl)
      | (go_at_call 116; with_reducible refine (refMust_calls e.a la _ _ _ (H.out.a.below hB.below) H6.out).mono ?_; rintro r w1 ⟨rfl, hb1⟩; replace hB := hB.step hb1; have hc := hB.cell 0 rfl)
      | (go_at_call 116; with_reducible refine (refMust_calls e.v lv _ _ _ (H.out.v.below hB.below) H7.out).mono ?_; rintro r w1 ⟨rfl, hb1⟩; replace hB := hB.step hb1; have hc := hB.cell 0 rfl)
      | (go_at_call 86; with_reducible refine (refOne_calls e.c _ H.out.c _ H2.out).mono ?_; rintro r w1 ⟨rfl, hb1⟩; replace hB := hB.step hb1; have hc := hB.cell 0 rfl))
                go_ret
                exact ⟨by rw [HE.out]; first | rfl | simp, by first | exact hB.below | (rw [← hg]; exact hB.below)⟩
              ·
                go_enter Try.func56, Try.ntmps56
                go_wp2_with (first
      | (go_at_call 115; with_reducible refine (refValid_calls e.lo _ _ H.out.lo HV1.out).mono ?_; rintro r w1 ⟨rfl, rfl⟩)
      | (go_at_call 115; with_reducible refine (refValid_calls e.hi _ _ H.out.hi HV2.out).mono ?_; rintro r w1 ⟨rfl, rfl⟩)
      | (go_at_call 117; with_reducible refine (refBallot_calls e.pr _).mono ?_; rintro r w1 ⟨rfl, rfl⟩; rw [H3.out])
      | (go_at_call 117; with_reducible refine (refBallot_calls e.ab _).mono ?_; rintro r w1 ⟨rfl, rfl⟩; rw [H4.out])
      | (go_at_call 116; with_reducible refine (refMust_calls e.f lf _ _ _ (H.out.f.below hB.below) H5.out).mono ?_; rintro r w1 ⟨rfl, hb1⟩; replace hB := hB.step hb1; have hc := hB.cell 0 rfl)
      | (go_at_call 116; with_reducible refine (refMust_calls e.a la _ _ _ (H.out.a.below hB.below) H6.out).mono ?_; rintro r w1 ⟨rfl, hb1⟩; replace hB := hB.step hb1; have hc := hB.cell 0 rfl)
      | (go_at_call 116; with_reducible refine (refMust_calls e.v lv _ _ _ (H.out.v.below hB.below) H7.out).mono ?_; rintro r w1 ⟨rfl, hb1⟩; replace hB := hB.step hb1; have hc := hB.cell 0 rfl)
      | (go_at_call 86; with_reducible refine (refOne_calls e.c _ H.out.c _ H2.out).mono ?_; rintro r w1 ⟨rfl, hb1⟩; replace hB := hB.step hb1; have hc := hB.cell 0 rfl))
                go_ret
                exact ⟨by rw [HE.out]; first | rfl | simp, by first | exact hB.below | (rw [← hg]; exact hB.below)⟩
end Go.Proofs.Ytebhclgnpnlekaa.Ent
