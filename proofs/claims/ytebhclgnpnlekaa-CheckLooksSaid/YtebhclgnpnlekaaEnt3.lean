/- package entry's Right, the document's Same, by their walks. -/
import Derived.Test.YtebhclgnpnlekaaEnt2
namespace Go.Proofs.Ytebhclgnpnlekaa.Ent
open Go.RowKit Go.Proofs.Ytebhclgnpnlekaa.B Go.Proofs.Ytebhclgnpnlekaa.Cmd Go.Proofs.Ytebhclgnpnlekaa.Agg
open Go.Proofs.Ytebhclgnpnlekaa.Preds (okSet)
/-- An entry, as it is read. -/
structure EAt (w : World) (e : ER) (lf la lv : List CmdD) : Prop where
  c : e.c.wf
  pr : (Lit.int .i64 e.pr).wf = true
  lo : (Lit.int .i64 e.lo).wf = true
  hi : (Lit.int .i64 e.hi).wf = true
  ab : (Lit.int .i64 e.ab).wf = true
  f : VAt w e.f lf
  a : VAt w e.a la
  v : VAt w e.v lv
theorem EAt.below {w w' : World} {e : ER} {lf la lv : List CmdD} (h : EAt w e lf la lv) (hb : Below w.heap.size w w') : EAt w' e lf la lv := ⟨h.c, h.pr, h.lo, h.hi, h.ab, h.f.below hb, h.a.below hb, h.v.below hb⟩
def okTimes (lo hi : Int) : Bool := decide ((lo = 0 ∧ hi = 0) ∨ (okStamp lo = true ∧ okStamp hi = true ∧ lo ≤ hi))
def okE (e : ER) (lf la lv : List CmdD) : Bool := okTimes e.lo e.hi && okCmd e.c && okBallot e.pr && okBallot e.ab && okMust e.f lf (e.f.t != 0) && okMust e.a la (e.ab != 0) && okMust e.v lv e.dn
theorem cmdRow (c : CmdD) (hw : c.wf) (W : World) : Rep.Row cmdRep (fun k => True ∨ k = W.heap.size) (W.alloc (.cells #[.int .i64 c.id, .int .i64 c.kind, .int .i64 c.sym, .int .i64 c.tgt, .int .i64 c.side, .int .i64 c.price, .int .i64 c.qty] 45)) (some ⟨W.heap.size, 0, none⟩) [c] :=
  Rep.row_box (d := cmdRep) (I := fun _ => True) (x := c) (cs := [.int .i64 c.id, .int .i64 c.kind, .int .i64 c.sym, .int .i64 c.tgt, .int .i64 c.side, .int .i64 c.price, .int .i64 c.qty]) 45 ⟨rfl, hw⟩
theorem must_calls' (v : VR) (l : List CmdD) (is : Bool) (w : World) (b : Bool) (h : VAt w v l) (hb : okMust v l is = b) : Calls Try.prog 98 #[.agg #[.int .i64 v.t, .slice v.A v.n v.c], .bool is] w fun r w' => r = .returned (.bool b) ∧ Below w.heap.size w w' := must_calls v l is w b h hb
theorem stamp0 : okStamp 0 = false := by decide
set_option maxHeartbeats 8000000 in
set_option maxRecDepth 100000 in
theorem right_calls (e : ER) (lf la lv : List CmdD) (w : World) (b : Bool) (h : EAt w e lf la lv) (hb : okE e lf la lv = b) : Calls Try.prog 50 #[.agg e.cells] w fun r w' => r = .returned (.bool b) ∧ Below w.heap.size w w' := by
  have ka := e.all
  have H := Hold.mk h
  clear h
  obtain ⟨g, hg⟩ : ∃ g, w.heap.size = g := ⟨_, rfl⟩
  obtain ⟨W, hW⟩ : ∃ W, w.alloc (.cells e.cells 70) = W := ⟨_, rfl⟩
  have hB := one_new w e.cells 70
  rw [hW, hg] at hB
  have hc := hB.cell 0 rfl
  obtain ⟨tm, h1⟩ : ∃ b0, okTimes e.lo e.hi = b0 := ⟨_, rfl⟩
  obtain ⟨b2, h2⟩ : ∃ b0, okCmd e.c = b0 := ⟨_, rfl⟩
  obtain ⟨b3, h3⟩ : ∃ b0, okBallot e.pr = b0 := ⟨_, rfl⟩
  obtain ⟨b4, h4⟩ : ∃ b0, okBallot e.ab = b0 := ⟨_, rfl⟩
  obtain ⟨b5, h5⟩ : ∃ b0, okMust e.f lf (e.f.t != 0) = b0 := ⟨_, rfl⟩
  obtain ⟨b6, h6⟩ : ∃ b0, okMust e.a la (e.ab != 0) = b0 := ⟨_, rfl⟩
  obtain ⟨b7, h7⟩ : ∃ b0, okMust e.v lv e.dn = b0 := ⟨_, rfl⟩
  have HE : Hold (b = (tm && b2 && b3 && b4 && b5 && b6 && b7)) := ⟨by rw [← hb, okE, h1, h2, h3, h4, h5, h6, h7]⟩
  have H1 := Hold.mk h1
  have H2 : Hold (okCmds [e.c] = b2) := ⟨by simp [okCmds, h2]⟩
  have H3 := Hold.mk h3
  have H4 := Hold.mk h4
  have H5 := Hold.mk h5
  have H6 := Hold.mk h6
  have H7 := Hold.mk h7
  clear hb h1 h2 h3 h4 h5 h6 h7
  obtain ⟨z1, hz1⟩ : ∃ z, (e.lo == 0) = z := ⟨_, rfl⟩
  obtain ⟨z2, hz2⟩ : ∃ z, (e.hi == 0) = z := ⟨_, rfl⟩
  obtain ⟨v1, hv1⟩ : ∃ z, okStamp e.lo = z := ⟨_, rfl⟩
  obtain ⟨v2, hv2⟩ : ∃ z, okStamp e.hi = z := ⟨_, rfl⟩
  obtain ⟨d, hd⟩ : ∃ z, decide (e.lo ≤ e.hi) = z := ⟨_, rfl⟩
  have HT : Hold (tm = ((z1 && z2) || (v1 && v2 && d))) := ⟨by rw [← H1.out, ← hz1, ← hz2, ← hv1, ← hv2, ← hd]; unfold okTimes; rw [Bool.eq_iff_iff]; simp [and_assoc]⟩
  have HZ1 : Hold (z1 = true → v1 = false) := ⟨fun h => by rw [← hv1]; rw [h] at hz1; rw [show e.lo = 0 by simpa using hz1]; exact stamp0⟩
  have HV1 := Hold.mk hv1
  have HV2 := Hold.mk hv2
  clear hv1 hv2
  cases z1
  · cases v1
    · obtain rfl : tm = false := by rw [HT.out]; simp
      go_enter Try.func50, Try.ntmps50
      go_wp2_with (first
      | (go_at_call 96; with_reducible refine (valid_calls e.lo _ _ H.out.lo HV1.out).mono ?_; rintro r w1 ⟨rfl, rfl⟩)
      | (go_at_call 96; with_reducible refine (valid_calls e.hi _ _ H.out.hi HV2.out).mono ?_; rintro r w1 ⟨rfl, rfl⟩)
      | (go_at_call 97; with_reducible refine (ballot_calls e.pr _).mono ?_; rintro r w1 ⟨rfl, rfl⟩; rw [H3.out])
      | (go_at_call 97; with_reducible refine (ballot_calls e.ab _).mono ?_; rintro r w1 ⟨rfl, rfl⟩; rw [H4.out])
      | (go_at_call 98; with_reducible refine (must_calls' e.f lf _ _ _ (H.out.f.below hB.below) H5.out).mono ?_; rintro r w1 ⟨rfl, hb1⟩; replace hB := hB.step hb1; have hc := hB.cell 0 rfl)
      | (go_at_call 98; with_reducible refine (must_calls' e.a la _ _ _ (H.out.a.below hB.below) H6.out).mono ?_; rintro r w1 ⟨rfl, hb1⟩; replace hB := hB.step hb1; have hc := hB.cell 0 rfl)
      | (go_at_call 98; with_reducible refine (must_calls' e.v lv _ _ _ (H.out.v.below hB.below) H7.out).mono ?_; rintro r w1 ⟨rfl, hb1⟩; replace hB := hB.step hb1; have hc := hB.cell 0 rfl)
      | (go_at_call 80; with_reducible refine (Cmd.right_calls _ 1 1 [e.c] _ _ rfl (cmdRow e.c H.out.c _) _ H2.out).mono ?_; rintro r w1 ⟨rfl, hb1⟩; replace hB := hB.step (((Below.refl _ _).alloc (Nat.le_refl _) _).trans (hb1.out.mono (by simp))); have hc := hB.cell 0 rfl))
      go_ret
      exact ⟨by rw [HE.out]; first | rfl | simp, by first | exact hB.below | (rw [← hg]; exact hB.below)⟩
    · cases v2
      · obtain rfl : tm = false := by rw [HT.out]; simp
        go_enter Try.func50, Try.ntmps50
        go_wp2_with (first
      | (go_at_call 96; with_reducible refine (valid_calls e.lo _ _ H.out.lo HV1.out).mono ?_; rintro r w1 ⟨rfl, rfl⟩)
      | (go_at_call 96; with_reducible refine (valid_calls e.hi _ _ H.out.hi HV2.out).mono ?_; rintro r w1 ⟨rfl, rfl⟩)
      | (go_at_call 97; with_reducible refine (ballot_calls e.pr _).mono ?_; rintro r w1 ⟨rfl, rfl⟩; rw [H3.out])
      | (go_at_call 97; with_reducible refine (ballot_calls e.ab _).mono ?_; rintro r w1 ⟨rfl, rfl⟩; rw [H4.out])
      | (go_at_call 98; with_reducible refine (must_calls' e.f lf _ _ _ (H.out.f.below hB.below) H5.out).mono ?_; rintro r w1 ⟨rfl, hb1⟩; replace hB := hB.step hb1; have hc := hB.cell 0 rfl)
      | (go_at_call 98; with_reducible refine (must_calls' e.a la _ _ _ (H.out.a.below hB.below) H6.out).mono ?_; rintro r w1 ⟨rfl, hb1⟩; replace hB := hB.step hb1; have hc := hB.cell 0 rfl)
      | (go_at_call 98; with_reducible refine (must_calls' e.v lv _ _ _ (H.out.v.below hB.below) H7.out).mono ?_; rintro r w1 ⟨rfl, hb1⟩; replace hB := hB.step hb1; have hc := hB.cell 0 rfl)
      | (go_at_call 80; with_reducible refine (Cmd.right_calls _ 1 1 [e.c] _ _ rfl (cmdRow e.c H.out.c _) _ H2.out).mono ?_; rintro r w1 ⟨rfl, hb1⟩; replace hB := hB.step (((Below.refl _ _).alloc (Nat.le_refl _) _).trans (hb1.out.mono (by simp))); have hc := hB.cell 0 rfl))
        go_ret
        exact ⟨by rw [HE.out]; first | rfl | simp, by first | exact hB.below | (rw [← hg]; exact hB.below)⟩
      · cases d
        · obtain rfl : tm = false := by rw [HT.out]; simp
          go_enter Try.func50, Try.ntmps50
          go_wp2_with (first
      | (go_at_call 96; with_reducible refine (valid_calls e.lo _ _ H.out.lo HV1.out).mono ?_; rintro r w1 ⟨rfl, rfl⟩)
      | (go_at_call 96; with_reducible refine (valid_calls e.hi _ _ H.out.hi HV2.out).mono ?_; rintro r w1 ⟨rfl, rfl⟩)
      | (go_at_call 97; with_reducible refine (ballot_calls e.pr _).mono ?_; rintro r w1 ⟨rfl, rfl⟩; rw [H3.out])
      | (go_at_call 97; with_reducible refine (ballot_calls e.ab _).mono ?_; rintro r w1 ⟨rfl, rfl⟩; rw [H4.out])
      | (go_at_call 98; with_reducible refine (must_calls' e.f lf _ _ _ (H.out.f.below hB.below) H5.out).mono ?_; rintro r w1 ⟨rfl, hb1⟩; replace hB := hB.step hb1; have hc := hB.cell 0 rfl)
      | (go_at_call 98; with_reducible refine (must_calls' e.a la _ _ _ (H.out.a.below hB.below) H6.out).mono ?_; rintro r w1 ⟨rfl, hb1⟩; replace hB := hB.step hb1; have hc := hB.cell 0 rfl)
      | (go_at_call 98; with_reducible refine (must_calls' e.v lv _ _ _ (H.out.v.below hB.below) H7.out).mono ?_; rintro r w1 ⟨rfl, hb1⟩; replace hB := hB.step hb1; have hc := hB.cell 0 rfl)
      | (go_at_call 80; with_reducible refine (Cmd.right_calls _ 1 1 [e.c] _ _ rfl (cmdRow e.c H.out.c _) _ H2.out).mono ?_; rintro r w1 ⟨rfl, hb1⟩; replace hB := hB.step (((Below.refl _ _).alloc (Nat.le_refl _) _).trans (hb1.out.mono (by simp))); have hc := hB.cell 0 rfl))
          go_ret
          exact ⟨by rw [HE.out]; first | rfl | simp, by first | exact hB.below | (rw [← hg]; exact hB.below)⟩
        · obtain rfl : tm = true := by rw [HT.out]; simp
          cases b2
          · go_enter Try.func50, Try.ntmps50
            go_wp2_with (first
      | (go_at_call 96; with_reducible refine (valid_calls e.lo _ _ H.out.lo HV1.out).mono ?_; rintro r w1 ⟨rfl, rfl⟩)
      | (go_at_call 96; with_reducible refine (valid_calls e.hi _ _ H.out.hi HV2.out).mono ?_; rintro r w1 ⟨rfl, rfl⟩)
      | (go_at_call 97; with_reducible refine (ballot_calls e.pr _).mono ?_; rintro r w1 ⟨rfl, rfl⟩; rw [H3.out])
      | (go_at_call 97; with_reducible refine (ballot_calls e.ab _).mono ?_; rintro r w1 ⟨rfl, rfl⟩; rw [H4.out])
      | (go_at_call 98; with_reducible refine (must_calls' e.f lf _ _ _ (H.out.f.below hB.below) H5.out).mono ?_; rintro r w1 ⟨rfl, hb1⟩; replace hB := hB.step hb1; have hc := hB.cell 0 rfl)
      | (go_at_call 98; with_reducible refine (must_calls' e.a la _ _ _ (H.out.a.below hB.below) H6.out).mono ?_; rintro r w1 ⟨rfl, hb1⟩; replace hB := hB.step hb1; have hc := hB.cell 0 rfl)
      | (go_at_call 98; with_reducible refine (must_calls' e.v lv _ _ _ (H.out.v.below hB.below) H7.out).mono ?_; rintro r w1 ⟨rfl, hb1⟩; replace hB := hB.step hb1; have hc := hB.cell 0 rfl)
      | (go_at_call 80; with_reducible refine (Cmd.right_calls _ 1 1 [e.c] _ _ rfl (cmdRow e.c H.out.c _) _ H2.out).mono ?_; rintro r w1 ⟨rfl, hb1⟩; replace hB := hB.step (((Below.refl _ _).alloc (Nat.le_refl _) _).trans (hb1.out.mono (by simp))); have hc := hB.cell 0 rfl))
            go_ret
            exact ⟨by rw [HE.out]; first | rfl | simp, by first | exact hB.below | (rw [← hg]; exact hB.below)⟩
          ·
            cases b3
            · go_enter Try.func50, Try.ntmps50
              go_wp2_with (first
      | (go_at_call 96; with_reducible refine (valid_calls e.lo _ _ H.out.lo HV1.out).mono ?_; rintro r w1 ⟨rfl, rfl⟩)
      | (go_at_call 96; with_reducible refine (valid_calls e.hi _ _ H.out.hi HV2.out).mono ?_; rintro r w1 ⟨rfl, rfl⟩)
      | (go_at_call 97; with_reducible refine (ballot_calls e.pr _).mono ?_; rintro r w1 ⟨rfl, rfl⟩; rw [H3.out])
      | (go_at_call 97; with_reducible refine (ballot_calls e.ab _).mono ?_; rintro r w1 ⟨rfl, rfl⟩; rw [H4.out])
      | (go_at_call 98; with_reducible refine (must_calls' e.f lf _ _ _ (H.out.f.below hB.below) H5.out).mono ?_; rintro r w1 ⟨rfl, hb1⟩; replace hB := hB.step hb1; have hc := hB.cell 0 rfl)
      | (go_at_call 98; with_reducible refine (must_calls' e.a la _ _ _ (H.out.a.below hB.below) H6.out).mono ?_; rintro r w1 ⟨rfl, hb1⟩; replace hB := hB.step hb1; have hc := hB.cell 0 rfl)
      | (go_at_call 98; with_reducible refine (must_calls' e.v lv _ _ _ (H.out.v.below hB.below) H7.out).mono ?_; rintro r w1 ⟨rfl, hb1⟩; replace hB := hB.step hb1; have hc := hB.cell 0 rfl)
      | (go_at_call 80; with_reducible refine (Cmd.right_calls _ 1 1 [e.c] _ _ rfl (cmdRow e.c H.out.c _) _ H2.out).mono ?_; rintro r w1 ⟨rfl, hb1⟩; replace hB := hB.step (((Below.refl _ _).alloc (Nat.le_refl _) _).trans (hb1.out.mono (by simp))); have hc := hB.cell 0 rfl))
              go_ret
              exact ⟨by rw [HE.out]; first | rfl | simp, by first | exact hB.below | (rw [← hg]; exact hB.below)⟩
            ·
              cases b4
              · go_enter Try.func50, Try.ntmps50
                go_wp2_with (first
      | (go_at_call 96; with_reducible refine (valid_calls e.lo _ _ H.out.lo HV1.out).mono ?_; rintro r w1 ⟨rfl, rfl⟩)
      | (go_at_call 96; with_reducible refine (valid_calls e.hi _ _ H.out.hi HV2.out).mono ?_; rintro r w1 ⟨rfl, rfl⟩)
      | (go_at_call 97; with_reducible refine (ballot_calls e.pr _).mono ?_; rintro r w1 ⟨rfl, rfl⟩; rw [H3.out])
      | (go_at_call 97; with_reducible refine (ballot_calls e.ab _).mono ?_; rintro r w1 ⟨rfl, rfl⟩; rw [H4.out])
      | (go_at_call 98; with_reducible refine (must_calls' e.f lf _ _ _ (H.out.f.below hB.below) H5.out).mono ?_; rintro r w1 ⟨rfl, hb1⟩; replace hB := hB.step hb1; have hc := hB.cell 0 rfl)
      | (go_at_call 98; with_reducible refine (must_calls' e.a la _ _ _ (H.out.a.below hB.below) H6.out).mono ?_; rintro r w1 ⟨rfl, hb1⟩; replace hB := hB.step hb1; have hc := hB.cell 0 rfl)
      | (go_at_call 98; with_reducible refine (must_calls' e.v lv _ _ _ (H.out.v.below hB.below) H7.out).mono ?_; rintro r w1 ⟨rfl, hb1⟩; replace hB := hB.step hb1; have hc := hB.cell 0 rfl)
      | (go_at_call 80; with_reducible refine (Cmd.right_calls _ 1 1 [e.c] _ _ rfl (cmdRow e.c H.out.c _) _ H2.out).mono ?_; rintro r w1 ⟨rfl, hb1⟩; replace hB := hB.step (((Below.refl _ _).alloc (Nat.le_refl _) _).trans (hb1.out.mono (by simp))); have hc := hB.cell 0 rfl))
                go_ret
                exact ⟨by rw [HE.out]; first | rfl | simp, by first | exact hB.below | (rw [← hg]; exact hB.below)⟩
              ·
                cases b5
                · go_enter Try.func50, Try.ntmps50
                  go_wp2_with (first
      | (go_at_call 96; with_reducible refine (valid_calls e.lo _ _ H.out.lo HV1.out).mono ?_; rintro r w1 ⟨rfl, rfl⟩)
      | (go_at_call 96; with_reducible refine (valid_calls e.hi _ _ H.out.hi HV2.out).mono ?_; rintro r w1 ⟨rfl, rfl⟩)
      | (go_at_call 97; with_reducible refine (ballot_calls e.pr _).mono ?_; rintro r w1 ⟨rfl, rfl⟩; rw [H3.out])
      | (go_at_call 97; with_reducible refine (ballot_calls e.ab _).mono ?_; rintro r w1 ⟨rfl, rfl⟩; rw [H4.out])
      | (go_at_call 98; with_reducible refine (must_calls' e.f lf _ _ _ (H.out.f.below hB.below) H5.out).mono ?_; rintro r w1 ⟨rfl, hb1⟩; replace hB := hB.step hb1; have hc := hB.cell 0 rfl)
      | (go_at_call 98; with_reducible refine (must_calls' e.a la _ _ _ (H.out.a.below hB.below) H6.out).mono ?_; rintro r w1 ⟨rfl, hb1⟩; replace hB := hB.step hb1; have hc := hB.cell 0 rfl)
      | (go_at_call 98; with_reducible refine (must_calls' e.v lv _ _ _ (H.out.v.below hB.below) H7.out).mono ?_; rintro r w1 ⟨rfl, hb1⟩; replace hB := hB.step hb1; have hc := hB.cell 0 rfl)
      | (go_at_call 80; with_reducible refine (Cmd.right_calls _ 1 1 [e.c] _ _ rfl (cmdRow e.c H.out.c _) _ H2.out).mono ?_; rintro r w1 ⟨rfl, hb1⟩; replace hB := hB.step (((Below.refl _ _).alloc (Nat.le_refl _) _).trans (hb1.out.mono (by simp))); have hc := hB.cell 0 rfl))
                  go_ret
                  exact ⟨by rw [HE.out]; first | rfl | simp, by first | exact hB.below | (rw [← hg]; exact hB.below)⟩
                ·
                  cases b6
                  · go_enter Try.func50, Try.ntmps50
                    go_wp2_with (first
      | (go_at_call 96; with_reducible refine (valid_calls e.lo _ _ H.out.lo HV1.out).mono ?_; rintro r w1 ⟨rfl, rfl⟩)
      | (go_at_call 96; with_reducible refine (valid_calls e.hi _ _ H.out.hi HV2.out).mono ?_; rintro r w1 ⟨rfl, rfl⟩)
      | (go_at_call 97; with_reducible refine (ballot_calls e.pr _).mono ?_; rintro r w1 ⟨rfl, rfl⟩; rw [H3.out])
      | (go_at_call 97; with_reducible refine (ballot_calls e.ab _).mono ?_; rintro r w1 ⟨rfl, rfl⟩; rw [H4.out])
      | (go_at_call 98; with_reducible refine (must_calls' e.f lf _ _ _ (H.out.f.below hB.below) H5.out).mono ?_; rintro r w1 ⟨rfl, hb1⟩; replace hB := hB.step hb1; have hc := hB.cell 0 rfl)
      | (go_at_call 98; with_reducible refine (must_calls' e.a la _ _ _ (H.out.a.below hB.below) H6.out).mono ?_; rintro r w1 ⟨rfl, hb1⟩; replace hB := hB.step hb1; have hc := hB.cell 0 rfl)
      | (go_at_call 98; with_reducible refine (must_calls' e.v lv _ _ _ (H.out.v.below hB.below) H7.out).mono ?_; rintro r w1 ⟨rfl, hb1⟩; replace hB := hB.step hb1; have hc := hB.cell 0 rfl)
      | (go_at_call 80; with_reducible refine (Cmd.right_calls _ 1 1 [e.c] _ _ rfl (cmdRow e.c H.out.c _) _ H2.out).mono ?_; rintro r w1 ⟨rfl, hb1⟩; replace hB := hB.step (((Below.refl _ _).alloc (Nat.le_refl _) _).trans (hb1.out.mono (by simp))); have hc := hB.cell 0 rfl))
                    go_ret
                    exact ⟨by rw [HE.out]; first | rfl | simp, by first | exact hB.below | (rw [← hg]; exact hB.below)⟩
                  ·
                    go_enter Try.func50, Try.ntmps50
                    go_wp2_with (first
      | (go_at_call 96; with_reducible refine (valid_calls e.lo _ _ H.out.lo HV1.out).mono ?_; rintro r w1 ⟨rfl, rfl⟩)
      | (go_at_call 96; with_reducible refine (valid_calls e.hi _ _ H.out.hi HV2.out).mono ?_; rintro r w1 ⟨rfl, rfl⟩)
      | (go_at_call 97; with_reducible refine (ballot_calls e.pr _).mono ?_; rintro r w1 ⟨rfl, rfl⟩; rw [H3.out])
      | (go_at_call 97; with_reducible refine (ballot_calls e.ab _).mono ?_; rintro r w1 ⟨rfl, rfl⟩; rw [H4.out])
      | (go_at_call 98; with_reducible refine (must_calls' e.f lf _ _ _ (H.out.f.below hB.below) H5.out).mono ?_; rintro r w1 ⟨rfl, hb1⟩; replace hB := hB.step hb1; have hc := hB.cell 0 rfl)
      | (go_at_call 98; with_reducible refine (must_calls' e.a la _ _ _ (H.out.a.below hB.below) H6.out).mono ?_; rintro r w1 ⟨rfl, hb1⟩; replace hB := hB.step hb1; have hc := hB.cell 0 rfl)
      | (go_at_call 98; with_reducible refine (must_calls' e.v lv _ _ _ (H.out.v.below hB.below) H7.out).mono ?_; rintro r w1 ⟨rfl, hb1⟩; replace hB := hB.step hb1; have hc := hB.cell 0 rfl)
      | (go_at_call 80; with_reducible refine (Cmd.right_calls _ 1 1 [e.c] _ _ rfl (cmdRow e.c H.out.c _) _ H2.out).mono ?_; rintro r w1 ⟨rfl, hb1⟩; replace hB := hB.step (((Below.refl _ _).alloc (Nat.le_refl _) _).trans (hb1.out.mono (by simp))); have hc := hB.cell 0 rfl))
                    go_ret
                    exact ⟨by rw [HE.out]; first | rfl | simp, by first | exact hB.below | (rw [← hg]; exact hB.below)⟩
  · obtain rfl : v1 = false := HZ1.out rfl
    cases z2
    · obtain rfl : tm = false := by rw [HT.out]; simp
      go_enter Try.func50, Try.ntmps50
      go_wp2_with (first
      | (go_at_call 96; with_reducible refine (valid_calls e.lo _ _ H.out.lo HV1.out).mono ?_; rintro r w1 ⟨rfl, rfl⟩)
      | (go_at_call 96; with_reducible refine (valid_calls e.hi _ _ H.out.hi HV2.out).mono ?_; rintro r w1 ⟨rfl, rfl⟩)
      | (go_at_call 97; with_reducible refine (ballot_calls e.pr _).mono ?_; rintro r w1 ⟨rfl, rfl⟩; rw [H3.out])
      | (go_at_call 97; with_reducible refine (ballot_calls e.ab _).mono ?_; rintro r w1 ⟨rfl, rfl⟩; rw [H4.out])
      | (go_at_call 98; with_reducible refine (must_calls' e.f lf _ _ _ (H.out.f.below hB.below) H5.out).mono ?_; rintro r w1 ⟨rfl, hb1⟩; replace hB := hB.step hb1; have hc := hB.cell 0 rfl)
      | (go_at_call 98; with_reducible refine (must_calls' e.a la _ _ _ (H.out.a.below hB.below) H6.out).mono ?_; rintro r w1 ⟨rfl, hb1⟩; replace hB := hB.step hb1; have hc := hB.cell 0 rfl)
      | (go_at_call 98; with_reducible refine (must_calls' e.v lv _ _ _ (H.out.v.below hB.below) H7.out).mono ?_; rintro r w1 ⟨rfl, hb1⟩; replace hB := hB.step hb1; have hc := hB.cell 0 rfl)
      | (go_at_call 80; with_reducible refine (Cmd.right_calls _ 1 1 [e.c] _ _ rfl (cmdRow e.c H.out.c _) _ H2.out).mono ?_; rintro r w1 ⟨rfl, hb1⟩; replace hB := hB.step (((Below.refl _ _).alloc (Nat.le_refl _) _).trans (hb1.out.mono (by simp))); have hc := hB.cell 0 rfl))
      go_ret
      exact ⟨by rw [HE.out]; first | rfl | simp, by first | exact hB.below | (rw [← hg]; exact hB.below)⟩
    · obtain rfl : tm = true := by rw [HT.out]; simp
      cases b2
      · go_enter Try.func50, Try.ntmps50
        go_wp2_with (first
      | (go_at_call 96; with_reducible refine (valid_calls e.lo _ _ H.out.lo HV1.out).mono ?_; rintro r w1 ⟨rfl, rfl⟩)
      | (go_at_call 96; with_reducible refine (valid_calls e.hi _ _ H.out.hi HV2.out).mono ?_; rintro r w1 ⟨rfl, rfl⟩)
      | (go_at_call 97; with_reducible refine (ballot_calls e.pr _).mono ?_; rintro r w1 ⟨rfl, rfl⟩; rw [H3.out])
      | (go_at_call 97; with_reducible refine (ballot_calls e.ab _).mono ?_; rintro r w1 ⟨rfl, rfl⟩; rw [H4.out])
      | (go_at_call 98; with_reducible refine (must_calls' e.f lf _ _ _ (H.out.f.below hB.below) H5.out).mono ?_; rintro r w1 ⟨rfl, hb1⟩; replace hB := hB.step hb1; have hc := hB.cell 0 rfl)
      | (go_at_call 98; with_reducible refine (must_calls' e.a la _ _ _ (H.out.a.below hB.below) H6.out).mono ?_; rintro r w1 ⟨rfl, hb1⟩; replace hB := hB.step hb1; have hc := hB.cell 0 rfl)
      | (go_at_call 98; with_reducible refine (must_calls' e.v lv _ _ _ (H.out.v.below hB.below) H7.out).mono ?_; rintro r w1 ⟨rfl, hb1⟩; replace hB := hB.step hb1; have hc := hB.cell 0 rfl)
      | (go_at_call 80; with_reducible refine (Cmd.right_calls _ 1 1 [e.c] _ _ rfl (cmdRow e.c H.out.c _) _ H2.out).mono ?_; rintro r w1 ⟨rfl, hb1⟩; replace hB := hB.step (((Below.refl _ _).alloc (Nat.le_refl _) _).trans (hb1.out.mono (by simp))); have hc := hB.cell 0 rfl))
        go_ret
        exact ⟨by rw [HE.out]; first | rfl | simp, by first | exact hB.below | (rw [← hg]; exact hB.below)⟩
      ·
        cases b3
        · go_enter Try.func50, Try.ntmps50
          go_wp2_with (first
      | (go_at_call 96; with_reducible refine (valid_calls e.lo _ _ H.out.lo HV1.out).mono ?_; rintro r w1 ⟨rfl, rfl⟩)
      | (go_at_call 96; with_reducible refine (valid_calls e.hi _ _ H.out.hi HV2.out).mono ?_; rintro r w1 ⟨rfl, rfl⟩)
      | (go_at_call 97; with_reducible refine (ballot_calls e.pr _).mono ?_; rintro r w1 ⟨rfl, rfl⟩; rw [H3.out])
      | (go_at_call 97; with_reducible refine (ballot_calls e.ab _).mono ?_; rintro r w1 ⟨rfl, rfl⟩; rw [H4.out])
      | (go_at_call 98; with_reducible refine (must_calls' e.f lf _ _ _ (H.out.f.below hB.below) H5.out).mono ?_; rintro r w1 ⟨rfl, hb1⟩; replace hB := hB.step hb1; have hc := hB.cell 0 rfl)
      | (go_at_call 98; with_reducible refine (must_calls' e.a la _ _ _ (H.out.a.below hB.below) H6.out).mono ?_; rintro r w1 ⟨rfl, hb1⟩; replace hB := hB.step hb1; have hc := hB.cell 0 rfl)
      | (go_at_call 98; with_reducible refine (must_calls' e.v lv _ _ _ (H.out.v.below hB.below) H7.out).mono ?_; rintro r w1 ⟨rfl, hb1⟩; replace hB := hB.step hb1; have hc := hB.cell 0 rfl)
      | (go_at_call 80; with_reducible refine (Cmd.right_calls _ 1 1 [e.c] _ _ rfl (cmdRow e.c H.out.c _) _ H2.out).mono ?_; rintro r w1 ⟨rfl, hb1⟩; replace hB := hB.step (((Below.refl _ _).alloc (Nat.le_refl _) _).trans (hb1.out.mono (by simp))); have hc := hB.cell 0 rfl))
          go_ret
          exact ⟨by rw [HE.out]; first | rfl | simp, by first | exact hB.below | (rw [← hg]; exact hB.below)⟩
        ·
          cases b4
          · go_enter Try.func50, Try.ntmps50
            go_wp2_with (first
      | (go_at_call 96; with_reducible refine (valid_calls e.lo _ _ H.out.lo HV1.out).mono ?_; rintro r w1 ⟨rfl, rfl⟩)
      | (go_at_call 96; with_reducible refine (valid_calls e.hi _ _ H.out.hi HV2.out).mono ?_; rintro r w1 ⟨rfl, rfl⟩)
      | (go_at_call 97; with_reducible refine (ballot_calls e.pr _).mono ?_; rintro r w1 ⟨rfl, rfl⟩; rw [H3.out])
      | (go_at_call 97; with_reducible refine (ballot_calls e.ab _).mono ?_; rintro r w1 ⟨rfl, rfl⟩; rw [H4.out])
      | (go_at_call 98; with_reducible refine (must_calls' e.f lf _ _ _ (H.out.f.below hB.below) H5.out).mono ?_; rintro r w1 ⟨rfl, hb1⟩; replace hB := hB.step hb1; have hc := hB.cell 0 rfl)
      | (go_at_call 98; with_reducible refine (must_calls' e.a la _ _ _ (H.out.a.below hB.below) H6.out).mono ?_; rintro r w1 ⟨rfl, hb1⟩; replace hB := hB.step hb1; have hc := hB.cell 0 rfl)
      | (go_at_call 98; with_reducible refine (must_calls' e.v lv _ _ _ (H.out.v.below hB.below) H7.out).mono ?_; rintro r w1 ⟨rfl, hb1⟩; replace hB := hB.step hb1; have hc := hB.cell 0 rfl)
      | (go_at_call 80; with_reducible refine (Cmd.right_calls _ 1 1 [e.c] _ _ rfl (cmdRow e.c H.out.c _) _ H2.out).mono ?_; rintro r w1 ⟨rfl, hb1⟩; replace hB := hB.step (((Below.refl _ _).alloc (Nat.le_refl _) _).trans (hb1.out.mono (by simp))); have hc := hB.cell 0 rfl))
            go_ret
            exact ⟨by rw [HE.out]; first | rfl | simp, by first | exact hB.below | (rw [← hg]; exact hB.below)⟩
          ·
            cases b5
            · go_enter Try.func50, Try.ntmps50
              go_wp2_with (first
      | (go_at_call 96; with_reducible refine (valid_calls e.lo _ _ H.out.lo HV1.out).mono ?_; rintro r w1 ⟨rfl, rfl⟩)
      | (go_at_call 96; with_reducible refine (valid_calls e.hi _ _ H.out.hi HV2.out).mono ?_; rintro r w1 ⟨rfl, rfl⟩)
      | (go_at_call 97; with_reducible refine (ballot_calls e.pr _).mono ?_; rintro r w1 ⟨rfl, rfl⟩; rw [H3.out])
      | (go_at_call 97; with_reducible refine (ballot_calls e.ab _).mono ?_; rintro r w1 ⟨rfl, rfl⟩; rw [H4.out])
      | (go_at_call 98; with_reducible refine (must_calls' e.f lf _ _ _ (H.out.f.below hB.below) H5.out).mono ?_; rintro r w1 ⟨rfl, hb1⟩; replace hB := hB.step hb1; have hc := hB.cell 0 rfl)
      | (go_at_call 98; with_reducible refine (must_calls' e.a la _ _ _ (H.out.a.below hB.below) H6.out).mono ?_; rintro r w1 ⟨rfl, hb1⟩; replace hB := hB.step hb1; have hc := hB.cell 0 rfl)
      | (go_at_call 98; with_reducible refine (must_calls' e.v lv _ _ _ (H.out.v.below hB.below) H7.out).mono ?_; rintro r w1 ⟨rfl, hb1⟩; replace hB := hB.step hb1; have hc := hB.cell 0 rfl)
      | (go_at_call 80; with_reducible refine (Cmd.right_calls _ 1 1 [e.c] _ _ rfl (cmdRow e.c H.out.c _) _ H2.out).mono ?_; rintro r w1 ⟨rfl, hb1⟩; replace hB := hB.step (((Below.refl _ _).alloc (Nat.le_refl _) _).trans (hb1.out.mono (by simp))); have hc := hB.cell 0 rfl))
              go_ret
              exact ⟨by rw [HE.out]; first | rfl | simp, by first | exact hB.below | (rw [← hg]; exact hB.below)⟩
            ·
              cases b6
              · go_enter Try.func50, Try.ntmps50
                go_wp2_with (first
      | (go_at_call 96; with_reducible refine (valid_calls e.lo _ _ H.out.lo HV1.out).mono ?_; rintro r w1 ⟨rfl, rfl⟩)
      | (go_at_call 96; with_reducible refine (valid_calls e.hi _ _ H.out.hi HV2.out).mono ?_; rintro r w1 ⟨rfl, rfl⟩)
      | (go_at_call 97; with_reducible refine (ballot_calls e.pr _).mono ?_; rintro r w1 ⟨rfl, rfl⟩; rw [H3.out])
      | (go_at_call 97; with_reducible refine (ballot_calls e.ab _).mono ?_; rintro r w1 ⟨rfl, rfl⟩; rw [H4.out])
      | (go_at_call 98; with_reducible refine (must_calls' e.f lf _ _ _ (H.out.f.below hB.below) H5.out).mono ?_; rintro r w1 ⟨rfl, hb1⟩; replace hB := hB.step hb1; have hc := hB.cell 0 rfl)
      | (go_at_call 98; with_reducible refine (must_calls' e.a la _ _ _ (H.out.a.below hB.below) H6.out).mono ?_; rintro r w1 ⟨rfl, hb1⟩; replace hB := hB.step hb1; have hc := hB.cell 0 rfl)
      | (go_at_call 98; with_reducible refine (must_calls' e.v lv _ _ _ (H.out.v.below hB.below) H7.out).mono ?_; rintro r w1 ⟨rfl, hb1⟩; replace hB := hB.step hb1; have hc := hB.cell 0 rfl)
      | (go_at_call 80; with_reducible refine (Cmd.right_calls _ 1 1 [e.c] _ _ rfl (cmdRow e.c H.out.c _) _ H2.out).mono ?_; rintro r w1 ⟨rfl, hb1⟩; replace hB := hB.step (((Below.refl _ _).alloc (Nat.le_refl _) _).trans (hb1.out.mono (by simp))); have hc := hB.cell 0 rfl))
                go_ret
                exact ⟨by rw [HE.out]; first | rfl | simp, by first | exact hB.below | (rw [← hg]; exact hB.below)⟩
              ·
                go_enter Try.func50, Try.ntmps50
                go_wp2_with (first
      | (go_at_call 96; with_reducible refine (valid_calls e.lo _ _ H.out.lo HV1.out).mono ?_; rintro r w1 ⟨rfl, rfl⟩)
      | (go_at_call 96; with_reducible refine (valid_calls e.hi _ _ H.out.hi HV2.out).mono ?_; rintro r w1 ⟨rfl, rfl⟩)
      | (go_at_call 97; with_reducible refine (ballot_calls e.pr _).mono ?_; rintro r w1 ⟨rfl, rfl⟩; rw [H3.out])
      | (go_at_call 97; with_reducible refine (ballot_calls e.ab _).mono ?_; rintro r w1 ⟨rfl, rfl⟩; rw [H4.out])
      | (go_at_call 98; with_reducible refine (must_calls' e.f lf _ _ _ (H.out.f.below hB.below) H5.out).mono ?_; rintro r w1 ⟨rfl, hb1⟩; replace hB := hB.step hb1; have hc := hB.cell 0 rfl)
      | (go_at_call 98; with_reducible refine (must_calls' e.a la _ _ _ (H.out.a.below hB.below) H6.out).mono ?_; rintro r w1 ⟨rfl, hb1⟩; replace hB := hB.step hb1; have hc := hB.cell 0 rfl)
      | (go_at_call 98; with_reducible refine (must_calls' e.v lv _ _ _ (H.out.v.below hB.below) H7.out).mono ?_; rintro r w1 ⟨rfl, hb1⟩; replace hB := hB.step hb1; have hc := hB.cell 0 rfl)
      | (go_at_call 80; with_reducible refine (Cmd.right_calls _ 1 1 [e.c] _ _ rfl (cmdRow e.c H.out.c _) _ H2.out).mono ?_; rintro r w1 ⟨rfl, hb1⟩; replace hB := hB.step (((Below.refl _ _).alloc (Nat.le_refl _) _).trans (hb1.out.mono (by simp))); have hc := hB.cell 0 rfl))
                go_ret
                exact ⟨by rw [HE.out]; first | rfl | simp, by first | exact hB.below | (rw [← hg]; exact hB.below)⟩
set_option maxHeartbeats 8000000 in
set_option maxRecDepth 100000 in
theorem refSame_true (e m : ER) (lf la lv : List CmdD) (w : World) (hf : VAt w e.f lf) (hf' : VAt w m.f lf) (hA : VAt w e.a la) (hA' : VAt w m.a la) (hv : VAt w e.v lv) (hv' : VAt w m.v lv) (hc0 : e.c = m.c) (k1 : e.pr = m.pr) (k2 : e.lo = m.lo) (k3 : e.hi = m.hi) (k4 : e.ab = m.ab) (k5 : e.fr = m.fr) (k6 : e.dn = m.dn) (t1 : e.f.t = m.f.t) (t2 : e.a.t = m.a.t) (t3 : e.v.t = m.v.t) : Calls Try.prog 54 #[.agg e.cells, .agg m.cells] w fun r w' => r = .returned (.bool true) ∧ Below w.heap.size w w' := by
  have HF := Hold.mk (And.intro hf hf')
  have HA := Hold.mk (And.intro hA hA')
  have HV := Hold.mk (And.intro hv hv')
  have HT := Hold.mk (And.intro t1 (And.intro t2 t3))
  have HS1 : Hold (okSame e.f m.f lf lf = true) := ⟨decide_eq_true ⟨t1, rfl⟩⟩
  have HS2 : Hold (okSame e.a m.a la la = true) := ⟨decide_eq_true ⟨t2, rfl⟩⟩
  have HS3 : Hold (okSame e.v m.v lv lv = true) := ⟨decide_eq_true ⟨t3, rfl⟩⟩
  clear hf hf' hA hA' hv hv' t1 t2 t3 HT
  have ka := e.all
  have kb := m.all
  rw [← hc0, ← k1, ← k2, ← k3, ← k4, ← k5, ← k6] at kb
  clear hc0 k1 k2 k3 k4 k5 k6
  obtain ⟨g, hg⟩ : ∃ g, w.heap.size = g := ⟨_, rfl⟩
  obtain ⟨W, hW⟩ : ∃ W, (w.alloc (.cells e.cells 75)).alloc (.cells m.cells 75) = W := ⟨_, rfl⟩
  have hB := pair_new w e.cells m.cells 75 75
  rw [hW, hg] at hB
  have hc := hB.cell 0 rfl
  have hd := hB.cell 1 rfl
  go_enter Try.func54, Try.ntmps54
  go_wp2_with (first
    | (go_at_call 28; with_reducible refine (refSameVal_calls e.f m.f lf lf _ (HF.out.1.below hB.below) (HF.out.2.below hB.below) true HS1.out).mono ?_; rintro r w1 ⟨rfl, hb1⟩; replace hB := hB.step hb1; have hc := hB.cell 0 rfl; have hd := hB.cell 1 rfl)
    | (go_at_call 28; with_reducible refine (refSameVal_calls e.a m.a la la _ (HA.out.1.below hB.below) (HA.out.2.below hB.below) true HS2.out).mono ?_; rintro r w1 ⟨rfl, hb1⟩; replace hB := hB.step hb1; have hc := hB.cell 0 rfl; have hd := hB.cell 1 rfl)
    | (go_at_call 28; with_reducible refine (refSameVal_calls e.v m.v lv lv _ (HV.out.1.below hB.below) (HV.out.2.below hB.below) true HS3.out).mono ?_; rintro r w1 ⟨rfl, hb1⟩; replace hB := hB.step hb1; have hc := hB.cell 0 rfl; have hd := hB.cell 1 rfl)
    | (refine wpl_loadF isV (V := VR.cells e.f) rfl hB 0 rfl rfl rfl rfl ?_)
    | (refine wpl_loadF isV (V := VR.cells e.a) rfl hB 0 rfl rfl rfl rfl ?_)
    | (refine wpl_loadF isV (V := VR.cells e.v) rfl hB 0 rfl rfl rfl rfl ?_)
    | (refine wpl_loadF isV (V := VR.cells m.f) rfl hB 1 rfl rfl rfl rfl ?_)
    | (refine wpl_loadF isV (V := VR.cells m.a) rfl hB 1 rfl rfl rfl rfl ?_)
    | (refine wpl_loadF isV (V := VR.cells m.v) rfl hB 1 rfl rfl rfl rfl ?_))
  go_ret
  exact ⟨rfl, by first | exact hB.below | (rw [← hg]; exact hB.below)⟩
set_option maxHeartbeats 8000000 in
set_option maxRecDepth 100000 in
theorem same_true (e m : ER) (lf la lv : List CmdD) (w : World) (hf : VAt w e.f lf) (hf' : VAt w m.f lf) (hA : VAt w e.a la) (hA' : VAt w m.a la) (hv : VAt w e.v lv) (hv' : VAt w m.v lv) (hc0 : e.c = m.c) (k1 : e.pr = m.pr) (k2 : e.lo = m.lo) (k3 : e.hi = m.hi) (k4 : e.ab = m.ab) (k5 : e.fr = m.fr) (k6 : e.dn = m.dn) (t1 : e.f.t = m.f.t) (t2 : e.a.t = m.a.t) (t3 : e.v.t = m.v.t) : Calls Try.prog 58 #[.agg e.cells, .agg m.cells] w fun r w' => r = .returned (.bool true) ∧ Below w.heap.size w w' := by
  have key : ∀ w', Below w.heap.size w w' → Calls Try.prog 54 #[.agg e.cells, .agg m.cells] w' fun r w2 => r = .returned (.bool true) ∧ Below w'.heap.size w' w2 := fun w' hb => refSame_true e m lf la lv w' (hf.below hb) (hf'.below hb) (hA.below hb) (hA'.below hb) (hv.below hb) (hv'.below hb) hc0 k1 k2 k3 k4 k5 k6 t1 t2 t3
  have HK := Hold.mk key
  clear key hf hf' hA hA' hv hv' hc0 k1 k2 k3 k4 k5 k6 t1 t2 t3
  have ka := e.all
  have kb := m.all
  obtain ⟨g, hg⟩ : ∃ g, w.heap.size = g := ⟨_, rfl⟩
  obtain ⟨W, hW⟩ : ∃ W, (w.alloc (.cells e.cells 70)).alloc (.cells m.cells 75) = W := ⟨_, rfl⟩
  have hB := pair_new w e.cells m.cells 70 75
  rw [hW, hg] at hB
  have hc := hB.cell 0 rfl
  have hd := hB.cell 1 rfl
  go_enter Try.func58, Try.ntmps58
  go_wp2_with fail
  have hS := hB.drew
  refine rg_start (S := fun w' => Bs w w' [(g, 70, e.cells), (g + 1, 75, m.cells)]) 5 #[false, false, false, false, false] (by kernel_rfl) (by kernel_rfl) (by kernel_rfl) hS ?_
  refine rg_take 0 5 (.load 70 (.tmp 2)) (.agg e.cells) #[true, false, false, false, false] (by kernel_rfl) (by rfl) (by kernel_rfl) (by kernel_rfl) (by kernel_rfl) (fun _ _ _ h => h) (yl isE (by kernel_rfl) 0 (by rfl) (ER.size _) (by kernel_rfl)) hS ?_
  simp only [List.setIfInBounds_toArray, List.set_cons_zero, List.set_cons_succ]
  refine rg_take 2 7 (.load 75 (.tmp 3)) (.agg m.cells) #[true, false, true, false, false] (by kernel_rfl) (by rfl) (by kernel_rfl) (by kernel_rfl) (by kernel_rfl) (fun _ _ _ h => h) (yl isD (by kernel_rfl) 1 (by rfl) (ER.size _) (by kernel_rfl)) hS ?_
  simp only [List.setIfInBounds_toArray, List.set_cons_zero, List.set_cons_succ]
  refine rg_one 1 (some 6) (.call ⟨.value (.func 52), #[.tmp 5], _⟩) #[true, true, true, false, false] (by kernel_rfl) (by kernel_rfl) (by rfl) (by kernel_rfl) (fun K hK => ?_)
  go_wp2_with fail
  refine (of_calls e _).mono ?_
  rintro r w1 ⟨rfl, hb1⟩
  dsimp only
  replace hS := hS.step hb1
  refine hK.out _ _ hS ?_
  clear hK K
  refine rg_one 3 (some 8) (.call ⟨.value (.func 54), #[.tmp 6, .tmp 7], _⟩) #[true, true, true, true, false] (by kernel_rfl) (by kernel_rfl) (by rfl) (by kernel_rfl) (fun K hK => ?_)
  go_wp2_with fail
  refine (HK.out _ hS.below).mono ?_
  rintro r w2 ⟨rfl, hb2⟩
  dsimp only
  replace hS := hS.step hb2
  refine hK.out _ _ hS ?_
  clear hK K
  refine rg_one 4 (some 4) (.assign (.tmp 8)) #[true, true, true, true, true] (by kernel_rfl) (by kernel_rfl) (by rfl) (by kernel_rfl) (fun K hK => ?_)
  go_wp2_with fail
  refine hK.out _ _ hS ?_
  clear hK K
  refine wpAnyH_done (by kernel_rfl) ?_ _
  replace hB := hS
  go_wp2_with fail
  go_ret
  exact ⟨rfl, by first | exact hB.below | (rw [← hg]; exact hB.below)⟩
end Go.Proofs.Ytebhclgnpnlekaa.Ent
