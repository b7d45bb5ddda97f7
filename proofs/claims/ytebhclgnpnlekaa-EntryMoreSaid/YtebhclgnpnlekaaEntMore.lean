/- EntryMore: whatever is done with an entry that may be, it only grows: by its walk. No condition. -/
import Derived.Test.YtebhclgnpnlekaaEntLaw
import Derived.Test.YtebhclgnpnlekaaAgg2
namespace Go.Proofs.Ytebhclgnpnlekaa.Ent
open Go.RowKit Go.Proofs.Ytebhclgnpnlekaa.B Go.Proofs.Ytebhclgnpnlekaa.Cmd Go.Proofs.Ytebhclgnpnlekaa.Agg
open Go.Proofs.Ytebhclgnpnlekaa.Preds (okSet)
abbrev ValD := Int × List CmdD × Unit
abbrev valRep : Rep ValD := Rep.prod (Rep.int .i64) (Rep.prod (Rep.slice cmdRep) Rep.unit)
theorem opens_val : Rep.Opens Try.prog valRep 34 := by
  refine Rep.opens_struct Try.underlying34 (by kernel_rfl) ?_
  exact Rep.opensF_cons rfl (Rep.opens_int Try.underlying3 (by kernel_rfl)) (Rep.opensF_cons rfl (Rep.opens_slice Try.underlying23 (by kernel_rfl) (by decide) opens_cmd) (Rep.opensF_nil _))
/-- An entry: its command, what is promised, LOW, HIGH, the fast value, a ballot and its value, whether it is freed, and done, and its value. -/
abbrev EntD := CmdD × Int × Int × Int × ValD × Int × ValD × Bool × Bool × ValD × Unit
abbrev entRep : Rep EntD := Rep.prod cmdRep (Rep.prod (Rep.int .i64) (Rep.prod (Rep.int .i64) (Rep.prod (Rep.int .i64) (Rep.prod valRep (Rep.prod (Rep.int .i64) (Rep.prod valRep (Rep.prod Rep.bool (Rep.prod Rep.bool (Rep.prod valRep Rep.unit)))))))))
theorem opens_ent : Rep.Opens Try.prog entRep 70 := by
  have i3 := Rep.opens_int Try.underlying3 (by kernel_rfl)
  have ib := Rep.opens_bool Try.underlying4 (by kernel_rfl)
  refine Rep.opens_struct Try.underlying70 (by kernel_rfl) ?_
  exact Rep.opensF_cons rfl opens_cmd (Rep.opensF_cons rfl i3 (Rep.opensF_cons rfl i3 (Rep.opensF_cons rfl i3 (Rep.opensF_cons rfl opens_val (Rep.opensF_cons rfl i3 (Rep.opensF_cons rfl opens_val (Rep.opensF_cons rfl ib (Rep.opensF_cons rfl ib (Rep.opensF_cons rfl opens_val (Rep.opensF_nil _))))))))))
/-- An act: its kind, its ballot, its value. -/
abbrev ActD := Int × Int × ValD × Unit
abbrev actRep : Rep ActD := Rep.prod (Rep.int .u8) (Rep.prod (Rep.int .i64) (Rep.prod valRep Rep.unit))
theorem actRep_sz : actRep.sz = 4 := rfl
theorem opens_act : Rep.Opens Try.prog actRep 74 := by
  have i3 := Rep.opens_int Try.underlying3 (by kernel_rfl)
  refine Rep.opens_struct Try.underlying74 (by kernel_rfl) ?_
  exact Rep.opensF_cons rfl (Rep.opens_int Try.underlying5 (by kernel_rfl)) (Rep.opensF_cons rfl i3 (Rep.opensF_cons rfl opens_val (Rep.opensF_nil _)))
theorem row_act {I : Nat → Prop} {w : World} {A : Option Addr} {xs : List ActD} (h : Rep.Row actRep I w A xs) (i : Nat) (hi : i < xs.length) :
    ∃ ad p k b v lv, A = some ad ∧ ad.add (i * 4) = p ∧ p.block < w.heap.size ∧ (∀ j u, (actArr k b v)[j]? = some u → w.cell? (p.add j) = some u) ∧ w.cell? ⟨p.block, p.off + 3, none⟩ = some (.slice (VR.A v) v.n v.c) ∧ (Lit.int .u8 k).wf = true ∧ (Lit.int .i64 b).wf = true ∧ VAt w v lv := by
  obtain ⟨ad, cs, e, _, hlt, hk, hc⟩ := h.at i hi
  obtain ⟨x1, x2, rfl, ⟨rfl, hw⟩, x3, x4, rfl, ⟨rfl, hw2⟩, x5, x6, rfl, ⟨y1, y2, rfl, ⟨rfl, hw3⟩, y3, y4, rfl, ⟨A1, c1, rfl, hl, hn, hr⟩, rfl⟩, rfl⟩ := hk
  refine ⟨ad, _, _, _, ⟨xs[i].2.2.1.1, A1, xs[i].2.2.1.2.1.length, c1⟩, xs[i].2.2.1.2.1, e, rfl, by rw [Rep.add_block]; exact hlt, fun j u hu => ?_, ?_, hw, hw2, ⟨rfl, hr.move fun _ _ _ => ⟨trivial, rfl⟩, hw3⟩⟩
  · rw [Rep.add_add]
    exact hc j u (by simpa [actArr] using hu)
  · have := hc 3 _ rfl; rw [actRep_sz, add_fld _ _ _ (by decide)] at this; exact this
theorem ent_read {I : Nat → Prop} {w : World} {a : EntD} {cs : Array Value} (h : entRep.K I w a cs.toList) : ∃ e lf la lw, cs = ER.cells e ∧ EAt w e lf la lw := by
  obtain ⟨⟨i0, i1, i2, i3, i4, i5, i6⟩, pr, lo, hi, ⟨ft, lf, _⟩, ab, ⟨a_t, la, _⟩, fr, dn, ⟨vt, lw, _⟩, _⟩ := a
  obtain ⟨_, _, e1, ⟨rfl, hcw⟩, _, _, rfl, ⟨rfl, w1⟩, _, _, rfl, ⟨rfl, w2⟩, _, _, rfl, ⟨rfl, w3⟩, _, _, rfl, ⟨_, _, rfl, ⟨rfl, w4⟩, _, _, rfl, ⟨A1, c1, rfl, hl1, hn1, hr1⟩, rfl⟩, _, _, rfl, ⟨rfl, w5⟩, _, _, rfl, ⟨_, _, rfl, ⟨rfl, w6⟩, _, _, rfl, ⟨A2, c2, rfl, hl2, hn2, hr2⟩, rfl⟩, _, _, rfl, rfl, _, _, rfl, rfl, _, _, rfl, ⟨_, _, rfl, ⟨rfl, w7⟩, _, _, rfl, ⟨A3, c3, rfl, hl3, hn3, hr3⟩, rfl⟩, rfl⟩ := h
  refine ⟨⟨⟨i0, i1, i2, i3, i4, i5, i6⟩, pr, lo, hi, ⟨ft, A1, lf.length, c1⟩, ab, ⟨a_t, A2, la.length, c2⟩, fr, dn, ⟨vt, A3, lw.length, c3⟩⟩, lf, la, lw, ?_, hcw, w1, w2, w3, w5, ⟨rfl, hr1.move fun _ _ _ => ⟨trivial, rfl⟩, w4⟩, ⟨rfl, hr2.move fun _ _ _ => ⟨trivial, rfl⟩, w6⟩, ⟨rfl, hr3.move fun _ _ _ => ⟨trivial, rfl⟩, w7⟩⟩
  cases cs
  simpa [ER.cells, CmdD.cells] using e1
theorem isAct : IsStruct Try.prog 74 4 := ⟨by kernel_rfl, by kernel_rfl⟩
set_option maxHeartbeats 16000000 in
set_option maxRecDepth 100000 in
theorem more_law (cs0 : Array Value) (a0 : EntD) (A1 : Option Addr) (c1 : Nat) (l : List ActD) (w : World) (hk0 : entRep.K (fun _ => True) w a0 cs0.toList) (_h1 : l.length ≤ c1) (_n1 : A1 = none → c1 = 0) (r1 : Rep.Row actRep (fun _ => True) w A1 l) :
    Calls Try.prog 8 #[.agg cs0, .slice A1 l.length c1] w fun e w' => e = .returned (.bool true) ∧ Below w.heap.size w w' := by
  obtain ⟨e, lf, la, lw, rfl, hE⟩ := ent_read hk0
  have R1 := Hold.mk r1
  have m1 := r1.len_le
  have HE := Hold.mk hE
  clear r1 hE hk0
  obtain ⟨g, hg⟩ : ∃ g, w.heap.size = g := ⟨_, rfl⟩
  obtain ⟨W, hW⟩ : ∃ W, w.alloc (.cells e.cells 70) = W := ⟨_, rfl⟩
  have hB := one_new w e.cells 70
  rw [hW, hg] at hB
  obtain ⟨fi, hfi⟩ : ∃ b, (decide (e.f.n ≤ 80) && decide (e.a.n ≤ 80) && decide (e.v.n ≤ 80)) = b := ⟨_, rfl⟩
  have HFi := Hold.mk hfi
  obtain ⟨ok, hok⟩ : ∃ b, okE e lf la lw = b := ⟨_, rfl⟩
  have HOk := Hold.mk hok
  clear hfi hok
  obtain ⟨bg, hbg⟩ : ∃ b, decide (80 < (l.length : Int)) = b := ⟨_, rfl⟩
  cases fi
  · go_enter Try.func8, Try.ntmps8
    go_wp2_with (first
      | (go_at_call 49; with_reducible refine (fits_calls e _ _ HFi.out).mono ?_; rintro r w1 ⟨rfl, hb1⟩; replace hB := hB.step hb1)
      | (go_at_call 51; with_reducible refine (alive_calls _).mono ?_; rintro r w1 ⟨rfl, hb1⟩; replace hB := hB.step hb1)
      | (refine wpl_load isE rfl hB 0 rfl (ER.size _) rfl ?_))
    go_ret
    exact ⟨rfl, by first | exact hB.below | (rw [← hg]; exact hB.below)⟩
  · cases bg
    rotate_left
    · go_enter Try.func8, Try.ntmps8
      go_wp2_with (first
        | (go_at_call 49; with_reducible refine (fits_calls e _ _ HFi.out).mono ?_; rintro r w1 ⟨rfl, hb1⟩; replace hB := hB.step hb1)
        | (go_at_call 51; with_reducible refine (alive_calls _).mono ?_; rintro r w1 ⟨rfl, hb1⟩; replace hB := hB.step hb1)
        | (refine wpl_load isE rfl hB 0 rfl (ER.size _) rfl ?_))
      go_ret
      exact ⟨rfl, by first | exact hB.below | (rw [← hg]; exact hB.below)⟩
    · cases ok
      · go_enter Try.func8, Try.ntmps8
        go_wp2_with (first
          | (go_at_call 49; with_reducible refine (fits_calls e _ _ HFi.out).mono ?_; rintro r w1 ⟨rfl, hb1⟩; replace hB := hB.step hb1)
          | (go_at_call 50; with_reducible refine (right_calls e lf la lw _ _ (HE.out.below hB.below) HOk.out).mono ?_; rintro r w1 ⟨rfl, hb1⟩; replace hB := hB.step hb1)
          | (go_at_call 51; with_reducible refine (alive_calls _).mono ?_; rintro r w1 ⟨rfl, hb1⟩; replace hB := hB.step hb1)
          | (refine wpl_load isE rfl hB 0 rfl (ER.size _) rfl ?_))
        go_ret
        exact ⟨rfl, by first | exact hB.below | (rw [← hg]; exact hB.below)⟩
      · go_enter Try.func8, Try.ntmps8
        go_wp2_with (first
          | (go_at_call 49; with_reducible refine (fits_calls e _ _ HFi.out).mono ?_; rintro r w1 ⟨rfl, hb1⟩; replace hB := hB.step hb1)
          | (go_at_call 50; with_reducible refine (right_calls e lf la lw _ _ (HE.out.below hB.below) HOk.out).mono ?_; rintro r w1 ⟨rfl, hb1⟩; replace hB := hB.step hb1)
          | (refine wpl_load isE rfl hB 0 rfl (ER.size _) rfl ?_))
        obtain ⟨W1, hW1⟩ : ∃ W1, w1 = W1 := ⟨_, rfl⟩
        go_loopw [6] (fun s wr => ∃ i : Nat, i ≤ l.length ∧ s = .int .i64 (i : Int) ∧ Hold (∃ e lf la lw, Bs w wr [(g, 70, ER.cells e)] ∧ EAt w e lf la lw ∧ okE e lf la lw = true)) (fun s _ => l.length - (intOf s).toNat)
        case atStart => exact ⟨0, by omega, rfl, ⟨e, lf, la, lw, hB, HE.out, HOk.out⟩⟩
        case round =>
          clear hB HE HOk HFi
          obtain ⟨i, hi, rfl, HR⟩ := hrel
          obtain ⟨e, lf, la, lw, hB, hE, hok⟩ := HR.out
          have HE := Hold.mk hE
          have HOk := Hold.mk hok
          clear hE hok HR
          by_cases hlt : i < l.length
          · have l1 : (i : Int) < (l.length : Int) := by omega
            have l1n : i < l.length := hlt
            obtain ⟨ad, p, k, b, v, lv, rfl, hp, hpl, hcs, q3, hkw, hbw, hv⟩ := row_act R1.out i hlt
            rw [← below_cell hB.below (show (⟨p.block, p.off + 3, none⟩ : Addr).block < w.heap.size from hpl)] at q3
            have HCs := Hold.mk (And.intro hpl hcs)
            clear hcs hpl
            have HK := Hold.mk hkw
            have HBw := Hold.mk hbw
            have HV := Hold.mk hv
            clear hkw hbw hv
            obtain ⟨bg, hbg2⟩ : ∃ b, decide (80 < (v.n : Int)) = b := ⟨_, rfl⟩
            cases bg
            · go_wp2_with (first
                | (go_at_call 52; with_reducible refine (of_calls e _).mono ?_; rintro r w1 ⟨rfl, hb1⟩; replace hB := hB.step hb1)
                | (refine wpl_alloc zeroD hB rfl ?_; intro W2 g7 hB; simp only [List.cons_append, List.nil_append] at hB)
                | (refine wpl_store isD rfl rfl hB 1 rfl (ER.size _) (ER.size _) (ER.one _) rfl ?_; intro W2 hB; simp only [List.set] at hB)
                | (refine wpl_load isE rfl hB 0 rfl (ER.size _) rfl ?_))
              simp only [Act.put, List.setIfInBounds_toArray, List.set_cons_zero, List.set_cons_succ]
              obtain ⟨lf2, la2, lw2, hM⟩ := act_more HE.out HOk.out k b HBw.out HV.out
              obtain ⟨X, hX⟩ : ∃ X, (actS e k b v (okFull v lv) (okSame e.f v lf lv) (okSame e.v v lw lv)).1 = X := ⟨_, rfl⟩
              obtain ⟨er, her⟩ : ∃ X, (actS e k b v (okFull v lv) (okSame e.f v lf lv) (okSame e.v v lw lv)).2 = X := ⟨_, rfl⟩
              rw [hX] at hM
              have HMo := Hold.mk hM
              have HSt : Hold (∀ w', Below w.heap.size w w' → Calls Try.prog 53 #[.agg e.cells, .agg e.cells, .agg (actArr k b v)] w' fun r w2 => r = .returned (.tuple #[.agg X.cells, .agg X.cells, .bool true]) ∧ Below w'.heap.size w' w2) := ⟨fun w' hb => step_calls e lf la lw k b v lv _ _ _ w' (HE.out.below hb) (HV.out.below hb) HK.out rfl rfl rfl X er (by rw [← hX, ← her]) lf2 la2 lw2 (hM.at_.below hb)⟩
              clear hM hX her
              replace hB := hB.drew
              have hS : Bs w _ [(g, 70, e.cells), (g7, 75, e.cells)] := hB.sub (fun i => i) (fun i x h => by rcases i with _ | _ | i <;> first | exact h | (simp at h)) (fun i j _ _ h => h)
              apply share (L := fun W' g8 g9 => Bs w W' [(g, 70, e.cells), (g7, 75, e.cells), (g8, 70, X.cells), (g9, 75, X.cells)])
              case main =>
                intro HM
                refine rg_start (S := fun w' => Bs w w' [(g, 70, e.cells), (g7, 75, e.cells)]) 16 #[false, false, false, false, false, false, false, false, false, false, false, false, false, false, false, false] (by kernel_rfl) (by kernel_rfl) (by kernel_rfl) hS ?_
                refine rg_take 0 47 (.load 70 (.tmp 2)) (.agg e.cells) #[true, false, false, false, false, false, false, false, false, false, false, false, false, false, false, false] (by kernel_rfl) (by rfl) (by kernel_rfl) (by kernel_rfl) (by kernel_rfl) (fun _ _ _ h => h) (yl isE (by kernel_rfl) 0 (by rfl) (ER.size _) (by kernel_rfl)) hS ?_
                simp only [List.setIfInBounds_toArray, List.set_cons_zero, List.set_cons_succ]
                refine rg_take 1 48 (.load 75 (.tmp 7)) (.agg e.cells) #[true, true, false, false, false, false, false, false, false, false, false, false, false, false, false, false] (by kernel_rfl) (by rfl) (by kernel_rfl) (by kernel_rfl) (by kernel_rfl) (fun _ _ _ h => h) (yl isD (by kernel_rfl) 1 (by rfl) (ER.size _) (by kernel_rfl)) hS ?_
                simp only [List.setIfInBounds_toArray, List.set_cons_zero, List.set_cons_succ]
                refine rg_take 2 49 (.move (.tmp 1)) (.slice (some ad) l.length c1) #[true, true, true, false, false, false, false, false, false, false, false, false, false, false, false, false] (by kernel_rfl) (by rfl) (by kernel_rfl) (by kernel_rfl) (by kernel_rfl) (fun _ _ _ h => h) (.inl ⟨by kernel_rfl, fun _ _ => by kernel_rfl⟩) hS ?_
                simp only [List.setIfInBounds_toArray, List.set_cons_zero, List.set_cons_succ]
                refine rg_take 3 50 (.move (.tmp 6)) (.int .i64 (i : Int)) #[true, true, true, true, false, false, false, false, false, false, false, false, false, false, false, false] (by kernel_rfl) (by rfl) (by kernel_rfl) (by kernel_rfl) (by kernel_rfl) (fun _ _ _ h => h) (.inl ⟨by kernel_rfl, fun _ _ => by kernel_rfl⟩) hS ?_
                simp only [List.setIfInBounds_toArray, List.set_cons_zero, List.set_cons_succ]
                refine rg_take 4 51 (.indexAddr 71 (.tmp 49) (.tmp 50)) (.pointer (some p)) #[true, true, true, true, true, false, false, false, false, false, false, false, false, false, false, false] (by kernel_rfl) (by rfl) (by kernel_rfl) (by kernel_rfl) (by kernel_rfl) (fun _ _ _ h => h) (.inl ⟨by kernel_rfl, fun _ _ => by go_simp⟩) hS ?_
                simp only [List.setIfInBounds_toArray, List.set_cons_zero, List.set_cons_succ]
                refine rg_take 5 52 (.load 74 (.tmp 51)) (.agg (actArr k b v)) #[true, true, true, true, true, true, false, false, false, false, false, false, false, false, false, false] (by kernel_rfl) (by rfl) (by kernel_rfl) (by kernel_rfl) (by kernel_rfl) (fun _ _ _ h => h) (yl_old isAct (by kernel_rfl) rfl (fun w' hw' j u hu => by rw [below_cell hw'.below (by rw [Rep.add_block]; exact HCs.out.1)]; exact HCs.out.2 j u hu) (by kernel_rfl)) hS ?_
                simp only [List.setIfInBounds_toArray, List.set_cons_zero, List.set_cons_succ]
                refine wpAnyH_ready (rs := [6, 11, 12]) (by kernel_rfl) (by simp) ?_
                refine (rg_cons 6 (some 53) (.call ⟨.value (.func 53), #[.tmp 47, .tmp 48, .tmp 52], _⟩) #[true, true, true, true, true, true, true, false, false, false, false, false, false, false, false, false] (by kernel_rfl) (by rfl) (by kernel_rfl) (fun K hK => ?_) (rg_cons 11 (some 8) (.alloc 70) #[true, true, true, true, true, true, false, false, false, false, false, true, false, false, false, false] (by kernel_rfl) (by rfl) (by kernel_rfl) (fun K hK => ?_) (rg_cons 12 (some 9) (.alloc 75) #[true, true, true, true, true, true, false, false, false, false, false, false, true, false, false, false] (by kernel_rfl) (by rfl) (by kernel_rfl) (fun K hK => ?_) AllReadyH.nil)))
                · go_wp2_with fail
                  refine (HSt.out _ hB.below).mono ?_
                  rintro r w1 ⟨rfl, hb1⟩
                  dsimp only
                  replace hB := hB.step hb1
                  have hS : Bs w w1 [(g, 70, e.cells), (g7, 75, e.cells)] := hB.sub (fun i => i) (fun i x h => by rcases i with _ | _ | i <;> first | exact h | (simp at h)) (fun i j _ _ h => h)
                  refine hK.out _ _ hS ?_
                  clear hK K
                  refine rg_take 7 46 (.move (.tmp 53)) (.tuple #[.agg X.cells, .agg X.cells, .bool true]) #[true, true, true, true, true, true, true, true, false, false, false, false, false, false, false, false] (by kernel_rfl) (by rfl) (by kernel_rfl) (by kernel_rfl) (by kernel_rfl) (fun _ _ _ h => h) (.inl ⟨by kernel_rfl, fun _ _ => by kernel_rfl⟩) hS ?_
                  simp only [List.setIfInBounds_toArray, List.set_cons_zero, List.set_cons_succ]
                  refine rg_take 8 54 (.extract (.tmp 46) 0) (.agg X.cells) #[true, true, true, true, true, true, true, true, true, false, false, false, false, false, false, false] (by kernel_rfl) (by rfl) (by kernel_rfl) (by kernel_rfl) (by kernel_rfl) (fun _ _ _ h => h) (.inl ⟨by kernel_rfl, fun _ _ => by go_simp⟩) hS ?_
                  simp only [List.setIfInBounds_toArray, List.set_cons_zero, List.set_cons_succ]
                  refine rg_take 9 55 (.extract (.tmp 46) 1) (.agg X.cells) #[true, true, true, true, true, true, true, true, true, true, false, false, false, false, false, false] (by kernel_rfl) (by rfl) (by kernel_rfl) (by kernel_rfl) (by kernel_rfl) (fun _ _ _ h => h) (.inl ⟨by kernel_rfl, fun _ _ => by go_simp⟩) hS ?_
                  simp only [List.setIfInBounds_toArray, List.set_cons_zero, List.set_cons_succ]
                  refine rg_take 10 56 (.extract (.tmp 46) 2) (.bool true) #[true, true, true, true, true, true, true, true, true, true, true, false, false, false, false, false] (by kernel_rfl) (by rfl) (by kernel_rfl) (by kernel_rfl) (by kernel_rfl) (fun _ _ _ h => h) (.inl ⟨by kernel_rfl, fun _ _ => by go_simp⟩) hS ?_
                  simp only [List.setIfInBounds_toArray, List.set_cons_zero, List.set_cons_succ]
                  refine wpAnyH_ready (rs := [11, 12]) (by kernel_rfl) (by simp) ?_
                  refine (rg_cons 11 (some 8) (.alloc 70) #[true, true, true, true, true, true, true, true, true, true, true, true, false, false, false, false] (by kernel_rfl) (by rfl) (by kernel_rfl) (fun K hK => ?_) (rg_cons 12 (some 9) (.alloc 75) #[true, true, true, true, true, true, true, true, true, true, true, false, true, false, false, false] (by kernel_rfl) (by rfl) (by kernel_rfl) (fun K hK => ?_) AllReadyH.nil))
                  · refine wp_alloc zeroE hB (fun W3 g8 hB => ?_)
                    simp only [List.cons_append, List.nil_append] at hB
                    simp only [Act.put, List.setIfInBounds_toArray, List.set_cons_zero, List.set_cons_succ]
                    have hS : Bs w W3 [(g, 70, e.cells), (g7, 75, e.cells)] := hB.sub (fun i => i) (fun i x h => by rcases i with _ | _ | i <;> first | exact h | (simp at h)) (fun i j _ _ h => h)
                    refine hK.out _ _ hS ?_
                    clear hK K
                    refine wpAnyH_ready (rs := [12]) (by kernel_rfl) (by simp) ?_
                    refine (rg_cons 12 (some 9) (.alloc 75) #[true, true, true, true, true, true, true, true, true, true, true, true, true, false, false, false] (by kernel_rfl) (by rfl) (by kernel_rfl) (fun K hK => ?_) AllReadyH.nil)
                    refine wp_alloc zeroD hB (fun W3 g9 hB => ?_)
                    simp only [List.cons_append, List.nil_append] at hB
                    simp only [Act.put, List.setIfInBounds_toArray, List.set_cons_zero, List.set_cons_succ]
                    have hS : Bs w W3 [(g, 70, e.cells), (g7, 75, e.cells)] := hB.sub (fun i => i) (fun i x h => by rcases i with _ | _ | i <;> first | exact h | (simp at h)) (fun i j _ _ h => h)
                    refine hK.out _ _ hS ?_
                    clear hK K
                    refine rg_one 13 none (.store 70 (.tmp 8) (.tmp 54)) #[true, true, true, true, true, true, true, true, true, true, true, true, true, true, false, false] (by kernel_rfl) (by kernel_rfl) (by rfl) (by kernel_rfl) (fun K hK => ?_)
                    refine wp_store isE (b := g8) (C' := X.cells) (by kernel_rfl) (by kernel_rfl) hB 2 (by rfl) (ER.size _) (ER.size _) (ER.one _) (fun W3 hB => ?_)
                    simp only [List.set] at hB
                    simp only [Act.put, List.setIfInBounds_toArray, List.set_cons_zero, List.set_cons_succ]
                    have hS : Bs w W3 [(g, 70, e.cells), (g7, 75, e.cells)] := hB.sub (fun i => i) (fun i x h => by rcases i with _ | _ | i <;> first | exact h | (simp at h)) (fun i j _ _ h => h)
                    refine hK.out _ _ hS ?_
                    clear hK K
                    refine rg_one 14 none (.store 75 (.tmp 9) (.tmp 55)) #[true, true, true, true, true, true, true, true, true, true, true, true, true, true, true, false] (by kernel_rfl) (by kernel_rfl) (by rfl) (by kernel_rfl) (fun K hK => ?_)
                    refine wp_store isD (b := g9) (C' := X.cells) (by kernel_rfl) (by kernel_rfl) hB 3 (by rfl) (ER.size _) (ER.size _) (ER.one _) (fun W3 hB => ?_)
                    simp only [List.set] at hB
                    simp only [Act.put, List.setIfInBounds_toArray, List.set_cons_zero, List.set_cons_succ]
                    have hS : Bs w W3 [(g, 70, e.cells), (g7, 75, e.cells)] := hB.sub (fun i => i) (fun i x h => by rcases i with _ | _ | i <;> first | exact h | (simp at h)) (fun i j _ _ h => h)
                    refine hK.out _ _ hS ?_
                    clear hK K
                    refine rg_one 15 (some 10) (.assign (.tmp 56)) #[true, true, true, true, true, true, true, true, true, true, true, true, true, true, true, true] (by kernel_rfl) (by kernel_rfl) (by rfl) (by kernel_rfl) (fun K hK => ?_)
                    go_wp2_with fail
                    refine hK.out _ _ hS ?_
                    clear hK K
                    refine wpAnyH_done (by kernel_rfl) ?_ _
                    exact HM.out _ _ _ hB
                  · refine wp_alloc zeroD hB (fun W3 g9 hB => ?_)
                    simp only [List.cons_append, List.nil_append] at hB
                    simp only [Act.put, List.setIfInBounds_toArray, List.set_cons_zero, List.set_cons_succ]
                    have hS : Bs w W3 [(g, 70, e.cells), (g7, 75, e.cells)] := hB.sub (fun i => i) (fun i x h => by rcases i with _ | _ | i <;> first | exact h | (simp at h)) (fun i j _ _ h => h)
                    refine hK.out _ _ hS ?_
                    clear hK K
                    refine wpAnyH_ready (rs := [11]) (by kernel_rfl) (by simp) ?_
                    refine (rg_cons 11 (some 8) (.alloc 70) #[true, true, true, true, true, true, true, true, true, true, true, true, true, false, false, false] (by kernel_rfl) (by rfl) (by kernel_rfl) (fun K hK => ?_) AllReadyH.nil)
                    refine wp_alloc zeroE hB (fun W3 g8 hB => ?_)
                    simp only [List.cons_append, List.nil_append] at hB
                    simp only [Act.put, List.setIfInBounds_toArray, List.set_cons_zero, List.set_cons_succ]
                    have hS : Bs w W3 [(g, 70, e.cells), (g7, 75, e.cells)] := hB.sub (fun i => i) (fun i x h => by rcases i with _ | _ | i <;> first | exact h | (simp at h)) (fun i j _ _ h => h)
                    refine hK.out _ _ hS ?_
                    clear hK K
                    refine rg_one 13 none (.store 70 (.tmp 8) (.tmp 54)) #[true, true, true, true, true, true, true, true, true, true, true, true, true, true, false, false] (by kernel_rfl) (by kernel_rfl) (by rfl) (by kernel_rfl) (fun K hK => ?_)
                    refine wp_store isE (b := g8) (C' := X.cells) (by kernel_rfl) (by kernel_rfl) hB 3 (by rfl) (ER.size _) (ER.size _) (ER.one _) (fun W3 hB => ?_)
                    simp only [List.set] at hB
                    simp only [Act.put, List.setIfInBounds_toArray, List.set_cons_zero, List.set_cons_succ]
                    have hS : Bs w W3 [(g, 70, e.cells), (g7, 75, e.cells)] := hB.sub (fun i => i) (fun i x h => by rcases i with _ | _ | i <;> first | exact h | (simp at h)) (fun i j _ _ h => h)
                    refine hK.out _ _ hS ?_
                    clear hK K
                    refine rg_one 14 none (.store 75 (.tmp 9) (.tmp 55)) #[true, true, true, true, true, true, true, true, true, true, true, true, true, true, true, false] (by kernel_rfl) (by kernel_rfl) (by rfl) (by kernel_rfl) (fun K hK => ?_)
                    refine wp_store isD (b := g9) (C' := X.cells) (by kernel_rfl) (by kernel_rfl) hB 2 (by rfl) (ER.size _) (ER.size _) (ER.one _) (fun W3 hB => ?_)
                    simp only [List.set] at hB
                    simp only [Act.put, List.setIfInBounds_toArray, List.set_cons_zero, List.set_cons_succ]
                    have hS : Bs w W3 [(g, 70, e.cells), (g7, 75, e.cells)] := hB.sub (fun i => i) (fun i x h => by rcases i with _ | _ | i <;> first | exact h | (simp at h)) (fun i j _ _ h => h)
                    refine hK.out _ _ hS ?_
                    clear hK K
                    refine rg_one 15 (some 10) (.assign (.tmp 56)) #[true, true, true, true, true, true, true, true, true, true, true, true, true, true, true, true] (by kernel_rfl) (by kernel_rfl) (by rfl) (by kernel_rfl) (fun K hK => ?_)
                    go_wp2_with fail
                    refine hK.out _ _ hS ?_
                    clear hK K
                    refine wpAnyH_done (by kernel_rfl) ?_ _
                    exact HM.out _ _ _ (hB.sub (fun i => if i = 2 then 3 else if i = 3 then 2 else i) (fun i x h => by rcases i with _ | _ | _ | _ | i <;> first | exact h | (simp at h)) (fun i j hi hj h => (by decide : ∀ i, i < 4 → ∀ j, j < 4 → (if i = 2 then 3 else if i = 3 then 2 else i) = (if j = 2 then 3 else if j = 3 then 2 else j) → i = j) i hi j hj h))
                · refine wp_alloc zeroE hB (fun W3 g8 hB => ?_)
                  simp only [List.cons_append, List.nil_append] at hB
                  simp only [Act.put, List.setIfInBounds_toArray, List.set_cons_zero, List.set_cons_succ]
                  have hS : Bs w W3 [(g, 70, e.cells), (g7, 75, e.cells)] := hB.sub (fun i => i) (fun i x h => by rcases i with _ | _ | i <;> first | exact h | (simp at h)) (fun i j _ _ h => h)
                  refine hK.out _ _ hS ?_
                  clear hK K
                  refine wpAnyH_ready (rs := [6, 12]) (by kernel_rfl) (by simp) ?_
                  refine (rg_cons 6 (some 53) (.call ⟨.value (.func 53), #[.tmp 47, .tmp 48, .tmp 52], _⟩) #[true, true, true, true, true, true, true, false, false, false, false, true, false, false, false, false] (by kernel_rfl) (by rfl) (by kernel_rfl) (fun K hK => ?_) (rg_cons 12 (some 9) (.alloc 75) #[true, true, true, true, true, true, false, false, false, false, false, true, true, false, false, false] (by kernel_rfl) (by rfl) (by kernel_rfl) (fun K hK => ?_) AllReadyH.nil))
                  · go_wp2_with fail
                    refine (HSt.out _ hB.below).mono ?_
                    rintro r w1 ⟨rfl, hb1⟩
                    dsimp only
                    replace hB := hB.step hb1
                    have hS : Bs w w1 [(g, 70, e.cells), (g7, 75, e.cells)] := hB.sub (fun i => i) (fun i x h => by rcases i with _ | _ | i <;> first | exact h | (simp at h)) (fun i j _ _ h => h)
                    refine hK.out _ _ hS ?_
                    clear hK K
                    refine rg_take 7 46 (.move (.tmp 53)) (.tuple #[.agg X.cells, .agg X.cells, .bool true]) #[true, true, true, true, true, true, true, true, false, false, false, true, false, false, false, false] (by kernel_rfl) (by rfl) (by kernel_rfl) (by kernel_rfl) (by kernel_rfl) (fun _ _ _ h => h) (.inl ⟨by kernel_rfl, fun _ _ => by kernel_rfl⟩) hS ?_
                    simp only [List.setIfInBounds_toArray, List.set_cons_zero, List.set_cons_succ]
                    refine rg_take 8 54 (.extract (.tmp 46) 0) (.agg X.cells) #[true, true, true, true, true, true, true, true, true, false, false, true, false, false, false, false] (by kernel_rfl) (by rfl) (by kernel_rfl) (by kernel_rfl) (by kernel_rfl) (fun _ _ _ h => h) (.inl ⟨by kernel_rfl, fun _ _ => by go_simp⟩) hS ?_
                    simp only [List.setIfInBounds_toArray, List.set_cons_zero, List.set_cons_succ]
                    refine rg_take 9 55 (.extract (.tmp 46) 1) (.agg X.cells) #[true, true, true, true, true, true, true, true, true, true, false, true, false, false, false, false] (by kernel_rfl) (by rfl) (by kernel_rfl) (by kernel_rfl) (by kernel_rfl) (fun _ _ _ h => h) (.inl ⟨by kernel_rfl, fun _ _ => by go_simp⟩) hS ?_
                    simp only [List.setIfInBounds_toArray, List.set_cons_zero, List.set_cons_succ]
                    refine rg_take 10 56 (.extract (.tmp 46) 2) (.bool true) #[true, true, true, true, true, true, true, true, true, true, true, true, false, false, false, false] (by kernel_rfl) (by rfl) (by kernel_rfl) (by kernel_rfl) (by kernel_rfl) (fun _ _ _ h => h) (.inl ⟨by kernel_rfl, fun _ _ => by go_simp⟩) hS ?_
                    simp only [List.setIfInBounds_toArray, List.set_cons_zero, List.set_cons_succ]
                    refine wpAnyH_ready (rs := [12]) (by kernel_rfl) (by simp) ?_
                    refine (rg_cons 12 (some 9) (.alloc 75) #[true, true, true, true, true, true, true, true, true, true, true, true, true, false, false, false] (by kernel_rfl) (by rfl) (by kernel_rfl) (fun K hK => ?_) AllReadyH.nil)
                    refine wp_alloc zeroD hB (fun W3 g9 hB => ?_)
                    simp only [List.cons_append, List.nil_append] at hB
                    simp only [Act.put, List.setIfInBounds_toArray, List.set_cons_zero, List.set_cons_succ]
                    have hS : Bs w W3 [(g, 70, e.cells), (g7, 75, e.cells)] := hB.sub (fun i => i) (fun i x h => by rcases i with _ | _ | i <;> first | exact h | (simp at h)) (fun i j _ _ h => h)
                    refine hK.out _ _ hS ?_
                    clear hK K
                    refine rg_one 13 none (.store 70 (.tmp 8) (.tmp 54)) #[true, true, true, true, true, true, true, true, true, true, true, true, true, true, false, false] (by kernel_rfl) (by kernel_rfl) (by rfl) (by kernel_rfl) (fun K hK => ?_)
                    refine wp_store isE (b := g8) (C' := X.cells) (by kernel_rfl) (by kernel_rfl) hB 2 (by rfl) (ER.size _) (ER.size _) (ER.one _) (fun W3 hB => ?_)
                    simp only [List.set] at hB
                    simp only [Act.put, List.setIfInBounds_toArray, List.set_cons_zero, List.set_cons_succ]
                    have hS : Bs w W3 [(g, 70, e.cells), (g7, 75, e.cells)] := hB.sub (fun i => i) (fun i x h => by rcases i with _ | _ | i <;> first | exact h | (simp at h)) (fun i j _ _ h => h)
                    refine hK.out _ _ hS ?_
                    clear hK K
                    refine rg_one 14 none (.store 75 (.tmp 9) (.tmp 55)) #[true, true, true, true, true, true, true, true, true, true, true, true, true, true, true, false] (by kernel_rfl) (by kernel_rfl) (by rfl) (by kernel_rfl) (fun K hK => ?_)
                    refine wp_store isD (b := g9) (C' := X.cells) (by kernel_rfl) (by kernel_rfl) hB 3 (by rfl) (ER.size _) (ER.size _) (ER.one _) (fun W3 hB => ?_)
                    simp only [List.set] at hB
                    simp only [Act.put, List.setIfInBounds_toArray, List.set_cons_zero, List.set_cons_succ]
                    have hS : Bs w W3 [(g, 70, e.cells), (g7, 75, e.cells)] := hB.sub (fun i => i) (fun i x h => by rcases i with _ | _ | i <;> first | exact h | (simp at h)) (fun i j _ _ h => h)
                    refine hK.out _ _ hS ?_
                    clear hK K
                    refine rg_one 15 (some 10) (.assign (.tmp 56)) #[true, true, true, true, true, true, true, true, true, true, true, true, true, true, true, true] (by kernel_rfl) (by kernel_rfl) (by rfl) (by kernel_rfl) (fun K hK => ?_)
                    go_wp2_with fail
                    refine hK.out _ _ hS ?_
                    clear hK K
                    refine wpAnyH_done (by kernel_rfl) ?_ _
                    exact HM.out _ _ _ hB
                  · refine wp_alloc zeroD hB (fun W3 g9 hB => ?_)
                    simp only [List.cons_append, List.nil_append] at hB
                    simp only [Act.put, List.setIfInBounds_toArray, List.set_cons_zero, List.set_cons_succ]
                    have hS : Bs w W3 [(g, 70, e.cells), (g7, 75, e.cells)] := hB.sub (fun i => i) (fun i x h => by rcases i with _ | _ | i <;> first | exact h | (simp at h)) (fun i j _ _ h => h)
                    refine hK.out _ _ hS ?_
                    clear hK K
                    refine wpAnyH_ready (rs := [6]) (by kernel_rfl) (by simp) ?_
                    refine (rg_cons 6 (some 53) (.call ⟨.value (.func 53), #[.tmp 47, .tmp 48, .tmp 52], _⟩) #[true, true, true, true, true, true, true, false, false, false, false, true, true, false, false, false] (by kernel_rfl) (by rfl) (by kernel_rfl) (fun K hK => ?_) AllReadyH.nil)
                    go_wp2_with fail
                    refine (HSt.out _ hB.below).mono ?_
                    rintro r w1 ⟨rfl, hb1⟩
                    dsimp only
                    replace hB := hB.step hb1
                    have hS : Bs w w1 [(g, 70, e.cells), (g7, 75, e.cells)] := hB.sub (fun i => i) (fun i x h => by rcases i with _ | _ | i <;> first | exact h | (simp at h)) (fun i j _ _ h => h)
                    refine hK.out _ _ hS ?_
                    clear hK K
                    refine rg_take 7 46 (.move (.tmp 53)) (.tuple #[.agg X.cells, .agg X.cells, .bool true]) #[true, true, true, true, true, true, true, true, false, false, false, true, true, false, false, false] (by kernel_rfl) (by rfl) (by kernel_rfl) (by kernel_rfl) (by kernel_rfl) (fun _ _ _ h => h) (.inl ⟨by kernel_rfl, fun _ _ => by kernel_rfl⟩) hS ?_
                    simp only [List.setIfInBounds_toArray, List.set_cons_zero, List.set_cons_succ]
                    refine rg_take 8 54 (.extract (.tmp 46) 0) (.agg X.cells) #[true, true, true, true, true, true, true, true, true, false, false, true, true, false, false, false] (by kernel_rfl) (by rfl) (by kernel_rfl) (by kernel_rfl) (by kernel_rfl) (fun _ _ _ h => h) (.inl ⟨by kernel_rfl, fun _ _ => by go_simp⟩) hS ?_
                    simp only [List.setIfInBounds_toArray, List.set_cons_zero, List.set_cons_succ]
                    refine rg_take 9 55 (.extract (.tmp 46) 1) (.agg X.cells) #[true, true, true, true, true, true, true, true, true, true, false, true, true, false, false, false] (by kernel_rfl) (by rfl) (by kernel_rfl) (by kernel_rfl) (by kernel_rfl) (fun _ _ _ h => h) (.inl ⟨by kernel_rfl, fun _ _ => by go_simp⟩) hS ?_
                    simp only [List.setIfInBounds_toArray, List.set_cons_zero, List.set_cons_succ]
                    refine rg_take 10 56 (.extract (.tmp 46) 2) (.bool true) #[true, true, true, true, true, true, true, true, true, true, true, true, true, false, false, false] (by kernel_rfl) (by rfl) (by kernel_rfl) (by kernel_rfl) (by kernel_rfl) (fun _ _ _ h => h) (.inl ⟨by kernel_rfl, fun _ _ => by go_simp⟩) hS ?_
                    simp only [List.setIfInBounds_toArray, List.set_cons_zero, List.set_cons_succ]
                    refine rg_one 13 none (.store 70 (.tmp 8) (.tmp 54)) #[true, true, true, true, true, true, true, true, true, true, true, true, true, true, false, false] (by kernel_rfl) (by kernel_rfl) (by rfl) (by kernel_rfl) (fun K hK => ?_)
                    refine wp_store isE (b := g8) (C' := X.cells) (by kernel_rfl) (by kernel_rfl) hB 2 (by rfl) (ER.size _) (ER.size _) (ER.one _) (fun W3 hB => ?_)
                    simp only [List.set] at hB
                    simp only [Act.put, List.setIfInBounds_toArray, List.set_cons_zero, List.set_cons_succ]
                    have hS : Bs w W3 [(g, 70, e.cells), (g7, 75, e.cells)] := hB.sub (fun i => i) (fun i x h => by rcases i with _ | _ | i <;> first | exact h | (simp at h)) (fun i j _ _ h => h)
                    refine hK.out _ _ hS ?_
                    clear hK K
                    refine rg_one 14 none (.store 75 (.tmp 9) (.tmp 55)) #[true, true, true, true, true, true, true, true, true, true, true, true, true, true, true, false] (by kernel_rfl) (by kernel_rfl) (by rfl) (by kernel_rfl) (fun K hK => ?_)
                    refine wp_store isD (b := g9) (C' := X.cells) (by kernel_rfl) (by kernel_rfl) hB 3 (by rfl) (ER.size _) (ER.size _) (ER.one _) (fun W3 hB => ?_)
                    simp only [List.set] at hB
                    simp only [Act.put, List.setIfInBounds_toArray, List.set_cons_zero, List.set_cons_succ]
                    have hS : Bs w W3 [(g, 70, e.cells), (g7, 75, e.cells)] := hB.sub (fun i => i) (fun i x h => by rcases i with _ | _ | i <;> first | exact h | (simp at h)) (fun i j _ _ h => h)
                    refine hK.out _ _ hS ?_
                    clear hK K
                    refine rg_one 15 (some 10) (.assign (.tmp 56)) #[true, true, true, true, true, true, true, true, true, true, true, true, true, true, true, true] (by kernel_rfl) (by kernel_rfl) (by rfl) (by kernel_rfl) (fun K hK => ?_)
                    go_wp2_with fail
                    refine hK.out _ _ hS ?_
                    clear hK K
                    refine wpAnyH_done (by kernel_rfl) ?_ _
                    exact HM.out _ _ _ hB
                · refine wp_alloc zeroD hB (fun W3 g9 hB => ?_)
                  simp only [List.cons_append, List.nil_append] at hB
                  simp only [Act.put, List.setIfInBounds_toArray, List.set_cons_zero, List.set_cons_succ]
                  have hS : Bs w W3 [(g, 70, e.cells), (g7, 75, e.cells)] := hB.sub (fun i => i) (fun i x h => by rcases i with _ | _ | i <;> first | exact h | (simp at h)) (fun i j _ _ h => h)
                  refine hK.out _ _ hS ?_
                  clear hK K
                  refine wpAnyH_ready (rs := [6, 11]) (by kernel_rfl) (by simp) ?_
                  refine (rg_cons 6 (some 53) (.call ⟨.value (.func 53), #[.tmp 47, .tmp 48, .tmp 52], _⟩) #[true, true, true, true, true, true, true, false, false, false, false, false, true, false, false, false] (by kernel_rfl) (by rfl) (by kernel_rfl) (fun K hK => ?_) (rg_cons 11 (some 8) (.alloc 70) #[true, true, true, true, true, true, false, false, false, false, false, true, true, false, false, false] (by kernel_rfl) (by rfl) (by kernel_rfl) (fun K hK => ?_) AllReadyH.nil))
                  · go_wp2_with fail
                    refine (HSt.out _ hB.below).mono ?_
                    rintro r w1 ⟨rfl, hb1⟩
                    dsimp only
                    replace hB := hB.step hb1
                    have hS : Bs w w1 [(g, 70, e.cells), (g7, 75, e.cells)] := hB.sub (fun i => i) (fun i x h => by rcases i with _ | _ | i <;> first | exact h | (simp at h)) (fun i j _ _ h => h)
                    refine hK.out _ _ hS ?_
                    clear hK K
                    refine rg_take 7 46 (.move (.tmp 53)) (.tuple #[.agg X.cells, .agg X.cells, .bool true]) #[true, true, true, true, true, true, true, true, false, false, false, false, true, false, false, false] (by kernel_rfl) (by rfl) (by kernel_rfl) (by kernel_rfl) (by kernel_rfl) (fun _ _ _ h => h) (.inl ⟨by kernel_rfl, fun _ _ => by kernel_rfl⟩) hS ?_
                    simp only [List.setIfInBounds_toArray, List.set_cons_zero, List.set_cons_succ]
                    refine rg_take 8 54 (.extract (.tmp 46) 0) (.agg X.cells) #[true, true, true, true, true, true, true, true, true, false, false, false, true, false, false, false] (by kernel_rfl) (by rfl) (by kernel_rfl) (by kernel_rfl) (by kernel_rfl) (fun _ _ _ h => h) (.inl ⟨by kernel_rfl, fun _ _ => by go_simp⟩) hS ?_
                    simp only [List.setIfInBounds_toArray, List.set_cons_zero, List.set_cons_succ]
                    refine rg_take 9 55 (.extract (.tmp 46) 1) (.agg X.cells) #[true, true, true, true, true, true, true, true, true, true, false, false, true, false, false, false] (by kernel_rfl) (by rfl) (by kernel_rfl) (by kernel_rfl) (by kernel_rfl) (fun _ _ _ h => h) (.inl ⟨by kernel_rfl, fun _ _ => by go_simp⟩) hS ?_
                    simp only [List.setIfInBounds_toArray, List.set_cons_zero, List.set_cons_succ]
                    refine rg_take 10 56 (.extract (.tmp 46) 2) (.bool true) #[true, true, true, true, true, true, true, true, true, true, true, false, true, false, false, false] (by kernel_rfl) (by rfl) (by kernel_rfl) (by kernel_rfl) (by kernel_rfl) (fun _ _ _ h => h) (.inl ⟨by kernel_rfl, fun _ _ => by go_simp⟩) hS ?_
                    simp only [List.setIfInBounds_toArray, List.set_cons_zero, List.set_cons_succ]
                    refine wpAnyH_ready (rs := [11]) (by kernel_rfl) (by simp) ?_
                    refine (rg_cons 11 (some 8) (.alloc 70) #[true, true, true, true, true, true, true, true, true, true, true, true, true, false, false, false] (by kernel_rfl) (by rfl) (by kernel_rfl) (fun K hK => ?_) AllReadyH.nil)
                    refine wp_alloc zeroE hB (fun W3 g8 hB => ?_)
                    simp only [List.cons_append, List.nil_append] at hB
                    simp only [Act.put, List.setIfInBounds_toArray, List.set_cons_zero, List.set_cons_succ]
                    have hS : Bs w W3 [(g, 70, e.cells), (g7, 75, e.cells)] := hB.sub (fun i => i) (fun i x h => by rcases i with _ | _ | i <;> first | exact h | (simp at h)) (fun i j _ _ h => h)
                    refine hK.out _ _ hS ?_
                    clear hK K
                    refine rg_one 13 none (.store 70 (.tmp 8) (.tmp 54)) #[true, true, true, true, true, true, true, true, true, true, true, true, true, true, false, false] (by kernel_rfl) (by kernel_rfl) (by rfl) (by kernel_rfl) (fun K hK => ?_)
                    refine wp_store isE (b := g8) (C' := X.cells) (by kernel_rfl) (by kernel_rfl) hB 3 (by rfl) (ER.size _) (ER.size _) (ER.one _) (fun W3 hB => ?_)
                    simp only [List.set] at hB
                    simp only [Act.put, List.setIfInBounds_toArray, List.set_cons_zero, List.set_cons_succ]
                    have hS : Bs w W3 [(g, 70, e.cells), (g7, 75, e.cells)] := hB.sub (fun i => i) (fun i x h => by rcases i with _ | _ | i <;> first | exact h | (simp at h)) (fun i j _ _ h => h)
                    refine hK.out _ _ hS ?_
                    clear hK K
                    refine rg_one 14 none (.store 75 (.tmp 9) (.tmp 55)) #[true, true, true, true, true, true, true, true, true, true, true, true, true, true, true, false] (by kernel_rfl) (by kernel_rfl) (by rfl) (by kernel_rfl) (fun K hK => ?_)
                    refine wp_store isD (b := g9) (C' := X.cells) (by kernel_rfl) (by kernel_rfl) hB 2 (by rfl) (ER.size _) (ER.size _) (ER.one _) (fun W3 hB => ?_)
                    simp only [List.set] at hB
                    simp only [Act.put, List.setIfInBounds_toArray, List.set_cons_zero, List.set_cons_succ]
                    have hS : Bs w W3 [(g, 70, e.cells), (g7, 75, e.cells)] := hB.sub (fun i => i) (fun i x h => by rcases i with _ | _ | i <;> first | exact h | (simp at h)) (fun i j _ _ h => h)
                    refine hK.out _ _ hS ?_
                    clear hK K
                    refine rg_one 15 (some 10) (.assign (.tmp 56)) #[true, true, true, true, true, true, true, true, true, true, true, true, true, true, true, true] (by kernel_rfl) (by kernel_rfl) (by rfl) (by kernel_rfl) (fun K hK => ?_)
                    go_wp2_with fail
                    refine hK.out _ _ hS ?_
                    clear hK K
                    refine wpAnyH_done (by kernel_rfl) ?_ _
                    exact HM.out _ _ _ (hB.sub (fun i => if i = 2 then 3 else if i = 3 then 2 else i) (fun i x h => by rcases i with _ | _ | _ | _ | i <;> first | exact h | (simp at h)) (fun i j hi hj h => (by decide : ∀ i, i < 4 → ∀ j, j < 4 → (if i = 2 then 3 else if i = 3 then 2 else i) = (if j = 2 then 3 else if j = 3 then 2 else j) → i = j) i hi j hj h))
                  · refine wp_alloc zeroE hB (fun W3 g8 hB => ?_)
                    simp only [List.cons_append, List.nil_append] at hB
                    simp only [Act.put, List.setIfInBounds_toArray, List.set_cons_zero, List.set_cons_succ]
                    have hS : Bs w W3 [(g, 70, e.cells), (g7, 75, e.cells)] := hB.sub (fun i => i) (fun i x h => by rcases i with _ | _ | i <;> first | exact h | (simp at h)) (fun i j _ _ h => h)
                    refine hK.out _ _ hS ?_
                    clear hK K
                    refine wpAnyH_ready (rs := [6]) (by kernel_rfl) (by simp) ?_
                    refine (rg_cons 6 (some 53) (.call ⟨.value (.func 53), #[.tmp 47, .tmp 48, .tmp 52], _⟩) #[true, true, true, true, true, true, true, false, false, false, false, true, true, false, false, false] (by kernel_rfl) (by rfl) (by kernel_rfl) (fun K hK => ?_) AllReadyH.nil)
                    go_wp2_with fail
                    refine (HSt.out _ hB.below).mono ?_
                    rintro r w1 ⟨rfl, hb1⟩
                    dsimp only
                    replace hB := hB.step hb1
                    have hS : Bs w w1 [(g, 70, e.cells), (g7, 75, e.cells)] := hB.sub (fun i => i) (fun i x h => by rcases i with _ | _ | i <;> first | exact h | (simp at h)) (fun i j _ _ h => h)
                    refine hK.out _ _ hS ?_
                    clear hK K
                    refine rg_take 7 46 (.move (.tmp 53)) (.tuple #[.agg X.cells, .agg X.cells, .bool true]) #[true, true, true, true, true, true, true, true, false, false, false, true, true, false, false, false] (by kernel_rfl) (by rfl) (by kernel_rfl) (by kernel_rfl) (by kernel_rfl) (fun _ _ _ h => h) (.inl ⟨by kernel_rfl, fun _ _ => by kernel_rfl⟩) hS ?_
                    simp only [List.setIfInBounds_toArray, List.set_cons_zero, List.set_cons_succ]
                    refine rg_take 8 54 (.extract (.tmp 46) 0) (.agg X.cells) #[true, true, true, true, true, true, true, true, true, false, false, true, true, false, false, false] (by kernel_rfl) (by rfl) (by kernel_rfl) (by kernel_rfl) (by kernel_rfl) (fun _ _ _ h => h) (.inl ⟨by kernel_rfl, fun _ _ => by go_simp⟩) hS ?_
                    simp only [List.setIfInBounds_toArray, List.set_cons_zero, List.set_cons_succ]
                    refine rg_take 9 55 (.extract (.tmp 46) 1) (.agg X.cells) #[true, true, true, true, true, true, true, true, true, true, false, true, true, false, false, false] (by kernel_rfl) (by rfl) (by kernel_rfl) (by kernel_rfl) (by kernel_rfl) (fun _ _ _ h => h) (.inl ⟨by kernel_rfl, fun _ _ => by go_simp⟩) hS ?_
                    simp only [List.setIfInBounds_toArray, List.set_cons_zero, List.set_cons_succ]
                    refine rg_take 10 56 (.extract (.tmp 46) 2) (.bool true) #[true, true, true, true, true, true, true, true, true, true, true, true, true, false, false, false] (by kernel_rfl) (by rfl) (by kernel_rfl) (by kernel_rfl) (by kernel_rfl) (fun _ _ _ h => h) (.inl ⟨by kernel_rfl, fun _ _ => by go_simp⟩) hS ?_
                    simp only [List.setIfInBounds_toArray, List.set_cons_zero, List.set_cons_succ]
                    refine rg_one 13 none (.store 70 (.tmp 8) (.tmp 54)) #[true, true, true, true, true, true, true, true, true, true, true, true, true, true, false, false] (by kernel_rfl) (by kernel_rfl) (by rfl) (by kernel_rfl) (fun K hK => ?_)
                    refine wp_store isE (b := g8) (C' := X.cells) (by kernel_rfl) (by kernel_rfl) hB 3 (by rfl) (ER.size _) (ER.size _) (ER.one _) (fun W3 hB => ?_)
                    simp only [List.set] at hB
                    simp only [Act.put, List.setIfInBounds_toArray, List.set_cons_zero, List.set_cons_succ]
                    have hS : Bs w W3 [(g, 70, e.cells), (g7, 75, e.cells)] := hB.sub (fun i => i) (fun i x h => by rcases i with _ | _ | i <;> first | exact h | (simp at h)) (fun i j _ _ h => h)
                    refine hK.out _ _ hS ?_
                    clear hK K
                    refine rg_one 14 none (.store 75 (.tmp 9) (.tmp 55)) #[true, true, true, true, true, true, true, true, true, true, true, true, true, true, true, false] (by kernel_rfl) (by kernel_rfl) (by rfl) (by kernel_rfl) (fun K hK => ?_)
                    refine wp_store isD (b := g9) (C' := X.cells) (by kernel_rfl) (by kernel_rfl) hB 2 (by rfl) (ER.size _) (ER.size _) (ER.one _) (fun W3 hB => ?_)
                    simp only [List.set] at hB
                    simp only [Act.put, List.setIfInBounds_toArray, List.set_cons_zero, List.set_cons_succ]
                    have hS : Bs w W3 [(g, 70, e.cells), (g7, 75, e.cells)] := hB.sub (fun i => i) (fun i x h => by rcases i with _ | _ | i <;> first | exact h | (simp at h)) (fun i j _ _ h => h)
                    refine hK.out _ _ hS ?_
                    clear hK K
                    refine rg_one 15 (some 10) (.assign (.tmp 56)) #[true, true, true, true, true, true, true, true, true, true, true, true, true, true, true, true] (by kernel_rfl) (by kernel_rfl) (by rfl) (by kernel_rfl) (fun K hK => ?_)
                    go_wp2_with fail
                    refine hK.out _ _ hS ?_
                    clear hK K
                    refine wpAnyH_done (by kernel_rfl) ?_ _
                    exact HM.out _ _ _ (hB.sub (fun i => if i = 2 then 3 else if i = 3 then 2 else i) (fun i x h => by rcases i with _ | _ | _ | _ | i <;> first | exact h | (simp at h)) (fun i j hi hj h => (by decide : ∀ i, i < 4 → ∀ j, j < 4 → (if i = 2 then 3 else if i = 3 then 2 else i) = (if j = 2 then 3 else if j = 3 then 2 else j) → i = j) i hi j hj h))
              case rest =>
                intro W3 g8 g9 hB
                clear HSt HCs HK HBw HV hp q3 hbg2
                have ke := e.all
                have kX := X.all
                rw [HMo.out.c] at kX
                have hc0 := hB.cell 0 rfl
                have hc2 := hB.cell 2 rfl
                have u1 : decide (X.pr < e.pr) = false := decide_eq_false (by have := HMo.out.pr; omega)
                have u2 : decide (X.hi < e.hi) = false := decide_eq_false (by have := HMo.out.hi; omega)
                obtain ⟨z, hz⟩ : ∃ z, (e.lo != 0) = z := ⟨_, rfl⟩
                have HU3 : Hold (z = true → decide (e.lo < X.lo) = false ∧ (X.lo == 0) = false) := ⟨fun h => by rw [h] at hz; have := HMo.out.lo (by simpa using hz); exact ⟨decide_eq_false (by omega), by simpa using this.2⟩⟩
                obtain ⟨fr, hfr⟩ : ∃ z, e.fr = z := ⟨_, rfl⟩
                have HU4 : Hold (fr = true → X.fr = true) := ⟨fun h => HMo.out.fr (by rw [hfr, h])⟩
                obtain ⟨ft, hft⟩ : ∃ z, (e.f.t == 0) = z := ⟨_, rfl⟩
                have HS1 : Hold (ft = false → ∀ w', Below w.heap.size w w' → Calls Try.prog 54 #[.agg (ER.cells { e with f := X.f }), .agg e.cells] w' fun r w2 => r = .returned (.bool true) ∧ Below w'.heap.size w' w2) := ⟨fun h w' hb => by rw [h] at hft; have hh := HMo.out.f (by simpa using hft); rw [hh.1]; have h2 := HE.out.below hb; exact refSame_true e e lf la lw w' h2.f h2.f h2.a h2.a h2.v h2.v rfl rfl rfl rfl rfl rfl rfl rfl rfl rfl⟩
                obtain ⟨dn, hdn⟩ : ∃ z, e.dn = z := ⟨_, rfl⟩
                have HS2 : Hold (dn = true → X.dn = true ∧ ∀ w', Below w.heap.size w w' → Calls Try.prog 54 #[.agg (ER.cells { e with v := X.v }), .agg e.cells] w' fun r w2 => r = .returned (.bool true) ∧ Below w'.heap.size w' w2) := ⟨fun h => by have hh := HMo.out.v (by rw [hdn, h]); refine ⟨hh.1, fun w' hb => ?_⟩; have h2 := HE.out.below hb; have h3 := HMo.out.at_.v.below hb; rw [hh.2.2] at h3; exact refSame_true { e with v := X.v } e lf la lw w' h2.f h2.f h2.a h2.a h3 h2.v rfl rfl rfl rfl rfl rfl rfl rfl rfl hh.2.1⟩
                rw [hfr, hdn] at ke
                clear hfr hdn
                cases z
                · cases fr
                  · cases ft
                    · replace HS1 := Hold.mk (HS1.out rfl)
                      cases dn
                      · go_wp2_with (first
                          | (go_at_call 54; with_reducible refine (HS1.out _ hB.below).mono ?_; rintro r w1 ⟨rfl, hb1⟩; replace hB := hB.step hb1; have hc0 := hB.cell 0 rfl; have hc2 := hB.cell 2 rfl)
                          | (go_at_call 50; with_reducible refine (right_calls X lf2 la2 lw2 _ _ (HMo.out.at_.below hB.below) HMo.out.ok).mono ?_; rintro r w1 ⟨rfl, hb1⟩; replace hB := hB.step hb1; have hc0 := hB.cell 0 rfl; have hc2 := hB.cell 2 rfl)
                          | (go_at_call 52; with_reducible refine (of_calls e _).mono ?_; rintro r w1 ⟨rfl, hb1⟩; replace hB := hB.step hb1; have hc0 := hB.cell 0 rfl; have hc2 := hB.cell 2 rfl)
                          | (with_reducible refine gateA 75 ?_; refine wpl_alloc zeroD hB rfl ?_; intro W2 g11 hB; simp only [List.cons_append, List.nil_append] at hB; have hc0 := hB.cell 0 rfl; have hc2 := hB.cell 2 rfl)
                          | (with_reducible refine gateS 75 ?_; refine wpl_store isD rfl rfl hB 4 rfl (ER.size _) (ER.size _) (ER.one _) rfl ?_; intro W2 hB; simp only [List.set] at hB; have hc0 := hB.cell 0 rfl; have hc2 := hB.cell 2 rfl)
                          | (with_reducible refine gateS 70 ?_; refine wpl_store isE rfl rfl hB 0 rfl (ER.size _) (ER.size _) (ER.one _) rfl ?_; intro W2 hB; simp only [List.set] at hB; have hc0 := hB.cell 0 rfl; have hc2 := hB.cell 2 rfl)
                          | (with_reducible refine gateS 34 ?_; refine wpl_storeF (C' := ER.cells { e with f := X.f }) (V := VR.cells X.f) isV.size rfl rfl rfl hB 4 rfl rfl (by rw [ER.size]; omega) (VR.ones _) rfl rfl ?_; intro W2 hB; simp only [List.set] at hB; have hc0 := hB.cell 0 rfl; have hc2 := hB.cell 2 rfl)
                          | (with_reducible refine gateS 34 ?_; refine wpl_storeF (C' := ER.cells e) (V := VR.cells e.f) isV.size rfl rfl rfl hB 4 rfl rfl (by rw [ER.size]; omega) (VR.ones _) rfl rfl ?_; intro W2 hB; simp only [List.set] at hB; have hc0 := hB.cell 0 rfl; have hc2 := hB.cell 2 rfl)
                          | (with_reducible refine gateS 34 ?_; refine wpl_storeF (C' := ER.cells { e with v := X.v }) (V := VR.cells X.v) isV.size rfl rfl rfl hB 4 rfl rfl (by rw [ER.size]; omega) (VR.ones _) rfl rfl ?_; intro W2 hB; simp only [List.set] at hB; have hc0 := hB.cell 0 rfl; have hc2 := hB.cell 2 rfl)
                          | (with_reducible refine gateL 34 ?_; refine wpl_loadF isV (V := VR.cells X.f) rfl hB 2 rfl rfl rfl rfl ?_)
                          | (with_reducible refine gateL 34 ?_; refine wpl_loadF isV (V := VR.cells e.f) rfl hB 0 rfl rfl rfl rfl ?_)
                          | (with_reducible refine gateL 34 ?_; refine wpl_loadF isV (V := VR.cells X.v) rfl hB 2 rfl rfl rfl rfl ?_)
                          | (with_reducible refine gateL 70 ?_; refine wpl_load isE rfl hB 0 rfl (ER.size _) rfl ?_)
                          | (with_reducible refine gateL 70 ?_; refine wpl_load isE rfl hB 2 rfl (ER.size _) rfl ?_)
                          | (with_reducible refine gateG 70 ?_; go_guarded; refine wp_load isE (b := g8) (C := ER.cells X) (Eq.refl _) hB 2 rfl (ER.size _) ?_; simp only [Act.put, List.setIfInBounds_toArray, List.set_cons_zero, List.set_cons_succ])
                          | (with_reducible refine gateG 75 ?_; go_guarded; refine wp_load isD (b := g11) (C := ER.cells { e with f := X.f }) (Eq.refl _) hB 4 rfl (ER.size _) ?_; simp only [Act.put, List.setIfInBounds_toArray, List.set_cons_zero, List.set_cons_succ])
                          | (with_reducible refine gateG 75 ?_; go_guarded; refine wp_load isD (b := g11) (C := ER.cells { e with v := X.v }) (Eq.refl _) hB 4 rfl (ER.size _) ?_; simp only [Act.put, List.setIfInBounds_toArray, List.set_cons_zero, List.set_cons_succ])
                          | (with_reducible refine gateG 75 ?_; go_guarded; refine wp_load isD (b := g7) (C := ER.cells e) (Eq.refl _) hB 1 rfl (ER.size _) ?_; simp only [Act.put, List.setIfInBounds_toArray, List.set_cons_zero, List.set_cons_succ]))
                        exact ⟨⟨i + 1, by omega, by go_num, ⟨X, lf2, la2, lw2, hB.sub (fun i => i) (fun i x h => by rcases i with _ | i <;> first | exact h | (simp at h)) (fun i j _ _ h => h), HMo.out.at_, HMo.out.ok⟩⟩, by simp [intOf]; omega⟩
                      · have u6 := (HS2.out rfl).1
                        rw [u6] at kX
                        replace HS2 := Hold.mk (HS2.out rfl).2
                        go_wp2_with (first
                          | (go_at_call 54; with_reducible refine (HS2.out _ hB.below).mono ?_; rintro r w1 ⟨rfl, hb1⟩; replace hB := hB.step hb1; have hc0 := hB.cell 0 rfl; have hc2 := hB.cell 2 rfl)
                          | (go_at_call 54; with_reducible refine (HS1.out _ hB.below).mono ?_; rintro r w1 ⟨rfl, hb1⟩; replace hB := hB.step hb1; have hc0 := hB.cell 0 rfl; have hc2 := hB.cell 2 rfl)
                          | (go_at_call 50; with_reducible refine (right_calls X lf2 la2 lw2 _ _ (HMo.out.at_.below hB.below) HMo.out.ok).mono ?_; rintro r w1 ⟨rfl, hb1⟩; replace hB := hB.step hb1; have hc0 := hB.cell 0 rfl; have hc2 := hB.cell 2 rfl)
                          | (go_at_call 52; with_reducible refine (of_calls e _).mono ?_; rintro r w1 ⟨rfl, hb1⟩; replace hB := hB.step hb1; have hc0 := hB.cell 0 rfl; have hc2 := hB.cell 2 rfl)
                          | (with_reducible refine gateA 75 ?_; refine wpl_alloc zeroD hB rfl ?_; intro W2 g11 hB; simp only [List.cons_append, List.nil_append] at hB; have hc0 := hB.cell 0 rfl; have hc2 := hB.cell 2 rfl)
                          | (with_reducible refine gateS 75 ?_; refine wpl_store isD rfl rfl hB 4 rfl (ER.size _) (ER.size _) (ER.one _) rfl ?_; intro W2 hB; simp only [List.set] at hB; have hc0 := hB.cell 0 rfl; have hc2 := hB.cell 2 rfl)
                          | (with_reducible refine gateS 70 ?_; refine wpl_store isE rfl rfl hB 0 rfl (ER.size _) (ER.size _) (ER.one _) rfl ?_; intro W2 hB; simp only [List.set] at hB; have hc0 := hB.cell 0 rfl; have hc2 := hB.cell 2 rfl)
                          | (with_reducible refine gateS 34 ?_; refine wpl_storeF (C' := ER.cells { e with f := X.f }) (V := VR.cells X.f) isV.size rfl rfl rfl hB 4 rfl rfl (by rw [ER.size]; omega) (VR.ones _) rfl rfl ?_; intro W2 hB; simp only [List.set] at hB; have hc0 := hB.cell 0 rfl; have hc2 := hB.cell 2 rfl)
                          | (with_reducible refine gateS 34 ?_; refine wpl_storeF (C' := ER.cells e) (V := VR.cells e.f) isV.size rfl rfl rfl hB 4 rfl rfl (by rw [ER.size]; omega) (VR.ones _) rfl rfl ?_; intro W2 hB; simp only [List.set] at hB; have hc0 := hB.cell 0 rfl; have hc2 := hB.cell 2 rfl)
                          | (with_reducible refine gateS 34 ?_; refine wpl_storeF (C' := ER.cells { e with v := X.v }) (V := VR.cells X.v) isV.size rfl rfl rfl hB 4 rfl rfl (by rw [ER.size]; omega) (VR.ones _) rfl rfl ?_; intro W2 hB; simp only [List.set] at hB; have hc0 := hB.cell 0 rfl; have hc2 := hB.cell 2 rfl)
                          | (with_reducible refine gateL 34 ?_; refine wpl_loadF isV (V := VR.cells X.f) rfl hB 2 rfl rfl rfl rfl ?_)
                          | (with_reducible refine gateL 34 ?_; refine wpl_loadF isV (V := VR.cells e.f) rfl hB 0 rfl rfl rfl rfl ?_)
                          | (with_reducible refine gateL 34 ?_; refine wpl_loadF isV (V := VR.cells X.v) rfl hB 2 rfl rfl rfl rfl ?_)
                          | (with_reducible refine gateL 70 ?_; refine wpl_load isE rfl hB 0 rfl (ER.size _) rfl ?_)
                          | (with_reducible refine gateL 70 ?_; refine wpl_load isE rfl hB 2 rfl (ER.size _) rfl ?_)
                          | (with_reducible refine gateG 70 ?_; go_guarded; refine wp_load isE (b := g8) (C := ER.cells X) (Eq.refl _) hB 2 rfl (ER.size _) ?_; simp only [Act.put, List.setIfInBounds_toArray, List.set_cons_zero, List.set_cons_succ])
                          | (with_reducible refine gateG 75 ?_; go_guarded; refine wp_load isD (b := g11) (C := ER.cells { e with f := X.f }) (Eq.refl _) hB 4 rfl (ER.size _) ?_; simp only [Act.put, List.setIfInBounds_toArray, List.set_cons_zero, List.set_cons_succ])
                          | (with_reducible refine gateG 75 ?_; go_guarded; refine wp_load isD (b := g11) (C := ER.cells { e with v := X.v }) (Eq.refl _) hB 4 rfl (ER.size _) ?_; simp only [Act.put, List.setIfInBounds_toArray, List.set_cons_zero, List.set_cons_succ])
                          | (with_reducible refine gateG 75 ?_; go_guarded; refine wp_load isD (b := g7) (C := ER.cells e) (Eq.refl _) hB 1 rfl (ER.size _) ?_; simp only [Act.put, List.setIfInBounds_toArray, List.set_cons_zero, List.set_cons_succ]))
                        exact ⟨⟨i + 1, by omega, by go_num, ⟨X, lf2, la2, lw2, hB.sub (fun i => i) (fun i x h => by rcases i with _ | i <;> first | exact h | (simp at h)) (fun i j _ _ h => h), HMo.out.at_, HMo.out.ok⟩⟩, by simp [intOf]; omega⟩
                    · cases dn
                      · go_wp2_with (first
                          | (go_at_call 50; with_reducible refine (right_calls X lf2 la2 lw2 _ _ (HMo.out.at_.below hB.below) HMo.out.ok).mono ?_; rintro r w1 ⟨rfl, hb1⟩; replace hB := hB.step hb1; have hc0 := hB.cell 0 rfl; have hc2 := hB.cell 2 rfl)
                          | (go_at_call 52; with_reducible refine (of_calls e _).mono ?_; rintro r w1 ⟨rfl, hb1⟩; replace hB := hB.step hb1; have hc0 := hB.cell 0 rfl; have hc2 := hB.cell 2 rfl)
                          | (with_reducible refine gateA 75 ?_; refine wpl_alloc zeroD hB rfl ?_; intro W2 g11 hB; simp only [List.cons_append, List.nil_append] at hB; have hc0 := hB.cell 0 rfl; have hc2 := hB.cell 2 rfl)
                          | (with_reducible refine gateS 75 ?_; refine wpl_store isD rfl rfl hB 4 rfl (ER.size _) (ER.size _) (ER.one _) rfl ?_; intro W2 hB; simp only [List.set] at hB; have hc0 := hB.cell 0 rfl; have hc2 := hB.cell 2 rfl)
                          | (with_reducible refine gateS 70 ?_; refine wpl_store isE rfl rfl hB 0 rfl (ER.size _) (ER.size _) (ER.one _) rfl ?_; intro W2 hB; simp only [List.set] at hB; have hc0 := hB.cell 0 rfl; have hc2 := hB.cell 2 rfl)
                          | (with_reducible refine gateS 34 ?_; refine wpl_storeF (C' := ER.cells { e with f := X.f }) (V := VR.cells X.f) isV.size rfl rfl rfl hB 4 rfl rfl (by rw [ER.size]; omega) (VR.ones _) rfl rfl ?_; intro W2 hB; simp only [List.set] at hB; have hc0 := hB.cell 0 rfl; have hc2 := hB.cell 2 rfl)
                          | (with_reducible refine gateS 34 ?_; refine wpl_storeF (C' := ER.cells e) (V := VR.cells e.f) isV.size rfl rfl rfl hB 4 rfl rfl (by rw [ER.size]; omega) (VR.ones _) rfl rfl ?_; intro W2 hB; simp only [List.set] at hB; have hc0 := hB.cell 0 rfl; have hc2 := hB.cell 2 rfl)
                          | (with_reducible refine gateS 34 ?_; refine wpl_storeF (C' := ER.cells { e with v := X.v }) (V := VR.cells X.v) isV.size rfl rfl rfl hB 4 rfl rfl (by rw [ER.size]; omega) (VR.ones _) rfl rfl ?_; intro W2 hB; simp only [List.set] at hB; have hc0 := hB.cell 0 rfl; have hc2 := hB.cell 2 rfl)
                          | (with_reducible refine gateL 34 ?_; refine wpl_loadF isV (V := VR.cells X.f) rfl hB 2 rfl rfl rfl rfl ?_)
                          | (with_reducible refine gateL 34 ?_; refine wpl_loadF isV (V := VR.cells e.f) rfl hB 0 rfl rfl rfl rfl ?_)
                          | (with_reducible refine gateL 34 ?_; refine wpl_loadF isV (V := VR.cells X.v) rfl hB 2 rfl rfl rfl rfl ?_)
                          | (with_reducible refine gateL 70 ?_; refine wpl_load isE rfl hB 0 rfl (ER.size _) rfl ?_)
                          | (with_reducible refine gateL 70 ?_; refine wpl_load isE rfl hB 2 rfl (ER.size _) rfl ?_)
                          | (with_reducible refine gateG 70 ?_; go_guarded; refine wp_load isE (b := g8) (C := ER.cells X) (Eq.refl _) hB 2 rfl (ER.size _) ?_; simp only [Act.put, List.setIfInBounds_toArray, List.set_cons_zero, List.set_cons_succ])
                          | (with_reducible refine gateG 75 ?_; go_guarded; refine wp_load isD (b := g11) (C := ER.cells { e with f := X.f }) (Eq.refl _) hB 4 rfl (ER.size _) ?_; simp only [Act.put, List.setIfInBounds_toArray, List.set_cons_zero, List.set_cons_succ])
                          | (with_reducible refine gateG 75 ?_; go_guarded; refine wp_load isD (b := g11) (C := ER.cells { e with v := X.v }) (Eq.refl _) hB 4 rfl (ER.size _) ?_; simp only [Act.put, List.setIfInBounds_toArray, List.set_cons_zero, List.set_cons_succ])
                          | (with_reducible refine gateG 75 ?_; go_guarded; refine wp_load isD (b := g7) (C := ER.cells e) (Eq.refl _) hB 1 rfl (ER.size _) ?_; simp only [Act.put, List.setIfInBounds_toArray, List.set_cons_zero, List.set_cons_succ]))
                        exact ⟨⟨i + 1, by omega, by go_num, ⟨X, lf2, la2, lw2, hB.sub (fun i => i) (fun i x h => by rcases i with _ | i <;> first | exact h | (simp at h)) (fun i j _ _ h => h), HMo.out.at_, HMo.out.ok⟩⟩, by simp [intOf]; omega⟩
                      · have u6 := (HS2.out rfl).1
                        rw [u6] at kX
                        replace HS2 := Hold.mk (HS2.out rfl).2
                        go_wp2_with (first
                          | (go_at_call 54; with_reducible refine (HS2.out _ hB.below).mono ?_; rintro r w1 ⟨rfl, hb1⟩; replace hB := hB.step hb1; have hc0 := hB.cell 0 rfl; have hc2 := hB.cell 2 rfl)
                          | (go_at_call 50; with_reducible refine (right_calls X lf2 la2 lw2 _ _ (HMo.out.at_.below hB.below) HMo.out.ok).mono ?_; rintro r w1 ⟨rfl, hb1⟩; replace hB := hB.step hb1; have hc0 := hB.cell 0 rfl; have hc2 := hB.cell 2 rfl)
                          | (go_at_call 52; with_reducible refine (of_calls e _).mono ?_; rintro r w1 ⟨rfl, hb1⟩; replace hB := hB.step hb1; have hc0 := hB.cell 0 rfl; have hc2 := hB.cell 2 rfl)
                          | (with_reducible refine gateA 75 ?_; refine wpl_alloc zeroD hB rfl ?_; intro W2 g11 hB; simp only [List.cons_append, List.nil_append] at hB; have hc0 := hB.cell 0 rfl; have hc2 := hB.cell 2 rfl)
                          | (with_reducible refine gateS 75 ?_; refine wpl_store isD rfl rfl hB 4 rfl (ER.size _) (ER.size _) (ER.one _) rfl ?_; intro W2 hB; simp only [List.set] at hB; have hc0 := hB.cell 0 rfl; have hc2 := hB.cell 2 rfl)
                          | (with_reducible refine gateS 70 ?_; refine wpl_store isE rfl rfl hB 0 rfl (ER.size _) (ER.size _) (ER.one _) rfl ?_; intro W2 hB; simp only [List.set] at hB; have hc0 := hB.cell 0 rfl; have hc2 := hB.cell 2 rfl)
                          | (with_reducible refine gateS 34 ?_; refine wpl_storeF (C' := ER.cells { e with f := X.f }) (V := VR.cells X.f) isV.size rfl rfl rfl hB 4 rfl rfl (by rw [ER.size]; omega) (VR.ones _) rfl rfl ?_; intro W2 hB; simp only [List.set] at hB; have hc0 := hB.cell 0 rfl; have hc2 := hB.cell 2 rfl)
                          | (with_reducible refine gateS 34 ?_; refine wpl_storeF (C' := ER.cells e) (V := VR.cells e.f) isV.size rfl rfl rfl hB 4 rfl rfl (by rw [ER.size]; omega) (VR.ones _) rfl rfl ?_; intro W2 hB; simp only [List.set] at hB; have hc0 := hB.cell 0 rfl; have hc2 := hB.cell 2 rfl)
                          | (with_reducible refine gateS 34 ?_; refine wpl_storeF (C' := ER.cells { e with v := X.v }) (V := VR.cells X.v) isV.size rfl rfl rfl hB 4 rfl rfl (by rw [ER.size]; omega) (VR.ones _) rfl rfl ?_; intro W2 hB; simp only [List.set] at hB; have hc0 := hB.cell 0 rfl; have hc2 := hB.cell 2 rfl)
                          | (with_reducible refine gateL 34 ?_; refine wpl_loadF isV (V := VR.cells X.f) rfl hB 2 rfl rfl rfl rfl ?_)
                          | (with_reducible refine gateL 34 ?_; refine wpl_loadF isV (V := VR.cells e.f) rfl hB 0 rfl rfl rfl rfl ?_)
                          | (with_reducible refine gateL 34 ?_; refine wpl_loadF isV (V := VR.cells X.v) rfl hB 2 rfl rfl rfl rfl ?_)
                          | (with_reducible refine gateL 70 ?_; refine wpl_load isE rfl hB 0 rfl (ER.size _) rfl ?_)
                          | (with_reducible refine gateL 70 ?_; refine wpl_load isE rfl hB 2 rfl (ER.size _) rfl ?_)
                          | (with_reducible refine gateG 70 ?_; go_guarded; refine wp_load isE (b := g8) (C := ER.cells X) (Eq.refl _) hB 2 rfl (ER.size _) ?_; simp only [Act.put, List.setIfInBounds_toArray, List.set_cons_zero, List.set_cons_succ])
                          | (with_reducible refine gateG 75 ?_; go_guarded; refine wp_load isD (b := g11) (C := ER.cells { e with f := X.f }) (Eq.refl _) hB 4 rfl (ER.size _) ?_; simp only [Act.put, List.setIfInBounds_toArray, List.set_cons_zero, List.set_cons_succ])
                          | (with_reducible refine gateG 75 ?_; go_guarded; refine wp_load isD (b := g11) (C := ER.cells { e with v := X.v }) (Eq.refl _) hB 4 rfl (ER.size _) ?_; simp only [Act.put, List.setIfInBounds_toArray, List.set_cons_zero, List.set_cons_succ])
                          | (with_reducible refine gateG 75 ?_; go_guarded; refine wp_load isD (b := g7) (C := ER.cells e) (Eq.refl _) hB 1 rfl (ER.size _) ?_; simp only [Act.put, List.setIfInBounds_toArray, List.set_cons_zero, List.set_cons_succ]))
                        exact ⟨⟨i + 1, by omega, by go_num, ⟨X, lf2, la2, lw2, hB.sub (fun i => i) (fun i x h => by rcases i with _ | i <;> first | exact h | (simp at h)) (fun i j _ _ h => h), HMo.out.at_, HMo.out.ok⟩⟩, by simp [intOf]; omega⟩
                  · have u5 := HU4.out rfl
                    rw [u5] at kX
                    cases ft
                    · replace HS1 := Hold.mk (HS1.out rfl)
                      cases dn
                      · go_wp2_with (first
                          | (go_at_call 54; with_reducible refine (HS1.out _ hB.below).mono ?_; rintro r w1 ⟨rfl, hb1⟩; replace hB := hB.step hb1; have hc0 := hB.cell 0 rfl; have hc2 := hB.cell 2 rfl)
                          | (go_at_call 50; with_reducible refine (right_calls X lf2 la2 lw2 _ _ (HMo.out.at_.below hB.below) HMo.out.ok).mono ?_; rintro r w1 ⟨rfl, hb1⟩; replace hB := hB.step hb1; have hc0 := hB.cell 0 rfl; have hc2 := hB.cell 2 rfl)
                          | (go_at_call 52; with_reducible refine (of_calls e _).mono ?_; rintro r w1 ⟨rfl, hb1⟩; replace hB := hB.step hb1; have hc0 := hB.cell 0 rfl; have hc2 := hB.cell 2 rfl)
                          | (with_reducible refine gateA 75 ?_; refine wpl_alloc zeroD hB rfl ?_; intro W2 g11 hB; simp only [List.cons_append, List.nil_append] at hB; have hc0 := hB.cell 0 rfl; have hc2 := hB.cell 2 rfl)
                          | (with_reducible refine gateS 75 ?_; refine wpl_store isD rfl rfl hB 4 rfl (ER.size _) (ER.size _) (ER.one _) rfl ?_; intro W2 hB; simp only [List.set] at hB; have hc0 := hB.cell 0 rfl; have hc2 := hB.cell 2 rfl)
                          | (with_reducible refine gateS 70 ?_; refine wpl_store isE rfl rfl hB 0 rfl (ER.size _) (ER.size _) (ER.one _) rfl ?_; intro W2 hB; simp only [List.set] at hB; have hc0 := hB.cell 0 rfl; have hc2 := hB.cell 2 rfl)
                          | (with_reducible refine gateS 34 ?_; refine wpl_storeF (C' := ER.cells { e with f := X.f }) (V := VR.cells X.f) isV.size rfl rfl rfl hB 4 rfl rfl (by rw [ER.size]; omega) (VR.ones _) rfl rfl ?_; intro W2 hB; simp only [List.set] at hB; have hc0 := hB.cell 0 rfl; have hc2 := hB.cell 2 rfl)
                          | (with_reducible refine gateS 34 ?_; refine wpl_storeF (C' := ER.cells e) (V := VR.cells e.f) isV.size rfl rfl rfl hB 4 rfl rfl (by rw [ER.size]; omega) (VR.ones _) rfl rfl ?_; intro W2 hB; simp only [List.set] at hB; have hc0 := hB.cell 0 rfl; have hc2 := hB.cell 2 rfl)
                          | (with_reducible refine gateS 34 ?_; refine wpl_storeF (C' := ER.cells { e with v := X.v }) (V := VR.cells X.v) isV.size rfl rfl rfl hB 4 rfl rfl (by rw [ER.size]; omega) (VR.ones _) rfl rfl ?_; intro W2 hB; simp only [List.set] at hB; have hc0 := hB.cell 0 rfl; have hc2 := hB.cell 2 rfl)
                          | (with_reducible refine gateL 34 ?_; refine wpl_loadF isV (V := VR.cells X.f) rfl hB 2 rfl rfl rfl rfl ?_)
                          | (with_reducible refine gateL 34 ?_; refine wpl_loadF isV (V := VR.cells e.f) rfl hB 0 rfl rfl rfl rfl ?_)
                          | (with_reducible refine gateL 34 ?_; refine wpl_loadF isV (V := VR.cells X.v) rfl hB 2 rfl rfl rfl rfl ?_)
                          | (with_reducible refine gateL 70 ?_; refine wpl_load isE rfl hB 0 rfl (ER.size _) rfl ?_)
                          | (with_reducible refine gateL 70 ?_; refine wpl_load isE rfl hB 2 rfl (ER.size _) rfl ?_)
                          | (with_reducible refine gateG 70 ?_; go_guarded; refine wp_load isE (b := g8) (C := ER.cells X) (Eq.refl _) hB 2 rfl (ER.size _) ?_; simp only [Act.put, List.setIfInBounds_toArray, List.set_cons_zero, List.set_cons_succ])
                          | (with_reducible refine gateG 75 ?_; go_guarded; refine wp_load isD (b := g11) (C := ER.cells { e with f := X.f }) (Eq.refl _) hB 4 rfl (ER.size _) ?_; simp only [Act.put, List.setIfInBounds_toArray, List.set_cons_zero, List.set_cons_succ])
                          | (with_reducible refine gateG 75 ?_; go_guarded; refine wp_load isD (b := g11) (C := ER.cells { e with v := X.v }) (Eq.refl _) hB 4 rfl (ER.size _) ?_; simp only [Act.put, List.setIfInBounds_toArray, List.set_cons_zero, List.set_cons_succ])
                          | (with_reducible refine gateG 75 ?_; go_guarded; refine wp_load isD (b := g7) (C := ER.cells e) (Eq.refl _) hB 1 rfl (ER.size _) ?_; simp only [Act.put, List.setIfInBounds_toArray, List.set_cons_zero, List.set_cons_succ]))
                        exact ⟨⟨i + 1, by omega, by go_num, ⟨X, lf2, la2, lw2, hB.sub (fun i => i) (fun i x h => by rcases i with _ | i <;> first | exact h | (simp at h)) (fun i j _ _ h => h), HMo.out.at_, HMo.out.ok⟩⟩, by simp [intOf]; omega⟩
                      · have u6 := (HS2.out rfl).1
                        rw [u6] at kX
                        replace HS2 := Hold.mk (HS2.out rfl).2
                        go_wp2_with (first
                          | (go_at_call 54; with_reducible refine (HS2.out _ hB.below).mono ?_; rintro r w1 ⟨rfl, hb1⟩; replace hB := hB.step hb1; have hc0 := hB.cell 0 rfl; have hc2 := hB.cell 2 rfl)
                          | (go_at_call 54; with_reducible refine (HS1.out _ hB.below).mono ?_; rintro r w1 ⟨rfl, hb1⟩; replace hB := hB.step hb1; have hc0 := hB.cell 0 rfl; have hc2 := hB.cell 2 rfl)
                          | (go_at_call 50; with_reducible refine (right_calls X lf2 la2 lw2 _ _ (HMo.out.at_.below hB.below) HMo.out.ok).mono ?_; rintro r w1 ⟨rfl, hb1⟩; replace hB := hB.step hb1; have hc0 := hB.cell 0 rfl; have hc2 := hB.cell 2 rfl)
                          | (go_at_call 52; with_reducible refine (of_calls e _).mono ?_; rintro r w1 ⟨rfl, hb1⟩; replace hB := hB.step hb1; have hc0 := hB.cell 0 rfl; have hc2 := hB.cell 2 rfl)
                          | (with_reducible refine gateA 75 ?_; refine wpl_alloc zeroD hB rfl ?_; intro W2 g11 hB; simp only [List.cons_append, List.nil_append] at hB; have hc0 := hB.cell 0 rfl; have hc2 := hB.cell 2 rfl)
                          | (with_reducible refine gateS 75 ?_; refine wpl_store isD rfl rfl hB 4 rfl (ER.size _) (ER.size _) (ER.one _) rfl ?_; intro W2 hB; simp only [List.set] at hB; have hc0 := hB.cell 0 rfl; have hc2 := hB.cell 2 rfl)
                          | (with_reducible refine gateS 70 ?_; refine wpl_store isE rfl rfl hB 0 rfl (ER.size _) (ER.size _) (ER.one _) rfl ?_; intro W2 hB; simp only [List.set] at hB; have hc0 := hB.cell 0 rfl; have hc2 := hB.cell 2 rfl)
                          | (with_reducible refine gateS 34 ?_; refine wpl_storeF (C' := ER.cells { e with f := X.f }) (V := VR.cells X.f) isV.size rfl rfl rfl hB 4 rfl rfl (by rw [ER.size]; omega) (VR.ones _) rfl rfl ?_; intro W2 hB; simp only [List.set] at hB; have hc0 := hB.cell 0 rfl; have hc2 := hB.cell 2 rfl)
                          | (with_reducible refine gateS 34 ?_; refine wpl_storeF (C' := ER.cells e) (V := VR.cells e.f) isV.size rfl rfl rfl hB 4 rfl rfl (by rw [ER.size]; omega) (VR.ones _) rfl rfl ?_; intro W2 hB; simp only [List.set] at hB; have hc0 := hB.cell 0 rfl; have hc2 := hB.cell 2 rfl)
                          | (with_reducible refine gateS 34 ?_; refine wpl_storeF (C' := ER.cells { e with v := X.v }) (V := VR.cells X.v) isV.size rfl rfl rfl hB 4 rfl rfl (by rw [ER.size]; omega) (VR.ones _) rfl rfl ?_; intro W2 hB; simp only [List.set] at hB; have hc0 := hB.cell 0 rfl; have hc2 := hB.cell 2 rfl)
                          | (with_reducible refine gateL 34 ?_; refine wpl_loadF isV (V := VR.cells X.f) rfl hB 2 rfl rfl rfl rfl ?_)
                          | (with_reducible refine gateL 34 ?_; refine wpl_loadF isV (V := VR.cells e.f) rfl hB 0 rfl rfl rfl rfl ?_)
                          | (with_reducible refine gateL 34 ?_; refine wpl_loadF isV (V := VR.cells X.v) rfl hB 2 rfl rfl rfl rfl ?_)
                          | (with_reducible refine gateL 70 ?_; refine wpl_load isE rfl hB 0 rfl (ER.size _) rfl ?_)
                          | (with_reducible refine gateL 70 ?_; refine wpl_load isE rfl hB 2 rfl (ER.size _) rfl ?_)
                          | (with_reducible refine gateG 70 ?_; go_guarded; refine wp_load isE (b := g8) (C := ER.cells X) (Eq.refl _) hB 2 rfl (ER.size _) ?_; simp only [Act.put, List.setIfInBounds_toArray, List.set_cons_zero, List.set_cons_succ])
                          | (with_reducible refine gateG 75 ?_; go_guarded; refine wp_load isD (b := g11) (C := ER.cells { e with f := X.f }) (Eq.refl _) hB 4 rfl (ER.size _) ?_; simp only [Act.put, List.setIfInBounds_toArray, List.set_cons_zero, List.set_cons_succ])
                          | (with_reducible refine gateG 75 ?_; go_guarded; refine wp_load isD (b := g11) (C := ER.cells { e with v := X.v }) (Eq.refl _) hB 4 rfl (ER.size _) ?_; simp only [Act.put, List.setIfInBounds_toArray, List.set_cons_zero, List.set_cons_succ])
                          | (with_reducible refine gateG 75 ?_; go_guarded; refine wp_load isD (b := g7) (C := ER.cells e) (Eq.refl _) hB 1 rfl (ER.size _) ?_; simp only [Act.put, List.setIfInBounds_toArray, List.set_cons_zero, List.set_cons_succ]))
                        exact ⟨⟨i + 1, by omega, by go_num, ⟨X, lf2, la2, lw2, hB.sub (fun i => i) (fun i x h => by rcases i with _ | i <;> first | exact h | (simp at h)) (fun i j _ _ h => h), HMo.out.at_, HMo.out.ok⟩⟩, by simp [intOf]; omega⟩
                    · cases dn
                      · go_wp2_with (first
                          | (go_at_call 50; with_reducible refine (right_calls X lf2 la2 lw2 _ _ (HMo.out.at_.below hB.below) HMo.out.ok).mono ?_; rintro r w1 ⟨rfl, hb1⟩; replace hB := hB.step hb1; have hc0 := hB.cell 0 rfl; have hc2 := hB.cell 2 rfl)
                          | (go_at_call 52; with_reducible refine (of_calls e _).mono ?_; rintro r w1 ⟨rfl, hb1⟩; replace hB := hB.step hb1; have hc0 := hB.cell 0 rfl; have hc2 := hB.cell 2 rfl)
                          | (with_reducible refine gateA 75 ?_; refine wpl_alloc zeroD hB rfl ?_; intro W2 g11 hB; simp only [List.cons_append, List.nil_append] at hB; have hc0 := hB.cell 0 rfl; have hc2 := hB.cell 2 rfl)
                          | (with_reducible refine gateS 75 ?_; refine wpl_store isD rfl rfl hB 4 rfl (ER.size _) (ER.size _) (ER.one _) rfl ?_; intro W2 hB; simp only [List.set] at hB; have hc0 := hB.cell 0 rfl; have hc2 := hB.cell 2 rfl)
                          | (with_reducible refine gateS 70 ?_; refine wpl_store isE rfl rfl hB 0 rfl (ER.size _) (ER.size _) (ER.one _) rfl ?_; intro W2 hB; simp only [List.set] at hB; have hc0 := hB.cell 0 rfl; have hc2 := hB.cell 2 rfl)
                          | (with_reducible refine gateS 34 ?_; refine wpl_storeF (C' := ER.cells { e with f := X.f }) (V := VR.cells X.f) isV.size rfl rfl rfl hB 4 rfl rfl (by rw [ER.size]; omega) (VR.ones _) rfl rfl ?_; intro W2 hB; simp only [List.set] at hB; have hc0 := hB.cell 0 rfl; have hc2 := hB.cell 2 rfl)
                          | (with_reducible refine gateS 34 ?_; refine wpl_storeF (C' := ER.cells e) (V := VR.cells e.f) isV.size rfl rfl rfl hB 4 rfl rfl (by rw [ER.size]; omega) (VR.ones _) rfl rfl ?_; intro W2 hB; simp only [List.set] at hB; have hc0 := hB.cell 0 rfl; have hc2 := hB.cell 2 rfl)
                          | (with_reducible refine gateS 34 ?_; refine wpl_storeF (C' := ER.cells { e with v := X.v }) (V := VR.cells X.v) isV.size rfl rfl rfl hB 4 rfl rfl (by rw [ER.size]; omega) (VR.ones _) rfl rfl ?_; intro W2 hB; simp only [List.set] at hB; have hc0 := hB.cell 0 rfl; have hc2 := hB.cell 2 rfl)
                          | (with_reducible refine gateL 34 ?_; refine wpl_loadF isV (V := VR.cells X.f) rfl hB 2 rfl rfl rfl rfl ?_)
                          | (with_reducible refine gateL 34 ?_; refine wpl_loadF isV (V := VR.cells e.f) rfl hB 0 rfl rfl rfl rfl ?_)
                          | (with_reducible refine gateL 34 ?_; refine wpl_loadF isV (V := VR.cells X.v) rfl hB 2 rfl rfl rfl rfl ?_)
                          | (with_reducible refine gateL 70 ?_; refine wpl_load isE rfl hB 0 rfl (ER.size _) rfl ?_)
                          | (with_reducible refine gateL 70 ?_; refine wpl_load isE rfl hB 2 rfl (ER.size _) rfl ?_)
                          | (with_reducible refine gateG 70 ?_; go_guarded; refine wp_load isE (b := g8) (C := ER.cells X) (Eq.refl _) hB 2 rfl (ER.size _) ?_; simp only [Act.put, List.setIfInBounds_toArray, List.set_cons_zero, List.set_cons_succ])
                          | (with_reducible refine gateG 75 ?_; go_guarded; refine wp_load isD (b := g11) (C := ER.cells { e with f := X.f }) (Eq.refl _) hB 4 rfl (ER.size _) ?_; simp only [Act.put, List.setIfInBounds_toArray, List.set_cons_zero, List.set_cons_succ])
                          | (with_reducible refine gateG 75 ?_; go_guarded; refine wp_load isD (b := g11) (C := ER.cells { e with v := X.v }) (Eq.refl _) hB 4 rfl (ER.size _) ?_; simp only [Act.put, List.setIfInBounds_toArray, List.set_cons_zero, List.set_cons_succ])
                          | (with_reducible refine gateG 75 ?_; go_guarded; refine wp_load isD (b := g7) (C := ER.cells e) (Eq.refl _) hB 1 rfl (ER.size _) ?_; simp only [Act.put, List.setIfInBounds_toArray, List.set_cons_zero, List.set_cons_succ]))
                        exact ⟨⟨i + 1, by omega, by go_num, ⟨X, lf2, la2, lw2, hB.sub (fun i => i) (fun i x h => by rcases i with _ | i <;> first | exact h | (simp at h)) (fun i j _ _ h => h), HMo.out.at_, HMo.out.ok⟩⟩, by simp [intOf]; omega⟩
                      · have u6 := (HS2.out rfl).1
                        rw [u6] at kX
                        replace HS2 := Hold.mk (HS2.out rfl).2
                        go_wp2_with (first
                          | (go_at_call 54; with_reducible refine (HS2.out _ hB.below).mono ?_; rintro r w1 ⟨rfl, hb1⟩; replace hB := hB.step hb1; have hc0 := hB.cell 0 rfl; have hc2 := hB.cell 2 rfl)
                          | (go_at_call 50; with_reducible refine (right_calls X lf2 la2 lw2 _ _ (HMo.out.at_.below hB.below) HMo.out.ok).mono ?_; rintro r w1 ⟨rfl, hb1⟩; replace hB := hB.step hb1; have hc0 := hB.cell 0 rfl; have hc2 := hB.cell 2 rfl)
                          | (go_at_call 52; with_reducible refine (of_calls e _).mono ?_; rintro r w1 ⟨rfl, hb1⟩; replace hB := hB.step hb1; have hc0 := hB.cell 0 rfl; have hc2 := hB.cell 2 rfl)
                          | (with_reducible refine gateA 75 ?_; refine wpl_alloc zeroD hB rfl ?_; intro W2 g11 hB; simp only [List.cons_append, List.nil_append] at hB; have hc0 := hB.cell 0 rfl; have hc2 := hB.cell 2 rfl)
                          | (with_reducible refine gateS 75 ?_; refine wpl_store isD rfl rfl hB 4 rfl (ER.size _) (ER.size _) (ER.one _) rfl ?_; intro W2 hB; simp only [List.set] at hB; have hc0 := hB.cell 0 rfl; have hc2 := hB.cell 2 rfl)
                          | (with_reducible refine gateS 70 ?_; refine wpl_store isE rfl rfl hB 0 rfl (ER.size _) (ER.size _) (ER.one _) rfl ?_; intro W2 hB; simp only [List.set] at hB; have hc0 := hB.cell 0 rfl; have hc2 := hB.cell 2 rfl)
                          | (with_reducible refine gateS 34 ?_; refine wpl_storeF (C' := ER.cells { e with f := X.f }) (V := VR.cells X.f) isV.size rfl rfl rfl hB 4 rfl rfl (by rw [ER.size]; omega) (VR.ones _) rfl rfl ?_; intro W2 hB; simp only [List.set] at hB; have hc0 := hB.cell 0 rfl; have hc2 := hB.cell 2 rfl)
                          | (with_reducible refine gateS 34 ?_; refine wpl_storeF (C' := ER.cells e) (V := VR.cells e.f) isV.size rfl rfl rfl hB 4 rfl rfl (by rw [ER.size]; omega) (VR.ones _) rfl rfl ?_; intro W2 hB; simp only [List.set] at hB; have hc0 := hB.cell 0 rfl; have hc2 := hB.cell 2 rfl)
                          | (with_reducible refine gateS 34 ?_; refine wpl_storeF (C' := ER.cells { e with v := X.v }) (V := VR.cells X.v) isV.size rfl rfl rfl hB 4 rfl rfl (by rw [ER.size]; omega) (VR.ones _) rfl rfl ?_; intro W2 hB; simp only [List.set] at hB; have hc0 := hB.cell 0 rfl; have hc2 := hB.cell 2 rfl)
                          | (with_reducible refine gateL 34 ?_; refine wpl_loadF isV (V := VR.cells X.f) rfl hB 2 rfl rfl rfl rfl ?_)
                          | (with_reducible refine gateL 34 ?_; refine wpl_loadF isV (V := VR.cells e.f) rfl hB 0 rfl rfl rfl rfl ?_)
                          | (with_reducible refine gateL 34 ?_; refine wpl_loadF isV (V := VR.cells X.v) rfl hB 2 rfl rfl rfl rfl ?_)
                          | (with_reducible refine gateL 70 ?_; refine wpl_load isE rfl hB 0 rfl (ER.size _) rfl ?_)
                          | (with_reducible refine gateL 70 ?_; refine wpl_load isE rfl hB 2 rfl (ER.size _) rfl ?_)
                          | (with_reducible refine gateG 70 ?_; go_guarded; refine wp_load isE (b := g8) (C := ER.cells X) (Eq.refl _) hB 2 rfl (ER.size _) ?_; simp only [Act.put, List.setIfInBounds_toArray, List.set_cons_zero, List.set_cons_succ])
                          | (with_reducible refine gateG 75 ?_; go_guarded; refine wp_load isD (b := g11) (C := ER.cells { e with f := X.f }) (Eq.refl _) hB 4 rfl (ER.size _) ?_; simp only [Act.put, List.setIfInBounds_toArray, List.set_cons_zero, List.set_cons_succ])
                          | (with_reducible refine gateG 75 ?_; go_guarded; refine wp_load isD (b := g11) (C := ER.cells { e with v := X.v }) (Eq.refl _) hB 4 rfl (ER.size _) ?_; simp only [Act.put, List.setIfInBounds_toArray, List.set_cons_zero, List.set_cons_succ])
                          | (with_reducible refine gateG 75 ?_; go_guarded; refine wp_load isD (b := g7) (C := ER.cells e) (Eq.refl _) hB 1 rfl (ER.size _) ?_; simp only [Act.put, List.setIfInBounds_toArray, List.set_cons_zero, List.set_cons_succ]))
                        exact ⟨⟨i + 1, by omega, by go_num, ⟨X, lf2, la2, lw2, hB.sub (fun i => i) (fun i x h => by rcases i with _ | i <;> first | exact h | (simp at h)) (fun i j _ _ h => h), HMo.out.at_, HMo.out.ok⟩⟩, by simp [intOf]; omega⟩
                · obtain ⟨u3, u4⟩ := HU3.out rfl
                  cases fr
                  · cases ft
                    · replace HS1 := Hold.mk (HS1.out rfl)
                      cases dn
                      · go_wp2_with (first
                          | (go_at_call 54; with_reducible refine (HS1.out _ hB.below).mono ?_; rintro r w1 ⟨rfl, hb1⟩; replace hB := hB.step hb1; have hc0 := hB.cell 0 rfl; have hc2 := hB.cell 2 rfl)
                          | (go_at_call 50; with_reducible refine (right_calls X lf2 la2 lw2 _ _ (HMo.out.at_.below hB.below) HMo.out.ok).mono ?_; rintro r w1 ⟨rfl, hb1⟩; replace hB := hB.step hb1; have hc0 := hB.cell 0 rfl; have hc2 := hB.cell 2 rfl)
                          | (go_at_call 52; with_reducible refine (of_calls e _).mono ?_; rintro r w1 ⟨rfl, hb1⟩; replace hB := hB.step hb1; have hc0 := hB.cell 0 rfl; have hc2 := hB.cell 2 rfl)
                          | (with_reducible refine gateA 75 ?_; refine wpl_alloc zeroD hB rfl ?_; intro W2 g11 hB; simp only [List.cons_append, List.nil_append] at hB; have hc0 := hB.cell 0 rfl; have hc2 := hB.cell 2 rfl)
                          | (with_reducible refine gateS 75 ?_; refine wpl_store isD rfl rfl hB 4 rfl (ER.size _) (ER.size _) (ER.one _) rfl ?_; intro W2 hB; simp only [List.set] at hB; have hc0 := hB.cell 0 rfl; have hc2 := hB.cell 2 rfl)
                          | (with_reducible refine gateS 70 ?_; refine wpl_store isE rfl rfl hB 0 rfl (ER.size _) (ER.size _) (ER.one _) rfl ?_; intro W2 hB; simp only [List.set] at hB; have hc0 := hB.cell 0 rfl; have hc2 := hB.cell 2 rfl)
                          | (with_reducible refine gateS 34 ?_; refine wpl_storeF (C' := ER.cells { e with f := X.f }) (V := VR.cells X.f) isV.size rfl rfl rfl hB 4 rfl rfl (by rw [ER.size]; omega) (VR.ones _) rfl rfl ?_; intro W2 hB; simp only [List.set] at hB; have hc0 := hB.cell 0 rfl; have hc2 := hB.cell 2 rfl)
                          | (with_reducible refine gateS 34 ?_; refine wpl_storeF (C' := ER.cells e) (V := VR.cells e.f) isV.size rfl rfl rfl hB 4 rfl rfl (by rw [ER.size]; omega) (VR.ones _) rfl rfl ?_; intro W2 hB; simp only [List.set] at hB; have hc0 := hB.cell 0 rfl; have hc2 := hB.cell 2 rfl)
                          | (with_reducible refine gateS 34 ?_; refine wpl_storeF (C' := ER.cells { e with v := X.v }) (V := VR.cells X.v) isV.size rfl rfl rfl hB 4 rfl rfl (by rw [ER.size]; omega) (VR.ones _) rfl rfl ?_; intro W2 hB; simp only [List.set] at hB; have hc0 := hB.cell 0 rfl; have hc2 := hB.cell 2 rfl)
                          | (with_reducible refine gateL 34 ?_; refine wpl_loadF isV (V := VR.cells X.f) rfl hB 2 rfl rfl rfl rfl ?_)
                          | (with_reducible refine gateL 34 ?_; refine wpl_loadF isV (V := VR.cells e.f) rfl hB 0 rfl rfl rfl rfl ?_)
                          | (with_reducible refine gateL 34 ?_; refine wpl_loadF isV (V := VR.cells X.v) rfl hB 2 rfl rfl rfl rfl ?_)
                          | (with_reducible refine gateL 70 ?_; refine wpl_load isE rfl hB 0 rfl (ER.size _) rfl ?_)
                          | (with_reducible refine gateL 70 ?_; refine wpl_load isE rfl hB 2 rfl (ER.size _) rfl ?_)
                          | (with_reducible refine gateG 70 ?_; go_guarded; refine wp_load isE (b := g8) (C := ER.cells X) (Eq.refl _) hB 2 rfl (ER.size _) ?_; simp only [Act.put, List.setIfInBounds_toArray, List.set_cons_zero, List.set_cons_succ])
                          | (with_reducible refine gateG 75 ?_; go_guarded; refine wp_load isD (b := g11) (C := ER.cells { e with f := X.f }) (Eq.refl _) hB 4 rfl (ER.size _) ?_; simp only [Act.put, List.setIfInBounds_toArray, List.set_cons_zero, List.set_cons_succ])
                          | (with_reducible refine gateG 75 ?_; go_guarded; refine wp_load isD (b := g11) (C := ER.cells { e with v := X.v }) (Eq.refl _) hB 4 rfl (ER.size _) ?_; simp only [Act.put, List.setIfInBounds_toArray, List.set_cons_zero, List.set_cons_succ])
                          | (with_reducible refine gateG 75 ?_; go_guarded; refine wp_load isD (b := g7) (C := ER.cells e) (Eq.refl _) hB 1 rfl (ER.size _) ?_; simp only [Act.put, List.setIfInBounds_toArray, List.set_cons_zero, List.set_cons_succ]))
                        exact ⟨⟨i + 1, by omega, by go_num, ⟨X, lf2, la2, lw2, hB.sub (fun i => i) (fun i x h => by rcases i with _ | i <;> first | exact h | (simp at h)) (fun i j _ _ h => h), HMo.out.at_, HMo.out.ok⟩⟩, by simp [intOf]; omega⟩
                      · have u6 := (HS2.out rfl).1
                        rw [u6] at kX
                        replace HS2 := Hold.mk (HS2.out rfl).2
                        go_wp2_with (first
                          | (go_at_call 54; with_reducible refine (HS2.out _ hB.below).mono ?_; rintro r w1 ⟨rfl, hb1⟩; replace hB := hB.step hb1; have hc0 := hB.cell 0 rfl; have hc2 := hB.cell 2 rfl)
                          | (go_at_call 54; with_reducible refine (HS1.out _ hB.below).mono ?_; rintro r w1 ⟨rfl, hb1⟩; replace hB := hB.step hb1; have hc0 := hB.cell 0 rfl; have hc2 := hB.cell 2 rfl)
                          | (go_at_call 50; with_reducible refine (right_calls X lf2 la2 lw2 _ _ (HMo.out.at_.below hB.below) HMo.out.ok).mono ?_; rintro r w1 ⟨rfl, hb1⟩; replace hB := hB.step hb1; have hc0 := hB.cell 0 rfl; have hc2 := hB.cell 2 rfl)
                          | (go_at_call 52; with_reducible refine (of_calls e _).mono ?_; rintro r w1 ⟨rfl, hb1⟩; replace hB := hB.step hb1; have hc0 := hB.cell 0 rfl; have hc2 := hB.cell 2 rfl)
                          | (with_reducible refine gateA 75 ?_; refine wpl_alloc zeroD hB rfl ?_; intro W2 g11 hB; simp only [List.cons_append, List.nil_append] at hB; have hc0 := hB.cell 0 rfl; have hc2 := hB.cell 2 rfl)
                          | (with_reducible refine gateS 75 ?_; refine wpl_store isD rfl rfl hB 4 rfl (ER.size _) (ER.size _) (ER.one _) rfl ?_; intro W2 hB; simp only [List.set] at hB; have hc0 := hB.cell 0 rfl; have hc2 := hB.cell 2 rfl)
                          | (with_reducible refine gateS 70 ?_; refine wpl_store isE rfl rfl hB 0 rfl (ER.size _) (ER.size _) (ER.one _) rfl ?_; intro W2 hB; simp only [List.set] at hB; have hc0 := hB.cell 0 rfl; have hc2 := hB.cell 2 rfl)
                          | (with_reducible refine gateS 34 ?_; refine wpl_storeF (C' := ER.cells { e with f := X.f }) (V := VR.cells X.f) isV.size rfl rfl rfl hB 4 rfl rfl (by rw [ER.size]; omega) (VR.ones _) rfl rfl ?_; intro W2 hB; simp only [List.set] at hB; have hc0 := hB.cell 0 rfl; have hc2 := hB.cell 2 rfl)
                          | (with_reducible refine gateS 34 ?_; refine wpl_storeF (C' := ER.cells e) (V := VR.cells e.f) isV.size rfl rfl rfl hB 4 rfl rfl (by rw [ER.size]; omega) (VR.ones _) rfl rfl ?_; intro W2 hB; simp only [List.set] at hB; have hc0 := hB.cell 0 rfl; have hc2 := hB.cell 2 rfl)
                          | (with_reducible refine gateS 34 ?_; refine wpl_storeF (C' := ER.cells { e with v := X.v }) (V := VR.cells X.v) isV.size rfl rfl rfl hB 4 rfl rfl (by rw [ER.size]; omega) (VR.ones _) rfl rfl ?_; intro W2 hB; simp only [List.set] at hB; have hc0 := hB.cell 0 rfl; have hc2 := hB.cell 2 rfl)
                          | (with_reducible refine gateL 34 ?_; refine wpl_loadF isV (V := VR.cells X.f) rfl hB 2 rfl rfl rfl rfl ?_)
                          | (with_reducible refine gateL 34 ?_; refine wpl_loadF isV (V := VR.cells e.f) rfl hB 0 rfl rfl rfl rfl ?_)
                          | (with_reducible refine gateL 34 ?_; refine wpl_loadF isV (V := VR.cells X.v) rfl hB 2 rfl rfl rfl rfl ?_)
                          | (with_reducible refine gateL 70 ?_; refine wpl_load isE rfl hB 0 rfl (ER.size _) rfl ?_)
                          | (with_reducible refine gateL 70 ?_; refine wpl_load isE rfl hB 2 rfl (ER.size _) rfl ?_)
                          | (with_reducible refine gateG 70 ?_; go_guarded; refine wp_load isE (b := g8) (C := ER.cells X) (Eq.refl _) hB 2 rfl (ER.size _) ?_; simp only [Act.put, List.setIfInBounds_toArray, List.set_cons_zero, List.set_cons_succ])
                          | (with_reducible refine gateG 75 ?_; go_guarded; refine wp_load isD (b := g11) (C := ER.cells { e with f := X.f }) (Eq.refl _) hB 4 rfl (ER.size _) ?_; simp only [Act.put, List.setIfInBounds_toArray, List.set_cons_zero, List.set_cons_succ])
                          | (with_reducible refine gateG 75 ?_; go_guarded; refine wp_load isD (b := g11) (C := ER.cells { e with v := X.v }) (Eq.refl _) hB 4 rfl (ER.size _) ?_; simp only [Act.put, List.setIfInBounds_toArray, List.set_cons_zero, List.set_cons_succ])
                          | (with_reducible refine gateG 75 ?_; go_guarded; refine wp_load isD (b := g7) (C := ER.cells e) (Eq.refl _) hB 1 rfl (ER.size _) ?_; simp only [Act.put, List.setIfInBounds_toArray, List.set_cons_zero, List.set_cons_succ]))
                        exact ⟨⟨i + 1, by omega, by go_num, ⟨X, lf2, la2, lw2, hB.sub (fun i => i) (fun i x h => by rcases i with _ | i <;> first | exact h | (simp at h)) (fun i j _ _ h => h), HMo.out.at_, HMo.out.ok⟩⟩, by simp [intOf]; omega⟩
                    · cases dn
                      · go_wp2_with (first
                          | (go_at_call 50; with_reducible refine (right_calls X lf2 la2 lw2 _ _ (HMo.out.at_.below hB.below) HMo.out.ok).mono ?_; rintro r w1 ⟨rfl, hb1⟩; replace hB := hB.step hb1; have hc0 := hB.cell 0 rfl; have hc2 := hB.cell 2 rfl)
                          | (go_at_call 52; with_reducible refine (of_calls e _).mono ?_; rintro r w1 ⟨rfl, hb1⟩; replace hB := hB.step hb1; have hc0 := hB.cell 0 rfl; have hc2 := hB.cell 2 rfl)
                          | (with_reducible refine gateA 75 ?_; refine wpl_alloc zeroD hB rfl ?_; intro W2 g11 hB; simp only [List.cons_append, List.nil_append] at hB; have hc0 := hB.cell 0 rfl; have hc2 := hB.cell 2 rfl)
                          | (with_reducible refine gateS 75 ?_; refine wpl_store isD rfl rfl hB 4 rfl (ER.size _) (ER.size _) (ER.one _) rfl ?_; intro W2 hB; simp only [List.set] at hB; have hc0 := hB.cell 0 rfl; have hc2 := hB.cell 2 rfl)
                          | (with_reducible refine gateS 70 ?_; refine wpl_store isE rfl rfl hB 0 rfl (ER.size _) (ER.size _) (ER.one _) rfl ?_; intro W2 hB; simp only [List.set] at hB; have hc0 := hB.cell 0 rfl; have hc2 := hB.cell 2 rfl)
                          | (with_reducible refine gateS 34 ?_; refine wpl_storeF (C' := ER.cells { e with f := X.f }) (V := VR.cells X.f) isV.size rfl rfl rfl hB 4 rfl rfl (by rw [ER.size]; omega) (VR.ones _) rfl rfl ?_; intro W2 hB; simp only [List.set] at hB; have hc0 := hB.cell 0 rfl; have hc2 := hB.cell 2 rfl)
                          | (with_reducible refine gateS 34 ?_; refine wpl_storeF (C' := ER.cells e) (V := VR.cells e.f) isV.size rfl rfl rfl hB 4 rfl rfl (by rw [ER.size]; omega) (VR.ones _) rfl rfl ?_; intro W2 hB; simp only [List.set] at hB; have hc0 := hB.cell 0 rfl; have hc2 := hB.cell 2 rfl)
                          | (with_reducible refine gateS 34 ?_; refine wpl_storeF (C' := ER.cells { e with v := X.v }) (V := VR.cells X.v) isV.size rfl rfl rfl hB 4 rfl rfl (by rw [ER.size]; omega) (VR.ones _) rfl rfl ?_; intro W2 hB; simp only [List.set] at hB; have hc0 := hB.cell 0 rfl; have hc2 := hB.cell 2 rfl)
                          | (with_reducible refine gateL 34 ?_; refine wpl_loadF isV (V := VR.cells X.f) rfl hB 2 rfl rfl rfl rfl ?_)
                          | (with_reducible refine gateL 34 ?_; refine wpl_loadF isV (V := VR.cells e.f) rfl hB 0 rfl rfl rfl rfl ?_)
                          | (with_reducible refine gateL 34 ?_; refine wpl_loadF isV (V := VR.cells X.v) rfl hB 2 rfl rfl rfl rfl ?_)
                          | (with_reducible refine gateL 70 ?_; refine wpl_load isE rfl hB 0 rfl (ER.size _) rfl ?_)
                          | (with_reducible refine gateL 70 ?_; refine wpl_load isE rfl hB 2 rfl (ER.size _) rfl ?_)
                          | (with_reducible refine gateG 70 ?_; go_guarded; refine wp_load isE (b := g8) (C := ER.cells X) (Eq.refl _) hB 2 rfl (ER.size _) ?_; simp only [Act.put, List.setIfInBounds_toArray, List.set_cons_zero, List.set_cons_succ])
                          | (with_reducible refine gateG 75 ?_; go_guarded; refine wp_load isD (b := g11) (C := ER.cells { e with f := X.f }) (Eq.refl _) hB 4 rfl (ER.size _) ?_; simp only [Act.put, List.setIfInBounds_toArray, List.set_cons_zero, List.set_cons_succ])
                          | (with_reducible refine gateG 75 ?_; go_guarded; refine wp_load isD (b := g11) (C := ER.cells { e with v := X.v }) (Eq.refl _) hB 4 rfl (ER.size _) ?_; simp only [Act.put, List.setIfInBounds_toArray, List.set_cons_zero, List.set_cons_succ])
                          | (with_reducible refine gateG 75 ?_; go_guarded; refine wp_load isD (b := g7) (C := ER.cells e) (Eq.refl _) hB 1 rfl (ER.size _) ?_; simp only [Act.put, List.setIfInBounds_toArray, List.set_cons_zero, List.set_cons_succ]))
                        exact ⟨⟨i + 1, by omega, by go_num, ⟨X, lf2, la2, lw2, hB.sub (fun i => i) (fun i x h => by rcases i with _ | i <;> first | exact h | (simp at h)) (fun i j _ _ h => h), HMo.out.at_, HMo.out.ok⟩⟩, by simp [intOf]; omega⟩
                      · have u6 := (HS2.out rfl).1
                        rw [u6] at kX
                        replace HS2 := Hold.mk (HS2.out rfl).2
                        go_wp2_with (first
                          | (go_at_call 54; with_reducible refine (HS2.out _ hB.below).mono ?_; rintro r w1 ⟨rfl, hb1⟩; replace hB := hB.step hb1; have hc0 := hB.cell 0 rfl; have hc2 := hB.cell 2 rfl)
                          | (go_at_call 50; with_reducible refine (right_calls X lf2 la2 lw2 _ _ (HMo.out.at_.below hB.below) HMo.out.ok).mono ?_; rintro r w1 ⟨rfl, hb1⟩; replace hB := hB.step hb1; have hc0 := hB.cell 0 rfl; have hc2 := hB.cell 2 rfl)
                          | (go_at_call 52; with_reducible refine (of_calls e _).mono ?_; rintro r w1 ⟨rfl, hb1⟩; replace hB := hB.step hb1; have hc0 := hB.cell 0 rfl; have hc2 := hB.cell 2 rfl)
                          | (with_reducible refine gateA 75 ?_; refine wpl_alloc zeroD hB rfl ?_; intro W2 g11 hB; simp only [List.cons_append, List.nil_append] at hB; have hc0 := hB.cell 0 rfl; have hc2 := hB.cell 2 rfl)
                          | (with_reducible refine gateS 75 ?_; refine wpl_store isD rfl rfl hB 4 rfl (ER.size _) (ER.size _) (ER.one _) rfl ?_; intro W2 hB; simp only [List.set] at hB; have hc0 := hB.cell 0 rfl; have hc2 := hB.cell 2 rfl)
                          | (with_reducible refine gateS 70 ?_; refine wpl_store isE rfl rfl hB 0 rfl (ER.size _) (ER.size _) (ER.one _) rfl ?_; intro W2 hB; simp only [List.set] at hB; have hc0 := hB.cell 0 rfl; have hc2 := hB.cell 2 rfl)
                          | (with_reducible refine gateS 34 ?_; refine wpl_storeF (C' := ER.cells { e with f := X.f }) (V := VR.cells X.f) isV.size rfl rfl rfl hB 4 rfl rfl (by rw [ER.size]; omega) (VR.ones _) rfl rfl ?_; intro W2 hB; simp only [List.set] at hB; have hc0 := hB.cell 0 rfl; have hc2 := hB.cell 2 rfl)
                          | (with_reducible refine gateS 34 ?_; refine wpl_storeF (C' := ER.cells e) (V := VR.cells e.f) isV.size rfl rfl rfl hB 4 rfl rfl (by rw [ER.size]; omega) (VR.ones _) rfl rfl ?_; intro W2 hB; simp only [List.set] at hB; have hc0 := hB.cell 0 rfl; have hc2 := hB.cell 2 rfl)
                          | (with_reducible refine gateS 34 ?_; refine wpl_storeF (C' := ER.cells { e with v := X.v }) (V := VR.cells X.v) isV.size rfl rfl rfl hB 4 rfl rfl (by rw [ER.size]; omega) (VR.ones _) rfl rfl ?_; intro W2 hB; simp only [List.set] at hB; have hc0 := hB.cell 0 rfl; have hc2 := hB.cell 2 rfl)
                          | (with_reducible refine gateL 34 ?_; refine wpl_loadF isV (V := VR.cells X.f) rfl hB 2 rfl rfl rfl rfl ?_)
                          | (with_reducible refine gateL 34 ?_; refine wpl_loadF isV (V := VR.cells e.f) rfl hB 0 rfl rfl rfl rfl ?_)
                          | (with_reducible refine gateL 34 ?_; refine wpl_loadF isV (V := VR.cells X.v) rfl hB 2 rfl rfl rfl rfl ?_)
                          | (with_reducible refine gateL 70 ?_; refine wpl_load isE rfl hB 0 rfl (ER.size _) rfl ?_)
                          | (with_reducible refine gateL 70 ?_; refine wpl_load isE rfl hB 2 rfl (ER.size _) rfl ?_)
                          | (with_reducible refine gateG 70 ?_; go_guarded; refine wp_load isE (b := g8) (C := ER.cells X) (Eq.refl _) hB 2 rfl (ER.size _) ?_; simp only [Act.put, List.setIfInBounds_toArray, List.set_cons_zero, List.set_cons_succ])
                          | (with_reducible refine gateG 75 ?_; go_guarded; refine wp_load isD (b := g11) (C := ER.cells { e with f := X.f }) (Eq.refl _) hB 4 rfl (ER.size _) ?_; simp only [Act.put, List.setIfInBounds_toArray, List.set_cons_zero, List.set_cons_succ])
                          | (with_reducible refine gateG 75 ?_; go_guarded; refine wp_load isD (b := g11) (C := ER.cells { e with v := X.v }) (Eq.refl _) hB 4 rfl (ER.size _) ?_; simp only [Act.put, List.setIfInBounds_toArray, List.set_cons_zero, List.set_cons_succ])
                          | (with_reducible refine gateG 75 ?_; go_guarded; refine wp_load isD (b := g7) (C := ER.cells e) (Eq.refl _) hB 1 rfl (ER.size _) ?_; simp only [Act.put, List.setIfInBounds_toArray, List.set_cons_zero, List.set_cons_succ]))
                        exact ⟨⟨i + 1, by omega, by go_num, ⟨X, lf2, la2, lw2, hB.sub (fun i => i) (fun i x h => by rcases i with _ | i <;> first | exact h | (simp at h)) (fun i j _ _ h => h), HMo.out.at_, HMo.out.ok⟩⟩, by simp [intOf]; omega⟩
                  · have u5 := HU4.out rfl
                    rw [u5] at kX
                    cases ft
                    · replace HS1 := Hold.mk (HS1.out rfl)
                      cases dn
                      · go_wp2_with (first
                          | (go_at_call 54; with_reducible refine (HS1.out _ hB.below).mono ?_; rintro r w1 ⟨rfl, hb1⟩; replace hB := hB.step hb1; have hc0 := hB.cell 0 rfl; have hc2 := hB.cell 2 rfl)
                          | (go_at_call 50; with_reducible refine (right_calls X lf2 la2 lw2 _ _ (HMo.out.at_.below hB.below) HMo.out.ok).mono ?_; rintro r w1 ⟨rfl, hb1⟩; replace hB := hB.step hb1; have hc0 := hB.cell 0 rfl; have hc2 := hB.cell 2 rfl)
                          | (go_at_call 52; with_reducible refine (of_calls e _).mono ?_; rintro r w1 ⟨rfl, hb1⟩; replace hB := hB.step hb1; have hc0 := hB.cell 0 rfl; have hc2 := hB.cell 2 rfl)
                          | (with_reducible refine gateA 75 ?_; refine wpl_alloc zeroD hB rfl ?_; intro W2 g11 hB; simp only [List.cons_append, List.nil_append] at hB; have hc0 := hB.cell 0 rfl; have hc2 := hB.cell 2 rfl)
                          | (with_reducible refine gateS 75 ?_; refine wpl_store isD rfl rfl hB 4 rfl (ER.size _) (ER.size _) (ER.one _) rfl ?_; intro W2 hB; simp only [List.set] at hB; have hc0 := hB.cell 0 rfl; have hc2 := hB.cell 2 rfl)
                          | (with_reducible refine gateS 70 ?_; refine wpl_store isE rfl rfl hB 0 rfl (ER.size _) (ER.size _) (ER.one _) rfl ?_; intro W2 hB; simp only [List.set] at hB; have hc0 := hB.cell 0 rfl; have hc2 := hB.cell 2 rfl)
                          | (with_reducible refine gateS 34 ?_; refine wpl_storeF (C' := ER.cells { e with f := X.f }) (V := VR.cells X.f) isV.size rfl rfl rfl hB 4 rfl rfl (by rw [ER.size]; omega) (VR.ones _) rfl rfl ?_; intro W2 hB; simp only [List.set] at hB; have hc0 := hB.cell 0 rfl; have hc2 := hB.cell 2 rfl)
                          | (with_reducible refine gateS 34 ?_; refine wpl_storeF (C' := ER.cells e) (V := VR.cells e.f) isV.size rfl rfl rfl hB 4 rfl rfl (by rw [ER.size]; omega) (VR.ones _) rfl rfl ?_; intro W2 hB; simp only [List.set] at hB; have hc0 := hB.cell 0 rfl; have hc2 := hB.cell 2 rfl)
                          | (with_reducible refine gateS 34 ?_; refine wpl_storeF (C' := ER.cells { e with v := X.v }) (V := VR.cells X.v) isV.size rfl rfl rfl hB 4 rfl rfl (by rw [ER.size]; omega) (VR.ones _) rfl rfl ?_; intro W2 hB; simp only [List.set] at hB; have hc0 := hB.cell 0 rfl; have hc2 := hB.cell 2 rfl)
                          | (with_reducible refine gateL 34 ?_; refine wpl_loadF isV (V := VR.cells X.f) rfl hB 2 rfl rfl rfl rfl ?_)
                          | (with_reducible refine gateL 34 ?_; refine wpl_loadF isV (V := VR.cells e.f) rfl hB 0 rfl rfl rfl rfl ?_)
                          | (with_reducible refine gateL 34 ?_; refine wpl_loadF isV (V := VR.cells X.v) rfl hB 2 rfl rfl rfl rfl ?_)
                          | (with_reducible refine gateL 70 ?_; refine wpl_load isE rfl hB 0 rfl (ER.size _) rfl ?_)
                          | (with_reducible refine gateL 70 ?_; refine wpl_load isE rfl hB 2 rfl (ER.size _) rfl ?_)
                          | (with_reducible refine gateG 70 ?_; go_guarded; refine wp_load isE (b := g8) (C := ER.cells X) (Eq.refl _) hB 2 rfl (ER.size _) ?_; simp only [Act.put, List.setIfInBounds_toArray, List.set_cons_zero, List.set_cons_succ])
                          | (with_reducible refine gateG 75 ?_; go_guarded; refine wp_load isD (b := g11) (C := ER.cells { e with f := X.f }) (Eq.refl _) hB 4 rfl (ER.size _) ?_; simp only [Act.put, List.setIfInBounds_toArray, List.set_cons_zero, List.set_cons_succ])
                          | (with_reducible refine gateG 75 ?_; go_guarded; refine wp_load isD (b := g11) (C := ER.cells { e with v := X.v }) (Eq.refl _) hB 4 rfl (ER.size _) ?_; simp only [Act.put, List.setIfInBounds_toArray, List.set_cons_zero, List.set_cons_succ])
                          | (with_reducible refine gateG 75 ?_; go_guarded; refine wp_load isD (b := g7) (C := ER.cells e) (Eq.refl _) hB 1 rfl (ER.size _) ?_; simp only [Act.put, List.setIfInBounds_toArray, List.set_cons_zero, List.set_cons_succ]))
                        exact ⟨⟨i + 1, by omega, by go_num, ⟨X, lf2, la2, lw2, hB.sub (fun i => i) (fun i x h => by rcases i with _ | i <;> first | exact h | (simp at h)) (fun i j _ _ h => h), HMo.out.at_, HMo.out.ok⟩⟩, by simp [intOf]; omega⟩
                      · have u6 := (HS2.out rfl).1
                        rw [u6] at kX
                        replace HS2 := Hold.mk (HS2.out rfl).2
                        go_wp2_with (first
                          | (go_at_call 54; with_reducible refine (HS2.out _ hB.below).mono ?_; rintro r w1 ⟨rfl, hb1⟩; replace hB := hB.step hb1; have hc0 := hB.cell 0 rfl; have hc2 := hB.cell 2 rfl)
                          | (go_at_call 54; with_reducible refine (HS1.out _ hB.below).mono ?_; rintro r w1 ⟨rfl, hb1⟩; replace hB := hB.step hb1; have hc0 := hB.cell 0 rfl; have hc2 := hB.cell 2 rfl)
                          | (go_at_call 50; with_reducible refine (right_calls X lf2 la2 lw2 _ _ (HMo.out.at_.below hB.below) HMo.out.ok).mono ?_; rintro r w1 ⟨rfl, hb1⟩; replace hB := hB.step hb1; have hc0 := hB.cell 0 rfl; have hc2 := hB.cell 2 rfl)
                          | (go_at_call 52; with_reducible refine (of_calls e _).mono ?_; rintro r w1 ⟨rfl, hb1⟩; replace hB := hB.step hb1; have hc0 := hB.cell 0 rfl; have hc2 := hB.cell 2 rfl)
                          | (with_reducible refine gateA 75 ?_; refine wpl_alloc zeroD hB rfl ?_; intro W2 g11 hB; simp only [List.cons_append, List.nil_append] at hB; have hc0 := hB.cell 0 rfl; have hc2 := hB.cell 2 rfl)
                          | (with_reducible refine gateS 75 ?_; refine wpl_store isD rfl rfl hB 4 rfl (ER.size _) (ER.size _) (ER.one _) rfl ?_; intro W2 hB; simp only [List.set] at hB; have hc0 := hB.cell 0 rfl; have hc2 := hB.cell 2 rfl)
                          | (with_reducible refine gateS 70 ?_; refine wpl_store isE rfl rfl hB 0 rfl (ER.size _) (ER.size _) (ER.one _) rfl ?_; intro W2 hB; simp only [List.set] at hB; have hc0 := hB.cell 0 rfl; have hc2 := hB.cell 2 rfl)
                          | (with_reducible refine gateS 34 ?_; refine wpl_storeF (C' := ER.cells { e with f := X.f }) (V := VR.cells X.f) isV.size rfl rfl rfl hB 4 rfl rfl (by rw [ER.size]; omega) (VR.ones _) rfl rfl ?_; intro W2 hB; simp only [List.set] at hB; have hc0 := hB.cell 0 rfl; have hc2 := hB.cell 2 rfl)
                          | (with_reducible refine gateS 34 ?_; refine wpl_storeF (C' := ER.cells e) (V := VR.cells e.f) isV.size rfl rfl rfl hB 4 rfl rfl (by rw [ER.size]; omega) (VR.ones _) rfl rfl ?_; intro W2 hB; simp only [List.set] at hB; have hc0 := hB.cell 0 rfl; have hc2 := hB.cell 2 rfl)
                          | (with_reducible refine gateS 34 ?_; refine wpl_storeF (C' := ER.cells { e with v := X.v }) (V := VR.cells X.v) isV.size rfl rfl rfl hB 4 rfl rfl (by rw [ER.size]; omega) (VR.ones _) rfl rfl ?_; intro W2 hB; simp only [List.set] at hB; have hc0 := hB.cell 0 rfl; have hc2 := hB.cell 2 rfl)
                          | (with_reducible refine gateL 34 ?_; refine wpl_loadF isV (V := VR.cells X.f) rfl hB 2 rfl rfl rfl rfl ?_)
                          | (with_reducible refine gateL 34 ?_; refine wpl_loadF isV (V := VR.cells e.f) rfl hB 0 rfl rfl rfl rfl ?_)
                          | (with_reducible refine gateL 34 ?_; refine wpl_loadF isV (V := VR.cells X.v) rfl hB 2 rfl rfl rfl rfl ?_)
                          | (with_reducible refine gateL 70 ?_; refine wpl_load isE rfl hB 0 rfl (ER.size _) rfl ?_)
                          | (with_reducible refine gateL 70 ?_; refine wpl_load isE rfl hB 2 rfl (ER.size _) rfl ?_)
                          | (with_reducible refine gateG 70 ?_; go_guarded; refine wp_load isE (b := g8) (C := ER.cells X) (Eq.refl _) hB 2 rfl (ER.size _) ?_; simp only [Act.put, List.setIfInBounds_toArray, List.set_cons_zero, List.set_cons_succ])
                          | (with_reducible refine gateG 75 ?_; go_guarded; refine wp_load isD (b := g11) (C := ER.cells { e with f := X.f }) (Eq.refl _) hB 4 rfl (ER.size _) ?_; simp only [Act.put, List.setIfInBounds_toArray, List.set_cons_zero, List.set_cons_succ])
                          | (with_reducible refine gateG 75 ?_; go_guarded; refine wp_load isD (b := g11) (C := ER.cells { e with v := X.v }) (Eq.refl _) hB 4 rfl (ER.size _) ?_; simp only [Act.put, List.setIfInBounds_toArray, List.set_cons_zero, List.set_cons_succ])
                          | (with_reducible refine gateG 75 ?_; go_guarded; refine wp_load isD (b := g7) (C := ER.cells e) (Eq.refl _) hB 1 rfl (ER.size _) ?_; simp only [Act.put, List.setIfInBounds_toArray, List.set_cons_zero, List.set_cons_succ]))
                        exact ⟨⟨i + 1, by omega, by go_num, ⟨X, lf2, la2, lw2, hB.sub (fun i => i) (fun i x h => by rcases i with _ | i <;> first | exact h | (simp at h)) (fun i j _ _ h => h), HMo.out.at_, HMo.out.ok⟩⟩, by simp [intOf]; omega⟩
                    · cases dn
                      · go_wp2_with (first
                          | (go_at_call 50; with_reducible refine (right_calls X lf2 la2 lw2 _ _ (HMo.out.at_.below hB.below) HMo.out.ok).mono ?_; rintro r w1 ⟨rfl, hb1⟩; replace hB := hB.step hb1; have hc0 := hB.cell 0 rfl; have hc2 := hB.cell 2 rfl)
                          | (go_at_call 52; with_reducible refine (of_calls e _).mono ?_; rintro r w1 ⟨rfl, hb1⟩; replace hB := hB.step hb1; have hc0 := hB.cell 0 rfl; have hc2 := hB.cell 2 rfl)
                          | (with_reducible refine gateA 75 ?_; refine wpl_alloc zeroD hB rfl ?_; intro W2 g11 hB; simp only [List.cons_append, List.nil_append] at hB; have hc0 := hB.cell 0 rfl; have hc2 := hB.cell 2 rfl)
                          | (with_reducible refine gateS 75 ?_; refine wpl_store isD rfl rfl hB 4 rfl (ER.size _) (ER.size _) (ER.one _) rfl ?_; intro W2 hB; simp only [List.set] at hB; have hc0 := hB.cell 0 rfl; have hc2 := hB.cell 2 rfl)
                          | (with_reducible refine gateS 70 ?_; refine wpl_store isE rfl rfl hB 0 rfl (ER.size _) (ER.size _) (ER.one _) rfl ?_; intro W2 hB; simp only [List.set] at hB; have hc0 := hB.cell 0 rfl; have hc2 := hB.cell 2 rfl)
                          | (with_reducible refine gateS 34 ?_; refine wpl_storeF (C' := ER.cells { e with f := X.f }) (V := VR.cells X.f) isV.size rfl rfl rfl hB 4 rfl rfl (by rw [ER.size]; omega) (VR.ones _) rfl rfl ?_; intro W2 hB; simp only [List.set] at hB; have hc0 := hB.cell 0 rfl; have hc2 := hB.cell 2 rfl)
                          | (with_reducible refine gateS 34 ?_; refine wpl_storeF (C' := ER.cells e) (V := VR.cells e.f) isV.size rfl rfl rfl hB 4 rfl rfl (by rw [ER.size]; omega) (VR.ones _) rfl rfl ?_; intro W2 hB; simp only [List.set] at hB; have hc0 := hB.cell 0 rfl; have hc2 := hB.cell 2 rfl)
                          | (with_reducible refine gateS 34 ?_; refine wpl_storeF (C' := ER.cells { e with v := X.v }) (V := VR.cells X.v) isV.size rfl rfl rfl hB 4 rfl rfl (by rw [ER.size]; omega) (VR.ones _) rfl rfl ?_; intro W2 hB; simp only [List.set] at hB; have hc0 := hB.cell 0 rfl; have hc2 := hB.cell 2 rfl)
                          | (with_reducible refine gateL 34 ?_; refine wpl_loadF isV (V := VR.cells X.f) rfl hB 2 rfl rfl rfl rfl ?_)
                          | (with_reducible refine gateL 34 ?_; refine wpl_loadF isV (V := VR.cells e.f) rfl hB 0 rfl rfl rfl rfl ?_)
                          | (with_reducible refine gateL 34 ?_; refine wpl_loadF isV (V := VR.cells X.v) rfl hB 2 rfl rfl rfl rfl ?_)
                          | (with_reducible refine gateL 70 ?_; refine wpl_load isE rfl hB 0 rfl (ER.size _) rfl ?_)
                          | (with_reducible refine gateL 70 ?_; refine wpl_load isE rfl hB 2 rfl (ER.size _) rfl ?_)
                          | (with_reducible refine gateG 70 ?_; go_guarded; refine wp_load isE (b := g8) (C := ER.cells X) (Eq.refl _) hB 2 rfl (ER.size _) ?_; simp only [Act.put, List.setIfInBounds_toArray, List.set_cons_zero, List.set_cons_succ])
                          | (with_reducible refine gateG 75 ?_; go_guarded; refine wp_load isD (b := g11) (C := ER.cells { e with f := X.f }) (Eq.refl _) hB 4 rfl (ER.size _) ?_; simp only [Act.put, List.setIfInBounds_toArray, List.set_cons_zero, List.set_cons_succ])
                          | (with_reducible refine gateG 75 ?_; go_guarded; refine wp_load isD (b := g11) (C := ER.cells { e with v := X.v }) (Eq.refl _) hB 4 rfl (ER.size _) ?_; simp only [Act.put, List.setIfInBounds_toArray, List.set_cons_zero, List.set_cons_succ])
                          | (with_reducible refine gateG 75 ?_; go_guarded; refine wp_load isD (b := g7) (C := ER.cells e) (Eq.refl _) hB 1 rfl (ER.size _) ?_; simp only [Act.put, List.setIfInBounds_toArray, List.set_cons_zero, List.set_cons_succ]))
                        exact ⟨⟨i + 1, by omega, by go_num, ⟨X, lf2, la2, lw2, hB.sub (fun i => i) (fun i x h => by rcases i with _ | i <;> first | exact h | (simp at h)) (fun i j _ _ h => h), HMo.out.at_, HMo.out.ok⟩⟩, by simp [intOf]; omega⟩
                      · have u6 := (HS2.out rfl).1
                        rw [u6] at kX
                        replace HS2 := Hold.mk (HS2.out rfl).2
                        go_wp2_with (first
                          | (go_at_call 54; with_reducible refine (HS2.out _ hB.below).mono ?_; rintro r w1 ⟨rfl, hb1⟩; replace hB := hB.step hb1; have hc0 := hB.cell 0 rfl; have hc2 := hB.cell 2 rfl)
                          | (go_at_call 50; with_reducible refine (right_calls X lf2 la2 lw2 _ _ (HMo.out.at_.below hB.below) HMo.out.ok).mono ?_; rintro r w1 ⟨rfl, hb1⟩; replace hB := hB.step hb1; have hc0 := hB.cell 0 rfl; have hc2 := hB.cell 2 rfl)
                          | (go_at_call 52; with_reducible refine (of_calls e _).mono ?_; rintro r w1 ⟨rfl, hb1⟩; replace hB := hB.step hb1; have hc0 := hB.cell 0 rfl; have hc2 := hB.cell 2 rfl)
                          | (with_reducible refine gateA 75 ?_; refine wpl_alloc zeroD hB rfl ?_; intro W2 g11 hB; simp only [List.cons_append, List.nil_append] at hB; have hc0 := hB.cell 0 rfl; have hc2 := hB.cell 2 rfl)
                          | (with_reducible refine gateS 75 ?_; refine wpl_store isD rfl rfl hB 4 rfl (ER.size _) (ER.size _) (ER.one _) rfl ?_; intro W2 hB; simp only [List.set] at hB; have hc0 := hB.cell 0 rfl; have hc2 := hB.cell 2 rfl)
                          | (with_reducible refine gateS 70 ?_; refine wpl_store isE rfl rfl hB 0 rfl (ER.size _) (ER.size _) (ER.one _) rfl ?_; intro W2 hB; simp only [List.set] at hB; have hc0 := hB.cell 0 rfl; have hc2 := hB.cell 2 rfl)
                          | (with_reducible refine gateS 34 ?_; refine wpl_storeF (C' := ER.cells { e with f := X.f }) (V := VR.cells X.f) isV.size rfl rfl rfl hB 4 rfl rfl (by rw [ER.size]; omega) (VR.ones _) rfl rfl ?_; intro W2 hB; simp only [List.set] at hB; have hc0 := hB.cell 0 rfl; have hc2 := hB.cell 2 rfl)
                          | (with_reducible refine gateS 34 ?_; refine wpl_storeF (C' := ER.cells e) (V := VR.cells e.f) isV.size rfl rfl rfl hB 4 rfl rfl (by rw [ER.size]; omega) (VR.ones _) rfl rfl ?_; intro W2 hB; simp only [List.set] at hB; have hc0 := hB.cell 0 rfl; have hc2 := hB.cell 2 rfl)
                          | (with_reducible refine gateS 34 ?_; refine wpl_storeF (C' := ER.cells { e with v := X.v }) (V := VR.cells X.v) isV.size rfl rfl rfl hB 4 rfl rfl (by rw [ER.size]; omega) (VR.ones _) rfl rfl ?_; intro W2 hB; simp only [List.set] at hB; have hc0 := hB.cell 0 rfl; have hc2 := hB.cell 2 rfl)
                          | (with_reducible refine gateL 34 ?_; refine wpl_loadF isV (V := VR.cells X.f) rfl hB 2 rfl rfl rfl rfl ?_)
                          | (with_reducible refine gateL 34 ?_; refine wpl_loadF isV (V := VR.cells e.f) rfl hB 0 rfl rfl rfl rfl ?_)
                          | (with_reducible refine gateL 34 ?_; refine wpl_loadF isV (V := VR.cells X.v) rfl hB 2 rfl rfl rfl rfl ?_)
                          | (with_reducible refine gateL 70 ?_; refine wpl_load isE rfl hB 0 rfl (ER.size _) rfl ?_)
                          | (with_reducible refine gateL 70 ?_; refine wpl_load isE rfl hB 2 rfl (ER.size _) rfl ?_)
                          | (with_reducible refine gateG 70 ?_; go_guarded; refine wp_load isE (b := g8) (C := ER.cells X) (Eq.refl _) hB 2 rfl (ER.size _) ?_; simp only [Act.put, List.setIfInBounds_toArray, List.set_cons_zero, List.set_cons_succ])
                          | (with_reducible refine gateG 75 ?_; go_guarded; refine wp_load isD (b := g11) (C := ER.cells { e with f := X.f }) (Eq.refl _) hB 4 rfl (ER.size _) ?_; simp only [Act.put, List.setIfInBounds_toArray, List.set_cons_zero, List.set_cons_succ])
                          | (with_reducible refine gateG 75 ?_; go_guarded; refine wp_load isD (b := g11) (C := ER.cells { e with v := X.v }) (Eq.refl _) hB 4 rfl (ER.size _) ?_; simp only [Act.put, List.setIfInBounds_toArray, List.set_cons_zero, List.set_cons_succ])
                          | (with_reducible refine gateG 75 ?_; go_guarded; refine wp_load isD (b := g7) (C := ER.cells e) (Eq.refl _) hB 1 rfl (ER.size _) ?_; simp only [Act.put, List.setIfInBounds_toArray, List.set_cons_zero, List.set_cons_succ]))
                        exact ⟨⟨i + 1, by omega, by go_num, ⟨X, lf2, la2, lw2, hB.sub (fun i => i) (fun i x h => by rcases i with _ | i <;> first | exact h | (simp at h)) (fun i j _ _ h => h), HMo.out.at_, HMo.out.ok⟩⟩, by simp [intOf]; omega⟩
            · go_wp2_with (first
                | (go_at_call 51; with_reducible refine (alive_calls _).mono ?_; rintro r w1 ⟨rfl, hb1⟩; replace hB := hB.step hb1))
              go_ret
              exact ⟨rfl, by first | exact hB.below | (rw [← hg]; exact hB.below)⟩
          · obtain rfl : i = l.length := by omega
            go_wp2_with (first
              | (go_at_call 51; with_reducible refine (alive_calls _).mono ?_; rintro r w1 ⟨rfl, hb1⟩; replace hB := hB.step hb1))
            go_ret
            exact ⟨rfl, by first | exact hB.below | (rw [← hg]; exact hB.below)⟩
end Go.Proofs.Ytebhclgnpnlekaa.Ent
