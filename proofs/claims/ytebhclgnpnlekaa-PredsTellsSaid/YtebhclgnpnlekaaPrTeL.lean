/- Law 03's PredsTells, by its walk. -/
import Derived.Test.YtebhclgnpnlekaaPrIds
namespace Go.Proofs.Ytebhclgnpnlekaa.Pr
open Go.RowKit Go.Proofs.Ytebhclgnpnlekaa.B Go.Proofs.Ytebhclgnpnlekaa.Cmd Go.Proofs.Ytebhclgnpnlekaa.Agg
open Go.Proofs.Ytebhclgnpnlekaa.Rd (zeroCmd)

set_option maxHeartbeats 4000000 in
set_option maxRecDepth 100000 in
/-- The document's Union. -/
theorem refUnion_calls (A B : Option Addr) (c d : Nat) (xs ys : List CmdD) (I J : Nat → Prop) (w : World) (h : Rep.Row cmdRep I w A xs) (h' : Rep.Row cmdRep J w B ys) (hA : A = none → c = 0) (hBn : B = none → d = 0) (hl : (xs ++ ys).length ≤ 900000) :
    Calls Try.prog 41 #[.slice A xs.length c, .slice B ys.length d] w (OfSaid (xs ++ ys) w) := by
  obtain ⟨g, hg⟩ : ∃ g, w.heap.size = g := ⟨_, rfl⟩
  obtain ⟨W1, hW1⟩ : ∃ W, w.alloc (.cells #[] 45) = W := ⟨_, rfl⟩
  have hbl : Below w.heap.size w W1 := by rw [← hW1]; exact (Below.refl _ _).alloc (Nat.le_refl _) _
  have HLit : Hold (Rep.Own cmdRep 45 w.heap.size nob W1 (.slice (some ⟨g, 0, none⟩) 0 0) []) := ⟨by rw [← hW1, ← hg]; exact Rep.Own.lit _ _ _ _ _ (Nat.le_refl _)⟩
  have HBl := Hold.mk hbl
  have HXv : Hold (Rep.RowV cmdRep nob W1 A xs) := ⟨CatC.row_flatV (h.below hbl)⟩
  have HY := Hold.mk h'
  have HNil := Hold.mk (And.intro hA hBn)
  have hlen : xs.length + ys.length ≤ 900000 := by rwa [List.length_append] at hl
  have HL := Hold.mk hlen
  obtain ⟨l, hll⟩ : ∃ l, xs ++ ys = l := ⟨_, rfl⟩
  rw [hll] at hl ⊢
  have HLl := Hold.mk hl
  have HLe := Hold.mk hll
  have hm := h.len_le
  have hm' := h'.len_le
  clear h h' hA hBn hbl hl hll hlen
  go_enter Try.func41, Try.ntmps41
  go_upto_region 2 with (at_builtin; refine Rep.wp_more cmdRep rfl (.tmp 7) (.tmp 8) 23 45 CatC.zc 56 rfl Try.underlying23 info_cmd Rd.cmd_zs Rd.cmd_sz0 (by decide) w.heap.size nob nob (.slice (some ⟨g, 0, none⟩) 0 0) [] xs xs A _ c rfl rfl rfl rfl HLit.out HXv.out (fun _ h _ => h.elim) HNil.out.1 HBl.out.size ?e2 ?_; rotate_left; intro A1 c1 w2 HG)
  case e2 => have := HL.out; simp; omega
  have HB2 := Hold.mk (HBl.out.trans (HG.out.below (fun k hk => (HLit.out.block_lt k hk).1) HBl.out.size))
  have HYv : Hold (Rep.RowV cmdRep nob w2 B ys) := ⟨CatC.row_flatV (HY.out.below HB2.out)⟩
  clear HLit HXv hW1 hg HBl
  go_upto_region 3 with (at_builtin; refine Rep.wp_more cmdRep rfl (.tmp 10) (.tmp 11) 23 45 CatC.zc 56 rfl Try.underlying23 info_cmd Rd.cmd_zs Rd.cmd_sz0 (by decide) w.heap.size nob nob _ xs ys l B _ d rfl rfl rfl HLe.out HG.out.own HYv.out (fun _ h _ => h.elim) HNil.out.2 HB2.out.size ?e3 ?_; rotate_left; intro A3 c3 w3 HG3)
  case e3 => have := HL.out; omega
  have HB3 := Hold.mk (HB2.out.trans (HG3.out.below (fun k hk => (HG.out.own.block_lt k hk).1) HB2.out.size))
  have HOf := Hold.mk (refOf_calls A3 c3 l.length l _ w3 rfl HG3.out.own.row HLl.out)
  go_wp2_with fail
  refine HOf.out.mono ?_
  rintro e w4 ⟨v, rfl, HR⟩
  go_wp2
  go_ret2
  exact ⟨_, rfl, ⟨HR.out.lift HB3.out⟩⟩
theorem same02_calls (A B : Option Addr) (c c' n n' : Nat) (xs ys : List CmdD) (I J : Nat → Prop) (w : World) (hn : n = xs.length) (hn' : n' = ys.length) (h : Rep.Row cmdRep I w A xs) (h' : Rep.Row cmdRep J w B ys) (b : Bool) (hb : decide (xs = ys) = b) :
    Calls Try.prog 25 #[.slice A n c, .slice B n' c'] w fun e w' => e = .returned (.bool b) ∧ Hold (Below w.heap.size w w') := by
  subst hb
  refine (Rd.same_calls A B c c' n n' xs ys I J w hn hn' h h').mono ?_
  rintro e w' ⟨he, k, rfl⟩
  exact ⟨he, ⟨below_drewN _ _⟩⟩
theorem co_form {l : List CmdD} {w w' : World} {e : Ending} (h : ∃ v, e = .returned v ∧ Hold (CO w w' v l)) : ∃ A1 c1, e = .returned (.slice A1 l.length c1) ∧ Hold (CO w w' (.slice A1 l.length c1) l) := by
  obtain ⟨v, rfl, HO⟩ := h
  obtain ⟨A1, c1, rfl, _, _⟩ := HO.out.form
  exact ⟨A1, c1, rfl, HO⟩
theorem io_form {l : List Int} {w w' : World} {e : Ending} (h : ∃ v, e = .returned v ∧ Hold (IO w w' v l)) : ∃ A1 c1, e = .returned (.slice A1 l.length c1) ∧ Hold (IO w w' (.slice A1 l.length c1) l) := by
  obtain ⟨v, rfl, HO⟩ := h
  obtain ⟨A1, c1, rfl, _, _⟩ := HO.out.own.len_form
  exact ⟨A1, c1, rfl, HO⟩
theorem said_form {l : List CmdD} {w w' : World} {e : Ending} (h : OfSaid l w e w') (o : List CmdD) (k : Int) (ho : ofS l = (o, k)) : ∃ A1 c1, e = .returned (.tuple #[.slice A1 o.length c1, .int .i64 k]) ∧ Hold (CO w w' (.slice A1 o.length c1) o) := by
  obtain ⟨v, rfl, HO⟩ := h
  rw [ho] at HO ⊢
  obtain ⟨A1, c1, rfl, _, _⟩ := HO.out.form
  exact ⟨A1, c1, rfl, HO⟩


set_option maxHeartbeats 16000000 in
set_option maxRecDepth 100000 in
theorem tellsL_calls (A : Option Addr) (c : Nat) (xs : List CmdD) (B : Option Addr) (d : Nat) (ys : List CmdD) (id : Int) (w : World) (hc : xs.length ≤ c) (hA : A = none → c = 0) (h : Rep.Row cmdRep (fun _ => True) w A xs) (hd : ys.length ≤ d) (hB : B = none → d = 0) (h' : Rep.Row cmdRep (fun _ => True) w B ys) (hid : (Lit.int .i64 id).wf = true) :
    Calls Try.prog 7 #[.slice A xs.length c, .slice B ys.length d, .int .i64 id] w fun e w' => e = .returned (.bool true) ∧ Below w.heap.size w w' := by
  have HX := Hold.mk h
  have HY := Hold.mk h'
  have HXc := Hold.mk (And.intro hc hA)
  have HYc := Hold.mk (And.intro hd hB)
  have hm := h.len_le
  have hm' := h'.len_le
  clear h h' hc hA hd hB hid
  by_cases b1 : 120 < xs.length
  · have t1 : (120 : Int) < (xs.length : Int) := by omega
    clear b1
    go_enter Try.func7, Try.ntmps7
    go_wp2_with fail
    refine (alive_calls w).mono ?_
    rintro e w1 ⟨rfl, HB1⟩
    go_wp2
    go_ret
    exact ⟨rfl, HB1.out⟩
  · have t1 : ¬ (120 : Int) < (xs.length : Int) := by omega
    by_cases b2 : 120 < ys.length
    · have t2 : (120 : Int) < (ys.length : Int) := by omega
      clear b1 b2
      go_enter Try.func7, Try.ntmps7
      go_wp2_with fail
      refine (alive_calls w).mono ?_
      rintro e w1 ⟨rfl, HB1⟩
      go_wp2
      go_ret
      exact ⟨rfl, HB1.out⟩
    · have t2 : ¬ (120 : Int) < (ys.length : Int) := by omega
      have HL : Hold (xs.length ≤ 120 ∧ ys.length ≤ 120) := ⟨by omega, by omega⟩
      have hle : (xs ++ ys).length ≤ 900000 := by rw [List.length_append]; omega
      obtain ⟨o, k, ho⟩ : ∃ o k, ofS xs = (o, k) := ⟨_, _, rfl⟩
      obtain ⟨u, m, hu⟩ : ∃ o k, ofS (xs ++ ys) = (o, k) := ⟨_, _, rfl⟩
      have H1 := Hold.mk (fun W (hb : Below w.heap.size w W) => (of_calls A c xs.length xs _ W rfl (HX.out.below hb) HXc.out.2 (by omega)).mono fun e w' hh => said_form hh o k ho)
      have H2 := Hold.mk (fun W (hb : Below w.heap.size w W) => (refOf_calls A c xs.length xs _ W rfl (HX.out.below hb) (by omega)).mono fun e w' hh => said_form hh o k ho)
      have H3 := Hold.mk (fun W (hb : Below w.heap.size w W) => union2_calls W A B c d xs.length ys.length xs ys _ _ rfl rfl (HX.out.below hb) (HY.out.below hb) HXc.out.1 HYc.out.1 HXc.out.2 HYc.out.2 hle u m hu)
      have H4 := Hold.mk (fun W (hb : Below w.heap.size w W) => (refUnion_calls A B c d xs ys _ _ W (HX.out.below hb) (HY.out.below hb) HXc.out.2 HYc.out.2 hle).mono fun e w' hh => said_form hh u m hu)
      clear b1 b2 hle ho hu
      have h0 : Below w.heap.size w w := Below.refl _ _
      go_enter Try.func7, Try.ntmps7
      go_upto_region 7 with (first
        | (go_at_call 39; refine (H1.out _ h0).mono ?_; rintro e w1 ⟨A1, c1, rfl, HO1⟩; have h1 := HO1.out.bel)
        | (go_at_call 40; refine (H2.out _ h1).mono ?_; rintro e w2 ⟨A2, c2, rfl, HO2⟩; have h2 := h1.trans (HO2.out.bel.mono h1.size))
        | (go_at_call 34; refine (H3.out _ h2).mono ?_; rintro e w3 ⟨A3, c3, rfl, _, _, HO3⟩; have h3 := h2.trans (HO3.out.bel.mono h2.size))
        | (go_at_call 41; refine (H4.out _ h3).mono ?_; rintro e w4 ⟨A4, c4, rfl, HO4⟩; have h4 := h3.trans (HO4.out.bel.mono h3.size)))
      have hb24 := HO3.out.bel.trans (HO4.out.bel.mono HO3.out.bel.size)
      have hb14 := HO2.out.bel.trans (hb24.mono HO2.out.bel.size)
      have HS1 := Hold.mk (same02_calls A1 A2 c1 c2 _ _ o o _ _ w4 rfl rfl (HO1.out.own.row.below hb14) (HO2.out.own.row.below hb24) true (decide_eq_true rfl))
      have HS2 := Hold.mk (fun W (hb : Below w4.heap.size w4 W) => same02_calls A3 A4 c3 c4 _ _ u u _ _ W rfl rfl (HO3.out.own.row.below (HO4.out.bel.trans (hb.mono HO4.out.bel.size))) (HO4.out.own.row.below hb) true (decide_eq_true rfl))
      have HB4 := Hold.mk h4
      clear H1 H2 H3 H4 h0 h1 h2 h3 h4 hb14 hb24 HO1 HO2 HO3 HO4
      -- the two sets are alike
      go_upto_region 9 with (first
        | (go_at_call 25; with_reducible refine HS1.out.mono ?_; rintro e w5 ⟨rfl, HB5⟩)
        | (go_at_call 25; with_reducible refine (HS2.out _ HB5.out).mono ?_; rintro e w6 ⟨rfl, HB6⟩))
      have HB7 := Hold.mk (HB4.out.trans ((HB5.out.trans (HB6.out.mono HB5.out.size)).mono HB4.out.size))
      have HX7 := Hold.mk (HX.out.below HB7.out)
      have HF := Hold.mk (find_calls A c xs id _ w6 HX7.out)
      clear HS1 HS2 HB4 HB5 HB6
      rcases first_cases (byId id) xs with ⟨e1, e2⟩ | ⟨i, hi, e1, e2, e3⟩

      · have HFd := findS_none e2
        rw [HFd] at HF
        have HR9 := Hold.mk (fun W (hb : Below w6.heap.size w6 W) => refFind_calls A c xs.length xs id _ W rfl (HX7.out.below hb))
        rw [e1] at HR9
        clear e1 e2 HFd
        go_upto_region 10 with (first
          | (go_at_call 42; refine HF.out.mono ?_; rintro e w7 ⟨rfl, HB⟩; have hB := (Bs.nil w6).step HB.out)
          | (with_reducible refine gateA 45 ?_; refine wpl_alloc zeroC hB rfl ?_; intro W8 g hB; simp only [List.nil_append] at hB)
          | (with_reducible refine gateS 45 ?_; refine wpl_store (C' := arr zeroCmd) isC rfl rfl hB 0 rfl (arr_size _) (arr_size _) (arr_one _) rfl ?_; intro W9 hB; simp only [List.set] at hB))
        go_upto_region 11 with (go_at_call 43; refine (HR9.out _ hB.below).mono ?_; rintro e w10 ⟨rfl, rfl⟩)
        obtain ⟨d0, d1, d2, d3, d4, d5, d6⟩ := box_at hB
        replace d0 : W9.cell? ⟨g, 0, none⟩ = some (.int .i64 0) := d0
        replace d1 : W9.cell? ⟨g, 1, none⟩ = some (.int .i64 0) := d1
        replace d2 : W9.cell? ⟨g, 2, none⟩ = some (.int .i64 0) := d2
        replace d3 : W9.cell? ⟨g, 3, none⟩ = some (.int .i64 0) := d3
        replace d4 : W9.cell? ⟨g, 4, none⟩ = some (.int .i64 0) := d4
        replace d5 : W9.cell? ⟨g, 5, none⟩ = some (.int .i64 0) := d5
        replace d6 : W9.cell? ⟨g, 6, none⟩ = some (.int .i64 0) := d6
        go_quiet (fail)
        have hb12 : Below w.heap.size w (W9.drewN nq) := HB7.out.trans ((hB.below.trans ((below_drewN W9 nq).mono hB.below.size)).mono HB7.out.size)
        obtain ⟨W12, hW12⟩ : ∃ W, W9.drewN nq = W := ⟨_, rfl⟩
        rw [hW12] at hb12
        rw [hW12]
        clear hW12 d0 d1 d2 d3 d4 d5 d6
        obtain ⟨ms, hms⟩ : ∃ l, minusS xs ys = l := ⟨_, rfl⟩
        have HMi := Hold.mk (fun W (hb : Below w.heap.size w W) => (minus_calls A B c d xs ys _ _ W (HX.out.below hb) (HY.out.below hb) (by have := HL.out.1; omega)).mono fun e w' hh => co_form hh)
        have HMr := Hold.mk (fun W (hb : Below w.heap.size w W) => (refMinus_calls A B c d xs ys _ _ W (HX.out.below hb) (HY.out.below hb) (by have := HL.out.1; omega)).mono fun e w' hh => co_form hh)
        rw [hms] at HMi HMr
        obtain ⟨is, his⟩ : ∃ l, idsS xs = l := ⟨_, rfl⟩
        have HIi := Hold.mk (fun W (hb : Below w.heap.size w W) => (ids_calls A c xs.length xs _ W rfl (HX.out.below hb) (by have := HL.out.1; omega)).mono fun e w' hh => io_form hh)
        have HIr := Hold.mk (fun W (hb : Below w.heap.size w W) => (refIds_calls A c xs.length xs _ W rfl (HX.out.below hb) (by have := HL.out.1; omega)).mono fun e w' hh => io_form hh)
        rw [his] at HIi HIr
        obtain ⟨bs, hbs⟩ : ∃ b, Preds.okSet xs = b := ⟨_, rfl⟩
        have HRi := Hold.mk (fun W (hb : Below w.heap.size w W) => Preds.right_calls A c xs.length xs _ W rfl (HX.out.below hb) bs hbs)
        have HRr := Hold.mk (fun W (hb : Below w.heap.size w W) => Preds.refRight_calls A c xs.length xs _ W rfl (HX.out.below hb) bs hbs)
        obtain ⟨be, hbe⟩ : ∃ b, decide (xs = ys) = b := ⟨_, rfl⟩
        have HEi := Hold.mk (fun W (hb : Below w.heap.size w W) => psame_calls A B c d _ _ xs ys _ _ W rfl rfl (HX.out.below hb) (HY.out.below hb))
        have HEr := Hold.mk (fun W (hb : Below w.heap.size w W) => same02_calls A B c d _ _ xs ys _ _ W rfl rfl (HX.out.below hb) (HY.out.below hb) be hbe)
        rw [hbe] at HEi
        clear hms his hbs hbe
        go_upto_region 14 with (first
          | (go_at_call 37; refine (HMi.out _ hb12).mono ?_; rintro e w13 ⟨A5, c5, rfl, HO5⟩; have h13 := hb12.trans (HO5.out.bel.mono hb12.size))
          | (go_at_call 44; refine (HMr.out _ h13).mono ?_; rintro e w14 ⟨A6, c6, rfl, HO6⟩; have h14 := h13.trans (HO6.out.bel.mono h13.size))
          | (go_at_call 25; refine (same02_calls A5 A6 c5 c6 _ _ ms ms _ _ w14 rfl rfl (HO5.out.own.row.below HO6.out.bel) HO6.out.own.row true (decide_eq_true rfl)).mono ?_; rintro e w15 ⟨rfl, HB15⟩; have h15 := h14.trans (HB15.out.mono h14.size)))
        clear HMi HMr
        go_upto_region 15 with (first
          | (go_at_call 46; refine (HIi.out _ h15).mono ?_; rintro e w16 ⟨A7, c7, rfl, HO7⟩; have h16 := h15.trans (HO7.out.bel.mono h15.size))
          | (go_at_call 47; refine (HIr.out _ h16).mono ?_; rintro e w17 ⟨A8, c8, rfl, HO8⟩; have h17 := h16.trans (HO8.out.bel.mono h16.size))
          | (go_at_call 45; refine (sameIds_calls A7 A8 c7 c8 _ _ is _ _ w17 rfl rfl (HO7.out.own.row.below HO8.out.bel) HO8.out.own.row).mono ?_; rintro e w18 ⟨rfl, HB18⟩; have h18 := h17.trans (HB18.out.mono h17.size)))
        clear HIi HIr
        go_wp2_with (first
          | (go_at_call 33; refine (alive_calls _).mono ?_; rintro e w19 ⟨rfl, HB19⟩; have h19 := h18.trans (HB19.out.mono h18.size))
          | (go_at_call 38; refine (HRi.out _ h19).mono ?_; rintro e w20 ⟨rfl, HB20⟩; have h20 := h19.trans (HB20.out.mono h19.size))
          | (go_at_call 48; refine (HRr.out _ h20).mono ?_; rintro e w21 ⟨rfl, HB21⟩; have h21 := h20.trans (HB21.out.mono h20.size))
          | (go_at_call 35; refine (HEi.out _ h21).mono ?_; rintro e w22 ⟨rfl, HB22⟩; have h22 := h21.trans (HB22.out.mono h21.size))
          | (go_at_call 25; refine (HEr.out _ h22).mono ?_; rintro e w23 ⟨rfl, HB23⟩; have h23 := h22.trans (HB23.out.mono h22.size)))
        go_ret
        exact ⟨rfl, h23⟩
      · obtain ⟨x, hx⟩ : ∃ x, xs[i] = x := ⟨_, rfl⟩
        have HFd := findS_at hi e2 e3
        rw [HFd, hx] at HF
        have HR9 := Hold.mk (fun W (hb : Below w6.heap.size w6 W) => refFind_calls A c xs.length xs id _ W rfl (HX7.out.below hb))
        rw [e1] at HR9
        have HXx := Hold.mk hx
        have l1 : (i : Int) < (xs.length : Int) := by omega
        clear e1 e2 e3 HFd hx
        go_upto_region 10 with (first
          | (go_at_call 42; refine HF.out.mono ?_; rintro e w7 ⟨rfl, HB⟩; have hB := (Bs.nil w6).step HB.out)
          | (with_reducible refine gateA 45 ?_; refine wpl_alloc zeroC hB rfl ?_; intro W8 g hB; simp only [List.nil_append] at hB)
          | (with_reducible refine gateS 45 ?_; refine wpl_store (C' := arr x) isC rfl rfl hB 0 rfl (arr_size _) (arr_size _) (arr_one _) rfl ?_; intro W9 hB; simp only [List.set] at hB))
        go_upto_region 11 with (go_at_call 43; refine (HR9.out _ hB.below).mono ?_; rintro e w10 ⟨rfl, rfl⟩)
        obtain ⟨d0, d1, d2, d3, d4, d5, d6⟩ := box_at hB
        obtain ⟨ad, p, rfl, hp, _, ⟨c0, c1, c2, c3, c4, c5, c6, _⟩⟩ := row_cmd (HX7.out.below hB.below) i hi
        rw [HXx.out] at c0 c1 c2 c3 c4 c5 c6
        go_quiet (fail)
        clear hp c0 c1 c2 c3 c4 c5 c6
        have hb12 : Below w.heap.size w (W9.drewN nq) := HB7.out.trans ((hB.below.trans ((below_drewN W9 nq).mono hB.below.size)).mono HB7.out.size)
        obtain ⟨W12, hW12⟩ : ∃ W, W9.drewN nq = W := ⟨_, rfl⟩
        rw [hW12] at hb12
        rw [hW12]
        clear hW12 d0 d1 d2 d3 d4 d5 d6
        obtain ⟨ms, hms⟩ : ∃ l, minusS xs ys = l := ⟨_, rfl⟩
        have HMi := Hold.mk (fun W (hb : Below w.heap.size w W) => (minus_calls (some ad) B c d xs ys _ _ W (HX.out.below hb) (HY.out.below hb) (by have := HL.out.1; omega)).mono fun e w' hh => co_form hh)
        have HMr := Hold.mk (fun W (hb : Below w.heap.size w W) => (refMinus_calls (some ad) B c d xs ys _ _ W (HX.out.below hb) (HY.out.below hb) (by have := HL.out.1; omega)).mono fun e w' hh => co_form hh)
        rw [hms] at HMi HMr
        obtain ⟨is, his⟩ : ∃ l, idsS xs = l := ⟨_, rfl⟩
        have HIi := Hold.mk (fun W (hb : Below w.heap.size w W) => (ids_calls (some ad) c xs.length xs _ W rfl (HX.out.below hb) (by have := HL.out.1; omega)).mono fun e w' hh => io_form hh)
        have HIr := Hold.mk (fun W (hb : Below w.heap.size w W) => (refIds_calls (some ad) c xs.length xs _ W rfl (HX.out.below hb) (by have := HL.out.1; omega)).mono fun e w' hh => io_form hh)
        rw [his] at HIi HIr
        obtain ⟨bs, hbs⟩ : ∃ b, Preds.okSet xs = b := ⟨_, rfl⟩
        have HRi := Hold.mk (fun W (hb : Below w.heap.size w W) => Preds.right_calls (some ad) c xs.length xs _ W rfl (HX.out.below hb) bs hbs)
        have HRr := Hold.mk (fun W (hb : Below w.heap.size w W) => Preds.refRight_calls (some ad) c xs.length xs _ W rfl (HX.out.below hb) bs hbs)
        obtain ⟨be, hbe⟩ : ∃ b, decide (xs = ys) = b := ⟨_, rfl⟩
        have HEi := Hold.mk (fun W (hb : Below w.heap.size w W) => psame_calls (some ad) B c d _ _ xs ys _ _ W rfl rfl (HX.out.below hb) (HY.out.below hb))
        have HEr := Hold.mk (fun W (hb : Below w.heap.size w W) => same02_calls (some ad) B c d _ _ xs ys _ _ W rfl rfl (HX.out.below hb) (HY.out.below hb) be hbe)
        rw [hbe] at HEi
        clear hms his hbs hbe
        go_upto_region 14 with (first
          | (go_at_call 37; refine (HMi.out _ hb12).mono ?_; rintro e w13 ⟨A5, c5, rfl, HO5⟩; have h13 := hb12.trans (HO5.out.bel.mono hb12.size))
          | (go_at_call 44; refine (HMr.out _ h13).mono ?_; rintro e w14 ⟨A6, c6, rfl, HO6⟩; have h14 := h13.trans (HO6.out.bel.mono h13.size))
          | (go_at_call 25; refine (same02_calls A5 A6 c5 c6 _ _ ms ms _ _ w14 rfl rfl (HO5.out.own.row.below HO6.out.bel) HO6.out.own.row true (decide_eq_true rfl)).mono ?_; rintro e w15 ⟨rfl, HB15⟩; have h15 := h14.trans (HB15.out.mono h14.size)))
        clear HMi HMr
        go_upto_region 15 with (first
          | (go_at_call 46; refine (HIi.out _ h15).mono ?_; rintro e w16 ⟨A7, c7, rfl, HO7⟩; have h16 := h15.trans (HO7.out.bel.mono h15.size))
          | (go_at_call 47; refine (HIr.out _ h16).mono ?_; rintro e w17 ⟨A8, c8, rfl, HO8⟩; have h17 := h16.trans (HO8.out.bel.mono h16.size))
          | (go_at_call 45; refine (sameIds_calls A7 A8 c7 c8 _ _ is _ _ w17 rfl rfl (HO7.out.own.row.below HO8.out.bel) HO8.out.own.row).mono ?_; rintro e w18 ⟨rfl, HB18⟩; have h18 := h17.trans (HB18.out.mono h17.size)))
        clear HIi HIr
        go_wp2_with (first
          | (go_at_call 33; refine (alive_calls _).mono ?_; rintro e w19 ⟨rfl, HB19⟩; have h19 := h18.trans (HB19.out.mono h18.size))
          | (go_at_call 38; refine (HRi.out _ h19).mono ?_; rintro e w20 ⟨rfl, HB20⟩; have h20 := h19.trans (HB20.out.mono h19.size))
          | (go_at_call 48; refine (HRr.out _ h20).mono ?_; rintro e w21 ⟨rfl, HB21⟩; have h21 := h20.trans (HB21.out.mono h20.size))
          | (go_at_call 35; refine (HEi.out _ h21).mono ?_; rintro e w22 ⟨rfl, HB22⟩; have h22 := h21.trans (HB22.out.mono h21.size))
          | (go_at_call 25; refine (HEr.out _ h22).mono ?_; rintro e w23 ⟨rfl, HB23⟩; have h23 := h22.trans (HB23.out.mono h22.size)))
        go_ret
        exact ⟨rfl, h23⟩
end Go.Proofs.Ytebhclgnpnlekaa.Pr
