/- Law 17's OrderTells, by its walk. -/
import Derived.Test.YtebhclgnpnlekaaOrdL
namespace Go.Proofs.Ytebhclgnpnlekaa.Ord
open Go.RowKit Go.Proofs.Ytebhclgnpnlekaa.B Go.Proofs.Ytebhclgnpnlekaa.Cmd Go.Proofs.Ytebhclgnpnlekaa.Agg Go.Proofs.Ytebhclgnpnlekaa.Ent
open Go.Proofs.Ytebhclgnpnlekaa.Pr (CO arr arr_size arr_one isC zeroC IO info_i)
/-- A command that lies at an address. -/
theorem QAt.cmd {w : World} {p : Addr} {x : QE} (h : QAt w p x) : w.cell? p = some (.int .i64 x.er.c.id) ∧ w.cell? ⟨p.block, p.off + 1, none⟩ = some (.int .i64 x.er.c.kind) ∧ w.cell? ⟨p.block, p.off + 2, none⟩ = some (.int .i64 x.er.c.sym) ∧ w.cell? ⟨p.block, p.off + 3, none⟩ = some (.int .i64 x.er.c.tgt) ∧ w.cell? ⟨p.block, p.off + 4, none⟩ = some (.int .i64 x.er.c.side) ∧ w.cell? ⟨p.block, p.off + 5, none⟩ = some (.int .i64 x.er.c.price) ∧ w.cell? ⟨p.block, p.off + 6, none⟩ = some (.int .i64 x.er.c.qty) := by
  have add_pos : ∀ j, 0 < j → p.add j = ⟨p.block, p.off + j, none⟩ := fun j hj => by
    unfold Addr.add
    rw [if_neg (by omega)]
  have h0 := h 0 _ rfl
  have h1 := h 1 _ rfl
  have h2 := h 2 _ rfl
  have h3 := h 3 _ rfl
  have h4 := h 4 _ rfl
  have h5 := h 5 _ rfl
  have h6 := h 6 _ rfl
  rw [add_pos 1 (by omega)] at h1
  rw [add_pos 2 (by omega)] at h2
  rw [add_pos 3 (by omega)] at h3
  rw [add_pos 4 (by omega)] at h4
  rw [add_pos 5 (by omega)] at h5
  rw [add_pos 6 (by omega)] at h6
  exact ⟨h0, h1, h2, h3, h4, h5, h6⟩
set_option maxHeartbeats 8000000 in
set_option maxRecDepth 100000 in
theorem tells_calls (A : Option Addr) (c : Nat) (l : List QE) (A' : Option Addr) (c' : Nat) (had : List Int) (w : World) (h : Rep.Row qeRep (fun _ => True) w A l) (hA' : A' = none → c' = 0) (h' : Rep.Row (Rep.int .i64) (fun _ => True) w A' had) :
    Calls Try.prog 10 #[.slice A l.length c, .slice A' had.length c'] w fun e w' => e = .returned (.bool true) ∧ Below w.heap.size w w' := by
  have H := Hold.mk h
  have H' := Hold.mk h'
  have HN' := Hold.mk hA'
  have hm := h.len_le
  have hm' := h'.len_le
  have HFit := Hold.mk (fits13_calls A c _ l _ w rfl h)
  clear h h' hA'
  by_cases b1 : 100 < had.length
  · have t1 : (100 : Int) < (had.length : Int) := by omega
    go_enter Try.func10, Try.ntmps10
    go_upto_region 2 with (go_at_call 61; refine HFit.out.mono ?_; rintro r w1 ⟨b, rfl, hb, hb1⟩)
    cases b
    all_goals
      go_wp2_with (go_at_call 62; refine (alive_calls _).mono ?_; rintro r w2 ⟨rfl, HB2⟩)
      go_ret
      exact ⟨rfl, hb1.trans (HB2.out.mono hb1.size)⟩
  · have t1 : ¬ (100 : Int) < (had.length : Int) := by omega
    have HHl : Hold (had.length ≤ 100000) := ⟨by omega⟩
    go_enter Try.func10, Try.ntmps10
    go_upto_region 2 with (go_at_call 61; refine HFit.out.mono ?_; rintro r w1 ⟨b, rfl, hb, hb1⟩)
    cases b
    · go_wp2_with (go_at_call 62; refine (alive_calls _).mono ?_; rintro r w2 ⟨rfl, HB2⟩)
      go_ret
      exact ⟨rfl, hb1.trans (HB2.out.mono hb1.size)⟩
    · have hl40 := hb rfl
      have HLl : Hold (l.length ≤ 100000) := ⟨by omega⟩
      have HB1 := Hold.mk hb1
      clear hb hl40 hb1
      obtain ⟨nx, hnx⟩ : ∃ nx, nextS l had = nx := ⟨_, rfl⟩
      have HNx := Hold.mk hnx
      clear hnx
      go_upto_region 7 with (first
        | (go_at_call 63; with_reducible refine (of09_calls A c _ l _ w1 rfl (H.out.below HB1.out) HLl.out).mono ?_; rintro r w2 ⟨v, rfl, HM⟩; obtain ⟨MA, mc, rfl, _, _⟩ := HM.out.form; have HB2 := Hold.mk (HB1.out.trans (HM.out.bel.mono HB1.out.size)))
        | (go_at_call 64; with_reducible refine (orderNext_calls A A' c c' _ _ l had _ _ w2 rfl rfl (H.out.below HB2.out) (H'.out.below HB2.out) HLl.out HHl.out).mono ?_; rintro r w3 ⟨rfl, HB3⟩; rw [HNx.out]; have hB := (Bs.nil w2).step HB3.out)
        | (with_reducible refine gateA 45 ?_; refine wpl_alloc zeroC hB rfl ?_; intro W4 g4 hB; simp only [List.nil_append] at hB)
        | (with_reducible refine gateS 45 ?_; refine wpl_store (C' := arr (bestOf nx).c) isC rfl rfl hB 0 rfl (arr_size _) (arr_size _) (arr_one _) rfl ?_; intro W5 hB; simp only [List.set] at hB)
        | (go_at_call 65; with_reducible refine (refNext_calls MA A' mc c' _ _ l had _ _ W5 rfl rfl (HM.out.own.row.below hB.below) (H'.out.below (HB2.out.trans (hB.below.mono HB2.out.size)))).mono ?_; rintro r w6 ⟨j, rfl, HAt, HB6⟩; rw [HNx.out] at HAt; replace hB := hB.step HB6.out))
      try simp only [Act.put, List.setIfInBounds_toArray, List.set_cons_zero, List.set_cons_succ]
      have hb6 : Below w.heap.size w w6 := HB2.out.trans (hB.below.mono HB2.out.size)
      have HB6n : Hold (∀ n, Below w.heap.size w (w6.drewN n)) := ⟨fun n => hb6.trans ((below_drewN _ _).mono hb6.size)⟩
      have hmr := HM.out.own.row.below hB.below
      have HMr : Hold (∀ n, Rep.Row qeRep _ (w6.drewN n) MA l) := ⟨fun n => hmr.drewN n⟩
      have hc := hB.cell 0 rfl
      clear hB hb6
      rcases HAt.out with ⟨rfl, rfl⟩ | ⟨k, hk, rfl, rfl⟩
      · have f0 : w6.cell? ⟨g4, 0, none⟩ = some (.int .i64 0) := hc 0
        have f1 : w6.cell? ⟨g4, 1, none⟩ = some (.int .i64 0) := hc 1
        have f2 : w6.cell? ⟨g4, 2, none⟩ = some (.int .i64 0) := hc 2
        have f3 : w6.cell? ⟨g4, 3, none⟩ = some (.int .i64 0) := hc 3
        have f4 : w6.cell? ⟨g4, 4, none⟩ = some (.int .i64 0) := hc 4
        have f5 : w6.cell? ⟨g4, 5, none⟩ = some (.int .i64 0) := hc 5
        have f6 : w6.cell? ⟨g4, 6, none⟩ = some (.int .i64 0) := hc 6
        clear hc hmr
        simp only [Option.isSome_none]
        go_quiet (fail)
        go_wp2_with (first
          | (go_at_call 66; with_reducible refine (orderAll_calls A A' c c' _ _ l had _ _ _ rfl rfl (H.out.below (HB6n.out _)) (H'.out.below (HB6n.out _)) HLl.out HHl.out).mono ?_; rintro r w7 ⟨v1, rfl, HC1⟩; obtain ⟨A1, c1, rfl, _, _⟩ := HC1.out.form; have HB7 := Hold.mk ((HB6n.out _).trans (HC1.out.bel.mono (HB6n.out _).size)); have HM7 := Hold.mk ((HMr.out _).below HC1.out.bel))
          | (go_at_call 67; with_reducible refine (refAll_calls MA A' mc c' _ _ l had _ _ w7 rfl rfl HM7.out (H'.out.below HB7.out) HN'.out HLl.out HHl.out).mono ?_; rintro r w8 ⟨v2, rfl, HC2⟩; obtain ⟨A2, c2, rfl, _, _⟩ := HC2.out.form; have HB8 := Hold.mk (HB7.out.trans (HC2.out.bel.mono HB7.out.size)); have HM8 := Hold.mk (HM7.out.below HC2.out.bel))
          | (go_at_call 25; with_reducible refine (Pr.same02_calls A1 A2 c1 c2 _ _ (cmds (allS l had)) (cmds (allS l had)) _ _ w8 rfl rfl (HC1.out.own.row.below HC2.out.bel) HC2.out.own.row true (decide_eq_true rfl)).mono ?_; rintro r w9 ⟨rfl, HB9'⟩; have HB9 := Hold.mk (HB8.out.trans (HB9'.out.mono HB8.out.size)); have HM9 := Hold.mk (HM8.out.below HB9'.out))
          | (go_at_call 68; with_reducible refine (orderWaits_calls A A' c c' _ _ l had _ _ w9 rfl rfl (H.out.below HB9.out) (H'.out.below HB9.out) HLl.out HHl.out).mono ?_; rintro r w10 ⟨v3, rfl, HI1⟩; obtain ⟨A3, c3, rfl, _, _⟩ := HI1.out.own.len_form; have HB10 := Hold.mk (HB9.out.trans (HI1.out.bel.mono HB9.out.size)); have HM10 := Hold.mk (HM9.out.below HI1.out.bel))
          | (go_at_call 69; with_reducible refine (refWaits_calls MA A' mc c' _ _ l had _ _ w10 rfl rfl HM10.out (H'.out.below HB10.out) HN'.out HLl.out HHl.out).mono ?_; rintro r w11 ⟨v4, rfl, HI2⟩; obtain ⟨A4, c4, rfl, _, _⟩ := HI2.out.own.len_form; have HB11 := Hold.mk (HB10.out.trans (HI2.out.bel.mono HB10.out.size)))
          | (go_at_call 45; with_reducible refine (Pr.sameIds_calls A3 A4 c3 c4 _ _ (waitsS l had) _ _ w11 rfl rfl (HI1.out.own.row.below HI2.out.bel) HI2.out.own.row).mono ?_; rintro r w12 ⟨rfl, HB12'⟩; have HB12 := Hold.mk (HB11.out.trans (HB12'.out.mono HB11.out.size)))
          | (go_at_call 62; with_reducible refine (alive_calls w12).mono ?_; rintro r w13 ⟨rfl, HB13⟩))
        go_ret
        exact ⟨rfl, HB12.out.trans (HB13.out.mono HB12.out.size)⟩
      · obtain ⟨ad, p, rfl, hp, _, hQ, _⟩ := row_qe hmr k hk
        obtain ⟨q, hq⟩ : ∃ q, l[k] = q := ⟨_, rfl⟩
        rw [hq] at hQ
        rw [hq] at hc
        obtain ⟨m0, m1, m2, m3, m4, m5, m6⟩ := hQ.cmd
        have l1 : (k : Int) < (l.length : Int) := by omega
        have l2 : (0 : Int) ≤ (k : Int) := by omega
        have l3 := decide_eq_true l2
        have f0 : w6.cell? ⟨g4, 0, none⟩ = some (.int .i64 q.er.c.id) := hc 0
        have f1 : w6.cell? ⟨g4, 1, none⟩ = some (.int .i64 q.er.c.kind) := hc 1
        have f2 : w6.cell? ⟨g4, 2, none⟩ = some (.int .i64 q.er.c.sym) := hc 2
        have f3 : w6.cell? ⟨g4, 3, none⟩ = some (.int .i64 q.er.c.tgt) := hc 3
        have f4 : w6.cell? ⟨g4, 4, none⟩ = some (.int .i64 q.er.c.side) := hc 4
        have f5 : w6.cell? ⟨g4, 5, none⟩ = some (.int .i64 q.er.c.price) := hc 5
        have f6 : w6.cell? ⟨g4, 6, none⟩ = some (.int .i64 q.er.c.qty) := hc 6
        clear hc hmr hQ hq
        simp only [Option.isSome_some]
        go_quiet (fail)
        go_wp2_with (first
          | (go_at_call 66; with_reducible refine (orderAll_calls A A' c c' _ _ l had _ _ _ rfl rfl (H.out.below (HB6n.out _)) (H'.out.below (HB6n.out _)) HLl.out HHl.out).mono ?_; rintro r w7 ⟨v1, rfl, HC1⟩; obtain ⟨A1, c1, rfl, _, _⟩ := HC1.out.form; have HB7 := Hold.mk ((HB6n.out _).trans (HC1.out.bel.mono (HB6n.out _).size)); have HM7 := Hold.mk ((HMr.out _).below HC1.out.bel))
          | (go_at_call 67; with_reducible refine (refAll_calls (some ad) A' mc c' _ _ l had _ _ w7 rfl rfl HM7.out (H'.out.below HB7.out) HN'.out HLl.out HHl.out).mono ?_; rintro r w8 ⟨v2, rfl, HC2⟩; obtain ⟨A2, c2, rfl, _, _⟩ := HC2.out.form; have HB8 := Hold.mk (HB7.out.trans (HC2.out.bel.mono HB7.out.size)); have HM8 := Hold.mk (HM7.out.below HC2.out.bel))
          | (go_at_call 25; with_reducible refine (Pr.same02_calls A1 A2 c1 c2 _ _ (cmds (allS l had)) (cmds (allS l had)) _ _ w8 rfl rfl (HC1.out.own.row.below HC2.out.bel) HC2.out.own.row true (decide_eq_true rfl)).mono ?_; rintro r w9 ⟨rfl, HB9'⟩; have HB9 := Hold.mk (HB8.out.trans (HB9'.out.mono HB8.out.size)); have HM9 := Hold.mk (HM8.out.below HB9'.out))
          | (go_at_call 68; with_reducible refine (orderWaits_calls A A' c c' _ _ l had _ _ w9 rfl rfl (H.out.below HB9.out) (H'.out.below HB9.out) HLl.out HHl.out).mono ?_; rintro r w10 ⟨v3, rfl, HI1⟩; obtain ⟨A3, c3, rfl, _, _⟩ := HI1.out.own.len_form; have HB10 := Hold.mk (HB9.out.trans (HI1.out.bel.mono HB9.out.size)); have HM10 := Hold.mk (HM9.out.below HI1.out.bel))
          | (go_at_call 69; with_reducible refine (refWaits_calls (some ad) A' mc c' _ _ l had _ _ w10 rfl rfl HM10.out (H'.out.below HB10.out) HN'.out HLl.out HHl.out).mono ?_; rintro r w11 ⟨v4, rfl, HI2⟩; obtain ⟨A4, c4, rfl, _, _⟩ := HI2.out.own.len_form; have HB11 := Hold.mk (HB10.out.trans (HI2.out.bel.mono HB10.out.size)))
          | (go_at_call 45; with_reducible refine (Pr.sameIds_calls A3 A4 c3 c4 _ _ (waitsS l had) _ _ w11 rfl rfl (HI1.out.own.row.below HI2.out.bel) HI2.out.own.row).mono ?_; rintro r w12 ⟨rfl, HB12'⟩; have HB12 := Hold.mk (HB11.out.trans (HB12'.out.mono HB11.out.size)))
          | (go_at_call 62; with_reducible refine (alive_calls w12).mono ?_; rintro r w13 ⟨rfl, HB13⟩))
        go_ret
        exact ⟨rfl, HB12.out.trans (HB13.out.mono HB12.out.size)⟩
theorem tellsL_calls (A : Option Addr) (c : Nat) (l : List QE) (B : Option Addr) (d : Nat) (had : List Int) (w : World) (_hc : l.length ≤ c) (_hA : A = none → c = 0) (h : Rep.Row qeRep (fun _ => True) w A l) (_hd : had.length ≤ d) (hB : B = none → d = 0) (h' : Rep.Row (Rep.int .i64) (fun _ => True) w B had) :
    Calls Try.prog 10 #[.slice A l.length c, .slice B had.length d] w fun e w' => e = .returned (.bool true) ∧ Below w.heap.size w w' :=
  tells_calls A c l B d had w h hB h'
end Go.Proofs.Ytebhclgnpnlekaa.Ord
