/- Law 03's PredsUnion, by its walk. -/
import Derived.Test.YtebhclgnpnlekaaPrAl
namespace Go.Proofs.Ytebhclgnpnlekaa.Pr
open Go.RowKit Go.Proofs.Ytebhclgnpnlekaa.B Go.Proofs.Ytebhclgnpnlekaa.Cmd Go.Proofs.Ytebhclgnpnlekaa.Agg
open Go.Proofs.Ytebhclgnpnlekaa.Rd (zeroCmd)

theorem rising_one {o : List CmdD} (h : o.Pairwise ltI) {x y : CmdD} (hx : x ∈ o) (hy : y ∈ o) (e : x.id = y.id) : x = y := by
  obtain ⟨a, ha, ea⟩ := List.getElem_of_mem hx
  obtain ⟨b, hb, eb⟩ := List.getElem_of_mem hy
  have hp := List.pairwise_iff_getElem.1 h
  rcases Nat.lt_trichotomy a b with hab | hab | hab
  · have := hp a b ha hb hab
    rw [ea, eb] at this
    have : x.id < y.id := this
    omega
  · subst hab; exact ea.symm.trans eb
  · have := hp b a hb ha hab
    rw [ea, eb] at this
    have : y.id < x.id := this
    omega
theorem foldR_congr {l l' : List CmdD} (hm : ∀ x, x ∈ l ↔ x ∈ l') : foldR [] l = foldR [] l' := by
  have key : ∀ {a b : List CmdD} (o : List CmdD), (∀ x, x ∈ a ↔ x ∈ b) → foldR [] a = some o → foldR [] b = some o := fun {a b} o hab h => by
    obtain ⟨h1, h2⟩ := foldR_some a [] o (by simp) h
    cases hb : foldR [] b with
    | some o' =>
      obtain ⟨h3, h4⟩ := foldR_some b [] o' (by simp) hb
      congr 1
      exact uniq o' o h3 h1 fun x => by rw [h2, h4]; simp [hab]
    | none =>
      exfalso
      obtain ⟨x, y, hx, hy, e1, e2⟩ := foldR_none b [] hb
      exact e2 (rising_one h1 ((h2 x).2 (.inr ((hab x).2 (by simpa using hx)))) ((h2 y).2 (.inr ((hab y).2 (by simpa using hy)))) e1)
  cases h : foldR [] l with
  | some o => exact (key o hm h).symm
  | none =>
    cases h' : foldR [] l' with
    | none => rfl
    | some o =>
      have := key o (fun x => (hm x).symm) h'
      rw [h] at this; cases this
theorem okCmds_congr {l l' : List CmdD} (hm : ∀ x, x ∈ l ↔ x ∈ l') : okCmds l = okCmds l' := by
  rw [Bool.eq_iff_iff]
  unfold okCmds
  rw [List.all_eq_true, List.all_eq_true]
  exact ⟨fun h x hx => h x ((hm x).2 hx), fun h x hx => h x ((hm x).1 hx)⟩
theorem ofS_congr {l l' : List CmdD} (hm : ∀ x, x ∈ l ↔ x ∈ l') : ofS l = ofS l' := by
  unfold ofS
  rw [okCmds_congr hm, foldR_congr hm]
/-- What Of may answer. -/
theorem ofS_cases (l : List CmdD) : (∃ k : Int, k ≠ 0 ∧ ofS l = ([], k)) ∨ (∃ o, ofS l = (o, 0) ∧ okCmds l = true ∧ foldR [] l = some o ∧ o.length ≤ 1024) := by
  unfold ofS
  by_cases h : okCmds l = true
  · rw [if_pos h]
    cases hf : foldR [] l with
    | none => exact .inl ⟨6, by decide, rfl⟩
    | some o =>
      by_cases hb : 1024 < o.length
      · exact .inl ⟨4, by decide, if_pos hb⟩
      · exact .inr ⟨o, if_neg hb, h, rfl, by omega⟩
  · rw [if_neg h]
    exact .inl ⟨1, by decide, rfl⟩
theorem set_ok {l o : List CmdD} (hk : okCmds l = true) (hf : foldR [] l = some o) (hl : o.length ≤ 1024) : Preds.okSet o = true := by
  obtain ⟨h1, h2⟩ := foldR_some l [] o (by simp) hf
  unfold Preds.okSet
  rw [Bool.and_eq_true, Bool.and_eq_true]
  refine ⟨⟨?_, ?_⟩, decide_eq_true hl⟩
  · rw [Preds.rising_iff]
    intro i hi
    exact List.pairwise_iff_getElem.1 h1 i (i + 1) (by omega) hi (by omega)
  · rw [okCmds_congr (l' := l) fun x => by rw [h2]; simp]; exact hk
theorem back_set {xs ys o : List CmdD} (hf : foldR [] (xs ++ ys) = some o) (h0 : ofS (xs ++ ys) = (o, 0)) : ofS (minusS o ys ++ ys) = (o, 0) := by
  obtain ⟨h1, h2⟩ := foldR_some (xs ++ ys) [] o (by simp) hf
  have hy : ∀ z ∈ ys, z ∈ o := fun z hz => (h2 z).2 (.inr (List.mem_append_right _ hz))
  rw [← h0]
  refine ofS_congr fun x => ?_
  have e : x ∈ xs ++ ys ↔ x ∈ o := by rw [h2]; simp
  rw [e, List.mem_append]
  unfold minusS
  rw [List.mem_filter]
  constructor
  · rintro (h | h)
    · exact h.1
    · exact hy x h
  · intro h
    cases hq : (findS ys x.id).2 with
    | false => exact .inl ⟨h, rfl⟩
    | true =>
      have hz := find_yes (show findS ys x.id = ((findS ys x.id).1, true) by rw [← hq])
      have := rising_one h1 (hy _ hz.1) h hz.2
      rw [this] at hz
      exact .inr hz.1
theorem union2_calls (W : World) (A B : Option Addr) (c d n m : Nat) (xs ys : List CmdD) (I J : Nat → Prop) (hn : n = xs.length) (hm : m = ys.length) (h : Rep.Row cmdRep I W A xs) (h' : Rep.Row cmdRep J W B ys) (hc : xs.length ≤ c) (hd : ys.length ≤ d) (hA : A = none → c = 0) (hB : B = none → d = 0) (hl : (xs ++ ys).length ≤ 900000) (o : List CmdD) (k : Int) (ho : ofS (xs ++ ys) = (o, k)) :
    Calls Try.prog 34 #[.slice (some ⟨W.heap.size, 0, none⟩) 2 2] (W.alloc (.cells #[.slice A n c, .slice B m d] 23)) fun e w' => ∃ A1 c1, e = .returned (.tuple #[.slice A1 o.length c1, .int .i64 k]) ∧ Hold (A1 = none → c1 = 0) ∧ Hold (o.length ≤ c1) ∧ Hold (CO W w' (.slice A1 o.length c1) o) := by
  subst hn hm
  have hr := rows2 W 23 A B c d xs ys h h' hc hd hA hB
  have hfl : [xs, ys].flatten = xs ++ ys := by simp
  refine (union_calls _ 2 2 [xs, ys] _ _ rfl hr (by rw [hfl]; exact hl)).mono ?_
  rintro e w' ⟨v, rfl, HO⟩
  rw [hfl, ho] at HO ⊢
  dsimp only at HO ⊢
  obtain ⟨A1, c1, rfl, h1, h2⟩ := HO.out.form
  exact ⟨A1, c1, rfl, ⟨h2⟩, ⟨h1⟩, ⟨HO.out.lift ((Below.refl _ _).alloc (Nat.le_refl _) _)⟩⟩
set_option maxHeartbeats 16000000 in
set_option maxRecDepth 100000 in
theorem unionL_calls (A : Option Addr) (c : Nat) (xs : List CmdD) (B : Option Addr) (d : Nat) (ys : List CmdD) (w : World) (hc : xs.length ≤ c) (hA : A = none → c = 0) (h : Rep.Row cmdRep (fun _ => True) w A xs) (hd : ys.length ≤ d) (hB : B = none → d = 0) (h' : Rep.Row cmdRep (fun _ => True) w B ys) :
    Calls Try.prog 6 #[.slice A xs.length c, .slice B ys.length d] w fun e w' => e = .returned (.bool true) ∧ Below w.heap.size w w' := by
  have HX := Hold.mk h
  have HY := Hold.mk h'
  have HXc := Hold.mk (And.intro hc hA)
  have HYc := Hold.mk (And.intro hd hB)
  have hm := h.len_le
  have hm' := h'.len_le
  clear h h' hc hA hd hB
  by_cases b1 : 120 < xs.length
  · have t1 : (120 : Int) < (xs.length : Int) := by omega
    clear b1
    go_enter Try.func6, Try.ntmps6
    go_wp2_with fail
    refine (alive_calls w).mono ?_
    rintro e w1 ⟨rfl, HB1⟩
    go_wp2
    go_ret
    exact ⟨rfl, HB1.out⟩
  · have t1 : ¬ (120 : Int) < (xs.length : Int) := by omega
    by_cases b2 : 120 < ys.length
    · have t2 : (120 : Int) < (ys.length : Int) := by omega
      clear b1 b2
      go_enter Try.func6, Try.ntmps6
      go_wp2_with fail
      refine (alive_calls w).mono ?_
      rintro e w1 ⟨rfl, HB1⟩
      go_wp2
      go_ret
      exact ⟨rfl, HB1.out⟩
    · have t2 : ¬ (120 : Int) < (ys.length : Int) := by omega
      have HL : Hold (xs.length ≤ 120 ∧ ys.length ≤ 120) := ⟨by omega, by omega⟩
      have hle : (xs ++ ys).length ≤ 900000 := by rw [List.length_append]; omega
      have hle' : (ys ++ xs).length ≤ 900000 := by rw [List.length_append]; omega
      have hsw : ofS (ys ++ xs) = ofS (xs ++ ys) := ofS_congr fun x => by simp [or_comm]
      have HU := Hold.mk (fun o k (ho : ofS (xs ++ ys) = (o, k)) W (hb : Below w.heap.size w W) => union2_calls W A B c d xs.length ys.length xs ys _ _ rfl rfl (HX.out.below hb) (HY.out.below hb) HXc.out.1 HYc.out.1 HXc.out.2 HYc.out.2 hle o k ho)
      have HV := Hold.mk (fun o k (ho : ofS (xs ++ ys) = (o, k)) W (hb : Below w.heap.size w W) => union2_calls W B A d c ys.length xs.length ys xs _ _ rfl rfl (HY.out.below hb) (HX.out.below hb) HYc.out.1 HXc.out.1 HYc.out.2 HXc.out.2 hle' o k (hsw.trans ho))
      clear b1 b2 hle hle' hsw
      rcases ofS_cases (xs ++ ys) with ⟨k, hk, ho⟩ | ⟨o, ho, hk, hf, hl⟩
      · have tk : (k != 0) = true := by simpa using hk
        have HU1 := Hold.mk (HU.out [] k ho)
        have HV1 := Hold.mk (HV.out [] k ho)
        clear HU HV ho hk
        go_enter Try.func6, Try.ntmps6
        go_wp2_with fail
        refine (HU1.out w (Below.refl _ _)).mono ?_
        rintro e w1 ⟨A1, c1, rfl, HA1, HC1, HO1⟩
        go_wp2_with fail
        refine (HV1.out w1 HO1.out.bel).mono ?_
        rintro e w2 ⟨A2, c2, rfl, HA2, HC2, HO2⟩
        have HS := Hold.mk (psame_calls A1 A2 c1 c2 0 0 [] [] _ _ w2 rfl rfl (HO1.out.own.row.below HO2.out.bel) HO2.out.own.row)
        have HB2 := Hold.mk (HO1.out.bel.trans (HO2.out.bel.mono HO1.out.bel.size))
        go_wp2_with (first
          | (go_at_call 35; refine HS.out.mono ?_; rintro e w3 ⟨rfl, HB3⟩)
          | (go_at_call 33; refine (alive_calls _).mono ?_; rintro e w4 ⟨rfl, HB4⟩))
        go_ret
        exact ⟨rfl, HB2.out.trans ((HB3.out.trans (HB4.out.mono HB3.out.size)).mono HB2.out.size)⟩
      · have HU1 := Hold.mk (HU.out o 0 ho)
        have HV1 := Hold.mk (HV.out o 0 ho)
        obtain ⟨f1, f2⟩ := foldR_some (xs ++ ys) [] o (by simp) hf
        have HM := Hold.mk (fun x => show x ∈ o ↔ x ∈ xs ∨ x ∈ ys by rw [f2]; simp)
        have HRt := Hold.mk (set_ok hk hf hl)
        have HBk := Hold.mk (back_set hf ho)
        have hol : o.length ≤ 1024 := hl
        clear HU HV ho hk hf f1 f2 hl
        go_enter Try.func6, Try.ntmps6
        go_wp2_with fail
        refine (HU1.out w (Below.refl _ _)).mono ?_
        rintro e w1 ⟨A1, c1, rfl, HA1, HC1, HO1⟩
        go_wp2_with fail
        refine (HV1.out w1 HO1.out.bel).mono ?_
        rintro e w2 ⟨A2, c2, rfl, HA2, HC2, HO2⟩
        have HS := Hold.mk (psame_calls A1 A2 c1 c2 _ _ o o _ _ w2 rfl rfl (HO1.out.own.row.below HO2.out.bel) HO2.out.own.row)
        have HB2 := Hold.mk (HO1.out.bel.trans (HO2.out.bel.mono HO1.out.bel.size))
        rw [decide_eq_true rfl] at HS
        go_wp2_with (go_at_call 35; refine HS.out.mono ?_; rintro e w3 ⟨rfl, HB3⟩)
        have HO3 := Hold.mk (HO1.out.own.row.below (HO2.out.bel.trans (HB3.out.mono HO2.out.bel.size)))
        have HB4 := Hold.mk (HB2.out.trans (HB3.out.mono HB2.out.size))
        clear HU1 HV1 HS HB2 HB3 HO2 HA2 HC2
        go_loopw [9] (fun s wr => ∃ i : Nat, i ≤ xs.length ∧ s = .int .i64 (i : Int) ∧ Hold (Below w3.heap.size w3 wr)) (fun s _ => xs.length - (intOf s).toNat)
        case atStart => exact ⟨0, by omega, rfl, ⟨Below.refl _ _⟩⟩
        case round =>
          obtain ⟨i, hi, rfl, HBr⟩ := hrel
          by_cases hlt : i < xs.length
          · have l1 : (i : Int) < (xs.length : Int) := by omega
            obtain ⟨ad, p, rfl, hp, _, ⟨c0, c1', c2, c3, c4, c5, c6, _⟩⟩ := row_cmd (HX.out.below (HB4.out.trans (HBr.out.mono HB4.out.size))) i hlt
            obtain ⟨x, hx⟩ : ∃ x, xs[i] = x := ⟨_, rfl⟩
            rw [hx] at c0 c1' c2 c3 c4 c5 c6
            have hin : decide (x ∈ o) = true := decide_eq_true ((HM.out x).2 (.inl (by rw [← hx]; exact List.getElem_mem _)))
            have HH := has_calls A1 c1 o.length o x _ wr rfl (HO3.out.below HBr.out)
            rw [hin] at HH
            have HH' := Hold.mk HH
            clear hx hin HH
            go_wp2_with (go_at_call 36; refine HH'.out.mono ?_; rintro e w5 ⟨rfl, HB5⟩)
            exact ⟨⟨i + 1, by omega, by go_num, ⟨HBr.out.trans (HB5.out.mono HBr.out.size)⟩⟩, by simp [intOf]; omega⟩
          · have l1 : ¬ (i : Int) < (xs.length : Int) := by omega
            go_wp2
            have HB6 := Hold.mk (HB4.out.trans (HBr.out.mono HB4.out.size))
            have HO6 := Hold.mk (HO3.out.below HBr.out)
            clear l1
            go_loopw [11] (fun s wt => ∃ i : Nat, i ≤ ys.length ∧ s = .int .i64 (i : Int) ∧ Hold (Below wr.heap.size wr wt)) (fun s _ => ys.length - (intOf s).toNat)
            case atStart => exact ⟨0, by omega, rfl, ⟨Below.refl _ _⟩⟩
            case round =>
              clear hlt hi HBr HO3 HB4
              obtain ⟨i, hi, rfl, HBt⟩ := hrel
              by_cases hlt : i < ys.length
              · have l1 : (i : Int) < (ys.length : Int) := by omega
                obtain ⟨ad, p, rfl, hp, _, ⟨c0, c1', c2, c3, c4, c5, c6, _⟩⟩ := row_cmd (HY.out.below (HB6.out.trans (HBt.out.mono HB6.out.size))) i hlt
                obtain ⟨x, hx⟩ : ∃ x, ys[i] = x := ⟨_, rfl⟩
                rw [hx] at c0 c1' c2 c3 c4 c5 c6
                have hin : decide (x ∈ o) = true := decide_eq_true ((HM.out x).2 (.inr (by rw [← hx]; exact List.getElem_mem _)))
                have HH := has_calls A1 c1 o.length o x _ _ rfl (HO6.out.below HBt.out)
                rw [hin] at HH
                have HH' := Hold.mk HH
                clear hx hin HH
                go_wp2_with (go_at_call 36; refine HH'.out.mono ?_; rintro e w5 ⟨rfl, HB5⟩)
                exact ⟨⟨i + 1, by omega, by go_num, ⟨HBt.out.trans (HB5.out.mono HBt.out.size)⟩⟩, by simp [intOf]; omega⟩
              · have l1 : ¬ (i : Int) < (ys.length : Int) := by omega
                go_wp2
                have HB7 := Hold.mk (HB6.out.trans (HBt.out.mono HB6.out.size))
                have HO7 := Hold.mk (HO6.out.below HBt.out)
                obtain ⟨wa, hwa⟩ : ∃ W : World, W = W := ⟨w, rfl⟩
                clear l1 hwa wa
                go_loopw [13] (fun s wu => ∃ i : Nat, i ≤ o.length ∧ s = .int .i64 (i : Int) ∧ Hold (Below w.heap.size w wu) ∧ Hold (Rep.Row cmdRep (fun _ => True) wu A1 o)) (fun s _ => o.length - (intOf s).toNat)
                case atStart => exact ⟨0, by omega, rfl, HB7, ⟨HO7.out.move fun _ _ _ => ⟨trivial, rfl⟩⟩⟩
                case round =>
                  clear hlt hi HBt HO6 HB6 HB7 HO7
                  obtain ⟨i, hi, rfl, HBu, HOu⟩ := hrel
                  by_cases hlt : i < o.length
                  · have l1 : (i : Int) < (o.length : Int) := by omega
                    obtain ⟨ad, p, rfl, hp, hpl, ⟨c0, c1', c2, c3, c4, c5, c6, _⟩⟩ := row_cmd HOu.out i hlt
                    obtain ⟨x, hx⟩ : ∃ x, o[i] = x := ⟨_, rfl⟩
                    rw [hx] at c0 c1' c2 c3 c4 c5 c6
                    have hin : x ∈ xs ∨ x ∈ ys := (HM.out x).1 (by rw [← hx]; exact List.getElem_mem _)
                    have HXI := Hold.mk hx
                    have HH1 := has_calls A c xs.length xs x _ _ rfl (HX.out.below HBu.out)
                    have HH2 := Hold.mk (fun W (hb : Below w.heap.size w W) => has_calls B d ys.length ys x _ W rfl (HY.out.below hb))
                    obtain ⟨bx, hbx⟩ : ∃ b, decide (x ∈ xs) = b := ⟨_, rfl⟩
                    obtain ⟨by', hby⟩ : ∃ b, decide (x ∈ ys) = b := ⟨_, rfl⟩
                    have hor : bx = true ∨ by' = true := by
                      rcases hin with h | h
                      · exact .inl (by rw [← hbx]; exact decide_eq_true h)
                      · exact .inr (by rw [← hby]; exact decide_eq_true h)
                    rw [hbx] at HH1
                    rw [hby] at HH2
                    have HH1' := Hold.mk HH1
                    clear hx hin HH1 hbx hby
                    go_upto_region 25 with (go_at_call 36; refine HH1'.out.mono ?_; rintro e w5 ⟨rfl, HB5⟩)
                    obtain ⟨ad', p', e', hp', _, ⟨d0, d1, d2, d3, d4, d5, d6, _⟩⟩ := row_cmd (HOu.out.below HB5.out) i hlt
                    cases e'
                    obtain rfl : p = p' := hp.symm.trans hp'
                    rw [HXI.out] at d0 d1 d2 d3 d4 d5 d6
                    have HBy := Hold.mk (HBu.out.trans (HB5.out.mono HBu.out.size))
                    have HOy := Hold.mk (HOu.out.below HB5.out)
                    clear hp' c0 c1' c2 c3 c4 c5 c6
                    cases bx
                    · obtain rfl : by' = true := by simpa using hor
                      clear hor
                      go_wp2_with (go_at_call 36; refine (HH2.out _ HBy.out).mono ?_; rintro e w6 ⟨rfl, HB6⟩)
                      exact ⟨⟨i + 1, by omega, by go_num, ⟨HBy.out.trans (HB6.out.mono HBy.out.size)⟩, ⟨HOy.out.below HB6.out⟩⟩, by simp [intOf]; omega⟩
                    · clear hor
                      go_wp2_with (go_at_call 36; refine (HH2.out _ HBy.out).mono ?_; rintro e w6 ⟨rfl, HB6⟩)
                      exact ⟨⟨i + 1, by omega, by go_num, ⟨HBy.out.trans (HB6.out.mono HBy.out.size)⟩, ⟨HOy.out.below HB6.out⟩⟩, by simp [intOf]; omega⟩
                  · have l1 : ¬ (i : Int) < (o.length : Int) := by omega
                    have HMn := Hold.mk (minus_calls A1 B c1 d o ys _ _ wr HOu.out (HY.out.below HBu.out) (by omega))
                    go_wp2_with fail
                    refine HMn.out.mono ?_
                    rintro e w8 ⟨v8, rfl, HO8⟩
                    have HB8 := Hold.mk (HBu.out.trans (HO8.out.bel.mono HBu.out.size))
                    have HR8 := Hold.mk (HOu.out.below HO8.out.bel)
                    obtain ⟨A8, c8, rfl, hc8, hn8⟩ := HO8.out.form
                    have hml : (minusS o ys ++ ys).length ≤ 900000 := by
                      have := minus_le o ys
                      have := HL.out.2
                      rw [List.length_append]; omega
                    have HU8 := Hold.mk (union2_calls w8 A8 B c8 d _ _ (minusS o ys) ys _ _ rfl rfl HO8.out.own.row (HY.out.below HB8.out) hc8 HYc.out.1 hn8 HYc.out.2 hml o 0 HBk.out)
                    obtain ⟨ms, hms⟩ : ∃ n, (minusS o ys).length = n := ⟨_, rfl⟩
                    rw [hms] at HU8
                    rw [hms]
                    clear hms hc8 hn8 HO8 HMn HOu HBu hml
                    go_wp2_with fail
                    refine HU8.out.mono ?_
                    rintro e w9 ⟨A9, c9, rfl, HA9, HC9, HO9⟩
                    have HB9 := Hold.mk (HB8.out.trans (HO9.out.bel.mono HB8.out.size))
                    have HR9 := Hold.mk (HR8.out.below HO9.out.bel)
                    have HRt9 := Hold.mk (fun W (hb : Below w9.heap.size w9 W) => Preds.right_calls A1 c1 o.length o _ W rfl (HR9.out.below hb) true HRt.out)
                    have HS9 := Hold.mk (fun W (hb : Below w9.heap.size w9 W) => psame_calls A9 A1 c9 c1 _ _ o o _ _ W rfl rfl (HO9.out.own.row.below hb) (HR9.out.below hb))
                    rw [decide_eq_true rfl] at HS9
                    clear HO9 HR8 HB8 HU8
                    go_wp2_with (first
                      | (go_at_call 33; refine (alive_calls _).mono ?_; rintro e w10 ⟨rfl, HB10⟩)
                      | (go_at_call 38; refine (HRt9.out _ HB10.out).mono ?_; rintro e w11 ⟨rfl, HB11⟩)
                      | (go_at_call 35; refine (HS9.out _ (HB10.out.trans (HB11.out.mono HB10.out.size))).mono ?_; rintro e w12 ⟨rfl, HB12⟩))
                    go_ret
                    have q1 := HB10.out.trans (HB11.out.mono HB10.out.size)
                    exact ⟨rfl, HB9.out.trans ((q1.trans (HB12.out.mono q1.size)).mono HB9.out.size)⟩
end Go.Proofs.Ytebhclgnpnlekaa.Pr
