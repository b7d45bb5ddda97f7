/- A number that comes, as the document says: lictorref04's Num by its walk. -/
import Derived.Test.YtebhclgnpnlekaaNum
namespace Go.Proofs.Ytebhclgnpnlekaa.Rd
open Go.RowKit Go.Proofs.Ytebhclgnpnlekaa.B Go.Proofs.Ytebhclgnpnlekaa.Cmd

set_option maxHeartbeats 4000000 in
set_option maxRecDepth 100000 in
theorem refNum_calls (g : Nat) (J : Nat → Prop) (w : World) (st : List Int × Int) (h : RAt 40 g J w st) :
    Calls Try.prog 22 #[.pointer (some ⟨g, 0, none⟩)] w (NumSaid 40 g J st w) := by
  obtain ⟨rest, e⟩ := st
  have H := Hold.mk h
  by_cases he : e = 0
  · subst he
    obtain ⟨A, c, hb, hc, hn, hr⟩ := h
    have hc : rest.length ≤ c := hc
    have c0 : w.cell? ⟨g, 0, none⟩ = some (.slice A rest.length c) := by simp [World.cell?, hb]
    have c1 : w.cell? ⟨g, 1, none⟩ = some (.int .i64 0) := by simp [World.cell?, hb]
    have f0 : w.frozen? ⟨g, 0, none⟩ = false := by simp [World.frozen?, hb]
    have hml := hr.len_le
    have HBk := Hold.mk hb
    have HC := Hold.mk hc
    have HN := Hold.mk hn
    have HR := Hold.mk hr
    clear hb hc hn hr
    go_enter Try.func22, Try.ntmps22
    go_wp2
    go_loopw [3, 4, 5] (fun a b s wr => ∃ (i : Nat) (n u : Int), i ≤ 6 ∧ s = .int .i64 (i : Int) ∧ a = .int .i64 n ∧ b = .int .i64 u ∧ 0 ≤ n ∧ n < u ∧ u = 128 ^ i ∧ Hold (i ≤ rest.length) ∧ Hold (dec 0 0 1 rest = dec i n u (rest.drop i)) ∧ w = wr) (fun _ _ s _ => 6 - (intOf s).toNat)
    case atStart => exact ⟨0, 0, 1, by omega, rfl, rfl, rfl, by omega, by omega, rfl, ⟨by omega⟩, ⟨by simp⟩, rfl⟩
    case round =>
      obtain ⟨i, n, u, hi, rfl, rfl, rfl, hn0, hnu, hu, HIl, HD, rfl⟩ := hrel
      by_cases hlt : i < 6
      · by_cases hil : i < rest.length
        · have l1 : (i : Int) < (rest.length : Int) := by omega
          obtain ⟨ad, x, rfl, hx, hcell, hwx⟩ := Rep.Row.get HR.out i hil
          obtain ⟨x0, x1⟩ := bounds_u8 hwx
          obtain ⟨y, hy⟩ : ∃ y, x % 128 = y := ⟨_, rfl⟩
          obtain ⟨m, hm⟩ : ∃ m, y * u = m := ⟨_, rfl⟩
          have hu5 : 0 < u ∧ u ≤ 34359738368 := by
            have h1 : (128 : Int) ^ i ≤ 128 ^ 5 := by
              have := Nat.pow_le_pow_right (n := 128) (by decide) (show i ≤ 5 by omega)
              exact_mod_cast this
            have h2 : (0 : Int) < 128 ^ i := by exact_mod_cast Nat.pow_pos (n := i) (show 0 < 128 by decide)
            rw [hu]
            exact ⟨h2, by have e : (128 : Int) ^ 5 = 34359738368 := by decide
                          omega⟩
          have hm0 : 0 ≤ m ∧ m ≤ 127 * u := by
            rw [← hm]
            exact ⟨Int.mul_nonneg (by omega) (by omega), Int.mul_le_mul_of_nonneg_right (by omega) (by omega)⟩
          obtain ⟨hm1, hm2⟩ := hm0
          obtain ⟨hu0, hu1⟩ := hu5
          have qm : wrap64 (y * u) = m := by rw [hm]; unfold wrap64; omega
          have hdrop : rest.drop i = x :: rest.drop (i + 1) := by
            rw [List.drop_eq_getElem_cons hil]
            rw [List.getElem?_eq_getElem hil] at hx
            injection hx with hx
            rw [hx]
          have HDr := Hold.mk hdrop
          have HU := Hold.mk hu
          have HY := Hold.mk hy
          have HM := Hold.mk hm
          clear hdrop hx hwx hu hm
          by_cases h128 : x < 128
          · have hxy : x = y := by omega
            by_cases hbig : 1099511627776 < n + m
            · have HF : Hold (numS (rest, 0) = (0, ([], 2))) := ⟨by
                unfold numS; simp only [ne_eq, not_true, if_false]
                rw [HD.out, HDr.out, dec, if_neg (by omega), if_pos (by omega), if_pos (.inr (by rw [hxy, HM.out]; exact hbig))]⟩
              have HNm : Hold (Oct.numOk (n + m) = false) := ⟨decide_eq_false (by omega)⟩
              have hxn : ¬ x = 0 := by
                intro e
                have : m = 0 := by rw [← HM.out, ← hxy, e]; simp
                omega
              have t13 : (¬ 0 < i) ∨ 0 < i := by omega
              clear hxy hbig
              rcases t13 with t13 | t13
              iterate 2
                · go_wp2_with (first
                    | (go_at_call 78; refine (Oct.refIn_calls _ _ false HNm.out).mono ?_; rintro e w3 ⟨rfl, rfl⟩)
                    | (go_at_call 85; refine (refFail_calls g _ _ _ H.out 2).mono ?_; rintro e w2 ⟨rfl, HA2, HF2⟩))
                  go_ret
                  rw [NumSaid, HF.out]
                  exact ⟨rfl, HA2.out, HF2.out⟩
            · have HNm : Hold (Oct.numOk (n + m) = true) := ⟨decide_eq_true (by omega)⟩
              by_cases hz : 0 < i ∧ x = 0
              · have HF : Hold (numS (rest, 0) = (0, ([], 2))) := ⟨by
                  unfold numS; simp only [ne_eq, not_true, if_false]
                  rw [HD.out, HDr.out, dec, if_neg (by omega), if_pos (by omega), if_pos (.inl hz)]⟩
                have HNn : Hold (Oct.numOk n = true) := ⟨decide_eq_true (by omega)⟩
                obtain ⟨hi0, hx0⟩ := hz
                have HX0 := Hold.mk hx0
                clear hbig
                subst hx0
                clear hxy
                go_wp2_with (first
                    | (go_at_call 78; refine (Oct.refIn_calls n _ true HNn.out).mono ?_; rintro e w3 ⟨rfl, rfl⟩)
                    | (go_at_call 85; refine (refFail_calls g _ _ _ H.out 2).mono ?_; rintro e w2 ⟨rfl, HA2, HF2⟩))
                go_ret
                rw [NumSaid, HF.out]
                exact ⟨rfl, HA2.out, HF2.out⟩
              · have HF : Hold (numS (rest, 0) = (n + m, (rest.drop (i + 1), 0))) := ⟨by
                  unfold numS; simp only [ne_eq, not_true, if_false]
                  rw [HD.out, HDr.out, dec, if_neg (by omega), if_pos (by omega), if_neg (by rintro (h | h); exact hz h; rw [hxy, HM.out] at h; exact hbig h), hxy, HM.out]⟩
                have t13 : (¬ 0 < i) ∨ (0 < i ∧ ¬ x = 0) := by
                  by_cases h0 : 0 < i
                  · exact .inr ⟨h0, fun e => hz ⟨h0, e⟩⟩
                  · exact .inl h0
                have s2 := fun W => Rep.run_cut_from (P := Try.prog) 25 5 .i64 Try.underlying25 size_u8 (some ad) rest.length c ((i : Int) + 1) (by omega) (by omega) W
                obtain ⟨r2, hr2⟩ : ∃ r, rest.drop (i + 1) = r := ⟨_, rfl⟩
                have e1 : ((i : Int) + 1).toNat = i + 1 := by omega
                have e2 : rest.length - (i + 1) = r2.length := by rw [← hr2, List.length_drop]
                have hle : i + 1 ≤ rest.length := by omega
                rw [e1, e2] at s2
                rw [hr2] at HF
                have HP := Hold.mk (RAt.put HBk.out HR.out HC.out HN.out (i + 1) hle r2 hr2)
                clear hz hxy hbig e1 e2 hr2 hle
                rcases t13 with t13 | ⟨t13, t14⟩
                all_goals
                  go_wp2_with (go_at_call 78; refine (Oct.refIn_calls _ _ true HNm.out).mono ?_; rintro e w3 ⟨rfl, rfl⟩)
                  go_ret
                  rw [NumSaid, HF.out]
                  exact ⟨rfl, HP.out, (Fr.refl (Its g) _).setCell (p := ⟨g, 0, none⟩) (.inl rfl) _⟩
          · have hxy : x - 128 = y := by omega
            have HD2 : Hold (dec 0 0 1 rest = dec (i + 1) (n + m) (u * 128) (rest.drop (i + 1))) := ⟨by rw [HD.out, HDr.out, dec, if_neg (by omega), if_neg h128, hxy, HM.out]⟩
            have hu2 : u * 128 = 128 ^ (i + 1) := by rw [Int.pow_succ, HU.out]
            have HU2 := Hold.mk hu2
            have hcm : 128 * u = u * 128 := Int.mul_comm _ _
            have h128' : 128 ≤ x := by omega
            clear hxy hu2 h128
            go_wp2
            exact ⟨⟨i + 1, n + m, u * 128, by omega, by go_num, by go_num, by go_num, by omega, by omega, HU2.out, ⟨by omega⟩, HD2, trivial⟩, by simp [intOf]; omega⟩
        · have hie : i = rest.length := by have := HIl.out; omega
          have HF : Hold (numS (rest, 0) = (0, ([], 3))) := ⟨by
            unfold numS; simp only [ne_eq, not_true, if_false]
            rw [HD.out, show rest.drop i = [] by apply List.drop_eq_nil_of_le; omega, dec, if_pos hlt]⟩
          have hge : rest.length ≤ i := by omega
          clear hie
          go_wp2_with (go_at_call 85; refine (refFail_calls g _ _ _ H.out 3).mono ?_; rintro e w2 ⟨rfl, HA2, HF2⟩)
          go_ret
          rw [NumSaid, HF.out]
          exact ⟨rfl, HA2.out, HF2.out⟩
      · obtain rfl : i = 6 := by omega
        have HF : Hold (numS (rest, 0) = (0, ([], 2))) := ⟨by
          unfold numS; simp only [ne_eq, not_true, if_false]
          rw [HD.out]
          cases rest.drop 6 with
          | nil => rw [dec, if_neg (by omega)]
          | cons x xs => rw [dec, if_pos (by omega)]⟩
        go_wp2_with (go_at_call 85; refine (refFail_calls g _ _ _ H.out 2).mono ?_; rintro e w2 ⟨rfl, HA2, HF2⟩)
        go_ret
        rw [NumSaid, HF.out]
        exact ⟨rfl, HA2.out, HF2.out⟩
  · have HF : Hold (numS (rest, e) = (0, (rest, e))) := ⟨by unfold numS; rw [if_pos he]⟩
    obtain ⟨A, c, hb, _⟩ := h
    have c1 : w.cell? ⟨g, 1, none⟩ = some (.int .i64 e) := by simp [World.cell?, hb]
    have t1 : (e != 0) = true := by simp [he]
    clear hb he
    go_enter Try.func22, Try.ntmps22
    go_wp2
    go_ret
    rw [NumSaid, HF.out]
    exact ⟨rfl, H.out, Fr.refl _ _⟩
end Go.Proofs.Ytebhclgnpnlekaa.Rd
