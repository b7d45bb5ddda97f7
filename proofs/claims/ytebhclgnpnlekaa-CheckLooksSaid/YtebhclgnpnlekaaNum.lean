/- A number that comes: package octet's Num, and the document's, by their walks. -/
import Derived.Test.YtebhclgnpnlekaaReader
namespace Go.Proofs.Ytebhclgnpnlekaa.Rd
open Go.RowKit Go.Proofs.Ytebhclgnpnlekaa.B Go.Proofs.Ytebhclgnpnlekaa.Cmd

theorem size_u8 : (Try.prog.info? 5).map (·.size) = some 1 := by kernel_rfl
/-- The rest of a reader, stored. -/
theorem RAt.put {T : TypeId} {g : Nat} {J : Nat → Prop} {w : World} {A : Option Addr} {c : Nat} {rest : List Int} {e : Int} (hb : w.heap[g]? = some (.cells #[.slice A rest.length c, .int .i64 e] T (0, 0))) (hr : Rep.Row (Rep.int .u8) (fun k => k ≠ g ∧ J k) w A rest) (hc : rest.length ≤ c) (hn : A = none → c = 0) (k : Nat) (hk : k ≤ rest.length) (r2 : List Int) (h2 : rest.drop k = r2) :
    RAt T g J (w.setCell ⟨g, 0, none⟩ (.slice (Rep.cutAddr A c k 1) r2.length (c - k))) (r2, e) := by
  have h := hr.cut k rest.length c (Nat.le_refl _) hc
  rw [List.take_length, h2] at h
  refine ⟨Rep.cutAddr A c k 1, c - k, blk_set _ _ 0 _ hb, by show r2.length ≤ _; rw [← h2, List.length_drop]; omega, fun e => by have := hn (Rep.cutAddr_none e); omega, h.move fun j hj _ => ⟨hj, Below.heap_setCell _ _ _ _ hj.1⟩⟩
theorem dec_len (i : Nat) (n u : Int) (l : List Int) (m : Int) (r : List Int) (h : dec i n u l = .ok m r) : r.length < l.length := by
  induction l generalizing i n u with
  | nil => simp only [dec] at h; split at h <;> cases h
  | cons x xs ih =>
    simp only [dec] at h
    split at h
    · cases h
    · split at h
      · split at h
        · cases h
        · cases h; simp
      · have := ih _ _ _ h; simp; omega

/-- What Num leaves. -/
def NumSaid (T : TypeId) (g : Nat) (J : Nat → Prop) (st : List Int × Int) (w : World) (e : Ending) (w' : World) : Prop :=
  e = .returned (.int .i64 (numS st).1) ∧ RAt T g J w' (numS st).2 ∧ Fr (Its g) w w'

set_option maxHeartbeats 4000000 in
set_option maxRecDepth 100000 in
theorem num_calls (g : Nat) (J : Nat → Prop) (w : World) (st : List Int × Int) (h : RAt 131 g J w st) :
    Calls Try.prog 21 #[.pointer (some ⟨g, 0, none⟩)] w (NumSaid 131 g J st w) := by
  obtain ⟨rest, e⟩ := st
  have H := Hold.mk h
  by_cases he : e = 0
  · subst he
    obtain ⟨A, c, hb, hc, hn, hr⟩ := h
    have hc : rest.length ≤ c := hc
    have c0 : w.cell? ⟨g, 0, none⟩ = some (.slice A rest.length c) := by simp [World.cell?, hb]
    have c1 : w.cell? ⟨g, 1, none⟩ = some (.int .i64 0) := by simp [World.cell?, hb]
    obtain ⟨k, hk⟩ : ∃ k, min rest.length 6 = k := ⟨_, rfl⟩
    have q2 : (if (6 : Int) < (rest.length : Int) then (6 : Int) else (rest.length : Int)) = (k : Int) := by split <;> omega
    have s1 := fun W => Rep.run_cut_to (P := Try.prog) 25 5 .i64 Try.underlying25 size_u8 A rest.length c (k : Int) (by omega) (by omega) W
    rw [show ((k : Int)).toNat = k by omega] at s1
    have hml := hr.len_le
    have hk6 : k ≤ 6 := by omega
    have HB := Hold.mk hb
    have HC := Hold.mk hc
    have HN := Hold.mk hn
    have HR := Hold.mk hr
    have HK := Hold.mk hk
    clear hb hc hn hr hk
    go_enter Try.func21, Try.ntmps21
    go_wp2
    go_quiet (fail)
    obtain ⟨w1, hw1⟩ : ∃ W, w.drewN nq = W := ⟨_, rfl⟩
    have hb1 : Below w.heap.size w w1 := by rw [← hw1]; exact below_drewN w nq
    rw [hw1]
    clear hw1 c0 c1 q2
    have HB1 := Hold.mk hb1
    have hblk : w1.heap[g]? = some (.cells #[.slice A rest.length c, .int .i64 0] 131 (0, 0)) := (hb1.block g H.out.lt).trans HB.out
    have c0 : w1.cell? ⟨g, 0, none⟩ = some (.slice A rest.length c) := by simp [World.cell?, hblk]
    have c1 : w1.cell? ⟨g, 1, none⟩ = some (.int .i64 0) := by simp [World.cell?, hblk]
    have f0 : w1.frozen? ⟨g, 0, none⟩ = false := by simp [World.frozen?, hblk]
    have HBk := Hold.mk hblk
    have HR1 := Hold.mk (HR.out.below hb1)
    have HA1 : Hold (RAt 131 g J w1 (rest, 0)) := ⟨H.out.below hb1⟩
    clear hb1 hblk
    go_wp2
    go_loopw [3, 4, 28] (fun a b s wr => ∃ (i : Nat) (n u : Int), i ≤ k ∧ s = .int .i64 (i : Int) ∧ a = .int .i64 n ∧ b = .int .i64 u ∧ 0 ≤ n ∧ n < u ∧ u = 128 ^ i ∧ Hold (dec 0 0 1 rest = dec i n u (rest.drop i)) ∧ w1 = wr) (fun _ _ s _ => k - (intOf s).toNat)
    case atStart => exact ⟨0, 0, 1, by omega, rfl, rfl, rfl, by omega, by omega, rfl, ⟨by simp⟩, rfl⟩
    case round =>
      obtain ⟨i, n, u, hi, rfl, rfl, rfl, hn0, hnu, hu, HD, rfl⟩ := hrel
      by_cases hlt : i < k
      · have l1 : (i : Int) < (k : Int) := by omega
        obtain ⟨ad, x, rfl, hx, hcell, hwx⟩ := Rep.Row.get HR1.out i (by have := HK.out; omega)
        obtain ⟨x0, x1⟩ := bounds_u8 hwx
        have hil : i < rest.length := by have := HK.out; omega
        obtain ⟨y, hy⟩ : ∃ y, x % 128 = y := ⟨_, rfl⟩
        obtain ⟨m, hm⟩ : ∃ m, y * u = m := ⟨_, rfl⟩
        have hu5 : 0 < u ∧ u ≤ 34359738368 := by
          have h1 : (128 : Int) ^ i ≤ 128 ^ 5 := by
            have := Nat.pow_le_pow_right (n := 128) (by decide) (show i ≤ 5 by omega)
            exact_mod_cast this
          have h2 : (0 : Int) < 128 ^ i := by exact_mod_cast Nat.pow_pos (n := i) (show 0 < 128 by decide)
          rw [hu]
          exact ⟨h2, by have e : (128 : Int) ^ 5 = 34359738368 := by decide
                        omega⟩
        have hm0 : 0 ≤ m ∧ m ≤ 127 * u := by
          rw [← hm]
          exact ⟨Int.mul_nonneg (by omega) (by omega), Int.mul_le_mul_of_nonneg_right (by omega) (by omega)⟩
        obtain ⟨hm1, hm2⟩ := hm0
        obtain ⟨hu0, hu1⟩ := hu5
        have qm : wrap64 (y * u) = m := by rw [hm]; unfold wrap64; omega
        have hdrop : rest.drop i = x :: rest.drop (i + 1) := by
          rw [List.drop_eq_getElem_cons (by have := HK.out; omega)]
          rw [List.getElem?_eq_getElem (by have := HK.out; omega)] at hx
          injection hx with hx
          rw [hx]
        have HDr := Hold.mk hdrop
        have HU := Hold.mk hu
        have HY := Hold.mk hy
        have HM := Hold.mk hm
        clear hdrop hx hwx hu hm
        by_cases h128 : x < 128
        · have hxy : x = y := by omega
          have t9 : decide (128 ≤ x) = false := decide_eq_false (by omega)
          by_cases hz : 0 < i ∧ x = 0
          · have HF : Hold (numS (rest, 0) = (0, ([], 2))) := ⟨by
              unfold numS; simp only [ne_eq, not_true, if_false]
              rw [HD.out, HDr.out, dec, if_neg (by omega), if_pos (by omega), if_pos (.inl hz)]⟩
            obtain ⟨hi0, hx0⟩ := hz
            have HX0 := Hold.mk hx0
            clear h128
            subst hx0
            clear hxy
            go_wp2_with (go_at_call 84; refine (fail_calls g _ _ rest HA1.out 2).mono ?_; rintro e w2 ⟨rfl, HA2, HF2⟩)
            go_ret
            rw [NumSaid, HF.out]
            exact ⟨rfl, HA2.out, (Fr.of_below (Its g) HB1.out).trans HF2.out (fun _ _ h => h)⟩
          · by_cases hbig : 1099511627776 < n + m
            · have HF : Hold (numS (rest, 0) = (0, ([], 2))) := ⟨by
                unfold numS; simp only [ne_eq, not_true, if_false]
                rw [HD.out, HDr.out, dec, if_neg (by omega), if_pos (by omega), if_pos (.inr (by rw [hxy, HM.out]; exact hbig))]⟩
              have t12 : decide (1099511627776 < n + m) = true := decide_eq_true hbig
              have t13 : (¬ 0 < i) ∨ (0 < i ∧ ¬ x = 0) := by
                by_cases h0 : 0 < i
                · exact .inr ⟨h0, fun e => hz ⟨h0, e⟩⟩
                · exact .inl h0
              clear hz h128 hxy hbig
              rcases t13 with t13 | ⟨t13, t14⟩
              all_goals
                go_wp2_with (go_at_call 84; refine (fail_calls g _ _ rest HA1.out 2).mono ?_; rintro e w2 ⟨rfl, HA2, HF2⟩)
                go_ret
                rw [NumSaid, HF.out]
                exact ⟨rfl, HA2.out, (Fr.of_below (Its g) HB1.out).trans HF2.out (fun _ _ h => h)⟩
            · have HF : Hold (numS (rest, 0) = (n + m, (rest.drop (i + 1), 0))) := ⟨by
                unfold numS; simp only [ne_eq, not_true, if_false]
                rw [HD.out, HDr.out, dec, if_neg (by omega), if_pos (by omega), if_neg (by rintro (h | h); exact hz h; rw [hxy, HM.out] at h; exact hbig h), hxy, HM.out]⟩
              have t12 : decide (1099511627776 < n + m) = false := decide_eq_false hbig
              have t13 : (¬ 0 < i) ∨ (0 < i ∧ ¬ x = 0) := by
                by_cases h0 : 0 < i
                · exact .inr ⟨h0, fun e => hz ⟨h0, e⟩⟩
                · exact .inl h0
              have s2 := fun W => Rep.run_cut_from (P := Try.prog) 25 5 .i64 Try.underlying25 size_u8 (some ad) rest.length c ((i : Int) + 1) (by omega) (by omega) W
              obtain ⟨r2, hr2⟩ : ∃ r, rest.drop (i + 1) = r := ⟨_, rfl⟩
              have e1 : ((i : Int) + 1).toNat = i + 1 := by omega
              have e2 : rest.length - (i + 1) = r2.length := by rw [← hr2, List.length_drop]
              have hle : i + 1 ≤ rest.length := by omega
              rw [e1, e2] at s2
              rw [hr2] at HF
              have HP := Hold.mk (RAt.put HBk.out HR1.out HC.out HN.out (i + 1) hle r2 hr2)
              clear hz h128 hxy hbig e1 e2 hr2 hle
              rcases t13 with t13 | ⟨t13, t14⟩
              all_goals
                go_wp2
                go_ret
                rw [NumSaid, HF.out]
                exact ⟨rfl, HP.out, (Fr.of_below (Its g) HB1.out).setCell (p := ⟨g, 0, none⟩) (.inl rfl) _⟩
        · have hxy : x - 128 = y := by omega
          have t9 : decide (128 ≤ x) = true := decide_eq_true (by omega)
          have HD2 : Hold (dec 0 0 1 rest = dec (i + 1) (n + m) (u * 128) (rest.drop (i + 1))) := ⟨by rw [HD.out, HDr.out, dec, if_neg (by omega), if_neg h128, hxy, HM.out]⟩
          have hu2 : u * 128 = 128 ^ (i + 1) := by rw [Int.pow_succ, HU.out]
          have HU2 := Hold.mk hu2
          clear h128 hxy hu2
          go_wp2
          exact ⟨⟨i + 1, n + m, u * 128, by omega, by go_num, by go_num, by go_num, by omega, by omega, HU2.out, HD2, trivial⟩, by simp [intOf]; omega⟩
      · obtain rfl : i = k := by omega
        have hiK := HK.out
        by_cases hs : rest.length < 6
        · have t1 : decide ((rest.length : Int) < 6) = true := decide_eq_true (by omega)
          have HF : Hold (numS (rest, 0) = (0, ([], 3))) := ⟨by
            unfold numS; simp only [ne_eq, not_true, if_false]
            rw [HD.out, show rest.drop i = [] by apply List.drop_eq_nil_of_le; omega, dec, if_pos (by omega)]⟩
          have tok : True := trivial
          clear hs hiK
          go_wp2_with (first
            | (go_at_call 84; have _t := tok; refine (fail_calls g _ _ rest HA1.out 3).mono ?_; rintro e w2 ⟨rfl, HA2, HF2⟩; clear tok)
            | (go_at_call 84; refine (fail_again g _ _ _ HA2.out (by decide) 2).mono ?_; rintro e w3 ⟨rfl, rfl⟩))
          go_ret
          rw [NumSaid, HF.out]
          exact ⟨rfl, HA2.out, (Fr.of_below (Its g) HB1.out).trans HF2.out (fun _ _ h => h)⟩
        · have t1 : decide ((rest.length : Int) < 6) = false := decide_eq_false (by omega)
          have HF : Hold (numS (rest, 0) = (0, ([], 2))) := ⟨by
            unfold numS; simp only [ne_eq, not_true, if_false]
            have h6 : i = 6 := by omega
            rw [HD.out, h6]
            cases rest.drop 6 with
            | nil => rw [dec, if_neg (by omega)]
            | cons x xs => rw [dec, if_pos (by omega)]⟩
          clear hs hiK
          go_wp2_with (go_at_call 84; refine (fail_calls g _ _ rest HA1.out 2).mono ?_; rintro e w2 ⟨rfl, HA2, HF2⟩)
          go_ret
          rw [NumSaid, HF.out]
          exact ⟨rfl, HA2.out, (Fr.of_below (Its g) HB1.out).trans HF2.out (fun _ _ h => h)⟩
  · have HF : Hold (numS (rest, e) = (0, (rest, e))) := ⟨by unfold numS; rw [if_pos he]⟩
    obtain ⟨A, c, hb, _⟩ := h
    have c1 : w.cell? ⟨g, 1, none⟩ = some (.int .i64 e) := by simp [World.cell?, hb]
    have t1 : (e != 0) = true := by simp [he]
    clear hb he
    go_enter Try.func21, Try.ntmps21
    go_wp2
    go_ret
    rw [NumSaid, HF.out]
    exact ⟨rfl, H.out, Fr.refl _ _⟩
theorem num_nil (w : World) : Calls Try.prog 21 #[.pointer none] w fun e w' => e = .returned (.int .i64 0) ∧ w = w' := by
  go_enter Try.func21, Try.ntmps21
  go_wp2
  go_ret
  exact ⟨rfl, rfl⟩

end Go.Proofs.Ytebhclgnpnlekaa.Rd
