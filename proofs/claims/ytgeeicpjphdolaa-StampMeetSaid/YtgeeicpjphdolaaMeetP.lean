/- Counting bits, and the law StampMeet out of its walk; no condition. -/
import Derived.Test.YtgeeicpjphdolaaMeetW
import Derived.Laws.BitsAllLaws
namespace Go.Proofs.Ytgeeicpjphdolaa.StampMeetAid
open Go.RowKit Go.Proofs.Ytgeeicpjphdolaa.PStampMeet Go.Proofs.YtgeeicpjphdolaaW.PrintWords Go.Proofs.YtgeeicpjphdolaaW.PrintLast Go.Proofs.YtgeeicpjphdolaaW.PrintMore

/-- How many of the lowest n bits are set. -/
def popc (a : Nat) : Nat → Nat
  | 0 => 0
  | n + 1 => popc a n + (a.testBit n).toNat
theorem pop_le (a n : Nat) : popc a n ≤ n := by
  induction n with
  | zero => exact Nat.le_refl _
  | succ n ih => have := Bool.toNat_le (a.testBit n); simp only [popc]; omega
theorem pop_zero (n : Nat) : popc 0 n = 0 := by
  induction n with
  | zero => rfl
  | succ n ih => simp [popc, ih]
theorem pop_and (a b n : Nat) : popc a n + popc b n ≤ n + popc (a &&& b) n := by
  induction n with
  | zero => exact Nat.le_refl _
  | succ n ih =>
    simp only [popc, Nat.testBit_and]
    cases a.testBit n <;> cases b.testBit n <;> simp <;> omega

theorem ones_loop (a n : Nat) (hn : n ≤ 9) (d : Nat) : ∀ (k i : Nat), i ≤ n → n - i = d → d < k → lictorlaw01_ones.l0 k (a : Int) (n : Int) (popc a i : Int) (i : Int) = some (popc a n : Int) := by
  induction d with
  | zero =>
    intro k i hi hd hk
    obtain ⟨k, rfl⟩ : ∃ m, k = m + 1 := ⟨k - 1, by omega⟩
    have : i = n := by omega
    subst this
    simp only [lictorlaw01_ones.l0]
    rw [if_neg (by omega)]
  | succ d ih =>
    intro k i hi hd hk
    obtain ⟨k, rfl⟩ : ∃ m, k = m + 1 := ⟨k - 1, by omega⟩
    simp only [lictorlaw01_ones.l0]
    have ew : IntKind.u64.wrap (i : Int) = (i : Int) := by rw [IntKind.wrap_u64]; omega
    have es : shr .u16 (a : Int) (i : Int) = ((a / 2 ^ i : Nat) : Int) := by
      unfold shr
      have : min (i : Int).toNat IntKind.u16.bits = i := by
        have : IntKind.u16.bits = 16 := rfl
        rw [this]; omega
      rw [this, Int.natCast_ediv, Int.natCast_pow]; rfl
    have et : wrap64 (Int.tmod ((a / 2 ^ i : Nat) : Int) 2) = ((a.testBit i).toNat : Int) := by
      rw [Nat.testBit_eq_decide_div_mod_eq]
      generalize a / 2 ^ i = q
      rw [Int.tmod_eq_emod_of_nonneg (by omega)]
      unfold wrap64
      by_cases h : q % 2 = 1
      · rw [decide_eq_true h]; show _ = (1 : Int); omega
      · rw [decide_eq_false h]; show _ = (0 : Int); omega
    rw [ew, if_pos (show (i : Int) < (n : Int) by omega), if_pos (show 0 ≤ (i : Int) by omega), es, et]
    have hb := Bool.toNat_le (a.testBit i)
    have hp := pop_le a i
    have e1 : wrap64 ((popc a i : Int) + ((a.testBit i).toNat : Int)) = (popc a (i + 1) : Int) := by simp only [popc]; unfold wrap64; omega
    have e2 : wrap64 ((i : Int) + 1) = ((i + 1 : Nat) : Int) := by unfold wrap64; omega
    rw [e1, e2]
    clear ew es et e1 e2 hb hp
    exact ih k (i + 1) (by omega) (by omega) (by omega)
theorem ones_eq (a n : Nat) (hn : n ≤ 9) : lictorlaw01_ones.f 20 (a : Int) (n : Int) = some (popc a n : Int) := by
  have h := ones_loop a n hn n 20 0 (by omega) (by omega) (by omega)
  have e : ((popc a 0 : Nat) : Int) = 0 := rfl
  have e2 : ((0 : Nat) : Int) = 0 := rfl
  rw [e, e2] at h
  delta lictorlaw01_ones.f
  exact h

/-- Classic, Fast, and what is needed, of each size. -/
theorem sizes (n : Int) (h3 : 3 ≤ n) (h9 : n ≤ 9) : ∃ cl fa : Int, stamp_Classic.f n = some cl ∧ stamp_Fast.f n = some fa ∧ n < 2 * cl ∧ 2 * n < 2 * fa + cl ∧ cl ≤ n ∧ fa ≤ n ∧ 0 ≤ cl ∧ 0 ≤ fa ∧
    n ≤ fa + cl ∧ cl < 2 * (fa - n + cl) ∧ stamp_Right.f n = some true := by
  have : n = 3 ∨ n = 4 ∨ n = 5 ∨ n = 6 ∨ n = 7 ∨ n = 8 ∨ n = 9 := by omega
  rcases this with rfl | rfl | rfl | rfl | rfl | rfl | rfl
  · exact ⟨2, 3, by decide +kernel, by decide +kernel, by decide, by decide, by decide, by decide, by decide, by decide, by decide, by decide, by decide +kernel⟩
  · exact ⟨3, 3, by decide +kernel, by decide +kernel, by decide, by decide, by decide, by decide, by decide, by decide, by decide, by decide, by decide +kernel⟩
  · exact ⟨3, 4, by decide +kernel, by decide +kernel, by decide, by decide, by decide, by decide, by decide, by decide, by decide, by decide, by decide +kernel⟩
  · exact ⟨4, 5, by decide +kernel, by decide +kernel, by decide, by decide, by decide, by decide, by decide, by decide, by decide, by decide, by decide +kernel⟩
  · exact ⟨4, 6, by decide +kernel, by decide +kernel, by decide, by decide, by decide, by decide, by decide, by decide, by decide, by decide, by decide +kernel⟩
  · exact ⟨5, 6, by decide +kernel, by decide +kernel, by decide, by decide, by decide, by decide, by decide, by decide, by decide, by decide, by decide +kernel⟩
  · exact ⟨5, 7, by decide +kernel, by decide +kernel, by decide, by decide, by decide, by decide, by decide, by decide, by decide, by decide, by decide +kernel⟩
theorem need_eq (n q fa : Int) (h9 : n ≤ 9) (h3 : 3 ≤ n) (hr : stamp_Right.f n = some true) (hf : stamp_Fast.f n = some fa) (hfa : 0 ≤ fa ∧ fa ≤ n) (h0 : 0 ≤ q) (hq : q ≤ n) : stamp_Need.f n q = some (fa - n + q) := by
  simp only [stamp_Need.f, hr, hf, Option.bind_some, if_true]
  rw [if_neg (by omega), if_neg (by omega)]
  congr 1
  unfold wrap64; omega

theorem law (s : Int) (cs : Array Value) (xs : List Int) (w : World) (hs : (Lit.int .u8 s).wf = true) (hk : (B.Rep.arr (B.Rep.int .u16) 3).K (fun _ => True) w xs cs.toList) :
    Calls Try.prog 11 #[.int .u8 s, .agg cs] w fun e w' => e = .returned (.bool true) ∧ Below w.heap.size w w' := by
  obtain ⟨hl, hcl, _, hx⟩ := hk
  match xs, hl with
  | [x0, x1, x2], _ =>
    obtain ⟨e0, hw0⟩ := hx 0 x0 rfl
    obtain ⟨e1, hw1⟩ := hx 1 x1 rfl
    obtain ⟨e2, hw2⟩ := hx 2 x2 rfl
    obtain rfl : cs = #[.int .u16 x0, .int .u16 x1, .int .u16 x2] := by
      match cs, hcl, e0, e1, e2 with
      | ⟨[c0, c1, c2]⟩, _, e0, e1, e2 =>
        have f0 : c0 = .int .u16 x0 := by simpa [B.Rep.int] using e0
        have f1 : c1 = .int .u16 x1 := by simpa [B.Rep.int] using e1
        have f2 : c2 = .int .u16 x2 := by simpa [B.Rep.int] using e2
        rw [f0, f1, f2]
    have bs := bounds_u8 hs
    have b0 := bounds_u16 hw0
    have b1 := bounds_u16 hw1
    have b2 := bounds_u16 hw2
    obtain ⟨x0, rfl⟩ := Int.eq_ofNat_of_zero_le b0.1
    obtain ⟨x1, rfl⟩ := Int.eq_ofNat_of_zero_le b1.1
    obtain ⟨x2, rfl⟩ := Int.eq_ofNat_of_zero_le b2.1
    have hM0 : 0 ≤ IntKind.u16.wrap (IntKind.u16.wrap (2 ^ (s % 7 + 3).toNat) - 1) ∧ IntKind.u16.wrap (IntKind.u16.wrap (2 ^ (s % 7 + 3).toNat) - 1) < 65536 := by
      rw [IntKind.wrap_u16 (IntKind.u16.wrap _ - 1)]; omega
    obtain ⟨M, hM⟩ := Int.eq_ofNat_of_zero_le hM0.1
    rw [hM] at hM0
    obtain ⟨n, hn⟩ : ∃ n : Nat, s % 7 + 3 = (n : Int) := ⟨(s % 7 + 3).toNat, by omega⟩
    rw [hn] at hM
    have la : ∀ x : Nat, x &&& M < 65536 := fun x => Nat.lt_of_le_of_lt Nat.and_le_right (by omega)
    have lb : ∀ x y : Nat, x < 65536 → x &&& y < 65536 := fun x y h => Nat.lt_of_le_of_lt Nat.and_le_left h
    obtain ⟨cl, fa, hcl, hfa, p1, p2, p3, p4, p5, p6, p7, p8, hr⟩ := sizes (n : Int) (by omega) (by omega)
    have hoc := pop_le (x2 &&& M) n
    have oA := pop_le (x0 &&& M) n
    have oB := pop_le (x1 &&& M) n
    have aAB := pop_and (x0 &&& M) (x1 &&& M) n
    have aAC := pop_and (x0 &&& M) (x2 &&& M) n
    have aABC := pop_and ((x0 &&& M) &&& (x1 &&& M)) (x2 &&& M) n
    have z1 : (x0 &&& M) &&& (x1 &&& M) = 0 → popc ((x0 &&& M) &&& (x1 &&& M)) n = 0 := fun h => by rw [h, pop_zero]
    have z2 : ((x0 &&& M) &&& (x1 &&& M)) &&& (x2 &&& M) = 0 → popc (((x0 &&& M) &&& (x1 &&& M)) &&& (x2 &&& M)) n = 0 := fun h => by rw [h, pop_zero]
    have nd := need_eq (n : Int) (popc (x2 &&& M) n : Int) fa (by omega) (by omega) hr hfa ⟨p6, p4⟩ (by omega) (by omega)
    have nc := need_eq (n : Int) cl fa (by omega) (by omega) hr hfa ⟨p6, p4⟩ (by omega) (by omega)
    refine walk s x0 x1 x2 n M ((x0 &&& M : Nat) : Int) ((x1 &&& M : Nat) : Int) ((x2 &&& M : Nat) : Int) (((x0 &&& M) &&& (x1 &&& M) : Nat) : Int) ((((x0 &&& M) &&& (x1 &&& M)) &&& (x2 &&& M) : Nat) : Int) (((x0 &&& M) &&& (x2 &&& M) : Nat) : Int)
      _ _ _ _ cl fa _ _ w bs.1 bs.2 (by omega) (by omega) hn hM (u16_and_nat _ _ (by omega) (by omega)) (u16_and_nat _ _ (by omega) (by omega)) (u16_and_nat _ _ (by omega) (by omega)) (u16_and_nat _ _ (la _) (la _)) (u16_and_nat _ _ (lb _ _ (la _)) (la _)) (u16_and_nat _ _ (la _) (la _))
      ⟨ones_eq _ n (by omega)⟩ ⟨ones_eq _ n (by omega)⟩ ⟨ones_eq _ n (by omega)⟩ ⟨ones_eq _ n (by omega)⟩ ⟨hcl⟩ ⟨hfa⟩ ⟨nd⟩ ⟨nc⟩ (by omega) (by omega) (by rw [decide_eq_true_iff]; omega) ?_ ?_
    · by_cases h1 : cl ≤ (popc (x0 &&& M) n : Int)
      · by_cases h2 : cl ≤ (popc (x1 &&& M) n : Int)
        · refine .yes (by simpa using h1) (by simpa using h2) ?_
          rw [beq_eq_false_iff_ne]; intro h
          have := z1 (by exact_mod_cast h)
          omega
        · exact .half (by simpa using h1) (by simpa using h2)
      · exact .no (by simpa using h1)
    · by_cases h1 : fa ≤ (popc (x0 &&& M) n : Int)
      · have hg : decide ((popc ((x0 &&& M) &&& (x2 &&& M)) n : Int) < fa - n + (popc (x2 &&& M) n : Int)) = false := by rw [decide_eq_false_iff_not]; omega
        by_cases h2 : fa ≤ (popc (x1 &&& M) n : Int)
        · by_cases h3 : cl ≤ (popc (x2 &&& M) n : Int)
          · refine .yes (by simpa using h1) (by simpa using h2) (by simpa using h3) ?_ hg
            rw [beq_eq_false_iff_ne]; intro h
            have := z2 (by exact_mod_cast h)
            omega
          · exact .two (by simpa using h1) (by simpa using h2) (by simpa using h3) hg
        · exact .one (by simpa using h1) (by simpa using h2) hg
      · exact .no (by simpa using h1)
end Go.Proofs.Ytgeeicpjphdolaa.StampMeetAid
