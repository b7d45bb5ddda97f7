/- slices.Compare of two pairs of numbers, by its walk. No condition. -/
import Derived.Test.YtebhclgnpnlekaaChkQ
namespace Go.Proofs.Ytebhclgnpnlekaa.Chk
open Go.RowKit Go.Proofs.Ytebhclgnpnlekaa.B Go.Proofs.Ytebhclgnpnlekaa.Cmd Go.Proofs.Ytebhclgnpnlekaa.Agg Go.Proofs.Ytebhclgnpnlekaa.Ent Go.Proofs.Ytebhclgnpnlekaa.Ord
def cmpI (a b : Int) : Int := if a < b then -1 else if b < a then 1 else 0
set_option maxHeartbeats 2000000 in
theorem cmpInt_calls (a b : Int) (w : World) (k : Int) (hk : cmpI a b = k) : Calls Try.prog 167 #[.int .i64 a, .int .i64 b] w fun r w' => r = .returned (.int .i64 k) ∧ w = w' := by
  unfold cmpI at hk
  by_cases h1 : a < b
  · rw [if_pos h1] at hk
    subst hk
    go_enter Try.func167, Try.ntmps167
    go_wp2
    go_ret
    exact ⟨rfl, rfl⟩
  · rw [if_neg h1] at hk
    by_cases h2 : b < a
    · rw [if_pos h2] at hk
      subst hk
      go_enter Try.func167, Try.ntmps167
      go_wp2
      go_ret
      exact ⟨rfl, rfl⟩
    · rw [if_neg h2] at hk
      subst hk
      go_enter Try.func167, Try.ntmps167
      go_wp2
      go_ret
      exact ⟨rfl, rfl⟩
def cmpP (a b : Pair) : Int := if cmpI a.1 b.1 ≠ 0 then cmpI a.1 b.1 else cmpI a.2 b.2
theorem cmp_less (a b : Pair) : decide (cmpP a b < 0) = lessP a b := by
  obtain ⟨a0, a1⟩ := a
  obtain ⟨b0, b1⟩ := b
  unfold cmpP cmpI lessP
  rw [Bool.eq_iff_iff]
  simp only [decide_eq_true_eq, Bool.or_eq_true, Bool.and_eq_true]
  by_cases h1 : a0 < b0
  · simp [h1]
  · by_cases h2 : b0 < a0
    · simp [h1, h2]; omega
    · by_cases h3 : a1 < b1
      · simp [h1, h2, h3]; omega
      · by_cases h4 : b1 < a1
        · simp [h1, h2, h3, h4]
        · simp [h1, h2, h3, h4]
set_option maxHeartbeats 4000000 in
set_option maxRecDepth 100000 in
theorem compare_calls (p q : Addr) (c d : Nat) (a b : Pair) (w : World) (ha0 : w.cell? (p.add 0) = some (.int .i64 a.1)) (ha1 : w.cell? (p.add 1) = some (.int .i64 a.2)) (hb0 : w.cell? (q.add 0) = some (.int .i64 b.1)) (hb1 : w.cell? (q.add 1) = some (.int .i64 b.2)) :
    Calls Try.prog 164 #[.slice (some p) 2 c, .slice (some q) 2 d] w fun r w' => r = .returned (.int .i64 (cmpP a b)) ∧ w = w' := by
  obtain ⟨a0, a1⟩ := a
  obtain ⟨b0, b1⟩ := b
  have HA := Hold.mk (And.intro ha0 ha1)
  have HB := Hold.mk (And.intro hb0 hb1)
  clear ha0 ha1 hb0 hb1
  obtain ⟨k0, hk0⟩ : ∃ k, cmpI a0 b0 = k := ⟨_, rfl⟩
  obtain ⟨k1, hk1⟩ : ∃ k, cmpI a1 b1 = k := ⟨_, rfl⟩
  have HE : Hold (cmpP (a0, a1) (b0, b1) = if k0 ≠ 0 then k0 else k1) := ⟨by unfold cmpP; rw [hk0, hk1]⟩
  rw [HE.out]
  obtain ⟨z, hz⟩ : ∃ z, (if k0 ≠ 0 then k0 else k1) = z := ⟨_, rfl⟩
  rw [hz]
  have HZ := Hold.mk hz
  clear hz
  have H0 := Hold.mk hk0
  have H1 := Hold.mk hk1
  clear hk0 hk1 HE
  go_enter Try.func164, Try.ntmps164
  go_wp2
  go_loopw [11] (fun s wr => ∃ i : Nat, i ≤ 2 ∧ s = .int .i64 (i : Int) ∧ Hold (1 ≤ i → k0 = 0) ∧ Hold (2 ≤ i → k1 = 0) ∧ wr = w) (fun s _ => 2 - (intOf s).toNat)
  case atStart => exact ⟨0, by omega, rfl, ⟨by omega⟩, ⟨by omega⟩, rfl⟩
  case round =>
    obtain ⟨i, hi, rfl, HX, HY, rfl⟩ := hrel
    have hcases : i = 0 ∨ i = 1 ∨ i = 2 := by omega
    rcases hcases with rfl | rfl | rfl
    · have c0 : wr.cell? p = some (.int .i64 a0) := HA.out.1
      have d0 : wr.cell? q = some (.int .i64 b0) := HB.out.1
      by_cases h : k0 = 0
      · have hb : (k0 != 0) = false := by simpa using h
        have HX1 : Hold (1 ≤ 1 → k0 = 0) := ⟨fun _ => h⟩
        clear h
        go_wp2_with (go_at_call 167; refine (cmpInt_calls a0 b0 _ k0 H0.out).mono ?_; rintro r w1 ⟨rfl, rfl⟩)
        exact ⟨⟨1, by omega, by go_num, HX1, ⟨by omega⟩, trivial⟩, by simp [intOf]⟩
      · have hb : (k0 != 0) = true := by simpa using h
        go_wp2_with (go_at_call 167; refine (cmpInt_calls a0 b0 _ k0 H0.out).mono ?_; rintro r w1 ⟨rfl, rfl⟩)
        go_ret
        exact ⟨by rw [← HZ.out, if_pos h]; rfl, rfl⟩
    · have c0 : wr.cell? ⟨p.block, p.off + 1, none⟩ = some (.int .i64 a1) := by simpa [Addr.add] using HA.out.2
      have d0 : wr.cell? ⟨q.block, q.off + 1, none⟩ = some (.int .i64 b1) := by simpa [Addr.add] using HB.out.2
      have h0 := HX.out (by omega)
      have HZ1 : Hold (k1 = z) := ⟨by rw [← HZ.out, if_neg (by simp [h0])]⟩
      by_cases h : k1 = 0
      · have hb : (k1 != 0) = false := by simpa using h
        have HY1 : Hold (2 ≤ 2 → k1 = 0) := ⟨fun _ => h⟩
        have HX1 : Hold (1 ≤ 2 → k0 = 0) := ⟨fun _ => h0⟩
        clear h h0
        go_wp2_with (go_at_call 167; refine (cmpInt_calls a1 b1 _ k1 H1.out).mono ?_; rintro r w1 ⟨rfl, rfl⟩)
        exact ⟨⟨2, by omega, by go_num, HX1, HY1, trivial⟩, by simp [intOf]⟩
      · have hb : (k1 != 0) = true := by simpa using h
        clear h0
        go_wp2_with (go_at_call 167; refine (cmpInt_calls a1 b1 _ k1 H1.out).mono ?_; rintro r w1 ⟨rfl, rfl⟩)
        go_ret
        exact ⟨by rw [← HZ1.out]; rfl, rfl⟩
    · have h0 := HX.out (by omega)
      have h1 := HY.out (by omega)
      have HZ1 : Hold ((0 : Int) = z) := ⟨by rw [← HZ.out, if_neg (by simp [h0]), h1]⟩
      go_wp2
      go_ret
      exact ⟨by rw [← HZ1.out]; rfl, rfl⟩
end Go.Proofs.Ytebhclgnpnlekaa.Chk
