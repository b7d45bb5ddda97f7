/- The law FrameTells by its walk; no condition. -/
import Derived.Test.YtgeeicpjphdolaaFrRefScan
import Derived.Test.YtgeeicpjphdolaaFrAlive
namespace Go.Proofs.Ytgeeicpjphdolaa.Frame
open Go.RowKit Go.Proofs.Ytgeeicpjphdolaa.B

/-- The test ahead of all. -/
inductive Far (n m : Int) : Prop
  | one (h : decide (1500 < n) = true)
  | two (h : decide (1500 < n) = false) (h2 : decide (1500 < m) = true)

set_option maxHeartbeats 4000000 in
theorem tells_far (A0 A1 : Option Addr) (c0 c1 : Nat) (b log : List Int) (w : World) (h : Far (b.length : Int) (log.length : Int)) :
    Calls Try.prog 3 #[.slice A0 b.length c0, .slice A1 log.length c1] w fun e w' => e = .returned (.bool true) ∧ Below w.heap.size w w' := by
  rcases h with h1 | ⟨h1, h2⟩
  all_goals
    go_enter Try.func3, Try.ntmps3
    go_wp2_with (go_at_call 15; refine (alive_calls _).mono ?_; rintro e w' ⟨rfl, hb⟩)
    go_ret
    exact ⟨rfl, hb⟩

/-- Both Wraps of some bytes. -/
theorem wrap_any (A : Option Addr) (c : Nat) (b : List Int) (I : Nat → Prop) (w : World) (hr : Rep.Row (Rep.int .u8) I w A b) (hn : A = none → c = 0) (hl : b.length ≤ 1500) :
    Calls Try.prog 16 #[.slice A b.length c] w fun e w1 => ∃ A1 n c1 er bs, e = .returned (.tuple #[.slice A1 n c1, .int .i64 er]) ∧ Hold (Below w.heap.size w w1) ∧ Hold (Rep.Row (Rep.int .u8) (fun _ => True) w1 A1 bs) ∧
      Hold (n = bs.length) ∧ Hold (∀ w1, Below w.heap.size w w1 → Calls Try.prog 17 #[.slice A b.length c] w1 fun e w2 => ∃ A2 c2, e = .returned (.tuple #[.slice A2 n c2, .int .i64 er]) ∧ Hold (Below w1.heap.size w1 w2) ∧ Hold (Rep.Row (Rep.int .u8) (fun _ => True) w2 A2 bs)) := by
  by_cases h1 : b.length < 1
  · refine (wrap_no A c b w (.inl h1)).mono ?_
    rintro e w' ⟨rfl, rfl⟩
    refine ⟨none, 0, 0, 1, [], rfl, ⟨Below.refl _ _⟩, ⟨Rep.Row.nil _ _ _ _⟩, ⟨rfl⟩, ⟨fun w1 hb => (refWrap_no A c _ b w1 rfl (.inl h1)).mono ?_⟩⟩
    rintro e w' ⟨rfl, rfl⟩
    exact ⟨none, 0, rfl, ⟨Below.refl _ _⟩, ⟨Rep.Row.nil _ _ _ _⟩⟩
  · refine (wrap_yes A c b I w hr hn (by omega) (by omega)).mono ?_
    rintro e w1 ⟨A1, c1, rfl, hn1, ho, hb⟩
    refine ⟨A1, _, c1, 0, wrapL b, rfl, ⟨hb⟩, ⟨ho.row.move fun k _ _ => ⟨trivial, rfl⟩⟩, ⟨rfl⟩, ⟨fun w2 hb2 => (refWrap_yes A c _ b (fun k => k < w.heap.size) w2 rfl (hr.move fun k _ hlt => ⟨hlt, hb2.block k hlt⟩) hn (by omega) (by omega)).mono ?_⟩⟩
    rintro e w3 ⟨A2, c2, rfl, HN2, HO2, HB2⟩
    rw [wrapL_length]
    exact ⟨A2, c2, rfl, HB2, ⟨HO2.out.row.move fun k _ _ => ⟨trivial, rfl⟩⟩⟩

set_option maxRecDepth 10000 in
set_option maxHeartbeats 4000000 in
theorem tells_near (A0 A1 : Option Addr) (c0 c1 : Nat) (b log : List Int) (w : World) (h1 : decide (1500 < (b.length : Int)) = false) (h2 : decide (1500 < (log.length : Int)) = false)
    (hn0 : A0 = none → c0 = 0) (hr0 : Rep.Row (Rep.int .u8) (fun _ => True) w A0 b) (hc1 : log.length ≤ c1) (hr1 : Rep.Row (Rep.int .u8) (fun _ => True) w A1 log) :
    Calls Try.prog 3 #[.slice A0 b.length c0, .slice A1 log.length c1] w fun e w' => e = .returned (.bool true) ∧ Below w.heap.size w w' := by
  have hb1 : b.length ≤ 1500 := by have := of_decide_eq_false h1; omega
  have hb2 : log.length ≤ 1500 := by have := of_decide_eq_false h2; omega
  have HR0 := Hold.mk hr0
  have HR1 := Hold.mk hr1
  have HN0 := Hold.mk hn0
  have HC1 := Hold.mk hc1
  have HL1 := Hold.mk hb1
  have HL2 := Hold.mk hb2
  clear hn0 hr0 hc1 hr1 hb1 hb2
  go_enter Try.func3, Try.ntmps3
  go_wp2_with fail
  refine (wrap_any A0 c0 b _ w HR0.out HN0.out HL1.out).mono ?_
  rintro e w1 ⟨B1, n, d1, er, bs, rfl, HB1, HW1, HNB, HRW⟩
  go_wp2_with fail
  refine (HRW.out w1 HB1.out).mono ?_
  rintro e w2 ⟨B2, d2, rfl, HB2, HW2⟩
  have HB12 := Hold.mk (HB1.out.trans (HB2.out.mono HB1.out.size))
  have HW1 := Hold.mk (HW1.out.below HB2.out)
  go_wp2_with fail
  refine (scan_calls A1 c1 log (fun k => k < w.heap.size) w2 (HR1.out.move fun k _ hlt => ⟨hlt, HB12.out.block k hlt⟩) HC1.out (by have := HL2.out; omega)).mono ?_
  rintro e w3 ⟨D1, f1, rfl, hb3, hn3, ho3⟩
  have HB3 := Hold.mk (HB12.out.trans (hb3.mono HB12.out.size))
  have HW1 := Hold.mk (HW1.out.below hb3)
  have HW2 := Hold.mk (HW2.out.below hb3)
  have HO3 := Hold.mk ho3
  clear hb3 hn3 ho3 HB2 HRW HB1
  go_wp2_with fail
  refine (refScan_calls A1 c1 log (fun k => k < w.heap.size) w3 (HR1.out.move fun k _ hlt => ⟨hlt, HB3.out.block k hlt⟩) HC1.out (by have := HL2.out; omega)).mono ?_
  rintro e w4 ⟨D2, f2, rfl, hb4, hn4, ho4⟩
  have HB4 := Hold.mk (HB3.out.trans (hb4.mono HB3.out.size))
  have HW1 := Hold.mk (HW1.out.below hb4)
  have HW2 := Hold.mk (HW2.out.below hb4)
  have HO3 := Hold.mk (HO3.out.below hb4)
  have HO4 := Hold.mk ho4
  clear hb4 hn4 ho4 HB3 HB12
  obtain ⟨outs, houts⟩ : ∃ outs, (scanL log).1 = outs := ⟨_, rfl⟩
  obtain ⟨m, hm⟩ : ∃ m, (scanL log).2 = m := ⟨_, rfl⟩
  rw [houts] at HO3 HO4
  rw [houts, hm]
  clear houts hm
  go_wp2_with fail
  refine (same_at D1 D2 _ _ f1 f2 outs outs _ _ w4 rfl rfl HO3.out.row HO4.out.row).mono ?_
  rintro e w5 ⟨rfl, H5⟩
  rw [decide_eq_true rfl]
  obtain ⟨q5, hq5⟩ := H5.out
  have hb5 : Below w4.heap.size w4 w5 := by rw [hq5]; exact below_drewN w4 q5
  have HB5 := Hold.mk (HB4.out.trans (hb5.mono HB4.out.size))
  have HW1 := Hold.mk (HW1.out.below hb5)
  have HW2 := Hold.mk (HW2.out.below hb5)
  clear hq5 hb5 H5 HO3 HO4 HB4
  go_wp2_with fail
  refine (alive_calls w5).mono ?_
  rintro e w6 ⟨rfl, hb6⟩
  have HB6 := Hold.mk (HB5.out.trans (hb6.mono HB5.out.size))
  have HW1 := Hold.mk (HW1.out.below hb6)
  have HW2 := Hold.mk (HW2.out.below hb6)
  clear hb6 HB5
  go_wp2_with fail
  refine (sum_calls A0 c0 b (fun k => k < w.heap.size) w6 (HR0.out.move fun k _ hlt => ⟨hlt, HB6.out.block k hlt⟩)).mono ?_
  rintro e w7 ⟨rfl, rfl⟩
  go_wp2_with fail
  refine (refSum_calls A0 c0 b (fun k => k < w.heap.size) w6 (HR0.out.move fun k _ hlt => ⟨hlt, HB6.out.block k hlt⟩) (by have := HL1.out; omega)).mono ?_
  rintro e w8 ⟨rfl, HB8⟩
  have HB9 := Hold.mk (HB6.out.trans (HB8.out.mono HB6.out.size))
  have hw1 := HW1.out.below HB8.out
  have hw2 := HW2.out.below HB8.out
  have q1 := Rep.row_string (P := Try.prog) (c := d1) Try.underlying22 Try.underlying5 Try.underlying9 hw1
  have q2 := Rep.row_string (P := Try.prog) (c := d2) Try.underlying22 Try.underlying5 Try.underlying9 hw2
  rw [← HNB.out] at q1 q2
  clear hw1 hw2 HB8 HB6
  go_wp2
  go_ret
  exact ⟨by simp, HB9.out⟩

/-- FrameTells, of any bytes. -/
theorem tells_law (A0 : Option Addr) (c0 : Nat) (b : List Int) (A1 : Option Addr) (c1 : Nat) (log : List Int) (w : World) (_hl0 : b.length ≤ c0) (hn0 : A0 = none → c0 = 0) (hr0 : Rep.Row (Rep.int .u8) (fun _ => True) w A0 b)
    (hl1 : log.length ≤ c1) (_hn1 : A1 = none → c1 = 0) (hr1 : Rep.Row (Rep.int .u8) (fun _ => True) w A1 log) :
    Calls Try.prog 3 #[.slice A0 b.length c0, .slice A1 log.length c1] w fun e w' => e = .returned (.bool true) ∧ Below w.heap.size w w' := by
  by_cases h1 : 1500 < (b.length : Int)
  · exact tells_far A0 A1 c0 c1 b log w (.one (decide_eq_true h1))
  · by_cases h2 : 1500 < (log.length : Int)
    · exact tells_far A0 A1 c0 c1 b log w (.two (decide_eq_false h1) (decide_eq_true h2))
    · exact tells_near A0 A1 c0 c1 b log w (decide_eq_false h1) (decide_eq_false h2) hn0 hr0 hl1 hr1
end Go.Proofs.Ytgeeicpjphdolaa.Frame
