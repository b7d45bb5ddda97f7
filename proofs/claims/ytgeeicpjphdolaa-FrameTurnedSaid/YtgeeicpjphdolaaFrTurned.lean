/- The law FrameTurned by its walk; no condition. -/
import Derived.Test.YtgeeicpjphdolaaFrPlain
import Derived.Test.YtgeeicpjphdolaaFrAlive
namespace Go.Proofs.Ytgeeicpjphdolaa.Frame
open Go.RowKit Go.Proofs.Ytgeeicpjphdolaa.B

/-- The tests ahead of all. -/
inductive Early (n with_ : Int) : Prop
  | short (h : decide (n < 1) = true)
  | long (h : decide (n < 1) = false) (h2 : decide (1500 < n) = true)
  | same (h : decide (n < 1) = false) (h2 : decide (1500 < n) = false) (h3 : (with_ == 0) = true)

set_option maxHeartbeats 4000000 in
theorem turned_early (A : Option Addr) (c : Nat) (b : List Int) (at_ with_ : Int) (w : World) (h : Early (b.length : Int) with_) :
    Calls Try.prog 5 #[.slice A b.length c, .int .i64 at_, .int .u8 with_] w fun e w' => e = .returned (.bool true) ∧ Below w.heap.size w w' := by
  rcases h with h1 | ⟨h1, h2⟩ | ⟨h1, h2, h3⟩
  all_goals
    go_enter Try.func5, Try.ntmps5
    go_wp2_with (go_at_call 15; refine (alive_calls _).mono ?_; rintro e w' ⟨rfl, hb⟩)
    go_ret
    exact ⟨rfl, hb⟩

inductive Out (n at_ : Int) : Prop
  | low (h : decide (at_ < 2) = true)
  | high (h : decide (at_ < 2) = false) (h2 : decide (n ≤ at_) = true)

set_option maxHeartbeats 4000000 in
theorem turned_out (A : Option Addr) (c : Nat) (b : List Int) (at_ with_ : Int) (I : Nat → Prop) (w : World) (hr : Rep.Row (Rep.int .u8) I w A b) (hn : A = none → c = 0) (h1 : decide ((b.length : Int) < 1) = false) (h2 : decide (1500 < (b.length : Int)) = false) (h3 : (with_ == 0) = false) (h : Out ((b.length : Int) + 6) at_) :
    Calls Try.prog 5 #[.slice A b.length c, .int .i64 at_, .int .u8 with_] w fun e w' => e = .returned (.bool true) ∧ Below w.heap.size w w' := by
  have HR := Hold.mk hr
  have HN := Hold.mk hn
  have hb1 : 1 ≤ b.length := by have := of_decide_eq_false h1; omega
  have hb2 : b.length ≤ 1500 := by have := of_decide_eq_false h2; omega
  have hb2i : (b.length : Int) ≤ 1500 := by omega
  have HL1 := Hold.mk hb1
  have HL2 := Hold.mk hb2
  clear hr hn hb1 hb2
  rcases h with h4 | ⟨h4, h5⟩
  all_goals
    go_enter Try.func5, Try.ntmps5
    go_wp2_with fail
    refine (wrap_yes A c b I w HR.out HN.out HL1.out (by have := HL2.out; omega)).mono ?_
    rintro e w1 ⟨A1, c1, rfl, hn1, ho1, hb1⟩
    have hwl := wrapL_length b
    have HB1 := Hold.mk hb1
    rw [hwl]
    clear ho1 hb1 hn1 hwl
    go_wp2_with (go_at_call 15; refine (alive_calls _).mono ?_; rintro e w' ⟨rfl, hb⟩)
    go_ret
    exact ⟨rfl, HB1.out.trans (hb.mono HB1.out.size)⟩

set_option maxHeartbeats 4000000 in
theorem turned_main (A : Option Addr) (c : Nat) (b : List Int) (k : Nat) (with_ : Int) (I : Nat → Prop) (w : World) (hr : Rep.Row (Rep.int .u8) I w A b) (hn : A = none → c = 0) (h1 : decide ((b.length : Int) < 1) = false) (h2 : decide (1500 < (b.length : Int)) = false) (h3 : (with_ == 0) = false)
    (hw : (Lit.int .u8 with_).wf = true) (h4 : decide ((k : Int) < 2) = false) (h5 : decide ((b.length : Int) + 6 ≤ k) = false) :
    Calls Try.prog 5 #[.slice A b.length c, .int .i64 (k : Int), .int .u8 with_] w fun e w' => e = .returned (.bool true) ∧ Below w.heap.size w w' := by
  have HR := Hold.mk hr
  have HN := Hold.mk hn
  have hb1 : 1 ≤ b.length := by have := of_decide_eq_false h1; omega
  have hb2 : b.length ≤ 1500 := by have := of_decide_eq_false h2; omega
  have hk2 : 2 ≤ k := by have := of_decide_eq_false h4; omega
  have hk6 : k < b.length + 6 := by have := of_decide_eq_false h5; omega
  have hb2i : (b.length : Int) ≤ 1500 := by omega
  have HL1 := Hold.mk hb1
  have HL2 := Hold.mk hb2
  have HK2 := Hold.mk hk2
  have HK6 := Hold.mk hk6
  have hkn : (k : Int) < (b.length : Int) + 6 := by omega
  clear hr hn hb1 hb2 hk2 hk6
  go_enter Try.func5, Try.ntmps5
  go_wp2_with fail
  refine (wrap_yes A c b I w HR.out HN.out HL1.out (by have := HL2.out; omega)).mono ?_
  rintro e w1 ⟨A1, c1, rfl, hn1, ho1, hb1⟩
  have hwl := wrapL_length b
  have HB1 := Hold.mk hb1
  have HN1 := Hold.mk hn1
  have HR1 := Hold.mk ho1.row
  have HWL := Hold.mk hwl
  rw [hwl]
  clear ho1 hb1 hn1 hwl
  go_wp2_with (at_builtin; refine Rep.wp_append (Rep.int .u8) rfl (.tmp 49) (.tmp 50) 22 5 (.int .u8 0) 1 rfl Try.underlying22 info_u8 rfl (by decide) (by decide) w1.heap.size _ [] (wrapL b) A1 (b.length + 6) c1 rfl rfl (by rw [wrapL_length]) (Rep.Own.lit _ _ _ nob _ (Nat.le_refl _)) ((HR1.out).move (J := fun k => k < w1.heap.size) fun k _ hlt => ⟨hlt, Below.heap_alloc _ _ _ hlt⟩) ?c1 HN1.out (by simp) ?c2 ?_)
  case c1 =>
    intro k hk _ he
    injection he with he
    simp at he; omega
  case c2 => have := HL2.out; have := HWL.out; simp; omega
  intro v2 w2 hown2 hg2 hat2
  have hb2 : Below w1.heap.size w1 w2 := ((Below.refl _ _).alloc (Nat.le_refl _) _).grown hg2 (by simp) (fun k h => by injection h with h; simp at h; omega)
  have hown2 := hown2.flat nob (Rep.flat_int _)
  obtain ⟨g, c2, hv2, hcl2⟩ := hown2.form_pos (by rw [HWL.out]; omega)
  rw [HWL.out] at hv2 hcl2
  subst hv2
  obtain ⟨ad, u, e1, hu, hcell, hwf⟩ := hown2.row.get k (by have := HWL.out; have := HK6.out; omega)
  cases e1
  have bu := bounds_u8 hwf
  have bw := bounds_u8 hw
  obtain ⟨un, rfl⟩ := Int.eq_ofNat_of_zero_le bu.1
  obtain ⟨wn, rfl⟩ := Int.eq_ofNat_of_zero_le bw.1
  have hx : bits .xor .u8 (un : Int) (wn : Int) = ((un ^^^ wn : Nat) : Int) := u8_xor_nat _ _ (by omega) (by omega)
  have hxl : un ^^^ wn < 256 := by
    have : (256 : Nat) = 2 ^ 8 := by decide
    rw [this]
    exact Nat.xor_lt_two_pow (by omega) (by omega)
  obtain ⟨v, hv⟩ : ∃ v, un ^^^ wn = v := ⟨_, rfl⟩
  rw [hv] at hx hxl
  have hvw : (Lit.int .u8 (v : Int)).wf = true := WalkArith.wf_u8 (by omega)
  have hne : (v : Int) ≠ (un : Int) := by
    have hw0 : (wn : Int) ≠ 0 := by simpa using h3
    intro h
    have h' : un ^^^ wn = un ^^^ 0 := by rw [Nat.xor_zero]; omega
    rw [Nat.xor_comm un wn, Nat.xor_comm un 0] at h'
    have := xor_cancel h'
    omega
  have hscan : scanL ((wrapL b).set k (v : Int)) = ([], 0) := by
    have hf := first_turned (Rep.row_wf HR.out) HL1.out (by have := HL2.out; omega) k HK2.out HK6.out v un hu hvw hne
    have hl : ((wrapL b).set k (v : Int)).length = b.length + 5 + 1 := by rw [List.length_set, HWL.out]
    unfold scanL
    rw [hl]
    simp only [scanF, hf]
  obtain ⟨_, hfree, hown3, hg3⟩ := hown2.store k (v : Int) (by have := HWL.out; have := HK6.out; omega) hvw
  have ha : (⟨g, 0, none⟩ : Addr).add k = ⟨g, k, none⟩ := by unfold Addr.add; split <;> simp_all
  rw [ha] at hcell
  have HS := Hold.mk hscan
  have hsl : ((wrapL b).set k (v : Int)).length = b.length + 6 := by rw [List.length_set, HWL.out]
  have HSL := Hold.mk hsl
  have HO3 := Hold.mk hown3
  have HCL := Hold.mk hcl2
  have HB2 := Hold.mk ((HB1.out.trans (hb2.mono HB1.out.size)).grown hg3 (Nat.le_trans HB1.out.size hb2.size) (fun k h => by
    injection h with h
    have := (hown2.block_lt g rfl).1
    have := HB1.out.size
    omega))
  clear hscan hsl hown2 hown3 hg3 hb2 hv hne hvw hu hwf bu bw ha hat2 hg2 hcl2 hxl hw
  go_wp2_with fail
  refine (scan_at _ _ _ _ [] 0 _ _ HSL.out.symm HS.out HO3.out.row (by rw [HSL.out]; exact HCL.out) (by have := HSL.out; have := HL2.out; omega)).mono ?_
  rintro e w4 ⟨A4, c4, rfl, hb4, _, _⟩
  have HB4 : Hold (Below w.heap.size w w4) := ⟨HB2.out.trans (hb4.mono HB2.out.size)⟩
  clear hb4
  go_wp2_with (go_at_call 15; refine (alive_calls _).mono ?_; rintro e w' ⟨rfl, hb⟩)
  go_ret
  exact ⟨rfl, HB4.out.trans (hb.mono HB4.out.size)⟩

/-- FrameTurned, of any bytes. -/
theorem turned_law (A : Option Addr) (c : Nat) (b : List Int) (at_ with_ : Int) (w : World) (_hl : b.length ≤ c) (hn : A = none → c = 0) (hr : Rep.Row (Rep.int .u8) (fun _ => True) w A b) (_ha : (Lit.int .i64 at_).wf = true) (hw : (Lit.int .u8 with_).wf = true) :
    Calls Try.prog 5 #[.slice A b.length c, .int .i64 at_, .int .u8 with_] w fun e w' => e = .returned (.bool true) ∧ Below w.heap.size w w' := by
  by_cases h1 : (b.length : Int) < 1
  · exact turned_early A c b at_ with_ w (.short (decide_eq_true h1))
  · by_cases h2 : 1500 < (b.length : Int)
    · exact turned_early A c b at_ with_ w (.long (decide_eq_false h1) (decide_eq_true h2))
    · by_cases h3 : (with_ == 0) = true
      · exact turned_early A c b at_ with_ w (.same (decide_eq_false h1) (decide_eq_false h2) h3)
      · have h3' := Bool.eq_false_iff.mpr h3
        by_cases h4 : at_ < 2
        · exact turned_out A c b at_ with_ _ w hr hn (decide_eq_false h1) (decide_eq_false h2) h3' (.low (decide_eq_true h4))
        · by_cases h5 : (b.length : Int) + 6 ≤ at_
          · exact turned_out A c b at_ with_ _ w hr hn (decide_eq_false h1) (decide_eq_false h2) h3' (.high (decide_eq_false h4) (decide_eq_true h5))
          · obtain ⟨k, rfl⟩ := Int.eq_ofNat_of_zero_le (show 0 ≤ at_ by omega)
            exact turned_main A c b k with_ _ w hr hn (decide_eq_false h1) (decide_eq_false h2) h3' hw (decide_eq_false h4) (decide_eq_false h5)
end Go.Proofs.Ytgeeicpjphdolaa.Frame
