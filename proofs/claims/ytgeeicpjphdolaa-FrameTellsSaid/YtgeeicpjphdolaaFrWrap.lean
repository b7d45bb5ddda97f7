/- frame.Wrap by its walk; no condition but that the bytes are read. -/
import Derived.Test.YtgeeicpjphdolaaFrLow
import Derived.Test.YtgeeicpjphdolaaFrSum
namespace Go.Proofs.Ytgeeicpjphdolaa.Frame
open Go.RowKit Go.Proofs.Ytgeeicpjphdolaa.B

theorem own_some {g n c : Nat} {k : Nat} (h : nob k ∨ (Value.slice (some ⟨g, 0, none⟩) n c).ownBlock = some k) : k = g := by
  rcases h with h | h
  · exact h.elim
  · injection h with h; exact h.symm
theorem crc_lt (b : List Int) : crc b < 4294967296 := by unfold crc FF; omega
/-- A frame. -/
def wrapL (b : List Int) : List Int := lowL b.length 2 ++ b ++ lowL (crc b) 4
theorem wrapL_length (b : List Int) : (wrapL b).length = b.length + 6 := by simp [wrapL, lowL_length]; omega

set_option maxHeartbeats 1000000 in
theorem wrap_no (A : Option Addr) (c : Nat) (bs : List Int) (w : World) (hl : bs.length < 1 ∨ 65535 < bs.length) :
    Calls Try.prog 16 #[.slice A bs.length c] w fun e w' => e = .returned (.tuple #[.slice none 0 0, .int .i64 1]) ∧ w = w' := by
  by_cases h : ((bs.length : Int) < 1)
  · go_enter Try.func16, Try.ntmps16
    go_wp2
    go_ret2
    exact ⟨rfl, rfl⟩
  · have h1 : decide ((bs.length : Int) < 1) = false := decide_eq_false h
    have h2 : decide (65535 < (bs.length : Int)) = true := decide_eq_true (by omega)
    clear hl h
    go_enter Try.func16, Try.ntmps16
    go_wp2
    go_ret2
    exact ⟨rfl, rfl⟩

set_option maxHeartbeats 2000000 in
theorem wrap_yes (A : Option Addr) (c : Nat) (bs : List Int) (I : Nat → Prop) (w : World) (hr : Rep.Row (Rep.int .u8) I w A bs) (hn : A = none → c = 0) (hl : 1 ≤ bs.length) (hl2 : bs.length ≤ 65535) :
    Calls Try.prog 16 #[.slice A bs.length c] w fun e w' => ∃ A1 c1, e = .returned (.tuple #[.slice A1 (wrapL bs).length c1, .int .i64 0]) ∧ (A1 = none → c1 = 0) ∧
      Rep.Own (Rep.int .u8) 5 w.heap.size nob w' (.slice A1 (wrapL bs).length c1) (wrapL bs) ∧ Below w.heap.size w w' := by
  have h1 : decide ((bs.length : Int) < 1) = false := decide_eq_false (by omega)
  have h2 : decide (65535 < (bs.length : Int)) = false := decide_eq_false (by omega)
  have HR := Hold.mk hr
  have HN := Hold.mk hn
  have HL := Hold.mk hl2
  clear hr hn hl hl2
  go_enter Try.func16, Try.ntmps16
  go_wp2_with fail
  (with_reducible refine (low_at bs.length 2 _ _ _ (by omega) ?h1 ?h2).mono ?_)
  case h1 => have := HL.out; rw [IntKind.wrap_u64]; omega
  case h2 => rfl
  rintro e w1 ⟨c1, rfl, hown1, hb1⟩
  have hr1 : Rep.Row (Rep.int .u8) (fun k => k < w.heap.size) w1 A bs := HR.out.move fun k _ hlt => ⟨hlt, hb1.block k hlt⟩
  have HO1 := Hold.mk hown1
  have HB1 := Hold.mk hb1
  have HR1 := Hold.mk hr1
  clear hown1 hb1 hr1
  go_wp2_with (at_builtin; refine Rep.wp_append (Rep.int .u8) rfl (.tmp 15) (.tmp 16) 22 5 (.int .u8 0) 1 rfl Try.underlying22 info_u8 rfl (by decide) (by decide) w.heap.size _ (lowL bs.length 2) bs A bs.length c rfl rfl rfl HO1.out HR1.out ?c1 HN.out HB1.out.size ?c2 ?_)
  case c1 =>
    intro k hk _ he
    injection he with he
    simp at he; omega
  case c2 => have := HL.out; rw [lowL_length]; omega
  intro v2 w2 hown2 hg2 hat2
  have hb2 : Below w.heap.size w w2 := HB1.out.grown hg2 HB1.out.size (fun k h => by injection h with h; simp at h; omega)
  have hr2 : Rep.Row (Rep.int .u8) (fun k => k < w.heap.size) w2 A bs := HR.out.move fun k _ hlt => ⟨hlt, hb2.block k hlt⟩
  have HO2 := Hold.mk (hown2.flat nob (Rep.flat_int _))
  have HB2 := Hold.mk hb2
  have HR2 := Hold.mk hr2
  clear hown2 hb2 hr2 hg2 hat2
  go_wp2_with fail
  (with_reducible refine (sum_calls A c bs _ _ HR2.out).mono ?_)
  rintro e w' ⟨rfl, rfl⟩
  go_wp2_with fail
  (with_reducible refine (low_at (crc bs) 4 _ _ _ (by omega) ?h3 ?h4).mono ?_)
  case h3 => have := crc_lt bs; rw [IntKind.wrap_u64]; omega
  case h4 => rfl
  rintro e w3 ⟨c3, rfl, hown3, hb3⟩
  have hown2' := HO2.out.below hb3
  have HO3 := Hold.mk hown3
  have HO2' := Hold.mk hown2'
  have HB3 := Hold.mk (HB2.out.trans (hb3.mono HB2.out.size))
  have HLT := Hold.mk (fun k hk => (HO2.out.block_lt k hk).2)
  have HS3 := Hold.mk hb3.size
  clear hown3 hown2' hb3
  go_wp2_with (at_builtin; refine Rep.wp_append (Rep.int .u8) rfl (.tmp 17) (.tmp 21) 22 5 (.int .u8 0) 1 rfl Try.underlying22 info_u8 rfl (by decide) (by decide) w.heap.size _ (lowL bs.length 2 ++ bs) (lowL (crc bs) 4) (some ⟨w2.heap.size, 0, none⟩) 4 c3 rfl rfl rfl HO2'.out ((HO3.out.row).move (J := fun k => k = w2.heap.size) fun k hk _ => ⟨own_some hk, rfl⟩) ?d2 (by simp) HB3.out.size ?d3 ?_)
  case d2 =>
    rintro k rfl _ he
    have := HLT.out _ he.symm
    omega
  case d3 => have := HL.out; rw [List.length_append, lowL_length, lowL_length]; omega
  intro v4 w4 hown4 hg4 hat4
  obtain ⟨A4, c4, hv, _⟩ := hown4.form
  have hn4 := hown4.cap_nil
  have e4 : lowL bs.length 2 ++ (bs ++ lowL (crc bs) 4) = wrapL bs := by simp [wrapL]
  rw [e4] at hown4 hv
  rw [hv] at hown4 hn4
  have HV := Hold.mk hv
  have HO4 := Hold.mk (hown4.flat nob (Rep.flat_int _))
  have HB4 := Hold.mk (HB3.out.grown hg4 HB3.out.size (fun k h => (HO2'.out.block_lt k h).1))
  have HN4 := Hold.mk hn4
  clear hown4 hg4 hat4 hv e4 hn4
  go_wp2
  go_ret2
  refine ⟨A4, c4, ?_, fun h => HN4.out _ _ _ rfl h, HO4.out, HB4.out⟩
  show Ending.returned (.tuple #[v4, _]) = _
  rw [HV.out]
  rfl
/-- The same, its arguments as they stand at a call. -/
theorem wrap_at (A : Option Addr) (n c : Nat) (bs : List Int) (I : Nat → Prop) (w : World) (hnl : n = bs.length) (hr : Rep.Row (Rep.int .u8) I w A bs) (hn : A = none → c = 0) (hl : 1 ≤ bs.length) (hl2 : bs.length ≤ 65535) :
    Calls Try.prog 16 #[.slice A n c] w fun e w' => ∃ A1 c1, e = .returned (.tuple #[.slice A1 (wrapL bs).length c1, .int .i64 0]) ∧ (A1 = none → c1 = 0) ∧
      Rep.Own (Rep.int .u8) 5 w.heap.size nob w' (.slice A1 (wrapL bs).length c1) (wrapL bs) ∧ Below w.heap.size w w' := by
  subst hnl; exact wrap_yes A c bs I w hr hn hl hl2
end Go.Proofs.Ytgeeicpjphdolaa.Frame
