/- frame.first by its walk; no condition but that the bytes are read. -/
import Derived.Test.YtgeeicpjphdolaaFrWrap
import Derived.Test.YtgeeicpjphdolaaClone
import Derived.Deep.RegionHeld3
namespace Go.Proofs.Ytgeeicpjphdolaa.Frame
open Go.RowKit Go.Proofs.Ytgeeicpjphdolaa.B

/-- How many bytes a log's first frame says that it has. -/
def headL (log : List Int) : Nat := (log.getD 0 0).toNat + 256 * (log.getD 1 0).toNat
/-- What is in a log's first frame. -/
def bodyL (log : List Int) : List Int := (log.take (headL log + 2)).drop 2
def firstL (log : List Int) : Option (List Int) :=
  if log.length < 2 then none
  else if headL log < 1 ∨ log.length < headL log + 6 then none
  else if (log.take (headL log + 6)).drop (headL log + 2) = lowL (crc (bodyL log)) 4 then some (bodyL log) else none

def FirstPost (bs : List Int) (w : World) (e : Ending) (w' : World) : Prop :=
  ∃ v ok, e = .returned (.tuple #[v, .bool ok]) ∧ Below w.heap.size w w' ∧
    ((firstL bs = none ∧ ok = false) ∨ (firstL bs = some (bodyL bs) ∧ ok = true ∧ ∃ A1 c1, v = .slice A1 (bodyL bs).length c1 ∧ Rep.Own (Rep.int .u8) 5 w.heap.size nob w' (.slice A1 (bodyL bs).length c1) (bodyL bs)))

set_option maxHeartbeats 1000000 in
theorem first_short (A : Option Addr) (c : Nat) (bs : List Int) (w : World) (hl : bs.length < 2) :
    Calls Try.prog 74 #[.slice A bs.length c] w (FirstPost bs w) := by
  have h1 : decide ((bs.length : Int) < 2) = true := decide_eq_true (by omega)
  have hf : firstL bs = none := by unfold firstL; rw [if_pos hl]
  have HF := Hold.mk hf
  clear hf hl
  go_enter Try.func74, Try.ntmps74
  go_wp2
  go_ret2
  exact ⟨_, false, rfl, Below.refl _ _, .inl ⟨HF.out, rfl⟩⟩

theorem i64_or_nat (a b : Nat) (ha : a < 9223372036854775808) (hb : b < 9223372036854775808) : bits .or .i64 (a : Int) (b : Int) = ((a ||| b : Nat) : Int) := by
  have ho : ∀ a : Nat, a < 9223372036854775808 → (BitVec.ofInt 64 (a : Int)).toNat = a := fun a ha => by
    rw [BitVec.ofInt_natCast, BitVec.toNat_ofNat]; exact Nat.mod_eq_of_lt (by omega)
  have hx : a ||| b < 2 ^ 63 := Nat.or_lt_two_pow (by omega) (by omega)
  show IntKind.i64.wrap ((BitVec.ofInt 64 (a : Int) ||| BitVec.ofInt 64 (b : Int)).toNat : Int) = _
  rw [BitVec.toNat_or, ho a ha, ho b hb, IntKind.wrap_i64]
  omega
theorem or_head (x0 x1 : Nat) (h0 : x0 ≤ 255) (h1 : x1 ≤ 255) : bits .or .i64 (x0 : Int) ((x1 : Int) * 256) = ((x0 + 256 * x1 : Nat) : Int) := by
  have e1 : ((x1 : Int) * 256) = ((x1 * 256 : Nat) : Int) := by omega
  rw [e1, show bits .or .i64 ((x0 : Nat) : Int) ((x1 * 256 : Nat) : Int) = _ from i64_or_nat x0 (x1 * 256) (by omega) (by omega)]
  have := Nat.two_pow_add_eq_or_of_lt (i := 8) (b := x0) (by omega) x1
  rw [Nat.or_comm, Nat.mul_comm x1 256, ← this]
  congr 1
  omega

section
variable (ad : Addr) (c n : Nat) (bs : List Int) (x0 x1 : Nat) (I : Nat → Prop) (w : World)

set_option maxHeartbeats 2000000 in
theorem first_bad (hl : 2 ≤ bs.length) (hh : headL bs = n) (hx0 : (x0 : Int) ≤ 255) (hx1 : (x1 : Int) ≤ 255) (hor : bits .or .i64 (x0 : Int) ((x1 : Int) * 256) = (n : Int)) (hn : (n : Int) ≤ 65535)
    (hc0 : w.cell? ad = some (.int .u8 (x0 : Int))) (hc1 : w.cell? ⟨ad.block, ad.off + 1, none⟩ = some (.int .u8 (x1 : Int))) (hbad : n < 1 ∨ bs.length < n + 6) :
    Calls Try.prog 74 #[.slice (some ad) bs.length c] w (FirstPost bs w) := by
  have h1 : decide ((bs.length : Int) < 2) = false := decide_eq_false (by omega)
  have hwx0 : IntKind.i64.wrap (x0 : Int) = (x0 : Int) := by rw [IntKind.wrap_i64]; omega
  have hwx1 : IntKind.i64.wrap (x1 : Int) = (x1 : Int) := by rw [IntKind.wrap_i64]; omega
  have l0n : 0 < bs.length := by omega
  have l1 : (1 : Int) < (bs.length : Int) := by omega
  have HF : Hold (firstL bs = none) := ⟨by unfold firstL; rw [if_neg (by omega), if_pos (by omega)]⟩
  by_cases hn1 : n < 1
  · have t1 : decide ((n : Int) < 1) = true := decide_eq_true (by omega)
    clear hbad hh hl hn1
    go_enter Try.func74, Try.ntmps74
    go_wp2
    go_quiet (fail)
    go_wp2
    go_ret2
    exact ⟨_, false, rfl, below_drewN _ _, .inl ⟨HF.out, rfl⟩⟩
  · have t1 : decide ((n : Int) < 1) = false := decide_eq_false (by omega)
    have t2 : decide ((bs.length : Int) < 2 + n + 4) = true := decide_eq_true (by omega)
    clear hbad hh hl hn1
    go_enter Try.func74, Try.ntmps74
    go_wp2
    go_quiet (fail)
    go_wp2
    go_ret2
    exact ⟨_, false, rfl, below_drewN _ _, .inl ⟨HF.out, rfl⟩⟩

set_option maxHeartbeats 2000000 in
theorem first_good (hr : Rep.Row (Rep.int .u8) I w (some ad) bs) (hc : bs.length ≤ c) (hh : headL bs = n) (hx0 : (x0 : Int) ≤ 255) (hx1 : (x1 : Int) ≤ 255) (hor : bits .or .i64 (x0 : Int) ((x1 : Int) * 256) = (n : Int)) (hn : (n : Int) ≤ 65535)
    (hc0 : w.cell? ad = some (.int .u8 (x0 : Int))) (hc1 : w.cell? ⟨ad.block, ad.off + 1, none⟩ = some (.int .u8 (x1 : Int))) (h1n : 1 ≤ n) (hgood : n + 6 ≤ bs.length) :
    Calls Try.prog 74 #[.slice (some ad) bs.length c] w (FirstPost bs w) := by
  have h1 : decide ((bs.length : Int) < 2) = false := decide_eq_false (by omega)
  have hwx0 : IntKind.i64.wrap (x0 : Int) = (x0 : Int) := by rw [IntKind.wrap_i64]; omega
  have hwx1 : IntKind.i64.wrap (x1 : Int) = (x1 : Int) := by rw [IntKind.wrap_i64]; omega
  have l0n : 0 < bs.length := by omega
  have l1 : (1 : Int) < (bs.length : Int) := by omega
  have t1 : decide ((n : Int) < 1) = false := decide_eq_false (by omega)
  have t2 : decide ((bs.length : Int) < 2 + n + 4) = false := decide_eq_false (by omega)
  have hsz : (Try.prog.info? 5).map (·.size) = some 1 := by kernel_rfl
  have hbl : (bodyL bs).length = n := by unfold bodyL; rw [List.length_drop, List.length_take, hh]; omega
  have hfl : ((bs.take (headL bs + 6)).drop (headL bs + 2)).length = 4 := by rw [List.length_drop, List.length_take, hh]; omega
  have r1 := hr.cut 2 (headL bs + 2) c (by omega) hc
  have r2 := hr.cut (headL bs + 2) (headL bs + 6) c (by omega) hc
  have s1 := fun W => Rep.run_cut (P := Try.prog) 22 5 .i64 .i64 Try.underlying22 hsz (some ad) bs.length c 2 (2 + n) (by omega) (by omega) (by omega) W
  have s2 := fun W => Rep.run_cut (P := Try.prog) 22 5 .i64 .i64 Try.underlying22 hsz (some ad) bs.length c (2 + n) (2 + n + 4) (by omega) (by omega) (by omega) W
  have z1 : ((2 : Int) + n).toNat = headL bs + 2 := by omega
  have z2 : ((2 : Int) + n + 4).toNat = headL bs + 6 := by omega
  have z3 : (2 : Int).toNat = 2 := rfl
  have z4 : headL bs + 2 - 2 = (bodyL bs).length := by omega
  have z5 : headL bs + 6 - (headL bs + 2) = ((bs.take (headL bs + 6)).drop (headL bs + 2)).length := by omega
  rw [z1, z3, z4] at s1
  rw [z1, z2, z5] at s2
  have hb0 : 1 ≤ (bodyL bs).length := by omega
  have hft : firstL bs = if (bs.take (headL bs + 6)).drop (headL bs + 2) = lowL (crc (bodyL bs)) 4 then some (bodyL bs) else none := by
    unfold firstL; rw [if_neg (by omega), if_neg (by omega)]
  have r1' : Rep.Row (Rep.int .u8) I w (Rep.cutAddr (some ad) c 2 1) (bodyL bs) := r1
  obtain ⟨A1, hA1⟩ : ∃ A1, Rep.cutAddr (some ad) c 2 1 = A1 := ⟨_, rfl⟩
  obtain ⟨A2, hA2⟩ : ∃ A2, Rep.cutAddr (some ad) c (headL bs + 2) 1 = A2 := ⟨_, rfl⟩
  have hn1 : A1 ≠ none := by rintro rfl; have := Rep.cutAddr_none hA1; cases this
  have r2' : Rep.Row (Rep.int .u8) I w (Rep.cutAddr (some ad) c (headL bs + 2) 1) ((bs.take (headL bs + 6)).drop (headL bs + 2)) := r2
  rw [hA1] at s1 r1'
  rw [hA2] at s2 r2'
  obtain ⟨c1, hc1e⟩ : ∃ c1, c - 2 = c1 := ⟨_, rfl⟩
  obtain ⟨c2, hc2e⟩ : ∃ c2, c - (headL bs + 2) = c2 := ⟨_, rfl⟩
  rw [hc1e] at s1
  rw [hc2e] at s2
  obtain ⟨ft, hfte⟩ : ∃ ft, (bs.take (headL bs + 6)).drop (headL bs + 2) = ft := ⟨_, rfl⟩
  rw [hfte] at s2 r2' hft hfl
  obtain ⟨bd, hbd⟩ : ∃ bd, bodyL bs = bd := ⟨_, rfl⟩
  rw [hbd] at s1 r1' hft hbl
  have HBD := Hold.mk hbd
  have HFT := Hold.mk hft
  have HR1 := Hold.mk r1'
  have HR2 := Hold.mk r2'
  have HN1 := Hold.mk hn1
  have HL := Hold.mk (show bd.length ≤ 65535 by omega)
  clear hbd hft r1' r2' r1 r2 hc1e hc2e hA1 hA2 hfte hbl hfl z1 z2 z3 z4 z5 hsz hn1 hb0 hr hh hgood h1n hc
  go_enter Try.func74, Try.ntmps74
  go_wp2
  go_quiet (fail)
  go_wp2_with fail
  have hb0 : Below w.heap.size w (w.drewN nq) := below_drewN w nq
  obtain ⟨w0, hw0⟩ : ∃ W, w.drewN nq = W := ⟨_, rfl⟩
  rw [hw0]
  rw [hw0] at hb0
  clear hw0
  have HB0 := Hold.mk hb0
  clear hb0
  (with_reducible refine (Clone.clone_calls A1 c1 bd _ w0 (HR1.out.move (J := fun k => k < w.heap.size) fun k _ hlt => ⟨hlt, HB0.out.block k hlt⟩) (fun h => absurd h HN1.out) (by have := HL.out; omega)).mono ?_)
  rintro e w1 ⟨A3, c3, rfl, hn3, hown3, hb3⟩
  have HO3 := Hold.mk (hown3.lower HB0.out.size)
  have HB1 := Hold.mk (HB0.out.trans (hb3.mono HB0.out.size))
  have HN3 := Hold.mk hn3
  have HR3 := Hold.mk hown3.row
  have HRT := Hold.mk (HR2.out.move (J := fun k => k < w.heap.size) (w1 := w1) fun k _ hlt => ⟨hlt, HB1.out.block k hlt⟩)
  clear hown3 hb3 hn3
  go_wp2_with fail
  have q1 : IntKind.i64.wrap (2 + (n : Int)) = 2 + n := by rw [IntKind.wrap_i64]; omega
  have q2 : IntKind.i64.wrap (2 + (n : Int) + 4) = 2 + n + 4 := by rw [IntKind.wrap_i64]; omega
  have q3 : IntKind.u64.wrap (crc bd : Int) = (crc bd : Int) := by have := crc_lt bd; rw [IntKind.wrap_u64]; omega
  go_region_held3 (fun w' => True) (trivial) (first | (go_at_call 21; (with_reducible refine (sum_calls A3 c3 bd _ _ (by first | exact HR3.out | exact HR3.out.drew)).mono ?_); rintro e w' ⟨rfl, rfl⟩) | (go_at_call 73; (with_reducible refine (low_at (crc bd) 4 _ _ _ (by omega) (by omega) (by omega)).mono ?_); rintro e w4 ⟨c4, rfl, hown4, hb4⟩) | (go_at_call 85; have hx := hown4.row; have hy := HRT.out.drew.below hb4; refine (equal_at A2 _ _ _ c2 _ ft (lowL (crc bd) 4) _ _ _ rfl (by rw [lowL_length]) hy hx).mono ?_; rintro e w' ⟨rfl, rfl⟩))
  have HB4 := Hold.mk (HB1.out.trans (Below.mono (B := w1.heap.size) (w := w1) ⟨hb4.os, hb4.tape, hb4.output, hb4.size, hb4.block⟩ HB1.out.size))
  have HO4 := Hold.mk (Rep.Own.below (w := w1.drew) (HO3.out.drew) hb4)
  clear hown4 hb4 hx hy
  go_wp2
  go_ret2
  refine ⟨_, _, rfl, HB4.out, ?_⟩
  rw [HFT.out]
  by_cases hq : ft = lowL (crc bd) 4
  · rw [if_pos hq, decide_eq_true hq, HBD.out]
    exact .inr ⟨rfl, rfl, A3, c3, rfl, HO4.out⟩
  · rw [if_neg hq, decide_eq_false hq]
    exact .inl ⟨rfl, rfl⟩
end

/-- frame.first, of any bytes. -/
theorem first_calls (A : Option Addr) (c : Nat) (bs : List Int) (I : Nat → Prop) (w : World) (hr : Rep.Row (Rep.int .u8) I w A bs) (hc : bs.length ≤ c) :
    Calls Try.prog 74 #[.slice A bs.length c] w (FirstPost bs w) := by
  by_cases hl : bs.length < 2
  · exact first_short A c bs w hl
  · obtain ⟨ad, y0, rfl, hy0, hc0, hw0⟩ := hr.get 0 (by omega)
    obtain ⟨ad', y1, e, hy1, hc1, hw1⟩ := hr.get 1 (by omega)
    cases e
    have g0 := bounds_u8 hw0
    have g1 := bounds_u8 hw1
    obtain ⟨x0, rfl⟩ := Int.eq_ofNat_of_zero_le g0.1
    obtain ⟨x1, rfl⟩ := Int.eq_ofNat_of_zero_le g1.1
    have hhead : headL bs = x0 + 256 * x1 := by
      unfold headL
      rw [List.getD_eq_getElem?_getD, List.getD_eq_getElem?_getD, hy0, hy1]
      simp only [Option.getD_some]; omega
    rw [Rep.add_zero] at hc0
    by_cases hg : 1 ≤ x0 + 256 * x1 ∧ x0 + 256 * x1 + 6 ≤ bs.length
    · exact first_good ad c _ bs x0 x1 I w hr hc hhead g0.2 g1.2 (or_head x0 x1 (by omega) (by omega)) (by omega) hc0 hc1 hg.1 hg.2
    · exact first_bad ad c _ bs x0 x1 w (by omega) hhead g0.2 g1.2 (or_head x0 x1 (by omega) (by omega)) (by omega) hc0 hc1 (by omega)
end Go.Proofs.Ytgeeicpjphdolaa.Frame
