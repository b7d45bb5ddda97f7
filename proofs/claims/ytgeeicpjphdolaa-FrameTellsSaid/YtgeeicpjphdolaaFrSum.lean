/- frame.Sum by its walk: what it computes, as a plain function on numbers; no condition but that the bytes are read. -/
import Derived.Test.YtgeeicpjphdolaaB
import Derived.Laws.BitsAllLaws
namespace Go.Proofs.Ytgeeicpjphdolaa.Frame
open Go.RowKit Go.Proofs.Ytgeeicpjphdolaa.B

def D : Nat := 3988292384
def bit1 (s : Nat) : Nat := (s / 2) ^^^ (if s % 2 = 1 then D else 0)
def bitsN : Nat → Nat → Nat
  | 0, s => s
  | n + 1, s => bit1 (bitsN n s)
def upd (s x : Nat) : Nat := bitsN 8 (s ^^^ x)
def runs (s : Nat) (l : List Int) : Nat := l.foldl (fun s x => upd s x.toNat) s
def FF : Nat := 4294967295
def crc (l : List Int) : Nat := FF - runs FF l

theorem D_lt : D < 4294967296 := by unfold D; omega
theorem bit1_lt (s : Nat) (h : s < 4294967296) : bit1 s < 4294967296 := by
  unfold bit1
  have : (4294967296 : Nat) = 2 ^ 32 := by decide
  rw [this] at *
  refine Nat.xor_lt_two_pow (by omega) ?_
  split
  · have := D_lt; omega
  · decide

theorem FF_xor (s : Nat) (h : s < 4294967296) : FF ^^^ s = FF - s := by
  have h1 : (~~~ (BitVec.ofNat 32 s)).toNat = FF - s := by
    rw [BitVec.toNat_not, BitVec.toNat_ofNat, Nat.mod_eq_of_lt (by omega)]; unfold FF; omega
  have h2 : BitVec.allOnes 32 ^^^ BitVec.ofNat 32 s = ~~~ (BitVec.ofNat 32 s) := BitVec.allOnes_xor
  rw [← h1, ← h2, BitVec.toNat_xor, BitVec.toNat_allOnes, BitVec.toNat_ofNat, Nat.mod_eq_of_lt (show s < 2 ^ 32 by omega)]
  rfl
theorem bit_eq (t : Nat) (ht : t < 4294967296) : bits .xor .u32 ((t : Int) / 2) (bits .and .u32 3988292384 (-bits .and .u32 (t : Int) 1 % 4294967296)) = (bit1 t : Int) := by
  have e1 : bits .and .u32 (t : Int) 1 = ((t % 2 : Nat) : Int) := by
    have := u32_and_nat t 1 ht (by omega)
    rw [Nat.and_one_is_mod] at this
    exact this
  have e2 : bits .and .u32 3988292384 (-((t % 2 : Nat) : Int) % 4294967296) = ((if t % 2 = 1 then D else 0 : Nat) : Int) := by
    by_cases h : t % 2 = 1
    · rw [if_pos h, h]
      have := u32_and_nat D 4294967295 D_lt (by omega)
      have h2 : D &&& 4294967295 = D := by decide
      rw [h2] at this
      exact this
    · rw [if_neg h, show t % 2 = 0 by omega]
      have := u32_and_nat D 0 D_lt (by omega)
      rw [Nat.and_zero] at this
      exact this
  have e3 : ((t : Int) / 2) = ((t / 2 : Nat) : Int) := by omega
  rw [e1, e2, e3]
  refine (u32_xor_nat _ _ (by omega) ?_).trans rfl
  split
  · exact D_lt
  · decide

set_option maxHeartbeats 1000000 in
theorem sum_calls (A : Option Addr) (c : Nat) (bs : List Int) (I : Nat → Prop) (w : World) (hr : Rep.Row (Rep.int .u8) I w A bs) :
    Calls Try.prog 21 #[.slice A bs.length c] w fun e w' => e = .returned (.int .u32 (crc bs : Int)) ∧ w = w' := by
  have hlen := hr.len_le
  have HR := Hold.mk hr
  clear hr
  go_enter Try.func21, Try.ntmps21
  go_wp2
  go_loop [3, 8] (fun s i => ∃ k st : Nat, k ≤ bs.length ∧ i = .int .i64 (k : Int) ∧ s = .int .u32 (st : Int) ∧ st < 4294967296 ∧ Hold (st = runs FF (bs.take k))) (fun _ i => bs.length - (intOf i).toNat)
  case atStart => exact ⟨0, FF, Nat.zero_le _, rfl, rfl, by decide, ⟨rfl⟩⟩
  case round =>
    obtain ⟨k, st, hk, rfl, rfl, hst, HS⟩ := hrel
    by_cases hlt : k < bs.length
    · obtain ⟨ad, cs, rfl, _, _, ⟨rfl, hw⟩, hcell⟩ := HR.out.at k hlt
      have hc0 := hcell 0 _ rfl
      simp only [Rep.int, Nat.mul_one, Nat.add_zero] at hc0
      clear hcell
      have hb := bounds_u8 hw
      obtain ⟨x, hx⟩ := Int.eq_ofNat_of_zero_le hb.1
      have HX := Hold.mk hx
      rw [hx] at hc0 hb
      clear hx hw
      have hx1 := hb.2
      clear hb
      have hxy : bits .xor .u32 (st : Int) (x : Int) = ((st ^^^ x : Nat) : Int) := u32_xor_nat _ _ hst (by omega)
      have hyl : st ^^^ x < 4294967296 := by
        have : (4294967296 : Nat) = 2 ^ 32 := by decide
        rw [this] at *
        exact Nat.xor_lt_two_pow hst (by omega)
      obtain ⟨y, hy⟩ : ∃ y, st ^^^ x = y := ⟨_, rfl⟩
      rw [hy] at hxy hyl
      have HY := Hold.mk hy
      clear hy
      go_wp2
      go_loop [3, 16] (fun s i => ∃ j t : Nat, j ≤ 8 ∧ i = .int .i64 (j : Int) ∧ s = .int .u32 (t : Int) ∧ t < 4294967296 ∧ Hold (t = bitsN j y)) (fun _ i => 8 - (intOf i).toNat)
      case atStart => exact ⟨0, y, by omega, rfl, rfl, hyl, ⟨rfl⟩⟩
      case round =>
        obtain ⟨j, t, hj, rfl, rfl, ht, HT⟩ := hrel
        by_cases hj8 : j < 8
        · go_wp2
          have hb1 : bit1 t < 4294967296 := bit1_lt t ht
          refine ⟨⟨j + 1, bit1 t, by omega, by go_num, ?_, hb1, ⟨?_⟩⟩, by simp [intOf]; omega⟩
          · rw [bit_eq t ht]
          · rw [HT.out]; rfl
        · obtain rfl : j = 8 := by omega
          go_wp2
          refine ⟨⟨k + 1, t, by omega, by go_num, rfl, ht, ⟨?_⟩⟩, by simp [intOf]; omega⟩
          rw [HT.out, ← HY.out, HS.out]
          have e : bs.take (k + 1) = bs.take k ++ [(x : Int)] := by rw [List.take_succ_eq_append_getElem hlt, HX.out]
          rw [e]
          simp only [runs, List.foldl_append, List.foldl_cons, List.foldl_nil, upd, Int.toNat_natCast]
    · obtain rfl : k = bs.length := by omega
      go_wp2
      go_ret
      refine ⟨?_, rfl⟩
      show Ending.returned (.int .u32 (bits .xor .u32 (FF : Int) (st : Int))) = _
      rw [u32_xor_nat _ _ (by decide) hst, FF_xor st hst]
      have := HS.out
      rw [List.take_length] at this
      rw [this]
      rfl
/-- The same, its arguments as they stand at a call. -/
theorem sum_at (A : Option Addr) (n c : Nat) (bs : List Int) (I : Nat → Prop) (w : World) (hn : n = bs.length) (hr : Rep.Row (Rep.int .u8) I w A bs) :
    Calls Try.prog 21 #[.slice A n c] w fun e w' => e = .returned (.int .u32 (crc bs : Int)) ∧ w = w' := by
  subst hn; exact sum_calls A c bs I w hr
end Go.Proofs.Ytgeeicpjphdolaa.Frame
