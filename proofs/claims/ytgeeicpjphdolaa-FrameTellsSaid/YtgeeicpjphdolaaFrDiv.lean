/- The plain law of the sum: the long division, bit by bit, leaves what the register does; no program in sight. No condition. -/
import Derived.Test.YtgeeicpjphdolaaFrPlain
namespace Go.Proofs.Ytgeeicpjphdolaa.Frame
open Go.RowKit Go.Proofs.Ytgeeicpjphdolaa.B

def bit (b : Bool) : Int := if b then 1 else 0
theorem one_sub_bit (b : Bool) : 1 - bit b = bit (!b) := by cases b <;> rfl
theorem bit_zero (b : Bool) : bit b = 0 ↔ b = false := by cases b <;> simp [bit]
/-- The powers of the divisor. -/
def pws : List Nat := [26, 23, 22, 16, 12, 11, 10, 8, 7, 5, 4, 2, 1, 0]
def flip (l : List Int) (q : Nat) : List Int := l.set q (1 - l.getD q 0)
def flips (ps : List Nat) (i : Nat) (l : List Int) : List Int := ps.foldl (fun l p => flip l (i + 32 - p)) l
theorem flip_length (l : List Int) (q : Nat) : (flip l q).length = l.length := by simp [flip]
theorem flips_length (ps : List Nat) (i : Nat) (l : List Int) : (flips ps i l).length = l.length := by
  induction ps generalizing l with
  | nil => rfl
  | cons p ps ih => simp only [flips, List.foldl_cons]; exact (ih _).trans (flip_length _ _)
theorem flips_get (i : Nat) (ps : List Nat) (hn : ps.Nodup) (hp : ∀ p ∈ ps, p ≤ 32) (l : List Int) (hl : i + 32 < l.length) (q : Nat) (hq : q < l.length) :
    (flips ps i l).getD q 0 = if (∃ p ∈ ps, q = i + 32 - p) then 1 - l.getD q 0 else l.getD q 0 := by
  induction ps generalizing l with
  | nil => simp [flips]
  | cons p ps ih =>
    have hn' := List.nodup_cons.1 hn
    have h := ih hn'.2 (fun p hp' => hp p (List.mem_cons_of_mem _ hp')) (flip l (i + 32 - p)) (by rw [flip_length]; exact hl) (by rw [flip_length]; exact hq)
    show (flips ps i (flip l (i + 32 - p))).getD q 0 = _
    rw [h]
    have hg : (flip l (i + 32 - p)).getD q 0 = if q = i + 32 - p then 1 - l.getD q 0 else l.getD q 0 := by
      unfold flip
      by_cases e : q = i + 32 - p
      · rw [if_pos e]; subst e
        rw [List.getD_eq_getElem?_getD, List.getElem?_set_self (by omega)]; rfl
      · rw [if_neg e, List.getD_eq_getElem?_getD, List.getElem?_set_ne (by omega), ← List.getD_eq_getElem?_getD]
    rw [hg]
    have hp32 := hp p (List.mem_cons_self ..)
    by_cases e : q = i + 32 - p
    · have hno : ¬ ∃ p' ∈ ps, q = i + 32 - p' := by
        rintro ⟨p', hm, e'⟩
        have := hp p' (List.mem_cons_of_mem _ hm)
        have : p = p' := by omega
        subst this
        exact hn'.1 hm
      rw [if_neg hno, if_pos e, if_pos ⟨p, List.mem_cons_self .., e⟩]
    · rw [if_neg e]
      by_cases e2 : ∃ p' ∈ ps, q = i + 32 - p'
      · obtain ⟨p', hm, e'⟩ := e2
        rw [if_pos ⟨p', hm, e'⟩, if_pos ⟨p', List.mem_cons_of_mem _ hm, e'⟩]
      · rw [if_neg e2, if_neg]
        rintro ⟨p', hm, e'⟩
        rcases List.mem_cons.1 hm with rfl | hm
        · exact e e'
        · exact e2 ⟨p', hm, e'⟩

/-- A bit of the message, one at a time. -/
def stepB (s : Nat) (m : Bool) : Nat := (s / 2) ^^^ (if (s.testBit 0 ^^ m) then D else 0)
theorem stepB_lt (s : Nat) (m : Bool) (h : s < 4294967296) : stepB s m < 4294967296 := by
  unfold stepB
  refine xor_lt (by omega) ?_
  split
  · exact D_lt
  · decide
def bits8 (x : Nat) : List Bool := (List.range 8).map fun k => x.testBit k
def mbits (b : List Int) : List Bool := b.flatMap fun x => bits8 x.toNat
theorem bit1_xor (s x : Nat) : bit1 (s ^^^ x) = stepB s (x.testBit 0) ^^^ (x / 2) := by
  unfold bit1 stepB
  have e1 : (s ^^^ x) / 2 = s / 2 ^^^ x / 2 := Nat.xor_div_two
  have e2 : ((s ^^^ x) % 2 = 1) ↔ ((s.testBit 0 ^^ x.testBit 0) = true) := by
    rw [← Nat.testBit_xor, Nat.testBit_zero]; simp
  rw [e1]
  by_cases h : (s ^^^ x) % 2 = 1
  · rw [if_pos h, if_pos (e2.1 h)]; simp only [Nat.xor_assoc, Nat.xor_comm (x / 2)]
  · rw [if_neg h, if_neg (fun h' => h (e2.2 h'))]; simp
theorem bitsN_xor (n s x : Nat) : bitsN n (s ^^^ x) = ((List.range n).map fun k => x.testBit k).foldl stepB s ^^^ (x / 2 ^ n) := by
  induction n with
  | zero => simp [bitsN]
  | succ n ih =>
    rw [bitsN, ih, bit1_xor, List.range_succ, List.map_append, List.foldl_append]
    simp only [List.map_cons, List.map_nil, List.foldl_cons, List.foldl_nil]
    congr 1
    · congr 1
      rw [Nat.testBit_zero, Nat.testBit_eq_decide_div_mod_eq]
    · rw [Nat.div_div_eq_div_mul, Nat.pow_succ]
theorem upd_bits (s x : Nat) (hx : x < 256) : upd s x = (bits8 x).foldl stepB s := by
  unfold upd bits8
  rw [bitsN_xor, Nat.div_eq_of_lt (by simpa using hx), Nat.xor_zero]
theorem runs_bits : ∀ (b : List Int) (_ : Bytes b) (s : Nat), runs s b = (mbits b).foldl stepB s
  | [], _, s => rfl
  | x :: b, hb, s => by
    have h1 := upd_bits s x.toNat (hb.lt (List.mem_cons_self ..))
    have h2 := runs_bits b (fun y hy => hb y (List.mem_cons_of_mem _ hy)) (upd s x.toNat)
    show runs (upd s x.toNat) b = _
    rw [h2, h1]
    simp [mbits, List.flatMap_cons, List.foldl_append]
theorem bits8_length (x : Nat) : (bits8 x).length = 8 := by simp [bits8]
theorem mbits_length (b : List Int) : (mbits b).length = 8 * b.length := by
  induction b with
  | nil => rfl
  | cons x b ih => simp only [mbits, List.flatMap_cons, List.length_append, bits8_length] at *; simp only [List.length_cons]; omega

/-- What stands in the row behind i steps, the register being R. -/
def win (m : List Bool) (R i : Nat) : List Int := (List.range (m.length + 32)).map fun p => bit (decide (i ≤ p) && (m.getD p false ^^ R.testBit (p - i)))
theorem win_length (m : List Bool) (R i : Nat) : (win m R i).length = m.length + 32 := by simp [win]
theorem win_get (m : List Bool) (R i q : Nat) (hq : q < m.length + 32) : (win m R i).getD q 0 = bit (decide (i ≤ q) && (m.getD q false ^^ R.testBit (q - i))) := by
  rw [List.getD_eq_getElem?_getD, win, List.getElem?_map, List.getElem?_range hq]; rfl
theorem D_bit : ∀ j, j < 32 → (D.testBit j = true ↔ ∃ p ∈ pws, 31 - j = p) := by decide
theorem ext_getD {l l' : List Int} (h : l.length = l'.length) (hq : ∀ q, q < l.length → l.getD q 0 = l'.getD q 0) : l = l' := by
  refine List.ext_getElem h fun i h1 h2 => ?_
  have := hq i h1
  rwa [List.getD_eq_getElem?_getD, List.getD_eq_getElem?_getD, List.getElem?_eq_getElem h1, List.getElem?_eq_getElem h2] at this
theorem step_testBit (R : Nat) (hR : R < 4294967296) (m : Bool) (j : Nat) : (stepB R m).testBit j = (R.testBit (j + 1) ^^ ((R.testBit 0 ^^ m) && D.testBit j)) := by
  unfold stepB
  rw [Nat.testBit_xor, Nat.testBit_div_two]
  congr 1
  split <;> simp_all
theorem tb_big (R : Nat) (hR : R < 4294967296) (j : Nat) (hj : 32 ≤ j) : R.testBit j = false :=
  Nat.testBit_lt_two_pow (Nat.lt_of_lt_of_le hR (show 2 ^ 32 ≤ 2 ^ j from Nat.pow_le_pow_right (by decide) hj))
theorem win_zero (m : List Bool) (R i : Nat) (hR : R < 4294967296) (hi : i < m.length) (h : (win m R i).getD i 0 = 0) : win m R i = win m (stepB R (m.getD i false)) (i + 1) := by
  rw [win_get m R i i (by omega), bit_zero] at h
  simp only [Nat.le_refl, decide_true, Bool.true_and, Nat.sub_self] at h
  refine ext_getD (by rw [win_length, win_length]) fun q hq => ?_
  rw [win_length] at hq
  rw [win_get _ _ _ _ hq, win_get _ _ _ _ hq]
  congr 1
  by_cases h1 : q < i
  · simp [show ¬ i ≤ q by omega, show ¬ i + 1 ≤ q by omega]
  · by_cases h2 : q = i
    · subst h2
      rw [Nat.sub_self, h, decide_eq_false (show ¬ q + 1 ≤ q by omega), Bool.and_false, Bool.false_and]
    · rw [step_testBit R hR, show q - (i + 1) + 1 = q - i by omega]
      have : (R.testBit 0 ^^ m.getD i false) = false := (Bool.xor_comm _ _).trans h
      rw [this, Bool.false_and, Bool.xor_false, decide_eq_true (show i ≤ q by omega), decide_eq_true (show i + 1 ≤ q by omega)]
theorem pw_iff {i q p : Nat} (hp : p ≤ 31) (h1 : i + 1 ≤ q) (h2 : q - (i + 1) < 32) : q = i + 32 - p ↔ 31 - (q - (i + 1)) = p := by omega
theorem win_one (m : List Bool) (R i : Nat) (hR : R < 4294967296) (hi : i < m.length) (h : (win m R i).getD i 0 ≠ 0) : flips pws i ((win m R i).set i 0) = win m (stepB R (m.getD i false)) (i + 1) := by
  rw [win_get m R i i (by omega)] at h
  have h' : (m.getD i false ^^ R.testBit 0) = true := by
    simp only [Nat.le_refl, decide_true, Bool.true_and, Nat.sub_self] at h
    cases hx : (m.getD i false ^^ R.testBit 0)
    · rw [hx] at h; exact absurd rfl h
    · rfl
  refine ext_getD (by rw [flips_length, List.length_set, win_length, win_length]) fun q hq => ?_
  rw [flips_length, List.length_set, win_length] at hq
  rw [flips_get i pws (by decide) (by decide) _ (by rw [List.length_set, win_length]; omega) q (by rw [List.length_set, win_length]; exact hq)]
  have hs : ((win m R i).set i 0).getD q 0 = bit (decide (i + 1 ≤ q) && (m.getD q false ^^ R.testBit (q - i))) := by
    by_cases e : q = i
    · subst e
      rw [List.getD_eq_getElem?_getD, List.getElem?_set_self (by rw [win_length]; omega), decide_eq_false (show ¬ q + 1 ≤ q by omega), Bool.false_and]
      rfl
    · rw [List.getD_eq_getElem?_getD, List.getElem?_set_ne (by omega), ← List.getD_eq_getElem?_getD, win_get _ _ _ _ hq]
      congr 2
      exact decide_eq_decide.2 (by omega)
  rw [hs, win_get _ _ _ _ hq, step_testBit R hR]
  have hx : (R.testBit 0 ^^ m.getD i false) = true := (Bool.xor_comm _ _).trans h'
  rw [hx, Bool.true_and]
  by_cases h1 : i + 1 ≤ q
  · rw [show q - (i + 1) + 1 = q - i by omega, decide_eq_true h1, Bool.true_and, Bool.true_and]
    by_cases h2 : q - (i + 1) < 32
    · have hd := D_bit (q - (i + 1)) h2
      have hiff : (∃ p ∈ pws, q = i + 32 - p) ↔ D.testBit (q - (i + 1)) = true := by
        rw [hd]
        have hp32 : ∀ p ∈ pws, p ≤ 31 := by decide
        constructor
        · rintro ⟨p, hp, e⟩; exact ⟨p, hp, (pw_iff (hp32 p hp) h1 h2).1 e⟩
        · rintro ⟨p, hp, e⟩; exact ⟨p, hp, (pw_iff (hp32 p hp) h1 h2).2 e⟩
      by_cases h3 : D.testBit (q - (i + 1)) = true
      · rw [if_pos (hiff.2 h3), h3, one_sub_bit]; simp
      · rw [if_neg (fun h => h3 (hiff.1 h)), Bool.eq_false_iff.2 h3]; simp
    · have : ¬ ∃ p ∈ pws, q = i + 32 - p := by rintro ⟨p, hp, e⟩; omega
      rw [if_neg this, tb_big D D_lt _ (by omega)]; simp
  · have : ¬ ∃ p ∈ pws, q = i + 32 - p := by
      have hp32 : ∀ p ∈ pws, p ≤ 31 := by decide
      rintro ⟨p, hp, e⟩; have := hp32 p hp; omega
    rw [if_neg this, decide_eq_false h1]; rfl
/-- The register behind i bits. -/
def reg (m : List Bool) (i : Nat) : Nat := (m.take i).foldl stepB FF
theorem reg_succ (m : List Bool) (i : Nat) (hi : i < m.length) : reg m (i + 1) = stepB (reg m i) (m.getD i false) := by
  unfold reg
  rw [List.take_succ_eq_append_getElem hi, List.foldl_append, List.getD_eq_getElem?_getD, List.getElem?_eq_getElem hi]
  rfl
theorem reg_lt (m : List Bool) (i : Nat) : reg m i < 4294967296 := by
  unfold reg
  generalize m.take i = l
  have : ∀ (l : List Bool) (s : Nat), s < 4294967296 → l.foldl stepB s < 4294967296 := by
    intro l
    induction l with
    | nil => exact fun s h => h
    | cons a l ih => exact fun s h => ih _ (stepB_lt s a h)
  exact this l FF FF_lt
/-- What is summed up from the row's end. -/
def tailS (l : List Int) : Nat → Nat → Nat
  | _, 0 => 0
  | n, j + 1 => 2 * tailS l (n + 1) j + (1 - l.getD n 0).toNat
theorem tail_win (m : List Bool) (R : Nat) : ∀ j, j ≤ 32 → tailS (win m R m.length) (m.length + (32 - j)) j + (R / 2 ^ (32 - j)) % 2 ^ j = 2 ^ j - 1 := by
  intro j
  induction j with
  | zero => intro _; simp [tailS, Nat.mod_one]
  | succ j ih =>
    intro hj
    have h := ih (by omega)
    rw [tailS, win_get _ _ _ _ (by omega), one_sub_bit]
    rw [show m.length + (32 - (j + 1)) + 1 = m.length + (32 - j) by omega]
    have e1 : m.getD (m.length + (32 - (j + 1))) false = false := by rw [List.getD_eq_getElem?_getD, List.getElem?_eq_none (by omega)]; rfl
    rw [e1, show m.length + (32 - (j + 1)) - m.length = 32 - (j + 1) by omega, decide_eq_true (by omega : m.length ≤ m.length + (32 - (j + 1))), Bool.true_and, Bool.false_xor]
    obtain ⟨r, hr⟩ : ∃ r, R / 2 ^ (32 - (j + 1)) = r := ⟨_, rfl⟩
    have e2 : R / 2 ^ (32 - j) = r / 2 := by
      have e : 32 - j = 32 - (j + 1) + 1 := by omega
      rw [← hr, Nat.div_div_eq_div_mul, e, Nat.pow_succ]
    have e3 : R.testBit (32 - (j + 1)) = decide (r % 2 = 1) := by rw [Nat.testBit_eq_decide_div_mod_eq, hr]
    rw [e3]
    rw [e2] at h
    rw [hr]
    have e4 : r % 2 ^ (j + 1) = r % 2 + 2 * (r / 2 % 2 ^ j) := by rw [Nat.pow_succ, Nat.mul_comm, Nat.mod_mul]
    rw [e4]
    have hp : 0 < 2 ^ j := Nat.pow_pos (by decide)
    have hps : 2 ^ (j + 1) = 2 * 2 ^ j := by rw [Nat.pow_succ]; omega
    rw [hps]
    rcases Nat.mod_two_eq_zero_or_one r with h0 | h0 <;> simp [h0, bit] <;> omega
/-- The sum is the register's. -/
theorem div_crc (b : List Int) (hb : Bytes b) : tailS (win (mbits b) (reg (mbits b) (mbits b).length) (mbits b).length) (mbits b).length 32 = crc b := by
  have h := tail_win (mbits b) (reg (mbits b) (mbits b).length) 32 (by omega)
  have hl := reg_lt (mbits b) (mbits b).length
  have e : reg (mbits b) (mbits b).length = runs FF b := by unfold reg; rw [List.take_length, runs_bits b hb]
  rw [e] at h hl ⊢
  unfold crc
  simp only [Nat.sub_self, Nat.add_zero, Nat.pow_zero, Nat.div_one] at h
  rw [Nat.mod_eq_of_lt hl] at h
  have : FF = 2 ^ 32 - 1 := by decide
  omega
end Go.Proofs.Ytgeeicpjphdolaa.Frame
