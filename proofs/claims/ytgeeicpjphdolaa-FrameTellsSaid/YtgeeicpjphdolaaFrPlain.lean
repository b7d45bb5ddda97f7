/- Plain laws of frames: a frame is told back; one byte turned is not; no program in sight. -/
import Derived.Test.YtgeeicpjphdolaaFrScan
namespace Go.Proofs.Ytgeeicpjphdolaa.Frame
open Go.RowKit Go.Proofs.Ytgeeicpjphdolaa.B

theorem xor_cancel {a b d : Nat} (h : a ^^^ d = b ^^^ d) : a = b := by
  have := congrArg (· ^^^ d) h
  simpa [Nat.xor_assoc] using this
theorem bit1_inj {s t : Nat} (hs : s < 4294967296) (ht : t < 4294967296) (h : bit1 s = bit1 t) : s = t := by
  have key : ∀ s, s < 4294967296 → (bit1 s).testBit 31 = decide (s % 2 = 1) := by
    intro s hs
    have h1 : (s / 2).testBit 31 = false := Nat.testBit_lt_two_pow (by omega)
    unfold bit1
    rw [Nat.testBit_xor, h1]
    by_cases hp : s % 2 = 1
    · rw [if_pos hp, decide_eq_true hp]; decide
    · rw [if_neg hp, decide_eq_false hp]; decide
  have hp := (key s hs).symm.trans ((congrArg (fun x => x.testBit 31) h).trans (key t ht))
  have hpar : s % 2 = t % 2 := by
    by_cases h1 : s % 2 = 1 <;> by_cases h2 : t % 2 = 1 <;> simp [h1, h2] at hp <;> omega
  unfold bit1 at h
  rw [hpar] at h
  have := xor_cancel h
  omega
theorem bitsN_lt (n s : Nat) (h : s < 4294967296) : bitsN n s < 4294967296 := by
  induction n with
  | zero => exact h
  | succ n ih => exact bit1_lt _ ih
theorem bitsN_inj (n : Nat) {s t : Nat} (hs : s < 4294967296) (ht : t < 4294967296) (h : bitsN n s = bitsN n t) : s = t := by
  induction n with
  | zero => exact h
  | succ n ih => exact ih (bit1_inj (bitsN_lt n s hs) (bitsN_lt n t ht) h)
theorem xor_lt {s x : Nat} (hs : s < 4294967296) (hx : x < 4294967296) : s ^^^ x < 4294967296 := by
  have : (4294967296 : Nat) = 2 ^ 32 := by decide
  rw [this] at *
  exact Nat.xor_lt_two_pow hs hx
theorem upd_lt {s x : Nat} (hs : s < 4294967296) (hx : x < 4294967296) : upd s x < 4294967296 := bitsN_lt _ _ (xor_lt hs hx)
theorem upd_inj_state {s t x : Nat} (hs : s < 4294967296) (ht : t < 4294967296) (hx : x < 4294967296) (h : upd s x = upd t x) : s = t :=
  xor_cancel (bitsN_inj 8 (xor_lt hs hx) (xor_lt ht hx) h)
theorem upd_inj_byte {s x y : Nat} (hs : s < 4294967296) (hx : x < 4294967296) (hy : y < 4294967296) (h : upd s x = upd s y) : x = y := by
  have := bitsN_inj 8 (xor_lt hs hx) (xor_lt hs hy) h
  rw [Nat.xor_comm s x, Nat.xor_comm s y] at this
  exact xor_cancel this

/-- Whole numbers that are bytes. -/
def Bytes (l : List Int) : Prop := ∀ x ∈ l, (Lit.int .u8 x).wf = true
theorem Bytes.lt {l : List Int} (h : Bytes l) {x : Int} (hx : x ∈ l) : x.toNat < 256 := by have := bounds_u8 (h x hx); omega
theorem runs_lt {s : Nat} (hs : s < 4294967296) : ∀ {l : List Int}, Bytes l → runs s l < 4294967296 := by
  intro l
  induction l generalizing s with
  | nil => intro _; exact hs
  | cons x l ih =>
    intro h
    have h1 := h.lt (List.mem_cons_self ..)
    exact ih (upd_lt hs (by omega)) (fun y hy => h y (List.mem_cons_of_mem _ hy))
theorem runs_inj : ∀ {l : List Int} {s t : Nat}, s < 4294967296 → t < 4294967296 → Bytes l → runs s l = runs t l → s = t := by
  intro l
  induction l with
  | nil => intro s t _ _ _ h; exact h
  | cons x l ih =>
    intro s t hs ht h e
    have h1 := h.lt (List.mem_cons_self ..)
    exact upd_inj_state hs ht (by omega) (ih (upd_lt hs (by omega)) (upd_lt ht (by omega)) (fun y hy => h y (List.mem_cons_of_mem _ hy)) e)
theorem runs_append (s : Nat) (l m : List Int) : runs s (l ++ m) = runs (runs s l) m := by simp [runs]
theorem FF_lt : FF < 4294967296 := by unfold FF; omega
/-- One byte that is another one: the sum is another one. -/
theorem crc_turned {p q : List Int} {x y : Int} (hp : Bytes p) (hq : Bytes q) (hx : (Lit.int .u8 x).wf = true) (hy : (Lit.int .u8 y).wf = true) (hne : x ≠ y) : crc (p ++ x :: q) ≠ crc (p ++ y :: q) := by
  intro h
  have bx := bounds_u8 hx
  have by' := bounds_u8 hy
  have hs := runs_lt FF_lt hp
  have ex : runs FF (p ++ x :: q) = runs (upd (runs FF p) x.toNat) q := by rw [runs_append]; rfl
  have ey : runs FF (p ++ y :: q) = runs (upd (runs FF p) y.toNat) q := by rw [runs_append]; rfl
  have lx : upd (runs FF p) x.toNat < 4294967296 := upd_lt hs (by omega)
  have ly : upd (runs FF p) y.toNat < 4294967296 := upd_lt hs (by omega)
  have rx := runs_lt lx hq
  have ry := runs_lt ly hq
  unfold crc at h
  rw [ex, ey] at h
  have h2 : runs (upd (runs FF p) x.toNat) q = runs (upd (runs FF p) y.toNat) q := by unfold FF at *; omega
  have := upd_inj_byte hs (by omega) (by omega) (runs_inj lx ly hq h2)
  omega

theorem lowL_two (n : Nat) : lowL n 2 = [((n % 256 : Nat) : Int), ((n / 256 % 256 : Nat) : Int)] := by simp [lowL, List.range_succ]
theorem lowL_four (n : Nat) : lowL n 4 = [((n % 256 : Nat) : Int), ((n / 256 % 256 : Nat) : Int), ((n / 65536 % 256 : Nat) : Int), ((n / 16777216 % 256 : Nat) : Int)] := by simp [lowL, List.range_succ]
theorem lowL_inj {m n : Nat} (hm : m < 4294967296) (hn : n < 4294967296) (h : lowL m 4 = lowL n 4) : m = n := by
  rw [lowL_four, lowL_four] at h
  simp only [List.cons.injEq, and_true] at h
  omega
theorem wrapL_bytes {b : List Int} (hb : Bytes b) : Bytes (wrapL b) := by
  intro x hx
  unfold wrapL at hx
  rcases List.mem_append.1 hx with h | h
  · rcases List.mem_append.1 h with h | h
    · exact lowL_wf _ _ x h
    · exact hb x h
  · exact lowL_wf _ _ x h
theorem head_cons (n : Nat) (hn : n ≤ 65535) (l : List Int) : headL (lowL n 2 ++ l) = n := by
  rw [lowL_two]
  show (((n % 256 : Nat) : Int)).toNat + 256 * (((n / 256 % 256 : Nat) : Int)).toNat = n
  omega
/-- A frame is told back, whatever is behind it. -/
theorem first_wrap {b : List Int} (rest : List Int) (h1 : 1 ≤ b.length) (h2 : b.length ≤ 65535) : firstL (wrapL b ++ rest) = some b := by
  have hh : headL (wrapL b ++ rest) = b.length := by unfold wrapL; rw [List.append_assoc, List.append_assoc]; exact head_cons _ h2 _
  have hl : (wrapL b ++ rest).length = b.length + 6 + rest.length := by rw [List.length_append, wrapL_length]
  have hb : bodyL (wrapL b ++ rest) = b := by
    unfold bodyL; rw [hh]; unfold wrapL
    rw [List.append_assoc, List.append_assoc, List.take_append, lowL_length, List.drop_append, show (lowL b.length 2).take (b.length + 2) = lowL b.length 2 from List.take_of_length_le (by rw [lowL_length]; omega), lowL_length]
    simp [lowL_length]
  have hf : ((wrapL b ++ rest).take (b.length + 6)).drop (b.length + 2) = lowL (crc b) 4 := by
    rw [List.take_append_of_le_length (by rw [wrapL_length]; omega), List.take_of_length_le (by rw [wrapL_length]; omega)]
    unfold wrapL
    rw [List.drop_append, show (lowL b.length 2 ++ b).length = b.length + 2 by rw [List.length_append, lowL_length]; omega]
    rw [List.drop_of_length_le (by rw [List.length_append, lowL_length]; omega)]
    simp
  unfold firstL
  rw [if_neg (by omega), hh, if_neg (by omega), hb, if_pos hf]
/-- A frame that is torn is not told. -/
theorem first_torn {b : List Int} (rest : List Int) (k : Nat) (h2 : b.length ≤ 65535) (hk : k < b.length + 6) : firstL ((wrapL b ++ rest).take k) = none := by
  have hl : ((wrapL b ++ rest).take k).length ≤ k := by rw [List.length_take]; omega
  unfold firstL
  by_cases h : ((wrapL b ++ rest).take k).length < 2
  · rw [if_pos h]
  · rw [if_neg h]
    have hh : headL ((wrapL b ++ rest).take k) = b.length := by
      have hk2 : 2 ≤ k := by omega
      have e : (wrapL b ++ rest).take k = lowL b.length 2 ++ ((b ++ lowL (crc b) 4 ++ rest).take (k - 2)) := by
        unfold wrapL
        rw [List.append_assoc, List.append_assoc, List.take_append, lowL_length, List.take_of_length_le (by rw [lowL_length]; omega), List.append_assoc]
      rw [e]; exact head_cons _ h2 _
    rw [hh, if_pos (by omega)]
/-- One byte behind the first two, another one: not told. -/
theorem first_turned {b : List Int} (hb : Bytes b) (h1 : 1 ≤ b.length) (h2 : b.length ≤ 65535) (i : Nat) (hi : 2 ≤ i) (hi2 : i < b.length + 6) (v u : Int) (hu : (wrapL b)[i]? = some u) (hv : (Lit.int .u8 v).wf = true) (hne : v ≠ u) :
    firstL ((wrapL b).set i v) = none := by
  have hl : ((wrapL b).set i v).length = b.length + 6 := by rw [List.length_set, wrapL_length]
  have e0 : (wrapL b).set i v = lowL b.length 2 ++ (b ++ lowL (crc b) 4).set (i - 2) v := by
    unfold wrapL; rw [List.append_assoc, List.set_append_right _ _ (by rw [lowL_length]; exact hi), lowL_length]
  have hh : headL ((wrapL b).set i v) = b.length := by rw [e0]; exact head_cons _ h2 _
  have hub : (Lit.int .u8 u).wf = true := wrapL_bytes hb u (List.mem_of_getElem? hu)
  have hu' : (b ++ lowL (crc b) 4)[i - 2]? = some u := by
    have : wrapL b = lowL b.length 2 ++ (b ++ lowL (crc b) 4) := by unfold wrapL; rw [List.append_assoc]
    rw [this, List.getElem?_append_right (by rw [lowL_length]; exact hi), lowL_length] at hu
    exact hu
  unfold firstL
  rw [if_neg (by omega), hh, if_neg (by omega)]
  have hbody : bodyL ((wrapL b).set i v) = ((b ++ lowL (crc b) 4).set (i - 2) v).take b.length := by
    unfold bodyL; rw [hh, e0, List.take_append, lowL_length, List.take_of_length_le (by rw [lowL_length]; omega), List.drop_append, lowL_length, List.drop_of_length_le (by rw [lowL_length]; omega)]
    simp
  have hfoot : (((wrapL b).set i v).take (b.length + 6)).drop (b.length + 2) = ((b ++ lowL (crc b) 4).set (i - 2) v).drop b.length := by
    rw [List.take_of_length_le (by omega), e0, List.drop_append, lowL_length, List.drop_of_length_le (by rw [lowL_length]; omega)]
    simp
  rw [hbody, hfoot]
  refine if_neg fun h => ?_
  by_cases hlt : i - 2 < b.length
  · rw [List.set_append_left _ _ hlt] at h
    have t1 : (b.set (i - 2) v ++ lowL (crc b) 4).take b.length = b.set (i - 2) v := by
      rw [List.take_append, List.length_set, Nat.sub_self, List.take_zero, List.append_nil, List.take_of_length_le (by rw [List.length_set]; omega)]
    have t2 : (b.set (i - 2) v ++ lowL (crc b) 4).drop b.length = lowL (crc b) 4 := by
      rw [List.drop_append, List.length_set, Nat.sub_self, List.drop_zero, List.drop_of_length_le (by rw [List.length_set]; omega), List.nil_append]
    rw [t1, t2] at h
    have hc := lowL_inj (crc_lt _) (crc_lt _) h
    rw [List.getElem?_append_left hlt] at hu'
    have hsplit : b = b.take (i - 2) ++ u :: b.drop (i - 2 + 1) := by
      have := List.getElem_of_getElem? hu'
      obtain ⟨_, hg⟩ := this
      rw [← hg, List.getElem_cons_drop, List.take_append_drop]
    have hset : b.set (i - 2) v = b.take (i - 2) ++ v :: b.drop (i - 2 + 1) := List.set_eq_take_append_cons_drop.trans (if_pos hlt)
    rw [hset] at hc
    rw [hsplit] at hc
    have hlen : (b.take (i - 2)).length = i - 2 := by rw [List.length_take]; omega
    have hq : ∀ (x : Int), (b.take (i - 2) ++ u :: b.drop (i - 2 + 1)).take (i - 2) = b.take (i - 2) := fun _ => by rw [List.take_append_of_le_length (by omega), List.take_take, Nat.min_self]
    have hq2 : (b.take (i - 2) ++ u :: b.drop (i - 2 + 1)).drop (i - 2 + 1) = b.drop (i - 2 + 1) := by rw [← hsplit]
    rw [hq u, hq2] at hc
    exact crc_turned (fun x hx => hb x (List.mem_of_mem_take hx)) (fun x hx => hb x (List.mem_of_mem_drop hx)) hv hub hne hc.symm
  · have t0 : (b ++ lowL (crc b) 4).set (i - 2) v = b ++ (lowL (crc b) 4).set (i - 2 - b.length) v := List.set_append_right _ _ (by omega)
    rw [t0] at h
    have t1 : (b ++ (lowL (crc b) 4).set (i - 2 - b.length) v).take b.length = b := by rw [List.take_append_of_le_length (Nat.le_refl _), List.take_length]
    have t2 : (b ++ (lowL (crc b) 4).set (i - 2 - b.length) v).drop b.length = (lowL (crc b) 4).set (i - 2 - b.length) v := by rw [List.drop_append, Nat.sub_self, List.drop_zero, List.drop_length, List.nil_append]
    rw [t1, t2] at h
    rw [List.getElem?_append_right (by omega)] at hu'
    have := congrArg (fun l => l[i - 2 - b.length]?) h
    simp only [hu'] at this
    rw [List.getElem?_set_self (by rw [lowL_length]; omega)] at this
    exact hne (Option.some.inj this)
end Go.Proofs.Ytgeeicpjphdolaa.Frame
