/- frame.low and bytes.Equal by their walks; no condition but small sizes, and that the bytes are read. -/
import Derived.Test.YtgeeicpjphdolaaO
import Derived.Laws.BytesArg
namespace Go.Proofs.Ytgeeicpjphdolaa.Frame
open Go.RowKit Go.Proofs.Ytgeeicpjphdolaa.B

theorem info_u8 : (Try.prog.info? 5).map (fun i => (i.zero, i.size, i.bytes)) = some (some (.int .u8 0), 1, 1) := by kernel_rfl

/-- A number's bytes, the lowest first. -/
def lowL (n : Nat) (k : Nat) : List Int := (List.range k).map fun i => ((n / 2 ^ (8 * i) % 256 : Nat) : Int)
theorem lowL_length (n k : Nat) : (lowL n k).length = k := by simp [lowL]
theorem lowL_wf (n k : Nat) : ∀ x ∈ lowL n k, (Lit.int .u8 x).wf = true := by
  intro x hx
  simp only [lowL, List.mem_map] at hx
  obtain ⟨i, _, rfl⟩ := hx
  exact WalkArith.wf_u8 (by omega)
theorem lowL_succ (n k : Nat) : lowL n (k + 1) = lowL n k ++ [((n / 2 ^ (8 * k) % 256 : Nat) : Int)] := by simp [lowL, List.range_succ]

theorem low_set (n j k : Nat) (h : j < k) : (lowL n j ++ List.replicate (k - j) 0).set j ((n / 2 ^ (8 * j) % 256 : Nat) : Int) = lowL n (j + 1) ++ List.replicate (k - (j + 1)) 0 := by
  rw [lowL_succ, List.set_append_right _ _ (by rw [lowL_length]; omega), lowL_length, Nat.sub_self, show k - j = (k - (j + 1)) + 1 by omega, List.replicate_succ, List.set_cons_zero]
  simp

set_option maxHeartbeats 1000000 in
theorem low_calls (n k : Nat) (w : World) (hk : k ≤ 8) :
    Calls Try.prog 73 #[.int .u64 (n : Int), .int .i64 (k : Int)] w fun e w' => ∃ c1, e = .returned (.slice (some ⟨w.heap.size, 0, none⟩) k c1) ∧
      Rep.Own (Rep.int .u8) 5 w.heap.size nob w' (.slice (some ⟨w.heap.size, 0, none⟩) k c1) (lowL n k) ∧ Below w.heap.size w w' := by
  obtain ⟨i0, hi, hz0, hz1, hz2⟩ := info_parts info_u8
  have hmk := fun (W : World) => run_make_full (P := Try.prog) W W.heap.size 22 5 i0 (.int .u8 0) 1 Try.underlying22 hi hz0 hz1 .i64 .i64 k (by rw [hz2]; omega) (by simp only [maxLen]; omega) (Nat.le_refl _)
  obtain ⟨w1, hrun, hown, hg⟩ := hmk w
  clear hmk hi hz0 hz1 hz2
  have hown1 : Rep.Own (Rep.int .u8) 5 w.heap.size nob w1 (.slice (some ⟨w.heap.size, 0, none⟩) k k) (List.replicate k 0) := by
    refine Rep.own_ints nob ?_ (fun x hx => by rw [(List.mem_replicate.1 hx).2]; decide)
    have e : (madeCells (Value.int .u8 0).cells (k * 1)).toList = (List.replicate k (0 : Int)).map (Value.int .u8) := by
      have := toList_madeCells_one (.int .u8 0) k
      simp only [Value.cells, Nat.mul_one, List.map_replicate]
      exact this
    rw [e] at hown
    simpa using hown
  have hb1 : Below w.heap.size w w1 := (Below.refl _ _).grown hg (Nat.le_refl _) (fun k h => by cases h)
  have HO := Hold.mk hown1
  have HB := Hold.mk hb1
  clear hown hg hown1 hb1
  go_enter Try.func73, Try.ntmps73
  go_wp2
  go_loopw [11] (fun i wr => ∃ j : Nat, j ≤ k ∧ i = .int .i64 (j : Int) ∧ Hold (Rep.Own (Rep.int .u8) 5 w.heap.size nob wr (.slice (some ⟨w.heap.size, 0, none⟩) k k) (lowL n j ++ List.replicate (k - j) 0)) ∧ Hold (Below w.heap.size w wr)) (fun i _ => k - (intOf i).toNat)
  case atStart => exact ⟨0, by omega, rfl, by simpa [lowL] using HO, HB⟩
  case round =>
    obtain ⟨j, hj, rfl, HOr, HBr⟩ := hrel
    by_cases hlt : j < k
    · have hst := HOr.out.store j ((n / 2 ^ (8 * j) % 256 : Nat) : Int) (by simp [lowL_length]; omega) (WalkArith.wf_u8 (by omega))
      obtain ⟨⟨u, hc⟩, hf, hown', hg'⟩ := hst
      have HO2 := Hold.mk hown'
      have HB2 := Hold.mk (HBr.out.grown hg' (HBr.out.size) (fun k h => by injection h with h; omega))
      clear hown' hg'
      have ev : ((n / 2 ^ (8 * j) % 256 : Nat) : Int) = (n : Int) / 2 ^ (8 * j) % 256 := by rw [Int.natCast_emod, Int.natCast_ediv, Int.natCast_pow]; rfl
      have HV := Hold.mk ev
      clear ev
      go_wp2
      rw [← HV.out]
      refine ⟨⟨j + 1, by omega, by go_num, ⟨?_⟩, HB2⟩, by simp [intOf]; omega⟩
      have := HO2.out
      rw [low_set n j k hlt] at this
      exact this
    · obtain rfl : j = k := by omega
      go_wp2
      go_ret
      refine ⟨j, rfl, ?_, HBr.out⟩
      have := HOr.out
      rwa [Nat.sub_self, List.replicate_zero, List.append_nil] at this

/-- The same, its arguments as they stand at a call. -/
theorem low_at (n k : Nat) (a b : Int) (w : World) (hk : k ≤ 8) (ha : a = n) (hb : b = k) :
    Calls Try.prog 73 #[.int .u64 a, .int .i64 b] w fun e w' => ∃ c1, e = .returned (.slice (some ⟨w.heap.size, 0, none⟩) k c1) ∧
      Rep.Own (Rep.int .u8) 5 w.heap.size nob w' (.slice (some ⟨w.heap.size, 0, none⟩) k c1) (lowL n k) ∧ Below w.heap.size w w' := by
  subst ha; subst hb; exact low_calls n k w hk

set_option maxHeartbeats 1000000 in
theorem equal_calls (A1 A2 : Option Addr) (c1 c2 : Nat) (xs ys : List Int) (I J : Nat → Prop) (w : World) (h1 : Rep.Row (Rep.int .u8) I w A1 xs) (h2 : Rep.Row (Rep.int .u8) J w A2 ys) :
    Calls Try.prog 85 #[.slice A1 xs.length c1, .slice A2 ys.length c2] w fun e w' => e = .returned (.bool (decide (xs = ys))) ∧ w = w' := by
  have q1 := Rep.row_string (P := Try.prog) (A := A1) (c := c1) Try.underlying22 Try.underlying5 Try.underlying9 h1
  have q2 := Rep.row_string (P := Try.prog) (A := A2) (c := c2) Try.underlying22 Try.underlying5 Try.underlying9 h2
  have he := Rep.str_eq (Rep.row_wf h1) (Rep.row_wf h2)
  clear h1 h2
  have HE := Hold.mk he
  clear he
  go_enter Try.func85, Try.ntmps85
  go_wp2
  go_ret
  refine ⟨?_, rfl⟩
  show Ending.returned (.bool ((strOfNums xs).toList == (strOfNums ys).toList)) = _
  rw [HE.out]
/-- The same, its arguments as they stand at a call. -/
theorem equal_at (A1 A2 : Option Addr) (n m c1 c2 : Nat) (xs ys : List Int) (I J : Nat → Prop) (w : World) (hn : n = xs.length) (hm : m = ys.length) (h1 : Rep.Row (Rep.int .u8) I w A1 xs) (h2 : Rep.Row (Rep.int .u8) J w A2 ys) :
    Calls Try.prog 85 #[.slice A1 n c1, .slice A2 m c2] w fun e w' => e = .returned (.bool (decide (xs = ys))) ∧ w = w' := by
  subst hn; subst hm; exact equal_calls A1 A2 c1 c2 xs ys I J w h1 h2
end Go.Proofs.Ytgeeicpjphdolaa.Frame
