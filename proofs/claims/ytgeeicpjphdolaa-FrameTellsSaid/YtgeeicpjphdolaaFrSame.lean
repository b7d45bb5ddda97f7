/- lictorref07.Same and lictorlaw07.alive by their walks; no condition but that the lists are read. -/
import Derived.Test.YtgeeicpjphdolaaFrScan
namespace Go.Proofs.Ytgeeicpjphdolaa.Frame
open Go.RowKit Go.Proofs.Ytgeeicpjphdolaa.B

/-- Bytes at a place of a list of bytes. -/
theorem row_bytes {I : Nat → Prop} {w : World} {A : Option Addr} {xs : List (List Int)} (h : Rep.Row (Rep.slice (Rep.int .u8)) I w A xs) (i : Nat) (hi : i < xs.length) :
    ∃ ad A1 c1, A = some ad ∧ w.cell? (ad.add i) = some (.slice A1 xs[i].length c1) ∧ xs[i].length ≤ c1 ∧ (A1 = none → c1 = 0) ∧ Rep.Row (Rep.int .u8) I w A1 xs[i] := by
  obtain ⟨ad, cs, e, _, _, ⟨A1, c1, rfl, hl, hn, hr⟩, hc⟩ := h.at i hi
  have := hc 0 _ rfl
  exact ⟨ad, A1, c1, e, by simpa [Rep.slice] using this, hl, hn, hr⟩

set_option maxHeartbeats 2000000 in
theorem same_calls (A1 A2 : Option Addr) (c1 c2 : Nat) (xs ys : List (List Int)) (I J : Nat → Prop) (w : World) (h1 : Rep.Row (Rep.slice (Rep.int .u8)) I w A1 xs) (h2 : Rep.Row (Rep.slice (Rep.int .u8)) J w A2 ys) :
    Calls Try.prog 20 #[.slice A1 xs.length c1, .slice A2 ys.length c2] w fun e w' => e = .returned (.bool (decide (xs = ys))) ∧ Hold (∃ n, w' = w.drewN n) := by
  have H1 := Hold.mk h1
  have H2 := Hold.mk h2
  clear h1 h2
  by_cases hlen : xs.length = ys.length
  · have t1 : ((xs.length : Int) != (ys.length : Int)) = false := by simp [hlen]
    have HL := Hold.mk hlen
    have hm := H1.out.len_le
    clear hlen
    go_enter Try.func20, Try.ntmps20
    go_wp2
    go_loopw [5] (fun v wr => ∃ i : Nat, i ≤ xs.length ∧ v = .int .i64 (i : Int) ∧ Hold (xs.take i = ys.take i) ∧ Hold (∃ n, wr = w.drewN n)) (fun v _ => xs.length - (intOf v).toNat)
    case atStart => exact ⟨0, by omega, rfl, ⟨by simp⟩, ⟨0, rfl⟩⟩
    case round =>
      obtain ⟨i, hi, rfl, HT, ⟨m, rfl⟩⟩ := hrel
      by_cases hlt : i < xs.length
      · obtain ⟨ad1, B1, d1, rfl, hc1, _, _, hr1⟩ := row_bytes H1.out i hlt
        obtain ⟨ad2, B2, d2, rfl, hc2, _, _, hr2⟩ := row_bytes H2.out i (by have := HL.out; omega)
        obtain ⟨x, hx⟩ : ∃ x, xs[i] = x := ⟨_, rfl⟩
        have hi2 : i < ys.length := by have := HL.out; omega
        obtain ⟨y, hy⟩ : ∃ y, ys[i] = y := ⟨_, rfl⟩
        rw [hx] at hc1 hr1
        rw [hy] at hc2 hr2
        have q1 := fun k => Rep.row_string (P := Try.prog) (A := B1) (c := d1) Try.underlying22 Try.underlying5 Try.underlying9 (hr1.drewN k)
        have q2 := fun k => Rep.row_string (P := Try.prog) (A := B2) (c := d2) Try.underlying22 Try.underlying5 Try.underlying9 (hr2.drewN k)
        have he := Rep.str_eq (Rep.row_wf hr1) (Rep.row_wf hr2)
        have l1 : (i : Int) < (xs.length : Int) := by omega
        have l2 : (i : Int) < (ys.length : Int) := by omega
        have l1n : i < xs.length := hlt
        have l2n : i < ys.length := hi2
        have HX := Hold.mk hx
        have HY := Hold.mk hy
        have HTX := Hold.mk (List.take_succ_eq_append_getElem hlt)
        have HTY := Hold.mk (List.take_succ_eq_append_getElem hi2)
        have HE := Hold.mk he
        clear hx hy hr1 hr2 he
        by_cases hxy : x = y
        · have b1 : ((strOfNums x).toList == (strOfNums y).toList) = true := by rw [HE.out, decide_eq_true hxy]
          have b2 : ((strOfNums x).toList != (strOfNums y).toList) = false := by rw [bne, b1]; rfl
          have HXY := Hold.mk hxy
          clear hxy
          go_wp2
          go_quiet (fail)
          go_wp2
          refine ⟨⟨i + 1, by omega, by go_num, ⟨?_⟩, ⟨_, rfl⟩⟩, by simp [intOf]; omega⟩
          rw [HTX.out, HTY.out, HT.out, HX.out, HY.out, HXY.out]
        · have b1 : ((strOfNums x).toList == (strOfNums y).toList) = false := by rw [HE.out, decide_eq_false hxy]
          have b2 : ((strOfNums x).toList != (strOfNums y).toList) = true := by rw [bne, b1]; rfl
          have HXY := Hold.mk hxy
          clear hxy
          go_wp2
          go_quiet (fail)
          go_wp2
          go_ret
          refine ⟨?_, ⟨_, World.drewN_drewN ..⟩⟩
          have : xs ≠ ys := by
            rintro rfl
            exact HXY.out (HX.out.symm.trans HY.out)
          rw [decide_eq_false this]; rfl
      · obtain rfl : i = xs.length := by omega
        go_wp2
        go_ret
        refine ⟨?_, ⟨_, rfl⟩⟩
        have := HT.out
        rw [List.take_length, HL.out, List.take_length] at this
        rw [decide_eq_true this]; rfl
  · have t1 : ((xs.length : Int) != (ys.length : Int)) = true := by simp; omega
    have HL := Hold.mk hlen
    clear hlen
    go_enter Try.func20, Try.ntmps20
    go_wp2
    go_ret
    refine ⟨?_, ⟨0, rfl⟩⟩
    rw [decide_eq_false (fun h => HL.out (by rw [h]))]; rfl
/-- The same, its arguments as they stand at a call. -/
theorem same_at (A1 A2 : Option Addr) (n m c1 c2 : Nat) (xs ys : List (List Int)) (I J : Nat → Prop) (w : World) (hn : n = xs.length) (hm : m = ys.length) (h1 : Rep.Row (Rep.slice (Rep.int .u8)) I w A1 xs) (h2 : Rep.Row (Rep.slice (Rep.int .u8)) J w A2 ys) :
    Calls Try.prog 20 #[.slice A1 n c1, .slice A2 m c2] w fun e w' => e = .returned (.bool (decide (xs = ys))) ∧ Hold (∃ n, w' = w.drewN n) := by
  subst hn; subst hm; exact same_calls A1 A2 c1 c2 xs ys I J w h1 h2
end Go.Proofs.Ytgeeicpjphdolaa.Frame
