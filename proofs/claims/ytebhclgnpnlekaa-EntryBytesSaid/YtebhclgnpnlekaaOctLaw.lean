/- lictorlaw04.alive, and OctetPuts, by their walks. -/
import Derived.Test.YtebhclgnpnlekaaRdCmdRef
namespace Go.Proofs.Ytebhclgnpnlekaa.OctLaw
open Go.RowKit Go.Proofs.Ytebhclgnpnlekaa.B Go.Proofs.Ytebhclgnpnlekaa.Cmd Go.Proofs.Ytebhclgnpnlekaa.Oct Go.Proofs.Ytebhclgnpnlekaa.Rd

theorem encs_alive : encs [5, 300, 0] = [5, 172, 2, 0] := by
  have e5 : enc 5 = [5] := enc_small (by decide)
  have e2 : enc 2 = [2] := enc_small (by decide)
  have e0 : enc 0 = [0] := enc_small (by decide)
  have e3 : enc 300 = [172, 2] := by rw [enc_great (by decide)]; show _ :: enc 2 = _; rw [e2]; rfl
  show enc 5 ++ (enc 300 ++ (enc 0 ++ [])) = _
  rw [e5, e3, e0]; rfl
theorem nums_alive : numsOk [5, 300, 0] = true := by decide
theorem numS_alive : numS ([172, 2, 9], 0) = (300, ([9], 0)) := by decide
theorem cmds_alive : cmdsOk [⟨16, 1, 0, 300, 0, 0, 0⟩] = false := by decide
theorem own_fr {e base : Nat} {M : Nat → Prop} {w w' : World} {v : Value} {xs : List Int} {k : IntKind} (h : Rep.Own (Rep.int k) e base nob w v xs) (hf : Fr M w w') (hM : ∀ j, v.ownBlock = some j → ¬ M j) : Rep.Own (Rep.int k) e base nob w' v xs :=
  h.move (fun j hj => hf.block j (h.block_lt j hj).2 (hM j hj)) (fun _ h _ _ => h.elim)

set_option maxRecDepth 100000 in
set_option maxHeartbeats 4000000 in
theorem alive_calls (w : World) : Calls Try.prog 13 #[] w fun e w' => e = .returned (.bool true) ∧ Hold (Below w.heap.size w w') := by
  have HR0 : Hold (Rep.Row (Rep.int .i64) (fun k => k = w.heap.size) (w.alloc (.cells #[.int .i64 5, .int .i64 300, .int .i64 0] 3)) (some ⟨w.heap.size, 0, none⟩) [5, 300, 0]) := ⟨Rep.row_lit w 3 (0, 0) [5, 300, 0] (by simp [maxLen]) (by decide)⟩
  have HB0 : Hold (Below w.heap.size w (w.alloc (.cells #[.int .i64 5, .int .i64 300, .int .i64 0] 3))) := ⟨(Below.refl _ _).alloc (Nat.le_refl _) _⟩
  go_enter Try.func13, Try.ntmps13
  go_wp2_with fail
  refine (put_calls _ 3 3 [5, 300, 0] _ _ rfl HR0.out (by simp)).mono ?_
  rintro e w1 hs
  rw [PutSaid, nums_alive, if_pos rfl, encs_alive] at hs
  obtain ⟨A1, c1, rfl, HO1, HB1⟩ := hs
  have hb1 : Below w.heap.size w w1 := HB0.out.trans (HB1.out.mono HB0.out.size)
  have HR2 : Hold (Rep.Row (Rep.int .u8) (fun k => k = w1.heap.size) (w1.alloc (.cells #[.int .u8 172, .int .u8 2, .int .u8 9] 5)) (some ⟨w1.heap.size, 0, none⟩) [172, 2, 9]) := ⟨Rep.row_lit w1 5 (0, 0) [172, 2, 9] (by simp [maxLen]) (by decide)⟩
  have HB2 : Hold (Below w.heap.size w (w1.alloc (.cells #[.int .u8 172, .int .u8 2, .int .u8 9] 5))) := ⟨hb1.alloc hb1.size _⟩
  have HO2 := Hold.mk (HO1.out.alloc (.cells #[.int .u8 172, .int .u8 2, .int .u8 9] 5))
  have HLt1 : Hold (∀ j, (Value.slice A1 4 c1).ownBlock = some j → j < w1.heap.size) := ⟨fun j hj => (HO1.out.block_lt j hj).2⟩
  clear hb1
  go_wp2_with fail
  refine (read_calls _ 3 3 [172, 2, 9] _ _ rfl HR2.out (fun h => by cases h) (by simp)).mono ?_
  rintro e w3 ⟨g, rfl, HG3, HR3, HB3⟩
  have HBw3 : Hold (Below w.heap.size w w3) := ⟨HB2.out.trans (HB3.out.mono HB2.out.size)⟩
  have HO3 := Hold.mk (HO2.out.below HB3.out)
  have HG : Hold (w1.heap.size < g) := ⟨by have := HG3.out; simp at this; omega⟩
  go_wp2_with fail
  refine (num_calls g _ w3 _ HR3.out).mono ?_
  rintro e w4 ⟨he, hr4, hf4⟩
  rw [numS_alive] at he hr4
  subst he
  have HR4 := Hold.mk hr4
  have HO4 := Hold.mk (own_fr HO3.out hf4 (fun j hj e => by have := HLt1.out j hj; have := HG.out; have e : j = g := e; omega))
  have HBw4 : Hold (Below w.heap.size w w4) := ⟨HBw3.out.trans ⟨hf4.os, hf4.tape, hf4.output, hf4.size, fun k hk => hf4.block k (Nat.lt_of_lt_of_le hk HBw3.out.size) (fun e => by have := HG.out; have := HB0.out.size; have := HB1.out.size; have e : k = g := e; omega)⟩⟩
  clear hr4 hf4
  go_wp2_with fail
  refine (rest_calls g _ w4 _ HR4.out (by simp)).mono ?_
  rintro e w5 ⟨A5, c5, rfl, HO5, HB5⟩
  have HR5 := Hold.mk (HR4.out.below HB5.out)
  have HO5' := Hold.mk (HO4.out.below HB5.out)
  have HBw5 : Hold (Below w.heap.size w w5) := ⟨HBw4.out.trans (HB5.out.mono HBw4.out.size)⟩
  have HRow : Hold (Rep.Row cmdRep (fun k => True ∨ k = w5.heap.size) (w5.alloc (.cells #[.int .i64 16, .int .i64 1, .int .i64 0, .int .i64 300, .int .i64 0, .int .i64 0, .int .i64 0] 45)) (some ⟨w5.heap.size, 0, none⟩) [⟨16, 1, 0, 300, 0, 0, 0⟩]) :=
    ⟨Rep.row_box (d := cmdRep) (I := fun _ => True) (x := ⟨16, 1, 0, 300, 0, 0, 0⟩) (cs := [.int .i64 16, .int .i64 1, .int .i64 0, .int .i64 300, .int .i64 0, .int .i64 0, .int .i64 0]) 45 ⟨rfl, by decide, by decide, by decide, by decide, by decide, by decide, by decide⟩⟩
  have hb6 : Below w5.heap.size w5 (w5.alloc (.cells #[.int .i64 16, .int .i64 1, .int .i64 0, .int .i64 300, .int .i64 0, .int .i64 0, .int .i64 0] 45)) := (Below.refl _ _).alloc (Nat.le_refl _) _
  have HB6 := Hold.mk hb6
  clear hb6
  go_wp2_with fail
  refine (putCmds_calls _ 1 1 [⟨16, 1, 0, 300, 0, 0, 0⟩] _ _ rfl HRow.out).mono ?_
  rintro e w6 hs
  rw [BytesSaid, cmds_alive, if_neg (by decide)] at hs
  obtain ⟨rfl, HB7⟩ := hs
  have hb56 : Below w5.heap.size w5 w6 := HB6.out.trans (HB7.out.mono HB6.out.size)
  have HR6 := Hold.mk (HR5.out.below hb56)
  have HO6 := Hold.mk (HO5'.out.below hb56)
  have HBw6 : Hold (Below w.heap.size w w6) := ⟨HBw5.out.trans (hb56.mono HBw5.out.size)⟩
  have q1 := Rep.row_string (P := Try.prog) (A := A1) (c := c1) Try.underlying25 Try.underlying5 Try.underlying9 HO6.out.row
  have s1 : strOfNums [5, 172, 2, 0] = { data := #[5, 172, 2, 0] } := rfl
  rw [s1] at q1
  replace q1 : (convert 25 9 (.slice A1 4 c1)).run Try.prog w6 = .ok (.string { data := #[5, 172, 2, 0] }) w6 := q1
  clear s1 hb56
  go_wp2_with (go_at_call 32; refine (err_calls g _ w6 _ HR6.out).mono ?_; rintro e w7 ⟨rfl, rfl⟩)
  go_ret
  exact ⟨rfl, HBw6⟩

/-- Some bytes, and a number, or the error. -/
def outB (ok : Bool) (bs : List Int) : List Int := if ok = true then bs else []
def outE (ok : Bool) : Int := if ok = true then 0 else 1
/-- What such a call leaves, in one form. -/
theorem said_form {ok : Bool} {bs : List Int} {w w' : World} {e : Ending} (h : BytesSaid ok bs w e w') : ∃ A1 c1, e = .returned (.tuple #[.slice A1 (outB ok bs).length c1, .int .i64 (outE ok)]) ∧ Hold (Rep.Own (Rep.int .u8) 5 w.heap.size nob w' (.slice A1 (outB ok bs).length c1) (outB ok bs)) ∧ Hold (Below w.heap.size w w') := by
  unfold BytesSaid at h
  cases ok with
  | true => rw [if_pos rfl] at h; exact h
  | false =>
    rw [if_neg (by decide)] at h
    obtain ⟨rfl, hb⟩ := h
    exact ⟨none, 0, rfl, ⟨Rep.Own.nil _ _ _ _ _⟩, hb⟩
theorem put_form {l : List Int} {w w' : World} {e : Ending} (h : PutSaid l w e w') : ∃ A1 c1, e = .returned (.tuple #[.slice A1 (outB (numsOk l) (encs l)).length c1, .int .i64 (outE (numsOk l))]) ∧ Hold (Rep.Own (Rep.int .u8) 5 w.heap.size nob w' (.slice A1 (outB (numsOk l) (encs l)).length c1) (outB (numsOk l) (encs l))) ∧ Hold (Below w.heap.size w w') :=
  said_form (ok := numsOk l) (bs := encs l) h

set_option maxRecDepth 100000 in
set_option maxHeartbeats 8000000 in
theorem puts_law (A0 : Option Addr) (c0 : Nat) (n : List Int) (A1 : Option Addr) (c1 : Nat) (l : List CmdD) (t : Int) (w : World) (_h0 : n.length ≤ c0) (_n0 : A0 = none → c0 = 0) (r0 : Rep.Row (Rep.int .i64) (fun _ => True) w A0 n)
    (_h1 : l.length ≤ c1) (_n1 : A1 = none → c1 = 0) (r1 : Rep.Row cmdRep (fun _ => True) w A1 l) (ht : (Lit.int .i64 t).wf = true) :
    Calls Try.prog 3 #[.slice A0 n.length c0, .slice A1 l.length c1, .int .i64 t] w fun e w' => e = .returned (.bool true) ∧ Below w.heap.size w w' := by
  have R0 := Hold.mk r0
  have R1 := Hold.mk r1
  have HT := Hold.mk ht
  have m0 := r0.len_le
  have m1 := r1.len_le
  clear r0 r1 ht
  by_cases hn : n.length ≤ 150
  · have t0 : decide ((150 : Int) < (n.length : Int)) = false := decide_eq_false (by omega)
    by_cases hl : l.length ≤ 150
    · have t1 : decide ((150 : Int) < (l.length : Int)) = false := decide_eq_false (by omega)
      have HNl : Hold (n.length ≤ 150) := ⟨hn⟩
      clear hn hl
      go_enter Try.func3, Try.ntmps3
      go_wp2_with fail
      refine (put_calls A0 c0 _ n _ w rfl R0.out (by have := HNl.out; omega)).mono ?_
      rintro e w1 hs
      obtain ⟨B1, d1, rfl, O1, Q1⟩ := put_form hs
      clear hs
      have S1 : Hold (Below w.heap.size w w1) := Q1
      go_wp2_with fail
      refine (refPut_calls A0 c0 _ n _ w1 rfl (R0.out.below S1.out) (by have := HNl.out; omega)).mono ?_
      rintro e w2 hs
      obtain ⟨B2, d2, rfl, O2, Q2⟩ := put_form hs
      clear hs
      have S2 : Hold (Below w.heap.size w w2) := ⟨S1.out.trans (Q2.out.mono S1.out.size)⟩
      have O1 := Hold.mk (O1.out.below Q2.out)
      go_wp2_with fail
      refine (putCmds_calls A1 c1 _ l _ w2 rfl (R1.out.below S2.out)).mono ?_
      rintro e w3 hs
      obtain ⟨B3, d3, rfl, O3, Q3⟩ := said_form hs
      clear hs
      have S3 : Hold (Below w.heap.size w w3) := ⟨S2.out.trans (Q3.out.mono S2.out.size)⟩
      have O1 := Hold.mk (O1.out.below Q3.out)
      have O2 := Hold.mk (O2.out.below Q3.out)
      go_wp2_with fail
      refine (refPutCmds_calls A1 c1 _ l _ w3 rfl (R1.out.below S3.out)).mono ?_
      rintro e w4 hs
      obtain ⟨B4, d4, rfl, O4, Q4⟩ := said_form hs
      clear hs
      have S4 : Hold (Below w.heap.size w w4) := ⟨S3.out.trans (Q4.out.mono S3.out.size)⟩
      have O1 := Hold.mk (O1.out.below Q4.out)
      have O2 := Hold.mk (O2.out.below Q4.out)
      have O3 := Hold.mk (O3.out.below Q4.out)
      go_wp2_with fail
      refine (putValue_calls A1 c1 _ t l _ w4 rfl (R1.out.below S4.out) HT.out).mono ?_
      rintro e w5 hs
      obtain ⟨B5, d5, rfl, O5, Q5⟩ := said_form hs
      clear hs
      have S5 : Hold (Below w.heap.size w w5) := ⟨S4.out.trans (Q5.out.mono S4.out.size)⟩
      have O1 := Hold.mk (O1.out.below Q5.out)
      have O2 := Hold.mk (O2.out.below Q5.out)
      have O3 := Hold.mk (O3.out.below Q5.out)
      have O4 := Hold.mk (O4.out.below Q5.out)
      go_wp2_with fail
      refine (refPutValue_calls A1 c1 _ t l _ w5 rfl (R1.out.below S5.out) HT.out).mono ?_
      rintro e w6 hs
      obtain ⟨B6, d6, rfl, O6, Q6⟩ := said_form hs
      clear hs
      have S6 : Hold (Below w.heap.size w w6) := ⟨S5.out.trans (Q6.out.mono S5.out.size)⟩
      have O1 := Hold.mk (O1.out.below Q6.out)
      have O2 := Hold.mk (O2.out.below Q6.out)
      have O3 := Hold.mk (O3.out.below Q6.out)
      have O4 := Hold.mk (O4.out.below Q6.out)
      have O5 := Hold.mk (O5.out.below Q6.out)
      go_wp2_with fail
      refine (alive_calls w6).mono ?_
      rintro e w7 ⟨rfl, Q7⟩
      have S7 : Hold (Below w.heap.size w w7) := ⟨S6.out.trans (Q7.out.mono S6.out.size)⟩
      have k1 := Rep.row_string (P := Try.prog) (A := B1) (c := d1) Try.underlying25 Try.underlying5 Try.underlying9 (O1.out.below Q7.out).row
      have k2 := Rep.row_string (P := Try.prog) (A := B2) (c := d2) Try.underlying25 Try.underlying5 Try.underlying9 (O2.out.below Q7.out).row
      have k3 := Rep.row_string (P := Try.prog) (A := B3) (c := d3) Try.underlying25 Try.underlying5 Try.underlying9 (O3.out.below Q7.out).row
      have k4 := Rep.row_string (P := Try.prog) (A := B4) (c := d4) Try.underlying25 Try.underlying5 Try.underlying9 (O4.out.below Q7.out).row
      have k5 := Rep.row_string (P := Try.prog) (A := B5) (c := d5) Try.underlying25 Try.underlying5 Try.underlying9 (O5.out.below Q7.out).row
      have k6 := Rep.row_string (P := Try.prog) (A := B6) (c := d6) Try.underlying25 Try.underlying5 Try.underlying9 (O6.out.below Q7.out).row
      go_wp2
      go_ret
      exact ⟨rfl, S7.out⟩
    · have t1 : decide ((150 : Int) < (l.length : Int)) = true := decide_eq_true (by omega)
      clear hn hl
      go_enter Try.func3, Try.ntmps3
      go_wp2_with fail
      refine (alive_calls w).mono ?_
      rintro e w7 ⟨rfl, Q7⟩
      go_wp2
      go_ret
      exact ⟨rfl, Q7.out⟩
  · have t0 : decide ((150 : Int) < (n.length : Int)) = true := decide_eq_true (by omega)
    clear hn
    go_enter Try.func3, Try.ntmps3
    go_wp2_with fail
    refine (alive_calls w).mono ?_
    rintro e w7 ⟨rfl, Q7⟩
    go_wp2
    go_ret
    exact ⟨rfl, Q7.out⟩
end Go.Proofs.Ytebhclgnpnlekaa.OctLaw
