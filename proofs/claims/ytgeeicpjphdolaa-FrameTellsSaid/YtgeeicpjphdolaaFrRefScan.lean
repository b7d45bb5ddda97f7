/- lictorref07.Wrap, Scan by their walks; no condition but that the bytes are read, and few. -/
import Derived.Test.YtgeeicpjphdolaaFrRef
import Derived.Test.YtgeeicpjphdolaaFrSame
namespace Go.Proofs.Ytgeeicpjphdolaa.Frame
open Go.RowKit Go.Proofs.Ytgeeicpjphdolaa.B

theorem row_flatV {J I : Nat → Prop} {w : World} {A : Option Addr} {xs : List Int} (h : Rep.Row (Rep.int .u8) I w A xs) : Rep.RowV (Rep.int .u8) J w A xs := by
  obtain ⟨h1, h2⟩ := h.v
  refine ⟨h1, fun h0 => ?_⟩
  obtain ⟨ad, e, hc⟩ := h2 h0
  exact ⟨ad, e, fun i x hx => by obtain ⟨cs, hk, hcs⟩ := hc i x hx; exact ⟨cs, Rep.flat_int _ hk, hcs⟩⟩
set_option maxHeartbeats 1000000 in
theorem refWrap_no (A : Option Addr) (c n : Nat) (bs : List Int) (w : World) (hn : n = bs.length) (hl : bs.length < 1 ∨ 65535 < bs.length) :
    Calls Try.prog 17 #[.slice A n c] w fun e w' => e = .returned (.tuple #[.slice none 0 0, .int .i64 1]) ∧ w = w' := by
  subst hn
  by_cases h : ((bs.length : Int) < 1)
  · go_enter Try.func17, Try.ntmps17
    go_wp2
    go_ret2
    exact ⟨rfl, rfl⟩
  · have h1 : decide ((bs.length : Int) < 1) = false := decide_eq_false h
    have h2 : decide (65535 < (bs.length : Int)) = true := decide_eq_true (by omega)
    clear hl h
    go_enter Try.func17, Try.ntmps17
    go_wp2
    go_ret2
    exact ⟨rfl, rfl⟩

set_option maxRecDepth 10000 in
set_option maxHeartbeats 2000000 in
theorem refWrap_yes (A : Option Addr) (c n : Nat) (bs : List Int) (I : Nat → Prop) (w : World) (hnl : n = bs.length) (hr : Rep.Row (Rep.int .u8) I w A bs) (hn : A = none → c = 0) (hl : 1 ≤ bs.length) (hl2 : bs.length ≤ 65535) :
    Calls Try.prog 17 #[.slice A n c] w fun e w' => ∃ A1 c1, e = .returned (.tuple #[.slice A1 (bs.length + 6) c1, .int .i64 0]) ∧ Hold (A1 = none → c1 = 0) ∧
      Hold (Rep.Own (Rep.int .u8) 5 w.heap.size nob w' (.slice A1 (bs.length + 6) c1) (wrapL bs)) ∧ Hold (Below w.heap.size w w') := by
  subst hnl
  have h1 : decide ((bs.length : Int) < 1) = false := decide_eq_false (by omega)
  have h2 : decide (65535 < (bs.length : Int)) = false := decide_eq_false (by omega)
  have HR := Hold.mk hr
  have HN := Hold.mk hn
  have HL := Hold.mk hl2
  have hz : (bs.length : Int) ≤ 65535 := by omega
  have HB0 : Hold (lowL bs.length 2 = [(bs.length : Int) % 256, (bs.length : Int) / 256]) := ⟨by
    rw [lowL_two]
    congr 1
    congr 1
    omega⟩
  have q0 : IntKind.u8.wrap ((bs.length : Int) % 256) = (bs.length : Int) % 256 := by rw [IntKind.wrap_u8]; omega
  have q1 : IntKind.u8.wrap ((bs.length : Int) / 256) = (bs.length : Int) / 256 := by rw [IntKind.wrap_u8]; omega
  obtain ⟨b0, hb0⟩ : ∃ b0, (bs.length : Int) % 256 = b0 := ⟨_, rfl⟩
  obtain ⟨b1, hb1⟩ : ∃ b1, (bs.length : Int) / 256 = b1 := ⟨_, rfl⟩
  have hw0 : (Lit.int .u8 b0).wf = true := WalkArith.wf_u8 (by omega)
  have hw1 : (Lit.int .u8 b1).wf = true := WalkArith.wf_u8 (by omega)
  have HO0 : Hold (Rep.Own (Rep.int .u8) 5 w.heap.size nob (w.alloc (.cells #[.int .u8 b0, .int .u8 b1] 5)) (.slice (some ⟨w.heap.size, 0, none⟩) 2 2) [b0, b1]) :=
    ⟨Rep.own_lit 5 w.heap.size nob w [b0, b1] (Nat.le_refl _) (by simp [maxLen]) (by intro x hx; simp only [List.mem_cons, List.not_mem_nil, or_false] at hx; rcases hx with rfl | rfl; exact hw0; exact hw1)⟩
  rw [hb0, hb1] at HB0
  rw [hb0] at q0
  rw [hb1] at q1
  have HW : Hold (wrapL bs = [b0, b1] ++ bs ++ lowL (crc bs) 4) := ⟨by rw [wrapL, HB0.out]⟩
  have HR1 : Hold (Rep.Row (Rep.int .u8) (fun k => k < w.heap.size) (w.alloc (.cells #[.int .u8 b0, .int .u8 b1] 5)) A bs) := ⟨HR.out.move fun k _ hlt => ⟨hlt, Below.heap_alloc _ _ _ hlt⟩⟩
  obtain ⟨L, hL⟩ : ∃ L, [b0, b1] ++ bs = L := ⟨_, rfl⟩
  have HLL : Hold (L.length = bs.length + 2) := ⟨by rw [← hL]; simp⟩
  have HL' := Hold.mk hL
  clear hr hn hl hl2 hw0 hw1 HB0 hL
  go_enter Try.func17, Try.ntmps17
  go_wp2_with (at_builtin; refine Rep.wp_more (Rep.int .u8) rfl (.tmp 22) (.tmp 23) 22 5 (.int .u8 0) 1 rfl Try.underlying22 info_u8 rfl (by decide) (by decide) w.heap.size nob nob _ [b0, b1] bs L A bs.length c rfl rfl rfl HL'.out HO0.out (row_flatV HR1.out) (fun _ h _ => h.elim) HN.out (by simp) ?c2 ?_)
  case c2 => have := HL.out; simp; omega
  intro A1 c1 w1 G
  have HB1 : Hold (Below w.heap.size w w1) := ⟨((Below.refl _ _).alloc (Nat.le_refl _) _).trans (G.out.below (fun k hk => (HO0.out.block_lt k hk).1) (by simp))⟩
  have HO1 := Hold.mk G.out.own
  obtain ⟨v5, hv5⟩ : ∃ v, Value.slice A1 L.length c1 = v := ⟨_, rfl⟩
  rw [hv5] at HO1
  rw [hv5]
  clear G hv5
  go_wp2_with fail
  refine (refSum_calls A c bs (fun k => k < w.heap.size) _ (HR.out.move fun k _ hlt => ⟨hlt, HB1.out.block k hlt⟩) (by have := HL.out; omega)).mono ?_
  rintro e w2 ⟨rfl, HB2⟩
  have HO2 := Hold.mk (HO1.out.below HB2.out)
  have HB3 := Hold.mk (HB1.out.trans (HB2.out.mono HB1.out.size))
  have hcr := crc_lt bs
  obtain ⟨s, hs⟩ : ∃ s, crc bs = s := ⟨_, rfl⟩
  rw [hs] at hcr HW
  rw [hs]
  have HS := Hold.mk hs
  clear HB2 HO1 HB1 hs
  go_wp2
  go_loopw [5, 6, 7] (fun v t i wr => ∃ j y : Nat, j ≤ 4 ∧ i = .int .i64 (j : Int) ∧ t = .int .u32 (y : Int) ∧ y < 4294967296 ∧ Hold (y = s / 2 ^ (8 * j)) ∧ Hold (Rep.Own (Rep.int .u8) 5 w.heap.size nob wr v (L ++ lowL s j)) ∧ Hold (Below w.heap.size w wr)) (fun _ _ i _ => 4 - (intOf i).toNat)
  case atStart => exact ⟨0, s, by omega, by go_num, rfl, hcr, ⟨by simp⟩, ⟨by simpa [lowL] using HO2.out⟩, HB3⟩
  case round =>
    obtain ⟨j, y, hj, rfl, rfl, hy, HY, HOj, HBj⟩ := hrel
    by_cases hlt : j < 4
    · have HLn : Hold ((L ++ lowL s j).length ≤ 70000) := ⟨by rw [List.length_append, lowL_length, HLL.out]; have := HL.out; omega⟩
      obtain ⟨M, hM⟩ : ∃ M, L ++ lowL s j = M := ⟨_, rfl⟩
      rw [hM] at HOj HLn
      have HM := Hold.mk hM
      have q2 : IntKind.u8.wrap ((y : Int) % 256) = (y : Int) % 256 := by rw [IntKind.wrap_u8]; omega
      clear hM
      go_wp2_with (at_builtin; refine Rep.wp_push (Rep.int .u8) rfl (.tmp 31) (.tmp 35) 22 5 (.int .u8 0) 1 rfl Try.underlying22 info_u8 rfl (by decide) (by decide) w.heap.size nob nob _ M ((y : Int) % 256) [.int .u8 ((y : Int) % 256)] rfl rfl HOj.out ⟨rfl, ?c0⟩ (fun _ h _ => h.elim) HBj.out.size ?c1 ?_)
      case c0 => exact WalkArith.wf_u8 (by omega)
      case c1 => have := HLn.out; omega
      intro A2 c2 w3 G
      go_wp2
      refine ⟨⟨j + 1, y / 256, by omega, by go_num, by go_num, by omega, ⟨?_⟩, ⟨?_⟩, ⟨HBj.out.trans (G.out.below (fun k hk => (HOj.out.block_lt k hk).1) HBj.out.size)⟩⟩, by simp [intOf]; omega⟩
      · rw [HY.out, Nat.div_div_eq_div_mul, show 8 * (j + 1) = 8 * j + 8 by omega, Nat.pow_add]
      · have e : M ++ [(y : Int) % 256] = L ++ lowL s (j + 1) := by rw [← HM.out, lowL_succ, HY.out, List.append_assoc]; rfl
        have h1 := G.out.own
        rw [e] at h1
        have hlq := congrArg List.length e
        rw [List.length_append, List.length_singleton] at hlq
        rw [← hlq] at h1
        exact h1
    · obtain rfl : j = 4 := by omega
      have HOe : Hold (Rep.Own (Rep.int .u8) 5 w.heap.size nob wr u5 (wrapL bs)) := ⟨by rw [HW.out, HL'.out]; exact HOj.out⟩
      obtain ⟨A2, c2, hv, _⟩ := HOe.out.form
      have hn4 := HOe.out.cap_nil
      rw [wrapL_length] at hv
      subst hv
      have HN4 : Hold (A2 = none → c2 = 0) := ⟨fun h => hn4 _ _ _ rfl h⟩
      clear hn4
      go_wp2
      go_ret2
      exact ⟨A2, c2, rfl, HN4, HOe, HBj⟩

/-- What the document's Scan tests, in the program's words. -/
theorem head_two {l : List Int} (hb : Bytes l) (h2 : 2 ≤ l.length) : l.take 2 = lowL (headL l) 2 := by
  rcases l with _ | ⟨x, _ | ⟨y, l⟩⟩
  · simp at h2
  · simp at h2
  · have hx := bounds_u8 (hb x (by simp))
    have hy := bounds_u8 (hb y (by simp))
    rw [lowL_two]
    simp only [headL, List.getD_cons_zero, List.getD_cons_succ, List.take_succ_cons, List.take_zero]
    congr 1
    · omega
    · congr 1
      omega
theorem wrap_eq {l : List Int} (hb : Bytes l) (h : headL l + 6 ≤ l.length) : (wrapL (bodyL l) = l.take (headL l + 6)) ↔ (l.take (headL l + 6)).drop (headL l + 2) = lowL (crc (bodyL l)) 4 := by
  have hbl : (bodyL l).length = headL l := by unfold bodyL; rw [List.length_drop, List.length_take]; omega
  have e : l.take (headL l + 6) = lowL (headL l) 2 ++ bodyL l ++ (l.take (headL l + 6)).drop (headL l + 2) := by
    rw [← head_two hb (by omega), bodyL]
    have e1 : l.take 2 ++ (l.take (headL l + 2)).drop 2 = l.take (headL l + 2) := by
      have : l.take 2 = (l.take (headL l + 2)).take 2 := by rw [List.take_take, Nat.min_eq_left (by omega)]
      rw [this, List.take_append_drop]
    rw [e1]
    have : l.take (headL l + 2) = (l.take (headL l + 6)).take (headL l + 2) := by rw [List.take_take, Nat.min_eq_left (by omega)]
    rw [this, List.take_append_drop]
  rw [wrapL, hbl]
  constructor
  · intro h
    rw [e] at h
    exact (List.append_cancel_left h).symm
  · intro h
    rw [e, h]
theorem firstL_bad {l : List Int} (h2 : 2 ≤ l.length) (h : headL l < 1 ∨ l.length < headL l + 6) : firstL l = none := by
  unfold firstL; rw [if_neg (by omega), if_pos h]
theorem firstL_short {l : List Int} (h2 : l.length < 2) : firstL l = none := by
  unfold firstL; rw [if_pos h2]
theorem firstL_eq {l : List Int} (hb : Bytes l) (h1 : 1 ≤ headL l) (h : headL l + 6 ≤ l.length) : firstL l = if wrapL (bodyL l) = l.take (headL l + 6) then some (bodyL l) else none := by
  unfold firstL
  rw [if_neg (by omega), if_neg (by omega)]
  by_cases e : wrapL (bodyL l) = l.take (headL l + 6)
  · rw [if_pos e, if_pos ((wrap_eq hb h).1 e)]
  · rw [if_neg e, if_neg (fun h' => e ((wrap_eq hb h).2 h'))]

/-- What holds at the head of a round. -/
structure RefIn (bs : List Int) (w wr : World) (v4 : Value) (at_ : Nat) : Prop where
  ex : ∃ outs, Below w.heap.size w wr ∧ Rep.Own (Rep.slice (Rep.int .u8)) 22 w.heap.size (fun k => w.heap.size ≤ k) wr v4 outs ∧ outs.length ≤ at_ ∧
    ∃ f, (bs.drop at_).length ≤ f ∧ (scanL bs).1 = outs ++ (scanF f (bs.drop at_)).1 ∧ (scanL bs).2 = at_ + (scanF f (bs.drop at_)).2
/-- Where the first frame is none. -/
structure RefOut (bs : List Int) (w wr : World) (v4 : Value) (at_ : Nat) : Prop where
  ex : ∃ A1 c1, v4 = .slice A1 (scanL bs).1.length c1 ∧ (A1 = none → c1 = 0) ∧ (scanL bs).2 = at_ ∧ Below w.heap.size w wr ∧ Rep.Own (Rep.slice (Rep.int .u8)) 22 w.heap.size (fun k => w.heap.size ≤ k) wr v4 (scanL bs).1
theorem RefIn.stop {bs : List Int} {w wr w' : World} {v4 : Value} {at_ : Nat} (h : RefIn bs w wr v4 at_) (hno : firstL (bs.drop at_) = none) (hb : Below wr.heap.size wr w') : RefOut bs w w' v4 at_ := by
  obtain ⟨outs, hbel, hown, hol, f, hf, hs1, hs2⟩ := h.ex
  have HS : (scanL bs).1 = outs ∧ (scanL bs).2 = at_ := by
    cases f with
    | zero => exact ⟨by simpa [scanF] using hs1, by simpa [scanF] using hs2⟩
    | succ f => exact ⟨by simpa [scanF, hno] using hs1, by simpa [scanF, hno] using hs2⟩
  obtain ⟨A4, c4, hv, _⟩ := hown.form
  have hn4 := hown.cap_nil
  exact ⟨A4, c4, by rw [HS.1]; exact hv, fun h => hn4 _ _ _ hv h, HS.2, hbel.trans (hb.mono hbel.size), by rw [HS.1]; exact hown.below hb⟩

set_option maxRecDepth 10000 in
set_option maxHeartbeats 4000000 in
theorem refScan_calls (A : Option Addr) (c : Nat) (bs : List Int) (I : Nat → Prop) (w : World) (hr : Rep.Row (Rep.int .u8) I w A bs) (hc : bs.length ≤ c) (hl : bs.length ≤ 1000000) :
    Calls Try.prog 19 #[.slice A bs.length c] w (ScanPost bs w) := by
  have HR := Hold.mk hr
  have HC := Hold.mk hc
  have HL := Hold.mk hl
  have hli : (bs.length : Int) ≤ 1000000 := by omega
  clear hr hc hl
  go_enter Try.func19, Try.ntmps19
  go_wp2
  go_loopw [4, 5] (fun v i wr => ∃ at_ : Nat, at_ ≤ bs.length ∧ i = .int .i64 (at_ : Int) ∧ Hold (RefIn bs w wr v at_)) (fun _ i _ => bs.length - (intOf i).toNat)
  case atStart => exact ⟨0, Nat.zero_le _, rfl, ⟨⟨[], Below.refl _ _, Rep.Own.nil _ _ _ _ _, by simp, bs.length, by simp, by simp [scanL], by simp [scanL]⟩⟩⟩
  case round =>
    obtain ⟨at_, hat, rfl, HJ⟩ := hrel
    have hai : (at_ : Int) ≤ 1000000 := by omega
    by_cases hlt : (at_ : Int) + 2 ≤ (bs.length : Int)
    · obtain ⟨rest, hrest⟩ : ∃ rest, bs.drop at_ = rest := ⟨_, rfl⟩
      have hrl : rest.length + at_ = bs.length := by rw [← hrest, List.length_drop]; omega
      have hby : Bytes rest := fun x hx => Rep.row_wf HR.out x (by rw [← hrest] at hx; exact List.mem_of_mem_drop hx)
      have hRw : Rep.Row (Rep.int .u8) (fun k => k < w.heap.size) wr A bs := HR.out.move fun k _ hlt => by
        obtain ⟨_, hb, _⟩ := HJ.out.ex
        exact ⟨hlt, hb.block k hlt⟩
      obtain ⟨ad, y0, rfl, hy0, hc0, hw0⟩ := hRw.get at_ (by omega)
      obtain ⟨ad', y1, e, hy1, hc1, hw1⟩ := hRw.get (at_ + 1) (by omega)
      cases e
      have hb0 := bounds_u8 hw0
      have hb1 := bounds_u8 hw1
      obtain ⟨x0, rfl⟩ := Int.eq_ofNat_of_zero_le hb0.1
      obtain ⟨x1, rfl⟩ := Int.eq_ofNat_of_zero_le hb1.1
      have hx0 := hb0.2
      have hx1 := hb1.2
      obtain ⟨n, hn⟩ : ∃ n, headL rest = n := ⟨_, rfl⟩
      have hn' : n = x0 + 256 * x1 := by
        rw [← hn, headL, ← hrest, List.getD_eq_getElem?_getD, List.getD_eq_getElem?_getD, List.getElem?_drop, List.getElem?_drop, Nat.add_zero, hy0, hy1]
        rfl
      have hwn : IntKind.i64.wrap ((x0 : Int) + 256 * x1) = (n : Int) := by rw [IntKind.wrap_i64]; omega
      have hw2 : IntKind.i64.wrap (256 * (x1 : Int)) = 256 * x1 := by rw [IntKind.wrap_i64]; omega
      have hwx0 : IntKind.i64.wrap (x0 : Int) = (x0 : Int) := by rw [IntKind.wrap_i64]; omega
      have hwx1 : IntKind.i64.wrap (x1 : Int) = (x1 : Int) := by rw [IntKind.wrap_i64]; omega
      obtain ⟨at1, hat1⟩ : ∃ a1, at_ + 1 = a1 := ⟨_, rfl⟩
      rw [hat1] at hc1
      have hwa : IntKind.i64.wrap ((at_ : Int) + 1) = (at1 : Int) := by rw [IntKind.wrap_i64]; omega
      have hl0 : (at_ : Int) < (bs.length : Int) := by omega
      have hl1 : (at1 : Int) < (bs.length : Int) := by omega
      have hl0n : at_ < bs.length := by omega
      have hl1n : at1 < bs.length := by omega
      have hn65 : (n : Int) ≤ 65535 := by omega
      have HRest := Hold.mk hrest
      have HRL := Hold.mk hrl
      have HBy := Hold.mk hby
      have HN := Hold.mk hn
      have HRw := Hold.mk hRw
      clear hn' hb0 hb1 hw0 hw1 hy0 hy1 hrest hrl hby hn hat1 hRw
      by_cases hbad : n < 1 ∨ bs.length < at_ + n + 6
      · have HF : Hold (firstL (bs.drop at_) = none) := ⟨by rw [HRest.out]; exact firstL_bad (by have := HRL.out; omega) (by rw [HN.out]; have := HRL.out; omega)⟩
        have HO : Hold (∀ m, RefOut bs w (wr.drewN m) u4 at_) := ⟨fun m => HJ.out.stop HF.out (below_drewN wr m)⟩
        clear HF
        by_cases hn1 : n < 1
        · have t1 : decide ((n : Int) < 1) = true := decide_eq_true (by omega)
          clear hbad hn1
          go_wp2
          go_quiet (fail)
          go_wp2
          obtain ⟨A1, c1, rfl, hnl, hs2, hbel, hown⟩ := (HO.out _).ex
          go_ret2
          exact ⟨A1, c1, by rw [hs2]; rfl, hbel, hnl, hown⟩
        · have t1 : decide ((n : Int) < 1) = false := decide_eq_false (by omega)
          have t2 : decide ((bs.length : Int) < (at_ : Int) + n + 6) = true := decide_eq_true (by omega)
          clear hbad hn1
          go_wp2
          go_quiet (fail)
          go_wp2
          obtain ⟨A1, c1, rfl, hnl, hs2, hbel, hown⟩ := (HO.out _).ex
          go_ret2
          exact ⟨A1, c1, by rw [hs2]; rfl, hbel, hnl, hown⟩
      · have hn1 : 1 ≤ n := by omega
        have hgood : at_ + n + 6 ≤ bs.length := by omega
        have t1 : decide ((n : Int) < 1) = false := decide_eq_false (by omega)
        have t2 : decide ((bs.length : Int) < (at_ : Int) + n + 6) = false := decide_eq_false (by omega)
        have hsz : (Try.prog.info? 5).map (·.size) = some 1 := by kernel_rfl
        have hcc := HC.out
        have s1 := fun W => Rep.run_cut (P := Try.prog) 22 5 .i64 .i64 Try.underlying22 hsz (some ad) bs.length c ((at_ : Int) + 2) ((at_ : Int) + 2 + n) (by omega) (by omega) (by omega) W
        have s2 := fun W => Rep.run_cut (P := Try.prog) 22 5 .i64 .i64 Try.underlying22 hsz (some ad) bs.length c (at_ : Int) ((at_ : Int) + n + 6) (by omega) (by omega) (by omega) W
        have hbdl : (bodyL rest).length = n := by unfold bodyL; rw [List.length_drop, List.length_take, HN.out]; have := HRL.out; omega
        have hftl : (rest.take (n + 6)).length = n + 6 := by rw [List.length_take]; have := HRL.out; omega
        have e1 : (bs.take (at_ + 2 + n)).drop (at_ + 2) = bodyL rest := by
          rw [bodyL, HN.out, ← HRest.out, List.take_drop, List.drop_drop]
          rw [show at_ + (n + 2) = at_ + 2 + n by omega]
        have e2 : (bs.take (at_ + n + 6)).drop at_ = rest.take (n + 6) := by
          rw [← HRest.out, List.take_drop, show at_ + (n + 6) = at_ + n + 6 by omega]
        have r1 := HR.out.cut (at_ + 2) (at_ + 2 + n) c (by omega) hcc
        have r2 := HR.out.cut at_ (at_ + n + 6) c (by omega) hcc
        rw [e1] at r1
        rw [e2] at r2
        have z1 : ((at_ : Int) + 2 + n).toNat - ((at_ : Int) + 2).toNat = n := by omega
        have z2 : ((at_ : Int) + n + 6).toNat - (at_ : Int).toNat = n + 6 := by omega
        have z3 : ((at_ : Int) + 2).toNat = at_ + 2 := by omega
        rw [z1, z3] at s1
        rw [z2, Int.toNat_natCast] at s2
        obtain ⟨A2, hA2⟩ : ∃ A2, Rep.cutAddr (some ad) c (at_ + 2) 1 = A2 := ⟨_, rfl⟩
        obtain ⟨c2, hc2⟩ : ∃ c2, c - (at_ + 2) = c2 := ⟨_, rfl⟩
        obtain ⟨A4, hA4⟩ : ∃ A2, Rep.cutAddr (some ad) c at_ 1 = A2 := ⟨_, rfl⟩
        obtain ⟨c4, hc4⟩ : ∃ c2, c - at_ = c2 := ⟨_, rfl⟩
        have r1' : Rep.Row (Rep.int .u8) I w (Rep.cutAddr (some ad) c (at_ + 2) 1) (bodyL rest) := r1
        have r2' : Rep.Row (Rep.int .u8) I w (Rep.cutAddr (some ad) c at_ 1) (rest.take (n + 6)) := r2
        have hn2 : A2 = none → c2 = 0 := by rintro rfl; have := Rep.cutAddr_none hA2; cases this
        rw [hA2] at r1' s1
        rw [hc2] at s1
        rw [hA4] at r2' s2
        rw [hc4] at s2
        have HF : Hold (firstL rest = if wrapL (bodyL rest) = rest.take (n + 6) then some (bodyL rest) else none) := ⟨by
          have := firstL_eq HBy.out (by rw [HN.out]; exact hn1) (by rw [HN.out]; have := HRL.out; omega)
          rwa [HN.out] at this⟩
        obtain ⟨bd, hbd⟩ : ∃ bd, bodyL rest = bd := ⟨_, rfl⟩
        obtain ⟨ft, hft⟩ : ∃ ft, rest.take (n + 6) = ft := ⟨_, rfl⟩
        rw [hbd] at HF r1' hbdl
        rw [hft] at HF r2' hftl
        have HR1 := Hold.mk r1'
        have HR2 := Hold.mk r2'
        have HN2 := Hold.mk hn2
        have HBD := Hold.mk hbdl
        have HFT := Hold.mk hftl
        have HNN := Hold.mk (show 1 ≤ n ∧ n ≤ 65535 by omega)
        have hbel0 : Below w.heap.size w wr := by obtain ⟨_, h, _⟩ := HJ.out.ex; exact h
        have HB0 := Hold.mk hbel0
        have HG := Hold.mk hgood
        clear r1 r2 r1' r2' hn2 hbdl hftl e1 e2 z1 z2 z3 hA2 hc2 hA4 hc4 hbd hft hsz hbad hn1 hbel0 hcc hgood
        go_wp2
        go_quiet (fail)
        have hb0 : Below wr.heap.size wr (wr.drewN nq) := below_drewN wr nq
        obtain ⟨w0, hw0⟩ : ∃ W, wr.drewN nq = W := ⟨_, rfl⟩
        rw [hw0]
        rw [hw0] at hb0
        clear hw0
        have HB1 := Hold.mk hb0
        have HB01 := Hold.mk (HB0.out.trans (hb0.mono HB0.out.size))
        clear hb0
        go_wp2_with fail
        (with_reducible refine (refWrap_yes _ _ _ bd _ w0 HBD.out.symm (HR1.out.move (J := fun k => k < w.heap.size) fun k _ hlt => ⟨hlt, HB01.out.block k hlt⟩) HN2.out (by rw [HBD.out]; exact HNN.out.1) (by rw [HBD.out]; exact HNN.out.2)).mono ?_)
        rintro e w2 ⟨A3, c3, rfl, HN3, HO3, HB2⟩
        rw [HBD.out] at HO3
        rw [HBD.out]
        have HB3 := Hold.mk (HB1.out.trans (HB2.out.mono HB1.out.size))
        have HB03 := Hold.mk (HB01.out.trans (HB2.out.mono HB01.out.size))
        have hwl : (wrapL bd).length = n + 6 := by rw [wrapL_length, HBD.out]
        have ra := HO3.out.row
        have rb : Rep.Row (Rep.int .u8) (fun k => k < w.heap.size) w2 A4 ft := HR2.out.move fun k _ hlt => ⟨hlt, HB03.out.block k hlt⟩
        have he := Rep.str_eq (Rep.row_wf ra) (Rep.row_wf rb)
        have q1 := fun k => Rep.row_string (P := Try.prog) (A := A3) (c := c3) Try.underlying22 Try.underlying5 Try.underlying9 (ra.drewN k)
        have q2 := fun k => Rep.row_string (P := Try.prog) (A := A4) (c := c4) Try.underlying22 Try.underlying5 Try.underlying9 (rb.drewN k)
        rw [hwl] at q1
        rw [HFT.out] at q2
        have HE := Hold.mk he
        have p1 : IntKind.i64.wrap ((at_ : Int) + n) = at_ + n := by rw [IntKind.wrap_i64]; omega
        have p2 : IntKind.i64.wrap ((at_ : Int) + n + 6) = at_ + n + 6 := by rw [IntKind.wrap_i64]; omega
        clear ra rb he hwl HB2 HO3
        by_cases hxy : wrapL bd = ft
        · have b1 : ((strOfNums (wrapL bd)).toList == (strOfNums ft).toList) = true := by rw [HE.out, decide_eq_true hxy]
          have b2 : ((strOfNums (wrapL bd)).toList != (strOfNums ft).toList) = false := by rw [bne, b1]; rfl
          have HFy : Hold (firstL rest = some bd) := ⟨by rw [HF.out, if_pos hxy]⟩
          clear hxy HE HF
          go_wp2
          go_quiet (fail)
          have hb0 : Below w2.heap.size w2 (w2.drewN nq) := below_drewN w2 nq
          obtain ⟨W, hw0⟩ : ∃ W, w2.drewN nq = W := ⟨_, rfl⟩
          rw [hw0]
          rw [hw0] at hb0
          clear hw0
          have HBW := Hold.mk (HB03.out.trans (hb0.mono HB03.out.size))
          have HBr := Hold.mk (HB3.out.trans (hb0.mono HB3.out.size))
          have HRW : Hold (Rep.Row (Rep.int .u8) (fun k => k < w.heap.size) W A2 bd) := ⟨HR1.out.move fun k _ hlt => ⟨hlt, HBW.out.block k hlt⟩⟩
          clear hb0
          go_wp2_with (at_builtin; refine Rep.wp_copy (Rep.int .u8) rfl (.tmp 68) (.tmp 69) 22 5 (.int .u8 0) 1 rfl Try.underlying22 info_u8 rfl (by decide) (by decide) (fun k => k < w.heap.size) bd A2 _ c2 rfl rfl HBD.out.symm HRW.out HN2.out ?c1 ?_)
          case c1 => have := HBD.out; have := HNN.out.2; omega
          intro A5 c5 w5 HO5 HN5 HB5
          rw [HBD.out]
          rw [HBD.out] at HO5 HN5
          have HK : Hold ((Rep.slice (Rep.int .u8)).K (fun k => W.heap.size ≤ k) w5 bd [.slice A5 n c5]) := ⟨⟨A5, c5, by rw [HBD.out], by rw [HBD.out]; exact HN5.out.1, HN5.out.2, (Rep.Own.flat nob (Rep.flat_int _) HO5.out).row.move fun k hk _ => ⟨by
            rcases hk with hk | hk
            · exact hk.elim
            · exact (HO5.out.block_lt k hk).1, rfl⟩⟩⟩
          have hex := HJ.out.ex
          obtain ⟨outs, hbel, hown, hol, f, hf, hs1, hs2⟩ := hex
          have HOo := Hold.mk (hown.below (HBr.out.trans (HB5.out.mono HBr.out.size)))
          have HOlt := Hold.mk (fun k hk => (hown.block_lt k hk).2)
          have HBL := Hold.mk ((HBr.out.trans (HB5.out.mono HBr.out.size)))
          have HBw := Hold.mk (hbel.trans (HBL.out.mono hbel.size))
          have HBs := Hold.mk hbel.size
          have HSz := Hold.mk HBr.out.size
          have hf' : ∃ g, f = g + 1 := by
            cases f with
            | zero => rw [HRest.out] at hf; have := HRL.out; have := HG.out; omega
            | succ g => exact ⟨g, rfl⟩
          obtain ⟨f, rfl⟩ := hf'
          simp only [HRest.out, scanF, HFy.out, HBD.out] at hs1 hs2
          have HS1 := Hold.mk hs1
          have HS2 := Hold.mk hs2
          have HF' := Hold.mk hf
          have HOL := Hold.mk hol
          clear hbel hown hol hf hs1 hs2 q1 q2
          go_wp2_with (at_builtin; refine Rep.wp_push (Rep.slice (Rep.int .u8)) rfl (.tmp 67) (.tmp 71) 27 22 (.slice none 0 0) 24 rfl Try.underlying27 info_bytes rfl (by decide) (by decide) w.heap.size (fun k => w.heap.size ≤ k) (fun k => W.heap.size ≤ k) u4 outs bd [.slice A5 n c5] rfl rfl HOo.out HK.out ?e1 HBw.out.size ?e2 ?_)
          case e1 =>
            intro k hk _
            refine ⟨by have := HBs.out; have := HSz.out; omega, fun he => ?_⟩
            have := HOlt.out k he.symm
            have := HSz.out
            omega
          case e2 => have := HOL.out; have := HL.out; omega
          intro A6 c6 w6 G
          go_wp2
          have eat : (at_ : Int) + (n : Int) + 6 = ((at_ + (n + 6) : Nat) : Int) := by omega
          rw [eat]
          have edrop : bs.drop (at_ + (n + 6)) = rest.drop (n + 6) := by rw [← List.drop_drop, HRest.out]
          have hL : (outs ++ [bd]).length = outs.length + 1 := by simp
          have hg := HG.out
          have hrl := HRL.out
          refine ⟨⟨at_ + (n + 6), by omega, rfl, ⟨⟨outs ++ [bd], HBw.out.trans (G.out.below (fun k hk => (HOo.out.block_lt k hk).1) HBw.out.size), by rw [← hL]; exact G.out.own, by have := HOL.out; omega, f, ?_, ?_, ?_⟩⟩⟩, by simp [intOf]; omega⟩
          · have := HF'.out; rw [edrop, List.length_drop]; rw [HRest.out] at this; omega
          · rw [edrop, HS1.out]; simp
          · rw [edrop, HS2.out]; omega
        · have b1 : ((strOfNums (wrapL bd)).toList == (strOfNums ft).toList) = false := by rw [HE.out, decide_eq_false hxy]
          have b2 : ((strOfNums (wrapL bd)).toList != (strOfNums ft).toList) = true := by rw [bne, b1]; rfl
          have HFy : Hold (firstL (bs.drop at_) = none) := ⟨by rw [HRest.out, HF.out, if_neg hxy]⟩
          have HO : Hold (∀ m, RefOut bs w (w2.drewN m) u4 at_) := ⟨fun m => HJ.out.stop HFy.out (HB3.out.trans (Below.mono (B := w2.heap.size) (below_drewN w2 m) HB3.out.size))⟩
          clear hxy HE HF
          go_wp2
          go_quiet (fail)
          go_wp2
          obtain ⟨A1, c1, rfl, hnl, hs2, hbel, hown⟩ := (HO.out _).ex
          go_ret2
          exact ⟨A1, c1, by rw [hs2]; rfl, hbel, hnl, hown⟩
    · have HF : Hold (firstL (bs.drop at_) = none) := ⟨firstL_short (by rw [List.length_drop]; omega)⟩
      obtain ⟨A1, c1, rfl, hnl, hs2, hbel, hown⟩ := (HJ.out.stop HF.out (Below.refl _ _)).ex
      have HO := Hold.mk hown
      have HB := Hold.mk hbel
      have HN := Hold.mk hnl
      have HS := Hold.mk hs2
      clear hown hbel hnl hs2
      go_wp2
      go_ret2
      exact ⟨A1, c1, by rw [HS.out]; rfl, HB.out, HN.out, HO.out⟩
end Go.Proofs.Ytgeeicpjphdolaa.Frame
