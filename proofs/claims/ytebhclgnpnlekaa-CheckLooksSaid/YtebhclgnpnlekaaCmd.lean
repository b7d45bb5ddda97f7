/- Commands: how they are read, and whether they may be: package cmd's Right, and the document's, by their walks. No condition. -/
import Derived.Test.YtebhclgnpnlekaaP
import Derived.StillTailTactics
import Derived.Deep.RegionHeldLaw
namespace Go.Proofs.Ytebhclgnpnlekaa.Cmd
open Go.RowKit Go.Proofs.Ytebhclgnpnlekaa.B

/-- A command. -/
structure CmdD where
  id : Int
  kind : Int
  sym : Int
  tgt : Int
  side : Int
  price : Int
  qty : Int
deriving DecidableEq
def CmdD.wf (c : CmdD) : Prop := (Lit.int .i64 c.id).wf = true ∧ (Lit.int .i64 c.kind).wf = true ∧ (Lit.int .i64 c.sym).wf = true ∧ (Lit.int .i64 c.tgt).wf = true ∧ (Lit.int .i64 c.side).wf = true ∧ (Lit.int .i64 c.price).wf = true ∧ (Lit.int .i64 c.qty).wf = true
abbrev CmdD.cells (c : CmdD) : List Value := [.int .i64 c.id, .int .i64 c.kind, .int .i64 c.sym, .int .i64 c.tgt, .int .i64 c.side, .int .i64 c.price, .int .i64 c.qty]
abbrev CmdD.v (c : CmdD) : Value := .agg #[.int .i64 c.id, .int .i64 c.kind, .int .i64 c.sym, .int .i64 c.tgt, .int .i64 c.side, .int .i64 c.price, .int .i64 c.qty]
def cmdRep : Rep CmdD where
  sz := 7
  K _ _ c cs := cs = c.cells ∧ c.wf
  len h := by rw [h.1]; rfl
  one h := by rw [h.1]; intro u hu; simp at hu; rcases hu with rfl | rfl | rfl | rfl | rfl | rfl | rfl <;> rfl
  move _ h := h
theorem cmdRep_sz : cmdRep.sz = 7 := rfl
theorem flat_cmd : Rep.Flat cmdRep := fun h => h
theorem info_cmd : (Try.prog.info? 45).map (fun i => (i.zero, i.size, i.bytes)) = some (some (.agg #[.int .i64 0, .int .i64 0, .int .i64 0, .int .i64 0, .int .i64 0, .int .i64 0, .int .i64 0]), 7, 56) := by kernel_rfl
theorem size_cmd : (Try.prog.info? 45).map (·.size) = some 7 := by kernel_rfl
theorem opens_cmd : Rep.Opens Try.prog cmdRep 45 := by
  have i3 := Rep.opens_int Try.underlying3 (by kernel_rfl)
  have h : Rep.Opens Try.prog (Rep.prod (Rep.int .i64) (Rep.prod (Rep.int .i64) (Rep.prod (Rep.int .i64) (Rep.prod (Rep.int .i64) (Rep.prod (Rep.int .i64) (Rep.prod (Rep.int .i64) (Rep.prod (Rep.int .i64) Rep.unit))))))) 45 := by
    refine Rep.opens_struct Try.underlying45 (by kernel_rfl) ?_
    exact Rep.opensF_cons rfl i3 (Rep.opensF_cons rfl (Rep.opens_int Try.underlying42 (by kernel_rfl)) (Rep.opensF_cons rfl i3 (Rep.opensF_cons rfl i3 (Rep.opensF_cons rfl (Rep.opens_int Try.underlying43 (by kernel_rfl)) (Rep.opensF_cons rfl i3 (Rep.opensF_cons rfl i3 (Rep.opensF_nil _)))))))
  refine ⟨h.1, fun H enc W fuel cs x hx => ?_⟩
  obtain ⟨⟨a1, a2, a3, a4, a5, a6, a7, _⟩, ha⟩ := h.2 H enc W fuel cs x hx
  obtain ⟨_, _, rfl, ⟨rfl, w1⟩, _, _, rfl, ⟨rfl, w2⟩, _, _, rfl, ⟨rfl, w3⟩, _, _, rfl, ⟨rfl, w4⟩, _, _, rfl, ⟨rfl, w5⟩, _, _, rfl, ⟨rfl, w6⟩, _, _, rfl, ⟨rfl, w7⟩, rfl⟩ := ha
  exact ⟨⟨a1, a2, a3, a4, a5, a6, a7⟩, rfl, w1, w2, w3, w4, w5, w6, w7⟩
theorem add_fld (a : Addr) (k j : Nat) (hj : 0 < j) : a.add (k + j) = ⟨(a.add k).block, (a.add k).off + j, none⟩ := by
  rw [← Rep.add_add]
  generalize a.add k = b
  unfold Addr.add
  rw [if_neg (by omega)]
/-- A command at a place: its cells. -/
structure CmdAt (w : World) (p : Addr) (c : CmdD) : Prop where
  c0 : w.cell? p = some (.int .i64 c.id)
  c1 : w.cell? ⟨p.block, p.off + 1, none⟩ = some (.int .i64 c.kind)
  c2 : w.cell? ⟨p.block, p.off + 2, none⟩ = some (.int .i64 c.sym)
  c3 : w.cell? ⟨p.block, p.off + 3, none⟩ = some (.int .i64 c.tgt)
  c4 : w.cell? ⟨p.block, p.off + 4, none⟩ = some (.int .i64 c.side)
  c5 : w.cell? ⟨p.block, p.off + 5, none⟩ = some (.int .i64 c.price)
  c6 : w.cell? ⟨p.block, p.off + 6, none⟩ = some (.int .i64 c.qty)
  wf : c.wf
theorem row_cmd {I : Nat → Prop} {w : World} {A : Option Addr} {xs : List CmdD} (h : Rep.Row cmdRep I w A xs) (i : Nat) (hi : i < xs.length) : ∃ ad p, A = some ad ∧ ad.add (i * 7) = p ∧ p.block < w.heap.size ∧ CmdAt w p xs[i] := by
  obtain ⟨ad, cs, e, _, hlt, ⟨rfl, hw⟩, hc⟩ := h.at i hi
  refine ⟨ad, _, e, rfl, by rw [Rep.add_block]; exact hlt, ⟨?_, ?_, ?_, ?_, ?_, ?_, ?_, hw⟩⟩
  · have := hc 0 _ rfl; simpa [cmdRep_sz] using this
  · have := hc 1 _ rfl; rw [cmdRep_sz, add_fld _ _ _ (by decide)] at this; exact this
  · have := hc 2 _ rfl; rw [cmdRep_sz, add_fld _ _ _ (by decide)] at this; exact this
  · have := hc 3 _ rfl; rw [cmdRep_sz, add_fld _ _ _ (by decide)] at this; exact this
  · have := hc 4 _ rfl; rw [cmdRep_sz, add_fld _ _ _ (by decide)] at this; exact this
  · have := hc 5 _ rfl; rw [cmdRep_sz, add_fld _ _ _ (by decide)] at this; exact this
  · have := hc 6 _ rfl; rw [cmdRep_sz, add_fld _ _ _ (by decide)] at this; exact this

/-! ### May it be? -/
def named (n : Int) : Bool := decide (16 ≤ n ∧ n < 4112 ∧ n % 16 ≤ 8)
def few (n m : Int) : Bool := decide (0 ≤ n ∧ n ≤ m)
/-- What its kind has, and nothing else. -/
def bareOk (c : CmdD) : Bool := if c.kind = 0 then decide (c.tgt = 0) else if c.kind = 2 then decide (c.side = 0 ∧ c.price = 0) else decide (c.side = 0 ∧ c.price = 0 ∧ c.qty = 0)
def okCmd (c : CmdD) : Bool := named c.id && few c.sym 3 && few c.kind 2 && few c.side 1 && few c.price 1048576 && few c.qty 1048576 && (decide (c.kind = 0) || named c.tgt) && bareOk c

theorem named_calls (n : Int) (w : World) (b : Bool) (hw : (Lit.int .i64 n).wf = true) (hb : named n = b) : Calls Try.prog 158 #[.int .i64 n] w fun e w' => e = .returned (.bool b) ∧ w = w' := by
  subst hb
  obtain ⟨b0, b1⟩ := bounds_i64 hw
  clear hw
  by_cases h0 : 16 ≤ n
  · by_cases h1 : n / 16 ≤ 256
    · have e : named n = decide (n % 16 < 9) := by unfold named; rw [Bool.eq_iff_iff]; simp; omega
      rw [e]
      go_enter Try.func158, Try.ntmps158
      go_wp2
      go_ret
      exact ⟨by simp, rfl⟩
    · have e : named n = false := by unfold named; rw [decide_eq_false]; omega
      rw [e]
      go_enter Try.func158, Try.ntmps158
      go_wp2
      go_ret
      exact ⟨by simp <;> omega, rfl⟩
  · have e : named n = false := by unfold named; rw [decide_eq_false]; omega
    rw [e]
    go_enter Try.func158, Try.ntmps158
    go_wp2
    go_ret
    exact ⟨by simp <;> omega, rfl⟩
theorem few_calls (n m : Int) (w : World) (b : Bool) (hb : few n m = b) : Calls Try.prog 159 #[.int .i64 n, .int .i64 m] w fun e w' => e = .returned (.bool b) ∧ w = w' := by
  subst hb
  by_cases h0 : 0 ≤ n
  · have e : few n m = decide (n ≤ m) := by unfold few; rw [Bool.eq_iff_iff]; simp; omega
    rw [e]
    go_enter Try.func159, Try.ntmps159
    go_wp2
    go_ret
    exact ⟨by simp, rfl⟩
  · have e : few n m = false := by unfold few; rw [decide_eq_false]; omega
    rw [e]
    go_enter Try.func159, Try.ntmps159
    go_wp2
    go_ret
    exact ⟨by simp <;> omega, rfl⟩
/-- What is left of a command. -/
def bareV (c : CmdD) : Value := if c.kind = 0 then .agg #[.int .i64 0, .int .i64 0, .int .i64 0, .int .i64 c.tgt, .int .i64 0, .int .i64 0, .int .i64 0]
  else if c.kind = 2 then .agg #[.int .i64 0, .int .i64 0, .int .i64 0, .int .i64 0, .int .i64 c.side, .int .i64 c.price, .int .i64 0]
  else .agg #[.int .i64 0, .int .i64 0, .int .i64 0, .int .i64 0, .int .i64 c.side, .int .i64 c.price, .int .i64 c.qty]
set_option maxHeartbeats 4000000 in
theorem bare_calls (c : CmdD) (w : World) : Calls Try.prog 160 #[c.v] w fun e w' => e = .returned (bareV c) ∧ Below w.heap.size w w' := by
  by_cases h0 : c.kind = 0
  · have t0 : (c.kind == 0) = true := by simp [h0]
    have e : bareV c = .agg #[.int .i64 0, .int .i64 0, .int .i64 0, .int .i64 c.tgt, .int .i64 0, .int .i64 0, .int .i64 0] := by unfold bareV; rw [if_pos h0]
    rw [e]
    clear h0 e
    go_enter Try.func160, Try.ntmps160
    go_wp2
    exact bodyPost_ret (v := .agg #[.int .i64 0, .int .i64 0, .int .i64 0, .int .i64 c.tgt, .int .i64 0, .int .i64 0, .int .i64 0]) (by simp [results, Try.results160, go_sem]) rfl ⟨rfl, ((((Below.refl _ _).alloc (Nat.le_refl _) _).alloc (by simp) _))⟩
  · have t0 : (c.kind == 0) = false := by simp [h0]
    by_cases h2 : c.kind = 2
    · have t1 : (c.kind == 2) = true := by simp [h2]
      have e : bareV c = .agg #[.int .i64 0, .int .i64 0, .int .i64 0, .int .i64 0, .int .i64 c.side, .int .i64 c.price, .int .i64 0] := by unfold bareV; rw [if_neg h0, if_pos h2]
      rw [e]
      clear h0 h2 e
      go_enter Try.func160, Try.ntmps160
      go_wp2
      exact bodyPost_ret (v := .agg #[.int .i64 0, .int .i64 0, .int .i64 0, .int .i64 0, .int .i64 c.side, .int .i64 c.price, .int .i64 0]) (by simp [results, Try.results160, go_sem]) rfl ⟨rfl, ((((Below.refl _ _).alloc (Nat.le_refl _) _).alloc (by simp) _))⟩
    · have t1 : (c.kind == 2) = false := by simp [h2]
      have e : bareV c = .agg #[.int .i64 0, .int .i64 0, .int .i64 0, .int .i64 0, .int .i64 c.side, .int .i64 c.price, .int .i64 c.qty] := by unfold bareV; rw [if_neg h0, if_neg h2]
      rw [e]
      clear h0 h2 e
      go_enter Try.func160, Try.ntmps160
      go_wp2
      exact bodyPost_ret (v := .agg #[.int .i64 0, .int .i64 0, .int .i64 0, .int .i64 0, .int .i64 c.side, .int .i64 c.price, .int .i64 c.qty]) (by simp [results, Try.results160, go_sem]) rfl ⟨rfl, ((((Below.refl _ _).alloc (Nat.le_refl _) _).alloc (by simp) _))⟩
set_option maxHeartbeats 4000000 in
set_option maxRecDepth 100000 in
/-- May it be: package cmd's own test. -/
theorem right_one (c : CmdD) (w : World) (hw : c.wf) (b : Bool) (hb : okCmd c = b) : Calls Try.prog 136 #[c.v] w fun e w' => e = .returned (.bool b) ∧ Below w.heap.size w w' := by
  have HW := Hold.mk hw
  have f02 : few 0 2 = true := by decide
  have f22 : few 2 2 = true := by decide
  clear hw
  cases h1 : named c.id
  · have HB : Hold (b = false) := ⟨by rw [← hb]; simp [okCmd, h1]⟩
    clear hb f02 f22
    go_enter Try.func136, Try.ntmps136
    go_wp2_with (first
      | (go_at_call 158; refine (named_calls _ _ _ (by first | exact HW.out.1 | exact HW.out.2.2.2.1) (by assumption)).mono ?_; rintro e w' ⟨rfl, rfl⟩)
      | (go_at_call 159; refine (few_calls _ _ _ _ (by assumption)).mono ?_; rintro e w' ⟨rfl, rfl⟩))
    go_ret
    exact ⟨by simp [HB.out], (Below.refl _ _).alloc (Nat.le_refl _) _⟩
  cases h2 : few c.sym 3
  · have HB : Hold (b = false) := ⟨by rw [← hb]; simp [okCmd, h1,h2]⟩
    clear hb f02 f22
    go_enter Try.func136, Try.ntmps136
    go_wp2_with (first
      | (go_at_call 158; refine (named_calls _ _ _ (by first | exact HW.out.1 | exact HW.out.2.2.2.1) (by assumption)).mono ?_; rintro e w' ⟨rfl, rfl⟩)
      | (go_at_call 159; refine (few_calls _ _ _ _ (by assumption)).mono ?_; rintro e w' ⟨rfl, rfl⟩))
    go_ret
    exact ⟨by simp [HB.out], (Below.refl _ _).alloc (Nat.le_refl _) _⟩
  cases h3 : few c.kind 2
  · have HB : Hold (b = false) := ⟨by rw [← hb]; simp [okCmd, h1,h2,h3]⟩
    clear hb f02 f22
    go_enter Try.func136, Try.ntmps136
    go_wp2_with (first
      | (go_at_call 158; refine (named_calls _ _ _ (by first | exact HW.out.1 | exact HW.out.2.2.2.1) (by assumption)).mono ?_; rintro e w' ⟨rfl, rfl⟩)
      | (go_at_call 159; refine (few_calls _ _ _ _ (by assumption)).mono ?_; rintro e w' ⟨rfl, rfl⟩))
    go_ret
    exact ⟨by simp [HB.out], (Below.refl _ _).alloc (Nat.le_refl _) _⟩
  cases h4 : few c.side 1
  · have HB : Hold (b = false) := ⟨by rw [← hb]; simp [okCmd, h1,h2,h3,h4]⟩
    clear hb f02 f22
    go_enter Try.func136, Try.ntmps136
    go_wp2_with (first
      | (go_at_call 158; refine (named_calls _ _ _ (by first | exact HW.out.1 | exact HW.out.2.2.2.1) (by assumption)).mono ?_; rintro e w' ⟨rfl, rfl⟩)
      | (go_at_call 159; refine (few_calls _ _ _ _ (by assumption)).mono ?_; rintro e w' ⟨rfl, rfl⟩))
    go_ret
    exact ⟨by simp [HB.out], (Below.refl _ _).alloc (Nat.le_refl _) _⟩
  cases h5 : few c.price 1048576
  · have HB : Hold (b = false) := ⟨by rw [← hb]; simp [okCmd, h1,h2,h3,h4,h5]⟩
    clear hb f02 f22
    go_enter Try.func136, Try.ntmps136
    go_wp2_with (first
      | (go_at_call 158; refine (named_calls _ _ _ (by first | exact HW.out.1 | exact HW.out.2.2.2.1) (by assumption)).mono ?_; rintro e w' ⟨rfl, rfl⟩)
      | (go_at_call 159; refine (few_calls _ _ _ _ (by assumption)).mono ?_; rintro e w' ⟨rfl, rfl⟩))
    go_ret
    exact ⟨by simp [HB.out], (Below.refl _ _).alloc (Nat.le_refl _) _⟩
  cases h6 : few c.qty 1048576
  · have HB : Hold (b = false) := ⟨by rw [← hb]; simp [okCmd, h1,h2,h3,h4,h5,h6]⟩
    clear hb f02 f22
    go_enter Try.func136, Try.ntmps136
    go_wp2_with (first
      | (go_at_call 158; refine (named_calls _ _ _ (by first | exact HW.out.1 | exact HW.out.2.2.2.1) (by assumption)).mono ?_; rintro e w' ⟨rfl, rfl⟩)
      | (go_at_call 159; refine (few_calls _ _ _ _ (by assumption)).mono ?_; rintro e w' ⟨rfl, rfl⟩))
    go_ret
    exact ⟨by simp [HB.out], (Below.refl _ _).alloc (Nat.le_refl _) _⟩
  have hk := h3
  unfold few at hk
  have hk' := of_decide_eq_true hk
  clear hk
  have HK := Hold.mk hk'
  clear hk'
  by_cases k0 : c.kind = 0
  · have t0 : (c.kind == 0) = true := by simp [k0]
    have HV : Hold (bareV c = .agg #[.int .i64 0, .int .i64 0, .int .i64 0, .int .i64 c.tgt, .int .i64 0, .int .i64 0, .int .i64 0]) := ⟨by unfold bareV; rw [if_pos k0]⟩
    have HB : Hold (b = decide (c.tgt = 0)) := ⟨by rw [← hb]; simp [okCmd, h1, h2, h4, h5, h6, k0, f02, bareOk]⟩
    clear hb k0 f02 f22
    go_enter Try.func136, Try.ntmps136
    go_wp2_with (first
      | (go_at_call 158; refine (named_calls _ _ _ (by first | exact HW.out.1 | exact HW.out.2.2.2.1) (by assumption)).mono ?_; rintro e w' ⟨rfl, rfl⟩)
      | (go_at_call 159; refine (few_calls _ _ _ _ (by assumption)).mono ?_; rintro e w' ⟨rfl, rfl⟩)
      | (go_at_call 160; refine (bare_calls c _).mono ?_; rintro e w1 ⟨rfl, hb1⟩; have HB1 := Hold.mk hb1; clear hb1; rw [HV.out]))
    all_goals (go_ret; refine ⟨by rw [HB.out]; simp [*], ?_⟩)
    all_goals exact ((Below.refl _ _).alloc (Nat.le_refl _) _).trans (HB1.out.mono (by simp))
  · have t0 : (c.kind == 0) = false := by simp [k0]
    cases h7 : named c.tgt
    · have HB : Hold (b = false) := ⟨by rw [← hb]; simp [okCmd, h1, h2, h3, h4, h5, h6, h7, k0]⟩
      clear hb k0 f02 f22
      go_enter Try.func136, Try.ntmps136
      go_wp2_with (first
        | (go_at_call 158; refine (named_calls _ _ _ (by first | exact HW.out.1 | exact HW.out.2.2.2.1) (by assumption)).mono ?_; rintro e w' ⟨rfl, rfl⟩)
        | (go_at_call 159; refine (few_calls _ _ _ _ (by assumption)).mono ?_; rintro e w' ⟨rfl, rfl⟩)
        | (go_at_call 160; refine (bare_calls c _).mono ?_; rintro e w1 ⟨rfl, hb1⟩; have HB1 := Hold.mk hb1; clear hb1))
      go_ret
      exact ⟨by simp [HB.out], (Below.refl _ _).alloc (Nat.le_refl _) _⟩
    · by_cases k2 : c.kind = 2
      · have HV : Hold (bareV c = .agg #[.int .i64 0, .int .i64 0, .int .i64 0, .int .i64 0, .int .i64 c.side, .int .i64 c.price, .int .i64 0]) := ⟨by unfold bareV; rw [if_neg k0, if_pos k2]⟩
        have HB : Hold (b = decide (c.side = 0 ∧ c.price = 0)) := ⟨by rw [← hb]; simp [okCmd, h1, h2, h4, h5, h6, h7, k2, f22, bareOk]⟩
        clear hb k0 k2 f02 f22
        go_enter Try.func136, Try.ntmps136
        go_wp2_with (first
          | (go_at_call 158; refine (named_calls _ _ _ (by first | exact HW.out.1 | exact HW.out.2.2.2.1) (by assumption)).mono ?_; rintro e w' ⟨rfl, rfl⟩)
          | (go_at_call 159; refine (few_calls _ _ _ _ (by assumption)).mono ?_; rintro e w' ⟨rfl, rfl⟩)
          | (go_at_call 160; refine (bare_calls c _).mono ?_; rintro e w1 ⟨rfl, hb1⟩; have HB1 := Hold.mk hb1; clear hb1; rw [HV.out]))
        all_goals (go_ret; refine ⟨by rw [HB.out]; simp [*], ?_⟩)
        all_goals exact ((Below.refl _ _).alloc (Nat.le_refl _) _).trans (HB1.out.mono (by simp))
      · have HV : Hold (bareV c = .agg #[.int .i64 0, .int .i64 0, .int .i64 0, .int .i64 0, .int .i64 c.side, .int .i64 c.price, .int .i64 c.qty]) := ⟨by unfold bareV; rw [if_neg k0, if_neg k2]⟩
        have HB : Hold (b = decide (c.side = 0 ∧ c.price = 0 ∧ c.qty = 0)) := ⟨by rw [← hb]; simp [okCmd, h1, h2, h3, h4, h5, h6, h7, k0, k2, bareOk]⟩
        clear hb k0 k2 f02 f22
        go_enter Try.func136, Try.ntmps136
        go_wp2_with (first
          | (go_at_call 158; refine (named_calls _ _ _ (by first | exact HW.out.1 | exact HW.out.2.2.2.1) (by assumption)).mono ?_; rintro e w' ⟨rfl, rfl⟩)
          | (go_at_call 159; refine (few_calls _ _ _ _ (by assumption)).mono ?_; rintro e w' ⟨rfl, rfl⟩)
          | (go_at_call 160; refine (bare_calls c _).mono ?_; rintro e w1 ⟨rfl, hb1⟩; have HB1 := Hold.mk hb1; clear hb1; rw [HV.out]))
        all_goals (go_ret; refine ⟨by rw [HB.out]; simp [*], ?_⟩)
        all_goals exact ((Below.refl _ _).alloc (Nat.le_refl _) _).trans (HB1.out.mono (by simp))

/-! ### All of a list -/
/-- The first of which something is so. -/
def firstOf {α : Type} (p : α → Bool) (l : List α) : Int := match l.findIdx? p with | some i => (i : Int) | none => -1
theorem firstOf_at {α : Type} {p : α → Bool} {l : List α} {i : Nat} (hi : i < l.length) (h : ∀ x ∈ l.take i, p x = false) (h2 : p l[i] = true) : firstOf p l = i := by
  have : l.findIdx? p = some i := by
    rw [List.findIdx?_eq_some_iff_getElem]
    refine ⟨hi, h2, fun j hj => ?_⟩
    have := h l[j] (List.mem_take_iff_getElem.2 ⟨j, by omega, rfl⟩)
    simp [this]
  unfold firstOf; rw [this]
theorem firstOf_none {α : Type} {p : α → Bool} {l : List α} (h : ∀ x ∈ l, p x = false) : firstOf p l = -1 := by
  have : l.findIdx? p = none := by rw [List.findIdx?_eq_none_iff]; exact h
  unfold firstOf; rw [this]
theorem firstOf_ge {α : Type} (p : α → Bool) (l : List α) : decide (0 ≤ firstOf p l) = l.any p := by
  cases h : l.findIdx? p with
  | none =>
    have h2 := List.findIdx?_eq_none_iff.1 h
    have : l.any p = false := by rw [List.any_eq_false]; intro x hx; rw [h2 x hx]; decide
    rw [this]; unfold firstOf; rw [h]; rfl
  | some i =>
    obtain ⟨hi, h2, _⟩ := List.findIdx?_eq_some_iff_getElem.1 h
    have : l.any p = true := by rw [List.any_eq_true]; exact ⟨_, List.getElem_mem hi, h2⟩
    rw [this]; unfold firstOf; rw [h]; simp
theorem firstOf_lt {α : Type} (p : α → Bool) (l : List α) : -1 ≤ firstOf p l ∧ firstOf p l < l.length := by
  unfold firstOf
  cases h : l.findIdx? p with
  | none => simp; omega
  | some i =>
    obtain ⟨hi, _⟩ := List.findIdx?_eq_some_iff_getElem.1 h
    simp; omega
theorem mem_take_succ {α : Type} {P : α → Prop} {l : List α} {i : Nat} (hi : i < l.length) (h : ∀ a ∈ l.take i, P a) (h2 : P l[i]) : ∀ a ∈ l.take (i + 1), P a := by
  rw [List.take_succ_eq_append_getElem hi]
  intro a ha
  rcases List.mem_append.1 ha with ha | ha
  · exact h a ha
  · rw [List.mem_singleton.1 ha]; exact h2

theorem right1_calls (c : CmdD) (w : World) (hw : c.wf) (b : Bool) (hb : okCmd c = b) : Calls Try.prog 135 #[c.v] w fun e w' => e = .returned (.bool (!b)) ∧ Below w.heap.size w w' := by
  have HW := Hold.mk hw
  have HB := Hold.mk hb
  clear hw hb
  go_enter Try.func135, Try.ntmps135
  go_wp2_with fail
  refine (right_one c _ HW.out b HB.out).mono ?_
  rintro e w1 ⟨rfl, hb1⟩
  have HB1 := Hold.mk hb1
  clear hb1
  go_wp2
  go_ret
  exact ⟨rfl, ((Below.refl _ _).alloc (Nat.le_refl _) _).trans (HB1.out.mono (by simp))⟩
set_option maxHeartbeats 2000000 in
theorem index_right (A : Option Addr) (c : Nat) (l : List CmdD) (I : Nat → Prop) (w : World) (h : Rep.Row cmdRep I w A l) :
    Calls Try.prog 94 #[.slice A l.length c, .func (.func 135) #[] #[]] w fun e w' => e = .returned (.int .i64 (firstOf (fun c => !okCmd c) l)) ∧ Hold (Below w.heap.size w w') := by
  have H := Hold.mk h
  have hm := h.len_le
  clear h
  go_enter Try.func94, Try.ntmps94
  go_wp2
  go_loopw [8] (fun s wr => ∃ i : Nat, i ≤ l.length ∧ s = .int .i64 (i : Int) ∧ Hold (∀ x ∈ l.take i, (!okCmd x) = false) ∧ Hold (Below w.heap.size w wr)) (fun s _ => l.length - (intOf s).toNat)
  case atStart => exact ⟨0, by omega, rfl, ⟨by simp⟩, ⟨Below.refl _ _⟩⟩
  case round =>
    obtain ⟨i, hi, rfl, HA, HB⟩ := hrel
    by_cases hlt : i < l.length
    · have l1 : (i : Int) < (l.length : Int) := by omega
      obtain ⟨ad, p, rfl, hp, _, ⟨c0, c1, c2, c3, c4, c5, c6, hw⟩⟩ := row_cmd (H.out.below HB.out) i hlt
      obtain ⟨x, hx⟩ : ∃ x, l[i] = x := ⟨_, rfl⟩
      rw [hx] at c0 c1 c2 c3 c4 c5 c6 hw
      have HX := Hold.mk hx
      have HW := Hold.mk hw
      clear hx hw
      cases hb : okCmd x
      · have HBx := Hold.mk hb
        clear hb
        go_wp2_with fail
        refine (right1_calls x _ HW.out false HBx.out).mono ?_
        rintro e w1 ⟨rfl, hb1⟩
        have HB1 := Hold.mk (HB.out.trans (hb1.mono HB.out.size))
        clear hb1
        go_wp2
        go_ret
        exact ⟨by rw [firstOf_at hlt HA.out (by rw [HX.out, HBx.out]; rfl)]; rfl, HB1⟩
      · have HBx := Hold.mk hb
        clear hb
        go_wp2_with fail
        refine (right1_calls x _ HW.out true HBx.out).mono ?_
        rintro e w1 ⟨rfl, hb1⟩
        have HB1 := Hold.mk (HB.out.trans (hb1.mono HB.out.size))
        have HA1 : Hold (∀ x ∈ l.take (i + 1), (!okCmd x) = false) := ⟨mem_take_succ hlt HA.out (by rw [HX.out, HBx.out]; rfl)⟩
        clear hb1
        go_wp2
        exact ⟨⟨i + 1, by omega, by go_num, HA1, HB1⟩, by simp [intOf]; omega⟩
    · obtain rfl : i = l.length := by omega
      have HN : Hold (firstOf (fun c => !okCmd c) l = -1) := ⟨firstOf_none (by have := HA.out; rw [List.take_length] at this; exact this)⟩
      go_wp2
      go_ret
      exact ⟨by rw [HN.out]; rfl, HB⟩
def okCmds (l : List CmdD) : Bool := l.all okCmd
theorem contains_right (A : Option Addr) (c : Nat) (l : List CmdD) (I : Nat → Prop) (w : World) (h : Rep.Row cmdRep I w A l) :
    Calls Try.prog 134 #[.slice A l.length c, .func (.func 135) #[] #[]] w fun e w' => e = .returned (.bool (!okCmds l)) ∧ Hold (Below w.heap.size w w') := by
  have H := Hold.mk h
  obtain ⟨n, hn⟩ : ∃ n, firstOf (fun c => !okCmd c) l = n := ⟨_, rfl⟩
  have HE : Hold (decide (0 ≤ n) = !okCmds l) := ⟨by rw [← hn, firstOf_ge]; unfold okCmds; rw [← List.not_all_eq_any_not]⟩
  have HN := Hold.mk hn
  clear h hn
  go_enter Try.func134, Try.ntmps134
  go_wp2_with fail
  refine (index_right A c l I w H.out).mono ?_
  rw [HN.out]
  rintro e w1 ⟨rfl, HB1⟩
  go_wp2
  go_ret
  exact ⟨by rw [← HE.out]; rfl, HB1⟩
/-- Package cmd's Right. -/
theorem right_calls (A : Option Addr) (c n : Nat) (l : List CmdD) (I : Nat → Prop) (w : World) (hn : n = l.length) (h : Rep.Row cmdRep I w A l) (b : Bool) (hb : okCmds l = b) :
    Calls Try.prog 80 #[.slice A n c] w fun e w' => e = .returned (.bool b) ∧ Hold (Below w.heap.size w w') := by
  subst hn; subst hb
  have H := Hold.mk h
  clear h
  go_enter Try.func80, Try.ntmps80
  go_wp2_with fail
  refine (contains_right A c l I w H.out).mono ?_
  rintro e w1 ⟨rfl, HB1⟩
  go_wp2
  go_ret
  exact ⟨by simp, HB1⟩
end Go.Proofs.Ytebhclgnpnlekaa.Cmd
