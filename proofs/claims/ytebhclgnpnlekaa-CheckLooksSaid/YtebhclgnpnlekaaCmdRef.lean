/- The document's test of commands, and both tests of sets, by their walks. No condition. -/
import Derived.Test.YtebhclgnpnlekaaCmd
namespace Go.Proofs.Ytebhclgnpnlekaa.Cmd
open Go.RowKit Go.Proofs.Ytebhclgnpnlekaa.B

theorem refNamed_calls (n : Int) (w : World) (b : Bool) (hw : (Lit.int .i64 n).wf = true) (hb : named n = b) : Calls Try.prog 137 #[.int .i64 n] w fun e w' => e = .returned (.bool b) ∧ w = w' := by
  subst hb
  obtain ⟨b0, b1⟩ := bounds_i64 hw
  clear hw
  by_cases h0 : 16 ≤ n
  · by_cases h1 : n < 4112
    · have e : named n = decide (n % 16 ≤ 8) := by unfold named; rw [Bool.eq_iff_iff]; simp; omega
      rw [e]
      go_enter Try.func137, Try.ntmps137
      go_wp2
      go_ret
      exact ⟨by simp, rfl⟩
    · have e : named n = false := by unfold named; rw [decide_eq_false]; omega
      rw [e]
      go_enter Try.func137, Try.ntmps137
      go_wp2
      go_ret
      exact ⟨by simp <;> omega, rfl⟩
  · have e : named n = false := by unfold named; rw [decide_eq_false]; omega
    rw [e]
    go_enter Try.func137, Try.ntmps137
    go_wp2
    go_ret
    exact ⟨by simp <;> omega, rfl⟩
theorem refIn_calls (n : Int) (w : World) (b : Bool) (hb : few n 1048576 = b) : Calls Try.prog 138 #[.int .i64 n] w fun e w' => e = .returned (.bool b) ∧ w = w' := by
  subst hb
  by_cases h0 : 0 ≤ n
  · have e : few n 1048576 = decide (n ≤ 1048576) := by unfold few; rw [Bool.eq_iff_iff]; simp; omega
    rw [e]
    go_enter Try.func138, Try.ntmps138
    go_wp2
    go_ret
    exact ⟨by simp, rfl⟩
  · have e : few n 1048576 = false := by unfold few; rw [decide_eq_false]; omega
    rw [e]
    go_enter Try.func138, Try.ntmps138
    go_wp2
    go_ret
    exact ⟨by simp <;> omega, rfl⟩
theorem okCmd_eq (c : CmdD) : okCmd c = (named c.id && few c.sym 3 && (if c.kind = 0 then decide (c.tgt = 0) && (decide (c.side = 0) || decide (c.side = 1)) && few c.price 1048576 && few c.qty 1048576
    else if c.kind = 1 then named c.tgt && decide (c.side = 0) && decide (c.price = 0) && decide (c.qty = 0) else if c.kind = 2 then named c.tgt && decide (c.side = 0) && decide (c.price = 0) && few c.qty 1048576 else false)) := by
  unfold okCmd bareOk
  cases named c.id <;> simp
  cases h2 : few c.sym 3 <;> simp
  by_cases k0 : c.kind = 0
  · have f : few c.side 1 = (decide (c.side = 0) || decide (c.side = 1)) := by unfold few; rw [Bool.eq_iff_iff]; simp; omega
    simp [k0, f, show few 0 2 = true by decide]
    cases decide (c.tgt = 0) <;> cases decide (c.side = 0) <;> cases decide (c.side = 1) <;> cases few c.price 1048576 <;> cases few c.qty 1048576 <;> rfl
  · by_cases k1 : c.kind = 1
    · simp [k1, show few 1 2 = true by decide]
      cases named c.tgt <;> simp
      by_cases s : c.side = 0
      · by_cases p : c.price = 0
        · by_cases q : c.qty = 0
          · simp [s, p, q]; decide
          · simp [s, p, q]
        · simp [s, p]
      · simp [s]
    · by_cases k2 : c.kind = 2
      · simp [k2, show few 2 2 = true by decide]
        cases named c.tgt <;> simp
        by_cases s : c.side = 0
        · by_cases p : c.price = 0
          · simp [s, p, show few 0 1 = true by decide, show few 0 1048576 = true by decide]
          · simp [s, p]
        · simp [s]
      · have : few c.kind 2 = false := by unfold few; rw [decide_eq_false]; omega
        simp [k0, k1, k2, this]
set_option maxHeartbeats 4000000 in
set_option maxRecDepth 100000 in
theorem refOne_calls (c : CmdD) (w : World) (hw : c.wf) (b : Bool) (hb : okCmd c = b) : Calls Try.prog 86 #[c.v] w fun e w' => e = .returned (.bool b) ∧ Below w.heap.size w w' := by
  rw [okCmd_eq] at hb
  have HW := Hold.mk hw
  clear hw
  obtain ⟨a, ha⟩ : ∃ a, named c.id = a := ⟨_, rfl⟩
  obtain ⟨t, ht⟩ : ∃ a, named c.tgt = a := ⟨_, rfl⟩
  obtain ⟨p, hp⟩ : ∃ a, few c.price 1048576 = a := ⟨_, rfl⟩
  obtain ⟨q, hq⟩ : ∃ a, few c.qty 1048576 = a := ⟨_, rfl⟩
  rw [ha, ht, hp, hq] at hb
  have HA := Hold.mk ha
  have HT := Hold.mk ht
  have HP := Hold.mk hp
  have HQ := Hold.mk hq
  have HB := Hold.mk hb
  clear ha ht hp hq hb
  have fin : ∀ W : World, Below W.heap.size W (W.alloc (.cells #[.int .i64 c.id, .int .i64 c.kind, .int .i64 c.sym, .int .i64 c.tgt, .int .i64 c.side, .int .i64 c.price, .int .i64 c.qty] 45)) := fun W => (Below.refl _ _).alloc (Nat.le_refl _) _
  have FIN := Hold.mk fin
  clear fin
  go_enter Try.func86, Try.ntmps86
  go_wp2_with fail
  refine (refNamed_calls c.id _ a HW.out.1 HA.out).mono ?_
  rintro e w1 ⟨rfl, rfl⟩
  go_wp2_with fail
  refine (refNamed_calls c.tgt _ t HW.out.2.2.2.1 HT.out).mono ?_
  rintro e w1 ⟨rfl, rfl⟩
  go_wp2_with fail
  refine (refIn_calls c.price _ p HP.out).mono ?_
  rintro e w1 ⟨rfl, rfl⟩
  go_wp2_with fail
  refine (refIn_calls c.qty _ q HQ.out).mono ?_
  rintro e w1 ⟨rfl, rfl⟩
  cases a
  · go_wp2
    go_ret
    exact ⟨by rw [← HB.out]; simp, FIN.out _⟩
  by_cases hs : few c.sym 3 = true
  · have hs' := of_decide_eq_true hs
    have s0 : decide (c.sym < 0) = false := decide_eq_false (by omega)
    have s1 : decide (3 < c.sym) = false := decide_eq_false (by omega)
    have HS := Hold.mk hs
    clear hs hs'
    by_cases k0 : c.kind = 0
    · have t0 : (c.kind == 0) = true := by simp [k0]
      have HK := Hold.mk k0
      clear k0
      by_cases h1 : c.tgt = 0
      · by_cases h2 : c.side = 0
        · have e1 : (c.tgt == 0) = true := by simp [h1]
          have e2 : (c.side == 0) = true := by simp [h2]
          have H1 := Hold.mk h1
          have H2 := Hold.mk h2
          clear h1 h2
          cases p
          · go_wp2
            go_ret
            exact ⟨by rw [← HB.out]; simp [HK.out, HS.out], FIN.out _⟩
          · go_wp2
            go_ret
            exact ⟨by rw [← HB.out]; simp [HK.out, HS.out, H1.out, H2.out], FIN.out _⟩
        · by_cases h3 : c.side = 1
          · have e1 : (c.tgt == 0) = true := by simp [h1]
            have e2 : (c.side == 0) = false := by simp [h2]
            have e3 : (c.side == 1) = true := by simp [h3]
            have H1 := Hold.mk h1
            have H2 := Hold.mk h2
            have H3 := Hold.mk h3
            clear h1 h2 h3
            cases p
            · go_wp2
              go_ret
              exact ⟨by rw [← HB.out]; simp [HK.out, HS.out], FIN.out _⟩
            · go_wp2
              go_ret
              exact ⟨by rw [← HB.out]; simp [HK.out, HS.out, H1.out, H3.out], FIN.out _⟩
          · have e1 : (c.tgt == 0) = true := by simp [h1]
            have e2 : (c.side == 0) = false := by simp [h2]
            have e3 : (c.side == 1) = false := by simp [h3]
            have H2 := Hold.mk h2
            have H3 := Hold.mk h3
            clear h1 h2 h3
            go_wp2
            go_ret
            exact ⟨by rw [← HB.out]; simp [HK.out, HS.out, H2.out, H3.out], FIN.out _⟩
      · have e1 : (c.tgt == 0) = false := by simp [h1]
        have H1 := Hold.mk h1
        clear h1
        go_wp2
        go_ret
        exact ⟨by rw [← HB.out]; simp [HK.out, HS.out, H1.out], FIN.out _⟩
    · have t0 : (c.kind == 0) = false := by simp [k0]
      have HK0 := Hold.mk k0
      clear k0
      by_cases k1 : c.kind = 1
      · have t1 : (c.kind == 1) = true := by simp [k1]
        have HK := Hold.mk k1
        clear k1
        cases t
        · go_wp2
          go_ret
          exact ⟨by rw [← HB.out]; simp [HK.out, HS.out], FIN.out _⟩
        · by_cases h1 : c.side = 0
          · by_cases h2 : c.price = 0
            · have e1 : (c.side == 0) = true := by simp [h1]
              have e2 : (c.price == 0) = true := by simp [h2]
              have H1 := Hold.mk h1
              have H2 := Hold.mk h2
              clear h1 h2
              go_wp2
              go_ret
              exact ⟨by rw [← HB.out]; simp [HK.out, HS.out, H1.out, H2.out]; rfl, FIN.out _⟩
            · have e1 : (c.side == 0) = true := by simp [h1]
              have e2 : (c.price == 0) = false := by simp [h2]
              have H2 := Hold.mk h2
              clear h1 h2
              go_wp2
              go_ret
              exact ⟨by rw [← HB.out]; simp [HK.out, HS.out, H2.out], FIN.out _⟩
          · have e1 : (c.side == 0) = false := by simp [h1]
            have H1 := Hold.mk h1
            clear h1
            go_wp2
            go_ret
            exact ⟨by rw [← HB.out]; simp [HK.out, HS.out, H1.out], FIN.out _⟩
      · have t1 : (c.kind == 1) = false := by simp [k1]
        have HK1 := Hold.mk k1
        clear k1
        by_cases k2 : c.kind = 2
        · have t2 : (c.kind == 2) = true := by simp [k2]
          have HK := Hold.mk k2
          clear k2
          cases t
          · go_wp2
            go_ret
            exact ⟨by rw [← HB.out]; simp [HK.out, HS.out], FIN.out _⟩
          · by_cases h1 : c.side = 0
            · by_cases h2 : c.price = 0
              · have e1 : (c.side == 0) = true := by simp [h1]
                have e2 : (c.price == 0) = true := by simp [h2]
                have H1 := Hold.mk h1
                have H2 := Hold.mk h2
                clear h1 h2
                go_wp2
                go_ret
                exact ⟨by rw [← HB.out]; simp [HK.out, HS.out, H1.out, H2.out], FIN.out _⟩
              · have e1 : (c.side == 0) = true := by simp [h1]
                have e2 : (c.price == 0) = false := by simp [h2]
                have H2 := Hold.mk h2
                clear h1 h2
                go_wp2
                go_ret
                exact ⟨by rw [← HB.out]; simp [HK.out, HS.out, H2.out], FIN.out _⟩
            · have e1 : (c.side == 0) = false := by simp [h1]
              have H1 := Hold.mk h1
              clear h1
              go_wp2
              go_ret
              exact ⟨by rw [← HB.out]; simp [HK.out, HS.out, H1.out], FIN.out _⟩
        · have t2 : (c.kind == 2) = false := by simp [k2]
          have HK2 := Hold.mk k2
          clear k2
          go_wp2
          go_ret
          exact ⟨by rw [← HB.out]; simp [HK0.out, HK1.out, HK2.out, HS.out], FIN.out _⟩
  · have hs2 : few c.sym 3 = false := by simpa using hs
    have HS := Hold.mk hs2
    by_cases s0 : c.sym < 0
    · have s0 := decide_eq_true s0
      clear hs hs2
      go_wp2
      go_ret
      exact ⟨by rw [← HB.out]; simp [HS.out], FIN.out _⟩
    · have s1 : decide (3 < c.sym) = true := decide_eq_true (by have := of_decide_eq_false hs2; omega)
      have s0 := decide_eq_false s0
      clear hs hs2
      go_wp2
      go_ret
      exact ⟨by rw [← HB.out]; simp [HS.out], FIN.out _⟩
set_option maxHeartbeats 2000000 in
theorem refRight_calls (A : Option Addr) (c n : Nat) (l : List CmdD) (I : Nat → Prop) (w : World) (hn : n = l.length) (h : Rep.Row cmdRep I w A l) (b : Bool) (hb : okCmds l = b) :
    Calls Try.prog 81 #[.slice A n c] w fun e w' => e = .returned (.bool b) ∧ Hold (Below w.heap.size w w') := by
  subst hn
  have H := Hold.mk h
  have HBb := Hold.mk hb
  have hm := h.len_le
  clear h hb
  go_enter Try.func81, Try.ntmps81
  go_wp2
  go_loopw [3] (fun s wr => ∃ i : Nat, i ≤ l.length ∧ s = .int .i64 (i : Int) ∧ Hold (∀ x ∈ l.take i, okCmd x = true) ∧ Hold (Below w.heap.size w wr)) (fun s _ => l.length - (intOf s).toNat)
  case atStart => exact ⟨0, by omega, rfl, ⟨by simp⟩, ⟨Below.refl _ _⟩⟩
  case round =>
    obtain ⟨i, hi, rfl, HA, HB⟩ := hrel
    by_cases hlt : i < l.length
    · have l1 : (i : Int) < (l.length : Int) := by omega
      obtain ⟨ad, p, rfl, hp, _, ⟨c0, c1, c2, c3, c4, c5, c6, hw⟩⟩ := row_cmd (H.out.below HB.out) i hlt
      obtain ⟨x, hx⟩ : ∃ x, l[i] = x := ⟨_, rfl⟩
      rw [hx] at c0 c1 c2 c3 c4 c5 c6 hw
      have HX := Hold.mk hx
      have HW := Hold.mk hw
      clear hx hw
      cases hb : okCmd x
      · have HBx := Hold.mk hb
        clear hb
        go_wp2_with fail
        refine (refOne_calls x _ HW.out false HBx.out).mono ?_
        rintro e w1 ⟨rfl, hb1⟩
        have HB1 := Hold.mk (HB.out.trans (hb1.mono HB.out.size))
        clear hb1
        go_wp2
        go_ret
        refine ⟨?_, HB1⟩
        rw [← HBb.out, show okCmds l = false from List.all_eq_false.2 ⟨l[i], List.getElem_mem hlt, by rw [HX.out, HBx.out]; decide⟩]; rfl
      · have HBx := Hold.mk hb
        clear hb
        go_wp2_with fail
        refine (refOne_calls x _ HW.out true HBx.out).mono ?_
        rintro e w1 ⟨rfl, hb1⟩
        have HB1 := Hold.mk (HB.out.trans (hb1.mono HB.out.size))
        have HA1 : Hold (∀ x ∈ l.take (i + 1), okCmd x = true) := ⟨mem_take_succ hlt HA.out (by rw [HX.out, HBx.out])⟩
        clear hb1
        go_wp2
        exact ⟨⟨i + 1, by omega, by go_num, HA1, HB1⟩, by simp [intOf]; omega⟩
    · obtain rfl : i = l.length := by omega
      go_wp2
      go_ret
      refine ⟨?_, HB⟩
      rw [← HBb.out, show okCmds l = true from List.all_eq_true.2 (by have := HA.out; rw [List.take_length] at this; exact this)]; rfl
end Go.Proofs.Ytebhclgnpnlekaa.Cmd
