/- Sets of commands: package preds' Right, and the document's, by their walks. No condition. -/
import Derived.Test.YtebhclgnpnlekaaCmdRef
namespace Go.Proofs.Ytebhclgnpnlekaa.Preds
open Go.RowKit Go.Proofs.Ytebhclgnpnlekaa.B Go.Proofs.Ytebhclgnpnlekaa.Cmd

/-- Each name is above the one ahead of it. -/
def rising : List CmdD → Bool
  | [] => true
  | [_] => true
  | a :: b :: l => decide (a.id < b.id) && rising (b :: l)
/-- A set. -/
def okSet (l : List CmdD) : Bool := rising l && okCmds l && decide (l.length ≤ 1024)
theorem rising_iff (l : List CmdD) : rising l = true ↔ ∀ i (h : i + 1 < l.length), (l[i]'(by omega)).id < l[i + 1].id := by
  induction l with
  | nil => simp [rising]
  | cons a l ih =>
    cases l with
    | nil => simp [rising]
    | cons b l =>
      simp only [rising, Bool.and_eq_true, decide_eq_true_eq, ih]
      constructor
      · rintro ⟨h0, h⟩ i hi
        cases i with
        | zero => exact h0
        | succ i => exact h i (by simp at hi ⊢; omega)
      · intro h
        exact ⟨h 0 (by simp), fun i hi => h (i + 1) (by simp at hi ⊢; omega)⟩
theorem rising_false {l : List CmdD} {i : Nat} (h : i + 1 < l.length) (hn : ¬ (l[i]'(by omega)).id < l[i + 1].id) : rising l = false := by
  cases hr : rising l with
  | false => rfl
  | true => exact absurd ((rising_iff l).1 hr i h) hn

theorem cmdRight_calls (A : Option Addr) (c n : Nat) (l : List CmdD) (I : Nat → Prop) (w : World) (hn : n = l.length) (h : Rep.Row cmdRep I w A l) (b : Bool) (hb : okCmds l = b) :
    Calls Try.prog 89 #[.slice A n c] w fun e w' => e = .returned (.bool b) ∧ Hold (Below w.heap.size w w') := by
  have H := Hold.mk h
  have HBb := Hold.mk hb
  have HN := Hold.mk hn
  clear h hb hn
  go_enter Try.func89, Try.ntmps89
  go_wp2_with fail
  refine (Cmd.right_calls A c n l I w HN.out H.out b HBb.out).mono ?_
  rintro e w1 ⟨rfl, HB1⟩
  go_wp2
  go_ret
  exact ⟨rfl, HB1⟩

set_option maxHeartbeats 4000000 in
theorem right_calls (A : Option Addr) (c n : Nat) (l : List CmdD) (I : Nat → Prop) (w : World) (hn : n = l.length) (h : Rep.Row cmdRep I w A l) (b : Bool) (hb : okSet l = b) :
    Calls Try.prog 38 #[.slice A n c] w fun e w' => e = .returned (.bool b) ∧ Hold (Below w.heap.size w w') := by
  subst hn
  have H := Hold.mk h
  have HBb := Hold.mk hb
  have hm := h.len_le
  clear h hb
  go_enter Try.func38, Try.ntmps38
  go_wp2
  go_loopw [3] (fun s wr => ∃ i : Nat, 1 ≤ i ∧ i ≤ l.length + 1 ∧ s = .int .i64 (i : Int) ∧ Hold (∀ j (h : j + 1 < l.length), j + 1 < i → (l[j]'(by omega)).id < l[j + 1].id) ∧ Hold (Below w.heap.size w wr)) (fun s _ => l.length + 1 - (intOf s).toNat)
  case atStart => exact ⟨1, by omega, by omega, rfl, ⟨fun j h hj => by omega⟩, ⟨Below.refl _ _⟩⟩
  case round =>
    obtain ⟨i, hi0, hi, rfl, HA, HB⟩ := hrel
    by_cases hlt : i < l.length
    · obtain ⟨k, rfl⟩ : ∃ k, i = k + 1 := ⟨i - 1, by omega⟩
      have l1 : ((k + 1 : Nat) : Int) < (l.length : Int) := by omega
      have q1 : IntKind.i64.wrap (((k + 1 : Nat) : Int) - 1) = (k : Int) := by rw [IntKind.wrap_i64]; omega
      obtain ⟨ad, p, rfl, hp, _, ⟨c0, _, _, _, _, _, _, hw1⟩⟩ := row_cmd (H.out.below HB.out) k (by omega)
      obtain ⟨ad', p2, e', hp2, _, ⟨d0, _, _, _, _, _, _, hw2⟩⟩ := row_cmd (H.out.below HB.out) (k + 1) hlt
      cases e'
      obtain ⟨x, hx⟩ : ∃ x, (l[k]'(by omega)).id = x := ⟨_, rfl⟩
      obtain ⟨y, hy⟩ : ∃ x, l[k + 1].id = x := ⟨_, rfl⟩
      rw [hx] at c0
      rw [hy] at d0
      have HX := Hold.mk hx
      have HY := Hold.mk hy
      have l1n : k + 1 < l.length := hlt
      have l2n : k < l.length := by omega
      have l2 : (k : Int) < (l.length : Int) := by omega
      have k0 : (0 : Int) ≤ k := by omega
      clear hx hy hw1 hw2
      by_cases hxy : x < y
      · have t1 : decide (y ≤ x) = false := decide_eq_false (by omega)
        have HA2 : Hold (∀ j (h : j + 1 < l.length), j + 1 < k + 1 + 1 → (l[j]'(by omega)).id < l[j + 1].id) := ⟨fun j h hj => by
          by_cases e : j = k
          · subst e; rw [HX.out, HY.out]; exact hxy
          · exact HA.out j h (by omega)⟩
        clear hxy
        go_wp2
        go_quiet (fail)
        go_wp2
        exact ⟨⟨k + 1 + 1, by omega, by omega, by go_num, HA2, ⟨HB.out.trans ((below_drewN wr nq).mono HB.out.size)⟩⟩, by simp [intOf]; omega⟩
      · have t1 : decide (y ≤ x) = true := decide_eq_true (by omega)
        have HF : Hold (b = false) := ⟨by rw [← HBb.out]; unfold okSet; rw [rising_false hlt (by rw [HX.out, HY.out]; exact hxy)]; rfl⟩
        clear hxy
        go_wp2
        go_quiet (fail)
        go_wp2
        go_ret
        rw [HF.out]
        exact ⟨rfl, ⟨HB.out.trans ((below_drewN wr nq).mono HB.out.size)⟩⟩
    · have l1 : ¬ (i : Int) < (l.length : Int) := by omega
      have HR : Hold (rising l = true) := ⟨(rising_iff l).2 fun j hj => HA.out j hj (by omega)⟩
      by_cases h3 : l.length ≤ 1024
      · have l3 : decide ((l.length : Int) ≤ 1024) = true := decide_eq_true (by omega)
        have HBc : Hold (okCmds l = b) := ⟨by rw [← HBb.out]; unfold okSet; rw [HR.out, decide_eq_true h3]; simp⟩
        clear h3
        go_wp2_with fail
        refine (cmdRight_calls A c l.length l I wr rfl (H.out.below HB.out) b HBc.out).mono ?_
        rintro e w1 ⟨rfl, HB1⟩
        go_wp2
        go_ret
        exact ⟨rfl, ⟨HB.out.trans (HB1.out.mono HB.out.size)⟩⟩
      · have l3 : decide ((l.length : Int) ≤ 1024) = false := decide_eq_false (by omega)
        have HF : Hold (b = false) := ⟨by rw [← HBb.out]; unfold okSet; rw [decide_eq_false h3]; simp⟩
        clear h3
        go_wp2
        go_ret
        rw [HF.out]
        exact ⟨rfl, HB⟩
set_option maxHeartbeats 4000000 in
theorem refRight_calls (A : Option Addr) (c n : Nat) (l : List CmdD) (I : Nat → Prop) (w : World) (hn : n = l.length) (h : Rep.Row cmdRep I w A l) (b : Bool) (hb : okSet l = b) :
    Calls Try.prog 48 #[.slice A n c] w fun e w' => e = .returned (.bool b) ∧ Hold (Below w.heap.size w w') := by
  subst hn
  have H := Hold.mk h
  have HBb := Hold.mk hb
  have hm := h.len_le
  clear h hb
  go_enter Try.func48, Try.ntmps48
  go_wp2
  go_loopw [3] (fun s wr => ∃ i : Nat, 1 ≤ i ∧ i ≤ l.length + 1 ∧ s = .int .i64 (i : Int) ∧ Hold (∀ j (h : j + 1 < l.length), j + 1 < i → (l[j]'(by omega)).id < l[j + 1].id) ∧ Hold (Below w.heap.size w wr)) (fun s _ => l.length + 1 - (intOf s).toNat)
  case atStart => exact ⟨1, by omega, by omega, rfl, ⟨fun j h hj => by omega⟩, ⟨Below.refl _ _⟩⟩
  case round =>
    obtain ⟨i, hi0, hi, rfl, HA, HB⟩ := hrel
    by_cases hlt : i < l.length
    · obtain ⟨k, rfl⟩ : ∃ k, i = k + 1 := ⟨i - 1, by omega⟩
      have l1 : ((k + 1 : Nat) : Int) < (l.length : Int) := by omega
      have q1 : IntKind.i64.wrap (((k + 1 : Nat) : Int) - 1) = (k : Int) := by rw [IntKind.wrap_i64]; omega
      obtain ⟨ad, p, rfl, hp, _, ⟨c0, _, _, _, _, _, _, hw1⟩⟩ := row_cmd (H.out.below HB.out) k (by omega)
      obtain ⟨ad', p2, e', hp2, _, ⟨d0, _, _, _, _, _, _, hw2⟩⟩ := row_cmd (H.out.below HB.out) (k + 1) hlt
      cases e'
      obtain ⟨x, hx⟩ : ∃ x, (l[k]'(by omega)).id = x := ⟨_, rfl⟩
      obtain ⟨y, hy⟩ : ∃ x, l[k + 1].id = x := ⟨_, rfl⟩
      rw [hx] at c0
      rw [hy] at d0
      have HX := Hold.mk hx
      have HY := Hold.mk hy
      have l1n : k + 1 < l.length := hlt
      have l2n : k < l.length := by omega
      have l2 : (k : Int) < (l.length : Int) := by omega
      have k0 : (0 : Int) ≤ k := by omega
      clear hx hy hw1 hw2
      by_cases hxy : x < y
      · have t1 : decide (y ≤ x) = false := decide_eq_false (by omega)
        have HA2 : Hold (∀ j (h : j + 1 < l.length), j + 1 < k + 1 + 1 → (l[j]'(by omega)).id < l[j + 1].id) := ⟨fun j h hj => by
          by_cases e : j = k
          · subst e; rw [HX.out, HY.out]; exact hxy
          · exact HA.out j h (by omega)⟩
        clear hxy
        go_wp2
        go_quiet (fail)
        go_wp2
        exact ⟨⟨k + 1 + 1, by omega, by omega, by go_num, HA2, ⟨HB.out.trans ((below_drewN wr nq).mono HB.out.size)⟩⟩, by simp [intOf]; omega⟩
      · have t1 : decide (y ≤ x) = true := decide_eq_true (by omega)
        have HF : Hold (b = false) := ⟨by rw [← HBb.out]; unfold okSet; rw [rising_false hlt (by rw [HX.out, HY.out]; exact hxy)]; rfl⟩
        clear hxy
        go_wp2
        go_quiet (fail)
        go_wp2
        go_ret
        rw [HF.out]
        exact ⟨rfl, ⟨HB.out.trans ((below_drewN wr nq).mono HB.out.size)⟩⟩
    · have l1 : ¬ (i : Int) < (l.length : Int) := by omega
      have HR : Hold (rising l = true) := ⟨(rising_iff l).2 fun j hj => HA.out j hj (by omega)⟩
      have l3 : decide ((l.length : Int) ≤ 1024) = decide (l.length ≤ 1024) := by rw [decide_eq_decide]; omega
      have HBc : Hold (b = (okCmds l && decide (l.length ≤ 1024))) := ⟨by rw [← HBb.out]; unfold okSet; rw [HR.out]; simp⟩
      obtain ⟨d, hd⟩ : ∃ d, decide (l.length ≤ 1024) = d := ⟨_, rfl⟩
      rw [hd] at l3
      have HD := Hold.mk hd
      clear hd
      cases ho : okCmds l
      · have HO := Hold.mk ho
        clear ho
        go_wp2_with fail
        refine (Cmd.refRight_calls A c l.length l I wr rfl (H.out.below HB.out) false HO.out).mono ?_
        rintro e w1 ⟨rfl, HB1⟩
        go_wp2
        go_ret
        rw [HBc.out, HO.out]
        exact ⟨rfl, ⟨HB.out.trans (HB1.out.mono HB.out.size)⟩⟩
      · have HO := Hold.mk ho
        clear ho
        go_wp2_with fail
        refine (Cmd.refRight_calls A c l.length l I wr rfl (H.out.below HB.out) true HO.out).mono ?_
        rintro e w1 ⟨rfl, HB1⟩
        cases d
        · go_wp2
          go_ret
          rw [HBc.out, HO.out, HD.out]
          exact ⟨rfl, ⟨HB.out.trans (HB1.out.mono HB.out.size)⟩⟩
        · go_wp2
          go_ret
          rw [HBc.out, HO.out, HD.out]
          exact ⟨rfl, ⟨HB.out.trans (HB1.out.mono HB.out.size)⟩⟩
end Go.Proofs.Ytebhclgnpnlekaa.Preds
