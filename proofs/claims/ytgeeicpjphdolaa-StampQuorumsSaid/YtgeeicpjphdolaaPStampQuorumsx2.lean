-- PRINTED BY print.sh 35421559b90ae4d0a3588c463048766b98c2df88dd9212a6774a882060cdf62d: not written by this session
import Derived.Test.YtgeeicpjphdolaaPStampQuorumsx0
import Derived.Test.YtgeeicpjphdolaaPStampQuorumsx1
namespace Go.Proofs.Ytgeeicpjphdolaa.PStampQuorums
open Go.RowKit Go.Proofs.YtgeeicpjphdolaaW.PrintWords Go.Proofs.YtgeeicpjphdolaaW.PrintLast Go.Proofs.YtgeeicpjphdolaaW.PrintMore
attribute [local go_sem] max2_int min2_int max_two min_two max_three min_three max_four min_four   -- for this text's walks alone
set_option linter.unusedVariables false
set_option linter.unusedSimpArgs false

/-! ### lictorref01_Classic: function 40 -/
def lictorref01_Classic.l0 : Nat → Int → Int → Option (Int)
  | 0, _, _ => none
  | k + 1, x0, x4 => if (wrap64 (2 * x4)) ≤ x0 then (lictorref01_Classic.l0 k x0 (wrap64 (x4 + 1))) else (some x4)
def lictorref01_Classic.f (k : Nat) (a0 : Int) : Option (Int) := (lictorref01_Right.f a0).bind fun t121 => (if t121 = true then (lictorref01_Classic.l0 k a0 0) else (some 0))
theorem lictorref01_Classic.mono_l : ∀ k, (∀ y0 y1, LeO (lictorref01_Classic.l0 k y0 y1) (lictorref01_Classic.l0 (k + 1) y0 y1))
  | 0 => fun _ _ r h => by simp [lictorref01_Classic.l0] at h
  | k + 1 => by
    have ih0 := lictorref01_Classic.mono_l k
    · intro y0 y1
      unfold lictorref01_Classic.l0
      repeat' first
      | (with_reducible exact ih0 _ _)
      | (with_reducible exact LeO.refl _)
      | (with_reducible exact LeO.none _)
      | (with_reducible refine LeO.ite ?_ ?_)
      | (with_reducible refine LeO.bind ?_ (fun _ => ?_))
      | exact ih0 _ _
      | exact LeO.none _
      | refine LeO.ite ?_ ?_
      | refine LeO.bind ?_ (fun _ => ?_)
theorem lictorref01_Classic.mono : ∀ a0 k, LeO (lictorref01_Classic.f k a0) (lictorref01_Classic.f (k + 1) a0) := by
  intro a0 k
  have ih0 := lictorref01_Classic.mono_l k
  unfold lictorref01_Classic.f
  repeat' first
      | (with_reducible exact ih0 _ _)
      | (with_reducible exact LeO.refl _)
      | (with_reducible exact LeO.none _)
      | (with_reducible refine LeO.ite ?_ ?_)
      | (with_reducible refine LeO.bind ?_ (fun _ => ?_))
      | exact ih0 _ _
      | exact LeO.none _
      | refine LeO.ite ?_ ?_
      | refine LeO.bind ?_ (fun _ => ?_)
set_option maxHeartbeats 8000000 in
set_option maxRecDepth 100000 in
theorem lictorref01_Classic.calls (k : Nat) (a0 : Int) (r : Int) (w : World) (h : lictorref01_Classic.f k a0 = some r) :
    Calls Try.prog 40 #[.int .i64 a0] w fun e w' => e = .returned (.int .i64 r) ∧ Drawn0 w w' := by
  have H : ((lictorref01_Right.f a0).bind fun t121 => (if t121 = true then (lictorref01_Classic.l0 k a0 0) else (some 0))) = some r := h
  clear h
  replace H := Option.bind_eq_some_iff.mp H
  obtain ⟨t121, A20, H⟩ := H
  replace H : (if t121 = true then (lictorref01_Classic.l0 k a0 0) else (some 0)) = some r := H
  have A2 := Aside0.mk A20
  clear A20
  by_cases c3 : t121 = true
  · subst c3
    have H1 : (lictorref01_Classic.l0 k a0 0) = some r := by rw [if_pos rfl] at H; exact H
    clear H
    have H := H1
    clear H1
    have H' := Aside0.mk H
    clear H
    go_enter Try.func40, Try.ntmps40
    go_wp2_with (first | ((with_reducible refine gate_callee (f := 38) rfl ?_); refine goesL_ (some 6) rfl rfl Try.func38 (by kernel_rfl) rfl #[.int .i64 a0] rfl (by (try simp only [List.map_toArray, List.map_cons, List.map_nil]); first | done | rfl | (simp only [List.length_drop, List.length_take]; rfl)) ?_; (with_reducible refine (lictorref01_Right.calls a0 true _ A2.out).mono ?_); rintro e w' ⟨rfl, ⟨nd, rfl⟩⟩; refine ⟨_, rfl, ?_⟩))
    go_loopg [4] k (fun kq v4 w' => ∃ (x4_1 : Int), v4 = .int .i64 x4_1 ∧ Aside0 (lictorref01_Classic.l0 kq a0 x4_1 = some r) ∧ Aside0 (kq ≤ k) ∧ Drawn0 w w')
    case atStart => exact ⟨(0), (by first | rfl | (simp; done) | (simp [*]; done)), H', ⟨Nat.le_refl _⟩, by repeat (first | exact Drawn0.refl _ | apply Drawn0.step)⟩
    case round =>
      clear H'
      try clear p2
      try clear c3
      obtain ⟨x4_1, rfl, HA, HK1, ⟨m1, rfl⟩⟩ := hrel
      cases gk with
      | zero => exact absurd HA.out (by simp [lictorref01_Classic.l0])
      | succ k1 =>
        have H := HA.out
        clear HA
        simp only [lictorref01_Classic.l0] at H
        by_cases c4 : (wrap64 (2 * x4_1)) ≤ a0
        · rw [if_pos c4] at H
          have c4b0 : decide ((wrap64 (2 * x4_1)) ≤ a0) = true := decide_eq_true c4
          clear c4
          have H' := Aside0.mk H
          clear H
          go_wp2
          go_roundg k1
          case measure => have := HK1.out; omega
          case rel => exact ⟨(wrap64 (x4_1 + 1)), (by first | rfl | (simp; done) | (simp [*]; done)), H', ⟨by have := HK1.out; omega⟩, by repeat (first | exact Drawn0.refl _ | apply Drawn0.step)⟩
        · rw [if_neg c4] at H
          have c4b0 : decide ((wrap64 (2 * x4_1)) ≤ a0) = false := decide_eq_false c4
          clear c4
          obtain rfl := Option.some.inj H
          go_wp2
          go_ret
          exact ⟨by first | rfl | (simp; done) | (simp [*]; done), by repeat (first | exact Drawn0.refl _ | apply Drawn0.step)⟩
  · replace c3 := Bool.eq_false_iff.mpr c3
    subst c3
    have H1 : (some 0) = some r := by rw [if_neg (show ¬ (false = true) by decide)] at H; exact H
    clear H
    have H := H1
    clear H1
    obtain rfl := Option.some.inj H
    go_enter Try.func40, Try.ntmps40
    go_wp2_with (first | ((with_reducible refine gate_callee (f := 38) rfl ?_); refine goesL_ (some 6) rfl rfl Try.func38 (by kernel_rfl) rfl #[.int .i64 a0] rfl (by (try simp only [List.map_toArray, List.map_cons, List.map_nil]); first | done | rfl | (simp only [List.length_drop, List.length_take]; rfl)) ?_; (with_reducible refine (lictorref01_Right.calls a0 false _ A2.out).mono ?_); rintro e w' ⟨rfl, ⟨nd, rfl⟩⟩; refine ⟨_, rfl, ?_⟩))
    go_ret
    exact ⟨by first | rfl | (simp; done) | (simp [*]; done), by repeat (first | exact Drawn0.refl _ | apply Drawn0.step)⟩

/-! ### lictorref01_Fast: function 42 -/
def lictorref01_Fast.l0 : Nat → Int → Int → Option (Int)
  | 0, _, _ => none
  | k + 1, x0, x4 => if (wrap64 (4 * x4)) < (wrap64 (3 * x0)) then (lictorref01_Fast.l0 k x0 (wrap64 (x4 + 1))) else (some x4)
def lictorref01_Fast.f (k : Nat) (a0 : Int) : Option (Int) := (lictorref01_Right.f a0).bind fun t122 => (if t122 = true then (lictorref01_Fast.l0 k a0 0) else (some 0))
theorem lictorref01_Fast.mono_l : ∀ k, (∀ y0 y1, LeO (lictorref01_Fast.l0 k y0 y1) (lictorref01_Fast.l0 (k + 1) y0 y1))
  | 0 => fun _ _ r h => by simp [lictorref01_Fast.l0] at h
  | k + 1 => by
    have ih0 := lictorref01_Fast.mono_l k
    · intro y0 y1
      unfold lictorref01_Fast.l0
      repeat' first
      | (with_reducible exact ih0 _ _)
      | (with_reducible exact LeO.refl _)
      | (with_reducible exact LeO.none _)
      | (with_reducible refine LeO.ite ?_ ?_)
      | (with_reducible refine LeO.bind ?_ (fun _ => ?_))
      | exact ih0 _ _
      | exact LeO.none _
      | refine LeO.ite ?_ ?_
      | refine LeO.bind ?_ (fun _ => ?_)
theorem lictorref01_Fast.mono : ∀ a0 k, LeO (lictorref01_Fast.f k a0) (lictorref01_Fast.f (k + 1) a0) := by
  intro a0 k
  have ih0 := lictorref01_Fast.mono_l k
  unfold lictorref01_Fast.f
  repeat' first
      | (with_reducible exact ih0 _ _)
      | (with_reducible exact LeO.refl _)
      | (with_reducible exact LeO.none _)
      | (with_reducible refine LeO.ite ?_ ?_)
      | (with_reducible refine LeO.bind ?_ (fun _ => ?_))
      | exact ih0 _ _
      | exact LeO.none _
      | refine LeO.ite ?_ ?_
      | refine LeO.bind ?_ (fun _ => ?_)
set_option maxHeartbeats 8000000 in
set_option maxRecDepth 100000 in
theorem lictorref01_Fast.calls (k : Nat) (a0 : Int) (r : Int) (w : World) (h : lictorref01_Fast.f k a0 = some r) :
    Calls Try.prog 42 #[.int .i64 a0] w fun e w' => e = .returned (.int .i64 r) ∧ Drawn0 w w' := by
  have H : ((lictorref01_Right.f a0).bind fun t122 => (if t122 = true then (lictorref01_Fast.l0 k a0 0) else (some 0))) = some r := h
  clear h
  replace H := Option.bind_eq_some_iff.mp H
  obtain ⟨t122, A20, H⟩ := H
  replace H : (if t122 = true then (lictorref01_Fast.l0 k a0 0) else (some 0)) = some r := H
  have A2 := Aside0.mk A20
  clear A20
  by_cases c3 : t122 = true
  · subst c3
    have H1 : (lictorref01_Fast.l0 k a0 0) = some r := by rw [if_pos rfl] at H; exact H
    clear H
    have H := H1
    clear H1
    have H' := Aside0.mk H
    clear H
    go_enter Try.func42, Try.ntmps42
    go_wp2_with (first | ((with_reducible refine gate_callee (f := 38) rfl ?_); refine goesL_ (some 6) rfl rfl Try.func38 (by kernel_rfl) rfl #[.int .i64 a0] rfl (by (try simp only [List.map_toArray, List.map_cons, List.map_nil]); first | done | rfl | (simp only [List.length_drop, List.length_take]; rfl)) ?_; (with_reducible refine (lictorref01_Right.calls a0 true _ A2.out).mono ?_); rintro e w' ⟨rfl, ⟨nd, rfl⟩⟩; refine ⟨_, rfl, ?_⟩))
    go_loopg [4] k (fun kq v4 w' => ∃ (x4_1 : Int), v4 = .int .i64 x4_1 ∧ Aside0 (lictorref01_Fast.l0 kq a0 x4_1 = some r) ∧ Aside0 (kq ≤ k) ∧ Drawn0 w w')
    case atStart => exact ⟨(0), (by first | rfl | (simp; done) | (simp [*]; done)), H', ⟨Nat.le_refl _⟩, by repeat (first | exact Drawn0.refl _ | apply Drawn0.step)⟩
    case round =>
      clear H'
      try clear p2
      try clear c3
      obtain ⟨x4_1, rfl, HA, HK1, ⟨m1, rfl⟩⟩ := hrel
      cases gk with
      | zero => exact absurd HA.out (by simp [lictorref01_Fast.l0])
      | succ k1 =>
        have H := HA.out
        clear HA
        simp only [lictorref01_Fast.l0] at H
        by_cases c4 : (wrap64 (4 * x4_1)) < (wrap64 (3 * a0))
        · rw [if_pos c4] at H
          have c4b0 : decide ((wrap64 (4 * x4_1)) < (wrap64 (3 * a0))) = true := decide_eq_true c4
          clear c4
          have H' := Aside0.mk H
          clear H
          go_wp2
          go_roundg k1
          case measure => have := HK1.out; omega
          case rel => exact ⟨(wrap64 (x4_1 + 1)), (by first | rfl | (simp; done) | (simp [*]; done)), H', ⟨by have := HK1.out; omega⟩, by repeat (first | exact Drawn0.refl _ | apply Drawn0.step)⟩
        · rw [if_neg c4] at H
          have c4b0 : decide ((wrap64 (4 * x4_1)) < (wrap64 (3 * a0))) = false := decide_eq_false c4
          clear c4
          obtain rfl := Option.some.inj H
          go_wp2
          go_ret
          exact ⟨by first | rfl | (simp; done) | (simp [*]; done), by repeat (first | exact Drawn0.refl _ | apply Drawn0.step)⟩
  · replace c3 := Bool.eq_false_iff.mpr c3
    subst c3
    have H1 : (some 0) = some r := by rw [if_neg (show ¬ (false = true) by decide)] at H; exact H
    clear H
    have H := H1
    clear H1
    obtain rfl := Option.some.inj H
    go_enter Try.func42, Try.ntmps42
    go_wp2_with (first | ((with_reducible refine gate_callee (f := 38) rfl ?_); refine goesL_ (some 6) rfl rfl Try.func38 (by kernel_rfl) rfl #[.int .i64 a0] rfl (by (try simp only [List.map_toArray, List.map_cons, List.map_nil]); first | done | rfl | (simp only [List.length_drop, List.length_take]; rfl)) ?_; (with_reducible refine (lictorref01_Right.calls a0 false _ A2.out).mono ?_); rintro e w' ⟨rfl, ⟨nd, rfl⟩⟩; refine ⟨_, rfl, ?_⟩))
    go_ret
    exact ⟨by first | rfl | (simp; done) | (simp [*]; done), by repeat (first | exact Drawn0.refl _ | apply Drawn0.step)⟩

/-! ### lictorref01_Need: function 44 -/
def lictorref01_Need.f (k : Nat) (a0 : Int) (a1 : Int) : Option (Int) := (lictorref01_Right.f a0).bind fun t123 => (if t123 = true then (if a1 < 0 then (some 0) else (if a1 > a0 then (some 0) else ((lictorref01_Fast.f k a0).bind fun t124 => (some (wrap64 (t124 - (wrap64 (a0 - a1)))))))) else (some 0))
theorem lictorref01_Need.mono : ∀ a0 a1 k, LeO (lictorref01_Need.f k a0 a1) (lictorref01_Need.f (k + 1) a0 a1) := by
  intro a0 a1 k
  unfold lictorref01_Need.f
  repeat' first
      | (with_reducible exact lictorref01_Fast.mono _ _)
      | (with_reducible exact LeO.refl _)
      | (with_reducible exact LeO.none _)
      | (with_reducible refine LeO.ite ?_ ?_)
      | (with_reducible refine LeO.bind ?_ (fun _ => ?_))
      | exact lictorref01_Fast.mono _ _
      | exact LeO.none _
      | refine LeO.ite ?_ ?_
      | refine LeO.bind ?_ (fun _ => ?_)
set_option maxHeartbeats 8000000 in
set_option maxRecDepth 100000 in
theorem lictorref01_Need.calls (k : Nat) (a0 : Int) (a1 : Int) (r : Int) (w : World) (h : lictorref01_Need.f k a0 a1 = some r) :
    Calls Try.prog 44 #[.int .i64 a0, .int .i64 a1] w fun e w' => e = .returned (.int .i64 r) ∧ Drawn0 w w' := by
  have H : ((lictorref01_Right.f a0).bind fun t123 => (if t123 = true then (if a1 < 0 then (some 0) else (if a1 > a0 then (some 0) else ((lictorref01_Fast.f k a0).bind fun t124 => (some (wrap64 (t124 - (wrap64 (a0 - a1)))))))) else (some 0))) = some r := h
  clear h
  replace H := Option.bind_eq_some_iff.mp H
  obtain ⟨t123, A30, H⟩ := H
  replace H : (if t123 = true then (if a1 < 0 then (some 0) else (if a1 > a0 then (some 0) else ((lictorref01_Fast.f k a0).bind fun t124 => (some (wrap64 (t124 - (wrap64 (a0 - a1)))))))) else (some 0)) = some r := H
  have A3 := Aside0.mk A30
  clear A30
  by_cases c4 : t123 = true
  · subst c4
    have H1 : (if a1 < 0 then (some 0) else (if a1 > a0 then (some 0) else ((lictorref01_Fast.f k a0).bind fun t124 => (some (wrap64 (t124 - (wrap64 (a0 - a1)))))))) = some r := by rw [if_pos rfl] at H; exact H
    clear H
    have H := H1
    clear H1
    by_cases c5 : a1 < 0
    · rw [if_pos c5] at H
      have c5b0 : decide (a1 < 0) = true := decide_eq_true c5
      clear c5
      obtain rfl := Option.some.inj H
      go_enter Try.func44, Try.ntmps44
      go_wp2_with (first | ((with_reducible refine gate_callee (f := 38) rfl ?_); refine goesL_ (some 7) rfl rfl Try.func38 (by kernel_rfl) rfl #[.int .i64 a0] rfl (by (try simp only [List.map_toArray, List.map_cons, List.map_nil]); first | done | rfl | (simp only [List.length_drop, List.length_take]; rfl)) ?_; (with_reducible refine (lictorref01_Right.calls a0 true _ A3.out).mono ?_); rintro e w' ⟨rfl, ⟨nd, rfl⟩⟩; refine ⟨_, rfl, ?_⟩))
      go_ret
      exact ⟨by first | rfl | (simp; done) | (simp [*]; done), by repeat (first | exact Drawn0.refl _ | apply Drawn0.step)⟩
    · rw [if_neg c5] at H
      have c5b0 : decide (a1 < 0) = false := decide_eq_false c5
      clear c5
      by_cases c6 : a1 > a0
      · rw [if_pos c6] at H
        have c6b0 : decide (a0 < a1) = true := decide_eq_true c6
        clear c6
        obtain rfl := Option.some.inj H
        go_enter Try.func44, Try.ntmps44
        go_wp2_with (first | ((with_reducible refine gate_callee (f := 38) rfl ?_); refine goesL_ (some 7) rfl rfl Try.func38 (by kernel_rfl) rfl #[.int .i64 a0] rfl (by (try simp only [List.map_toArray, List.map_cons, List.map_nil]); first | done | rfl | (simp only [List.length_drop, List.length_take]; rfl)) ?_; (with_reducible refine (lictorref01_Right.calls a0 true _ A3.out).mono ?_); rintro e w' ⟨rfl, ⟨nd, rfl⟩⟩; refine ⟨_, rfl, ?_⟩))
        go_ret
        exact ⟨by first | rfl | (simp; done) | (simp [*]; done), by repeat (first | exact Drawn0.refl _ | apply Drawn0.step)⟩
      · rw [if_neg c6] at H
        have c6b0 : decide (a0 < a1) = false := decide_eq_false c6
        clear c6
        replace H := Option.bind_eq_some_iff.mp H
        obtain ⟨t124, A70, H⟩ := H
        replace H : (some (wrap64 (t124 - (wrap64 (a0 - a1))))) = some r := H
        have A7 := Aside0.mk A70
        clear A70
        obtain rfl := Option.some.inj H
        go_enter Try.func44, Try.ntmps44
        go_wp2_with (first | ((with_reducible refine gate_callee (f := 38) rfl ?_); refine goesL_ (some 7) rfl rfl Try.func38 (by kernel_rfl) rfl #[.int .i64 a0] rfl (by (try simp only [List.map_toArray, List.map_cons, List.map_nil]); first | done | rfl | (simp only [List.length_drop, List.length_take]; rfl)) ?_; (with_reducible refine (lictorref01_Right.calls a0 true _ A3.out).mono ?_); rintro e w' ⟨rfl, ⟨nd, rfl⟩⟩; refine ⟨_, rfl, ?_⟩) | ((with_reducible refine gate_callee (f := 42) rfl ?_); refine goesL_ (some 20) rfl rfl Try.func42 (by kernel_rfl) rfl #[.int .i64 a0] rfl (by (try simp only [List.map_toArray, List.map_cons, List.map_nil]); first | done | rfl | (simp only [List.length_drop, List.length_take]; rfl)) ?_; (with_reducible refine (lictorref01_Fast.calls k a0 t124 _ A7.out).mono ?_); rintro e w' ⟨rfl, ⟨nd, rfl⟩⟩; refine ⟨_, rfl, ?_⟩))
        go_ret
        exact ⟨by first | rfl | (simp; done) | (simp [*]; done), by repeat (first | exact Drawn0.refl _ | apply Drawn0.step)⟩
  · replace c4 := Bool.eq_false_iff.mpr c4
    subst c4
    have H1 : (some 0) = some r := by rw [if_neg (show ¬ (false = true) by decide)] at H; exact H
    clear H
    have H := H1
    clear H1
    obtain rfl := Option.some.inj H
    go_enter Try.func44, Try.ntmps44
    go_wp2_with (first | ((with_reducible refine gate_callee (f := 38) rfl ?_); refine goesL_ (some 7) rfl rfl Try.func38 (by kernel_rfl) rfl #[.int .i64 a0] rfl (by (try simp only [List.map_toArray, List.map_cons, List.map_nil]); first | done | rfl | (simp only [List.length_drop, List.length_take]; rfl)) ?_; (with_reducible refine (lictorref01_Right.calls a0 false _ A3.out).mono ?_); rintro e w' ⟨rfl, ⟨nd, rfl⟩⟩; refine ⟨_, rfl, ?_⟩))
    go_ret
    exact ⟨by first | rfl | (simp; done) | (simp [*]; done), by repeat (first | exact Drawn0.refl _ | apply Drawn0.step)⟩

/-! ### lictorlaw01_StampQuorums: function 8 -/
def lictorlaw01_StampQuorums.f (k : Nat) (a0 : Int) (a1 : Int) : Option (Bool) := (lictorlaw01_alive.f k).bind fun t125 => (if t125 = true then ((stamp_Right.f a0).bind fun t126 => ((lictorref01_Right.f a0).bind fun t127 => (if (t126 == t127) = true then ((stamp_Classic.f a0).bind fun t128 => ((lictorref01_Classic.f k a0).bind fun t129 => (if t128 = t129 then ((stamp_Fast.f a0).bind fun t130 => ((lictorref01_Fast.f k a0).bind fun t131 => (if t130 = t131 then ((stamp_Need.f a0 a1).bind fun t132 => ((lictorref01_Need.f k a0 a1).bind fun t133 => (some (t132 == t133)))) else (some false)))) else (some false)))) else (some false)))) else (some false))
theorem lictorlaw01_StampQuorums.mono : ∀ a0 a1 k, LeO (lictorlaw01_StampQuorums.f k a0 a1) (lictorlaw01_StampQuorums.f (k + 1) a0 a1) := by
  intro a0 a1 k
  unfold lictorlaw01_StampQuorums.f
  repeat' first
      | (with_reducible exact lictorlaw01_alive.mono _)
      | (with_reducible exact lictorref01_Classic.mono _ _)
      | (with_reducible exact lictorref01_Fast.mono _ _)
      | (with_reducible exact lictorref01_Need.mono _ _ _)
      | (with_reducible exact LeO.refl _)
      | (with_reducible exact LeO.none _)
      | (with_reducible refine LeO.ite ?_ ?_)
      | (with_reducible refine LeO.bind ?_ (fun _ => ?_))
      | exact lictorlaw01_alive.mono _
      | exact lictorref01_Classic.mono _ _
      | exact lictorref01_Fast.mono _ _
      | exact lictorref01_Need.mono _ _ _
      | exact LeO.none _
      | refine LeO.ite ?_ ?_
      | refine LeO.bind ?_ (fun _ => ?_)
set_option maxHeartbeats 8000000 in
set_option maxRecDepth 100000 in
theorem lictorlaw01_StampQuorums.calls (k : Nat) (a0 : Int) (a1 : Int) (r : Bool) (w : World) (h : lictorlaw01_StampQuorums.f k a0 a1 = some r) :
    Calls Try.prog 8 #[.int .i64 a0, .int .i64 a1] w fun e w' => e = .returned (.bool r) ∧ Drawn0 w w' := by
  have H : ((lictorlaw01_alive.f k).bind fun t125 => (if t125 = true then ((stamp_Right.f a0).bind fun t126 => ((lictorref01_Right.f a0).bind fun t127 => (if (t126 == t127) = true then ((stamp_Classic.f a0).bind fun t128 => ((lictorref01_Classic.f k a0).bind fun t129 => (if t128 = t129 then ((stamp_Fast.f a0).bind fun t130 => ((lictorref01_Fast.f k a0).bind fun t131 => (if t130 = t131 then ((stamp_Need.f a0 a1).bind fun t132 => ((lictorref01_Need.f k a0 a1).bind fun t133 => (some (t132 == t133)))) else (some false)))) else (some false)))) else (some false)))) else (some false))) = some r := h
  clear h
  replace H := Option.bind_eq_some_iff.mp H
  obtain ⟨t125, A30, H⟩ := H
  replace H : (if t125 = true then ((stamp_Right.f a0).bind fun t126 => ((lictorref01_Right.f a0).bind fun t127 => (if (t126 == t127) = true then ((stamp_Classic.f a0).bind fun t128 => ((lictorref01_Classic.f k a0).bind fun t129 => (if t128 = t129 then ((stamp_Fast.f a0).bind fun t130 => ((lictorref01_Fast.f k a0).bind fun t131 => (if t130 = t131 then ((stamp_Need.f a0 a1).bind fun t132 => ((lictorref01_Need.f k a0 a1).bind fun t133 => (some (t132 == t133)))) else (some false)))) else (some false)))) else (some false)))) else (some false)) = some r := H
  have A3 := Aside0.mk A30
  clear A30
  by_cases c4 : t125 = true
  · subst c4
    have H1 : ((stamp_Right.f a0).bind fun t126 => ((lictorref01_Right.f a0).bind fun t127 => (if (t126 == t127) = true then ((stamp_Classic.f a0).bind fun t128 => ((lictorref01_Classic.f k a0).bind fun t129 => (if t128 = t129 then ((stamp_Fast.f a0).bind fun t130 => ((lictorref01_Fast.f k a0).bind fun t131 => (if t130 = t131 then ((stamp_Need.f a0 a1).bind fun t132 => ((lictorref01_Need.f k a0 a1).bind fun t133 => (some (t132 == t133)))) else (some false)))) else (some false)))) else (some false)))) = some r := by rw [if_pos rfl] at H; exact H
    clear H
    have H := H1
    clear H1
    replace H := Option.bind_eq_some_iff.mp H
    obtain ⟨t126, A50, H⟩ := H
    replace H : ((lictorref01_Right.f a0).bind fun t127 => (if (t126 == t127) = true then ((stamp_Classic.f a0).bind fun t128 => ((lictorref01_Classic.f k a0).bind fun t129 => (if t128 = t129 then ((stamp_Fast.f a0).bind fun t130 => ((lictorref01_Fast.f k a0).bind fun t131 => (if t130 = t131 then ((stamp_Need.f a0 a1).bind fun t132 => ((lictorref01_Need.f k a0 a1).bind fun t133 => (some (t132 == t133)))) else (some false)))) else (some false)))) else (some false))) = some r := H
    have A5 := Aside0.mk A50
    clear A50
    replace H := Option.bind_eq_some_iff.mp H
    obtain ⟨t127, A60, H⟩ := H
    replace H : (if (t126 == t127) = true then ((stamp_Classic.f a0).bind fun t128 => ((lictorref01_Classic.f k a0).bind fun t129 => (if t128 = t129 then ((stamp_Fast.f a0).bind fun t130 => ((lictorref01_Fast.f k a0).bind fun t131 => (if t130 = t131 then ((stamp_Need.f a0 a1).bind fun t132 => ((lictorref01_Need.f k a0 a1).bind fun t133 => (some (t132 == t133)))) else (some false)))) else (some false)))) else (some false)) = some r := H
    have A6 := Aside0.mk A60
    clear A60
    by_cases c7 : (t126 == t127) = true
    · rw [if_pos c7] at H
      have c7b0 : (t126 == t127) = true := c7
      (try (have c7b1 : decide (t126 = t127) = true := by simpa using c7))
      (try (have c7b2 : (t126 == t127) = true := by simpa using c7))
      clear c7
      replace H := Option.bind_eq_some_iff.mp H
      obtain ⟨t128, A80, H⟩ := H
      replace H : ((lictorref01_Classic.f k a0).bind fun t129 => (if t128 = t129 then ((stamp_Fast.f a0).bind fun t130 => ((lictorref01_Fast.f k a0).bind fun t131 => (if t130 = t131 then ((stamp_Need.f a0 a1).bind fun t132 => ((lictorref01_Need.f k a0 a1).bind fun t133 => (some (t132 == t133)))) else (some false)))) else (some false))) = some r := H
      have A8 := Aside0.mk A80
      clear A80
      replace H := Option.bind_eq_some_iff.mp H
      obtain ⟨t129, A90, H⟩ := H
      replace H : (if t128 = t129 then ((stamp_Fast.f a0).bind fun t130 => ((lictorref01_Fast.f k a0).bind fun t131 => (if t130 = t131 then ((stamp_Need.f a0 a1).bind fun t132 => ((lictorref01_Need.f k a0 a1).bind fun t133 => (some (t132 == t133)))) else (some false)))) else (some false)) = some r := H
      have A9 := Aside0.mk A90
      clear A90
      by_cases c10 : t128 = t129
      · rw [if_pos c10] at H
        have c10b0 : (t128 == t129) = true := beq_iff_eq.mpr c10
        have c10b1 : (t128 != t129) = false := bne_eq_false_iff_eq.mpr c10
        clear c10
        replace H := Option.bind_eq_some_iff.mp H
        obtain ⟨t130, A110, H⟩ := H
        replace H : ((lictorref01_Fast.f k a0).bind fun t131 => (if t130 = t131 then ((stamp_Need.f a0 a1).bind fun t132 => ((lictorref01_Need.f k a0 a1).bind fun t133 => (some (t132 == t133)))) else (some false))) = some r := H
        have A11 := Aside0.mk A110
        clear A110
        replace H := Option.bind_eq_some_iff.mp H
        obtain ⟨t131, A120, H⟩ := H
        replace H : (if t130 = t131 then ((stamp_Need.f a0 a1).bind fun t132 => ((lictorref01_Need.f k a0 a1).bind fun t133 => (some (t132 == t133)))) else (some false)) = some r := H
        have A12 := Aside0.mk A120
        clear A120
        by_cases c13 : t130 = t131
        · rw [if_pos c13] at H
          have c13b0 : (t130 == t131) = true := beq_iff_eq.mpr c13
          have c13b1 : (t130 != t131) = false := bne_eq_false_iff_eq.mpr c13
          clear c13
          replace H := Option.bind_eq_some_iff.mp H
          obtain ⟨t132, A140, H⟩ := H
          replace H : ((lictorref01_Need.f k a0 a1).bind fun t133 => (some (t132 == t133))) = some r := H
          have A14 := Aside0.mk A140
          clear A140
          replace H := Option.bind_eq_some_iff.mp H
          obtain ⟨t133, A150, H⟩ := H
          replace H : (some (t132 == t133)) = some r := H
          have A15 := Aside0.mk A150
          clear A150
          obtain rfl := Option.some.inj H
          go_enter Try.func8, Try.ntmps8
          go_wp2_with (first | ((with_reducible refine gate_callee (f := 36) rfl ?_); refine goesL_ (some 5) rfl rfl Try.func36 (by kernel_rfl) rfl #[] rfl (by (try simp only [List.map_toArray, List.map_cons, List.map_nil]); first | done | rfl | (simp only [List.length_drop, List.length_take]; rfl)) ?_; (with_reducible refine (lictorlaw01_alive.calls k  true _ A3.out).mono ?_); rintro e w' ⟨rfl, ⟨nd, rfl⟩⟩; refine ⟨_, rfl, ?_⟩) | (go_at_call 37; (with_reducible refine (stamp_Right.calls a0 t126 _ A5.out).mono ?_); rintro e w' ⟨rfl, ⟨nd, rfl⟩⟩) | (go_at_call 38; (with_reducible refine (lictorref01_Right.calls a0 t127 _ A6.out).mono ?_); rintro e w' ⟨rfl, ⟨nd, rfl⟩⟩) | (go_at_call 39; (with_reducible refine (stamp_Classic.calls a0 t128 _ A8.out).mono ?_); rintro e w' ⟨rfl, ⟨nd, rfl⟩⟩) | (go_at_call 40; (with_reducible refine (lictorref01_Classic.calls k a0 t129 _ A9.out).mono ?_); rintro e w' ⟨rfl, ⟨nd, rfl⟩⟩) | (go_at_call 41; (with_reducible refine (stamp_Fast.calls a0 t130 _ A11.out).mono ?_); rintro e w' ⟨rfl, ⟨nd, rfl⟩⟩) | (go_at_call 42; (with_reducible refine (lictorref01_Fast.calls k a0 t131 _ A12.out).mono ?_); rintro e w' ⟨rfl, ⟨nd, rfl⟩⟩) | (go_at_call 43; (with_reducible refine (stamp_Need.calls a0 a1 t132 _ A14.out).mono ?_); rintro e w' ⟨rfl, ⟨nd, rfl⟩⟩) | (go_at_call 44; (with_reducible refine (lictorref01_Need.calls k a0 a1 t133 _ A15.out).mono ?_); rintro e w' ⟨rfl, ⟨nd, rfl⟩⟩))
          go_ret
          exact ⟨by first | rfl | (simp; done) | (simp [*]; done), by repeat (first | exact Drawn0.refl _ | apply Drawn0.step)⟩
        · rw [if_neg c13] at H
          have c13b0 : (t130 == t131) = false := beq_eq_false_iff_ne.mpr c13
          have c13b1 : (t130 != t131) = true := bne_iff_ne.mpr c13
          obtain rfl := Option.some.inj H
          go_enter Try.func8, Try.ntmps8
          go_wp2_with (first | ((with_reducible refine gate_callee (f := 36) rfl ?_); refine goesL_ (some 5) rfl rfl Try.func36 (by kernel_rfl) rfl #[] rfl (by (try simp only [List.map_toArray, List.map_cons, List.map_nil]); first | done | rfl | (simp only [List.length_drop, List.length_take]; rfl)) ?_; (with_reducible refine (lictorlaw01_alive.calls k  true _ A3.out).mono ?_); rintro e w' ⟨rfl, ⟨nd, rfl⟩⟩; refine ⟨_, rfl, ?_⟩) | (go_at_call 37; (with_reducible refine (stamp_Right.calls a0 t126 _ A5.out).mono ?_); rintro e w' ⟨rfl, ⟨nd, rfl⟩⟩) | (go_at_call 38; (with_reducible refine (lictorref01_Right.calls a0 t127 _ A6.out).mono ?_); rintro e w' ⟨rfl, ⟨nd, rfl⟩⟩) | (go_at_call 39; (with_reducible refine (stamp_Classic.calls a0 t128 _ A8.out).mono ?_); rintro e w' ⟨rfl, ⟨nd, rfl⟩⟩) | (go_at_call 40; (with_reducible refine (lictorref01_Classic.calls k a0 t129 _ A9.out).mono ?_); rintro e w' ⟨rfl, ⟨nd, rfl⟩⟩) | (go_at_call 41; (with_reducible refine (stamp_Fast.calls a0 t130 _ A11.out).mono ?_); rintro e w' ⟨rfl, ⟨nd, rfl⟩⟩) | (go_at_call 42; (with_reducible refine (lictorref01_Fast.calls k a0 t131 _ A12.out).mono ?_); rintro e w' ⟨rfl, ⟨nd, rfl⟩⟩))
          go_ret
          exact ⟨by first | rfl | (simp; done) | (simp [*]; done), by repeat (first | exact Drawn0.refl _ | apply Drawn0.step)⟩
      · rw [if_neg c10] at H
        have c10b0 : (t128 == t129) = false := beq_eq_false_iff_ne.mpr c10
        have c10b1 : (t128 != t129) = true := bne_iff_ne.mpr c10
        obtain rfl := Option.some.inj H
        go_enter Try.func8, Try.ntmps8
        go_wp2_with (first | ((with_reducible refine gate_callee (f := 36) rfl ?_); refine goesL_ (some 5) rfl rfl Try.func36 (by kernel_rfl) rfl #[] rfl (by (try simp only [List.map_toArray, List.map_cons, List.map_nil]); first | done | rfl | (simp only [List.length_drop, List.length_take]; rfl)) ?_; (with_reducible refine (lictorlaw01_alive.calls k  true _ A3.out).mono ?_); rintro e w' ⟨rfl, ⟨nd, rfl⟩⟩; refine ⟨_, rfl, ?_⟩) | (go_at_call 37; (with_reducible refine (stamp_Right.calls a0 t126 _ A5.out).mono ?_); rintro e w' ⟨rfl, ⟨nd, rfl⟩⟩) | (go_at_call 38; (with_reducible refine (lictorref01_Right.calls a0 t127 _ A6.out).mono ?_); rintro e w' ⟨rfl, ⟨nd, rfl⟩⟩) | (go_at_call 39; (with_reducible refine (stamp_Classic.calls a0 t128 _ A8.out).mono ?_); rintro e w' ⟨rfl, ⟨nd, rfl⟩⟩) | (go_at_call 40; (with_reducible refine (lictorref01_Classic.calls k a0 t129 _ A9.out).mono ?_); rintro e w' ⟨rfl, ⟨nd, rfl⟩⟩))
        go_ret
        exact ⟨by first | rfl | (simp; done) | (simp [*]; done), by repeat (first | exact Drawn0.refl _ | apply Drawn0.step)⟩
    · rw [if_neg c7] at H
      have c7b0 : (t126 == t127) = false := by simpa using c7
      (try (have c7b1 : decide (t126 = t127) = false := by simpa using c7))
      (try (have c7b2 : (t126 == t127) = false := by simpa using c7))
      (try (have c7b3 : ¬ (t126 = t127) := by simpa using c7))
      clear c7
      obtain rfl := Option.some.inj H
      go_enter Try.func8, Try.ntmps8
      go_wp2_with (first | ((with_reducible refine gate_callee (f := 36) rfl ?_); refine goesL_ (some 5) rfl rfl Try.func36 (by kernel_rfl) rfl #[] rfl (by (try simp only [List.map_toArray, List.map_cons, List.map_nil]); first | done | rfl | (simp only [List.length_drop, List.length_take]; rfl)) ?_; (with_reducible refine (lictorlaw01_alive.calls k  true _ A3.out).mono ?_); rintro e w' ⟨rfl, ⟨nd, rfl⟩⟩; refine ⟨_, rfl, ?_⟩) | (go_at_call 37; (with_reducible refine (stamp_Right.calls a0 t126 _ A5.out).mono ?_); rintro e w' ⟨rfl, ⟨nd, rfl⟩⟩) | (go_at_call 38; (with_reducible refine (lictorref01_Right.calls a0 t127 _ A6.out).mono ?_); rintro e w' ⟨rfl, ⟨nd, rfl⟩⟩))
      go_ret
      exact ⟨by first | rfl | (simp; done) | (simp [*]; done), by repeat (first | exact Drawn0.refl _ | apply Drawn0.step)⟩
  · replace c4 := Bool.eq_false_iff.mpr c4
    subst c4
    have H1 : (some false) = some r := by rw [if_neg (show ¬ (false = true) by decide)] at H; exact H
    clear H
    have H := H1
    clear H1
    obtain rfl := Option.some.inj H
    go_enter Try.func8, Try.ntmps8
    go_wp2_with (first | ((with_reducible refine gate_callee (f := 36) rfl ?_); refine goesL_ (some 5) rfl rfl Try.func36 (by kernel_rfl) rfl #[] rfl (by (try simp only [List.map_toArray, List.map_cons, List.map_nil]); first | done | rfl | (simp only [List.length_drop, List.length_take]; rfl)) ?_; (with_reducible refine (lictorlaw01_alive.calls k  false _ A3.out).mono ?_); rintro e w' ⟨rfl, ⟨nd, rfl⟩⟩; refine ⟨_, rfl, ?_⟩))
    go_ret
    exact ⟨by first | rfl | (simp; done) | (simp [*]; done), by repeat (first | exact Drawn0.refl _ | apply Drawn0.step)⟩

/-- THE ONE PURE STATEMENT of lictorlaw01_StampQuorums: yours. -/
def lictorlaw01_StampQuorums.Pure : Prop := ∀ (a0 : Int) (a1 : Int), (Lit.int .i64 a0).wf = true → (Lit.int .i64 a1).wf = true → ∃ k, lictorlaw01_StampQuorums.f k a0 a1 = some true
theorem lictorlaw01_StampQuorums.walk (P : lictorlaw01_StampQuorums.Pure) (a0 : Int) (a1 : Int) (w : World) (w0 : (Lit.int .i64 a0).wf = true) (w1 : (Lit.int .i64 a1).wf = true) :
    Calls Try.prog 8 #[.int .i64 a0, .int .i64 a1] w fun e w' => e = .returned (.bool true) ∧ Below w.heap.size w w' := by
  obtain ⟨k, h⟩ := P a0 a1 w0 w1
  refine (lictorlaw01_StampQuorums.calls k a0 a1 true w h).mono ?_
  rintro e w' ⟨rfl, hd⟩
  exact ⟨rfl, hd.below⟩

end Go.Proofs.Ytgeeicpjphdolaa.PStampQuorums
