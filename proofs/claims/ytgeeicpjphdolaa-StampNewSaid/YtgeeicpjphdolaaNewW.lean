/- For all t, b and who: what the new timestamps and ballots of package stamp are above, and whose they are; no condition. -/
import Derived.Test.YtgeeicpjphdolaaPStampNewx1
import Derived.Test.YtgeeicpjphdolaaB
namespace Go.Proofs.Ytgeeicpjphdolaa.StampNewAid
open Go.RowKit Go.Proofs.Ytgeeicpjphdolaa.PStampNew Go.Proofs.YtgeeicpjphdolaaW.PrintWords Go.Proofs.YtgeeicpjphdolaaW.PrintLast Go.Proofs.YtgeeicpjphdolaaW.PrintMore

theorem alive_ok : lictorlaw01_alive.f 20 = some true := by decide +kernel

theorem drawn_below {w w' : World} {o : Obj} (h : Drawn0 (w.alloc o) w') : Below w.heap.size w w' :=
  ((Below.refl _ _).alloc (Nat.le_refl _) o).trans (h.below.mono (by simp))

set_option maxHeartbeats 4000000 in
set_option maxRecDepth 100000 in
theorem walk (t b p0 q0 x ex y c g : Int) (vt : Bool) (w : World) (hp : 0 ≤ p0 ∧ p0 ≤ 255) (hq : 0 ≤ q0 ∧ q0 ≤ 255) 
   (H1 : Aside0 (stamp_Next.f 20 t (p0 % 9) = some (x, ex))) (H2 : Aside0 (stamp_Next.f 20 t (q0 % 9) = some (y, ex))) (H3 : Aside0 (stamp_Above.f 20 b (p0 % 9) 9 = some (c, g)))
   (HV : Aside0 (stamp_Valid.f t = some vt))
   (hx : (ex == 0) = false ∨ ((ex == 0) = true ∧ Aside0 (ex = 0) ∧ (vt = false ∨ vt = true ∧ decide (x ≤ t) = false) ∧ Aside0 (stamp_Node.f x = some (p0 % 9)) ∧ Aside0 (stamp_Valid.f x = some true) ∧ ((x == y) = (p0 % 9 == q0 % 9))))
   (hg : (g == 0) = false ∨ ((g == 0) = true ∧ decide (c ≤ b) = false ∧ decide (c < 2) = false ∧ Aside0 (stamp_Owner.f c 9 = some (p0 % 9)))) :
    Calls Try.prog 12 #[.int .i64 t, .int .i64 b, .agg #[.int .u8 p0, .int .u8 q0]] w fun e w' => e = .returned (.bool true) ∧ Below w.heap.size w w' := by
  have HA : Aside0 (lictorlaw01_alive.f 20 = some true) := ⟨alive_ok⟩
  rcases hx with hx | ⟨hx, HE, hvt, HN, HVX, hxy⟩
  · have hxn : (ex != 0) = true := by simp [bne, hx]
    rcases hg with hg | ⟨hg, hc1, hc2, HO⟩
    all_goals
      go_enter Try.func12, Try.ntmps12
      go_wp2_with (first | (go_at_call 47; (with_reducible refine (stamp_Next.calls 20 t (p0 % 9) x ex _ H1.out).mono ?_); rintro e w' ⟨rfl, ⟨nd, rfl⟩⟩) | (go_at_call 47; (with_reducible refine (stamp_Next.calls 20 t (q0 % 9) y ex _ H2.out).mono ?_); rintro e w' ⟨rfl, ⟨nd, rfl⟩⟩) | (go_at_call 55; (with_reducible refine (stamp_Above.calls 20 b (p0 % 9) 9 c g _ H3.out).mono ?_); rintro e w' ⟨rfl, ⟨nd, rfl⟩⟩) | (go_at_call 57; (with_reducible refine (stamp_Owner.calls c 9 (p0 % 9) _ HO.out).mono ?_); rintro e w' ⟨rfl, ⟨nd, rfl⟩⟩) | (go_at_call 36; (with_reducible refine (lictorlaw01_alive.calls 20 true _ HA.out).mono ?_); rintro e w' ⟨rfl, ⟨nd, rfl⟩⟩))
      go_ret
      exact ⟨by simp, drawn_below (by repeat (first | exact Drawn0.refl _ | apply Drawn0.step))⟩
  · have hxn : (ex != 0) = false := by simp [bne, hx]
    rcases hvt with rfl | ⟨rfl, hle⟩
    all_goals
      rcases hg with hg | ⟨hg, hc1, hc2, HO⟩
      all_goals
        obtain ⟨eq, heq⟩ : ∃ z, (p0 % 9 == q0 % 9) = z := ⟨_, rfl⟩
        rw [heq] at hxy
        go_enter Try.func12, Try.ntmps12
        go_wp2_with (first | (go_at_call 47; (with_reducible refine (stamp_Next.calls 20 t (p0 % 9) x ex _ H1.out).mono ?_); rintro e w' ⟨rfl, ⟨nd, rfl⟩⟩) | (go_at_call 47; (with_reducible refine (stamp_Next.calls 20 t (q0 % 9) y ex _ H2.out).mono ?_); rintro e w' ⟨rfl, ⟨nd, rfl⟩⟩) | (go_at_call 55; (with_reducible refine (stamp_Above.calls 20 b (p0 % 9) 9 c g _ H3.out).mono ?_); rintro e w' ⟨rfl, ⟨nd, rfl⟩⟩) | (go_at_call 57; (with_reducible refine (stamp_Owner.calls c 9 (p0 % 9) _ HO.out).mono ?_); rintro e w' ⟨rfl, ⟨nd, rfl⟩⟩) | (go_at_call 36; (with_reducible refine (lictorlaw01_alive.calls 20 true _ HA.out).mono ?_); rintro e w' ⟨rfl, ⟨nd, rfl⟩⟩) | (go_at_call 49; (with_reducible refine (stamp_Valid.calls t _ _ HV.out).mono ?_); rintro e w' ⟨rfl, ⟨nd, rfl⟩⟩) | (go_at_call 49; (with_reducible refine (stamp_Valid.calls x _ _ HVX.out).mono ?_); rintro e w' ⟨rfl, ⟨nd, rfl⟩⟩) | (go_at_call 53; (with_reducible refine (stamp_Node.calls x _ _ HN.out).mono ?_); rintro e w' ⟨rfl, ⟨nd, rfl⟩⟩))
        go_ret
        exact ⟨by simp, drawn_below (by repeat (first | exact Drawn0.refl _ | apply Drawn0.step))⟩

theorem int_bounds {a : Int} (h : (Lit.int .i64 a).wf = true) : -9223372036854775808 ≤ a ∧ a ≤ 9223372036854775807 := by
  have hmin : IntKind.i64.min = -9223372036854775808 := rfl
  have hmax : IntKind.i64.max = 9223372036854775807 := rfl
  simp only [Lit.wf, Bool.and_eq_true, decide_eq_true_eq] at h; omega
theorem u8_bounds {a : Int} (h : (Lit.int .u8 a).wf = true) : 0 ≤ a ∧ a ≤ 255 := bounds_u8 h

/-- The count of what is told. -/
def cnt (t : Int) (vt : Bool) : Int := if vt then t / 16 else 0
theorem valid_spec (t : Int) : ∃ vt, stamp_Valid.f t = some vt ∧ (vt = true ↔ 16 ≤ t ∧ t < 1048576 ∧ t % 16 < 9) := by
  unfold stamp_Valid.f
  by_cases h1 : t ≥ 16
  · have e : Int.tmod t 16 = t % 16 := Int.tmod_eq_emod_of_nonneg (by omega)
    by_cases h2 : t < 1048576
    · refine ⟨_, by rw [if_pos h1, if_pos h2], ?_⟩
      rw [decide_eq_true_iff, e]; omega
    · exact ⟨false, by rw [if_pos h1, if_neg h2], by simp; omega⟩
  · exact ⟨false, by rw [if_neg h1], by simp; omega⟩
theorem next_spec (t p : Int) (vt : Bool) (hv : stamp_Valid.f t = some vt) (hs : vt = true ↔ 16 ≤ t ∧ t < 1048576 ∧ t % 16 < 9) (hp : 0 ≤ p ∧ p < 9) :
    stamp_Next.f 20 t p = some (if cnt t vt + 1 ≥ 65536 then (0, 8) else (16 * (cnt t vt + 1) + p, 0)) := by
  have hc : stamp_Count.f t = some (cnt t vt) := by
    unfold stamp_Count.f cnt
    rw [hv]; simp only [Option.bind_some]
    cases vt with
    | false => rfl
    | true =>
      have := hs.1 rfl
      have e : Int.tdiv t 16 = t / 16 := Int.tdiv_eq_ediv_of_nonneg (by omega)
      rw [if_pos rfl, if_pos rfl, e]; congr 1; unfold wrap64; omega
  have hcb : 0 ≤ cnt t vt ∧ cnt t vt < 65536 := by
    unfold cnt; cases vt with
    | false => simp
    | true => have := hs.1 rfl; rw [if_pos rfl]; omega
  generalize cnt t vt = c at hc hcb
  unfold stamp_Next.f stamp_Make.f
  rw [hc]
  have e1 : wrap64 (c + 1) = c + 1 := by unfold wrap64; omega
  have e2 : decide (c + 1 < 1) = false := by simp; omega
  simp only [Option.bind_some, e1]
  rw [if_neg (by omega), if_neg (by omega)]
  simp only [stamp_Make.j0, e2]
  rw [if_neg (by simp)]
  by_cases hge : c + 1 ≥ 65536
  · rw [if_pos hge, if_pos hge]; rfl
  · rw [if_neg hge, if_neg hge]
    have e3 : wrap64 (wrap64 (16 * (c + 1)) + p) = 16 * (c + 1) + p := by unfold wrap64; omega
    rw [e3]; rfl
theorem above_spec (b p : Int) (hb : -9223372036854775808 ≤ b) (hp : 0 ≤ p ∧ p < 9) :
    ∃ c g, stamp_Above.f 20 b p 9 = some (c, g) ∧ (g = 0 → b < c ∧ 2 ≤ c ∧ stamp_Owner.f c 9 = some p) := by
  have hr : stamp_Right.f 9 = some true := by decide
  have e1 : decide (p ≥ 9) = false := by simp; omega
  have ew : wrap64 (2 + p) = 2 + p := by unfold wrap64; omega
  have hown : ∀ c, 2 ≤ c → c ≤ 1048576 → (c - 2) % 9 = p → stamp_Owner.f c 9 = some p := by
    intro c h2 hm he
    unfold stamp_Owner.f
    have e : Int.tmod (c - 2) 9 = (c - 2) % 9 := Int.tmod_eq_emod_of_nonneg (by omega)
    have ew : wrap64 (c - 2) = c - 2 := by unfold wrap64; omega
    rw [hr]; simp only [Option.bind_some, if_true]
    rw [if_neg (by omega), if_neg (by omega), if_neg (by omega), ew, e, he]
  simp only [stamp_Above.f, hr, Option.bind_some, if_true]
  rw [if_neg (by omega)]
  simp only [stamp_Above.j0, e1, ew]
  rw [if_neg (by simp)]
  by_cases hb1 : b ≥ 1048576
  · rw [if_pos hb1]; exact ⟨_, _, rfl, fun h => by omega⟩
  · rw [if_neg hb1]
    by_cases hge : b ≥ 2 + p
    · rw [if_pos hge, if_neg (by omega)]
      have ed : Int.tdiv (wrap64 (b - (2 + p))) 9 = (b - (2 + p)) / 9 := by
        have : wrap64 (b - (2 + p)) = b - (2 + p) := by unfold wrap64; omega
        rw [this]; exact Int.tdiv_eq_ediv_of_nonneg (by omega)
      have ek : wrap64 (2 + p + wrap64 (wrap64 (wrap64 ((b - (2 + p)) / 9) + 1) * 9)) = 2 + p + ((b - (2 + p)) / 9 + 1) * 9 := by unfold wrap64; omega
      rw [ed, ek]
      by_cases hm : 2 + p + ((b - (2 + p)) / 9 + 1) * 9 > 1048576
      · rw [if_pos hm]; exact ⟨_, _, rfl, fun h => by omega⟩
      · rw [if_neg hm]
        exact ⟨_, _, rfl, fun _ => ⟨by omega, by omega, hown _ (by omega) (by omega) (by omega)⟩⟩
    · rw [if_neg hge]
      rw [if_neg (by omega)]
      exact ⟨_, _, rfl, fun _ => ⟨by omega, by omega, hown _ (by omega) (by omega) (by omega)⟩⟩

theorem law (t b : Int) (cs : Array Value) (xs : List Int) (w : World) (ht : (Lit.int .i64 t).wf = true) (hb : (Lit.int .i64 b).wf = true) (hk : (B.Rep.arr (B.Rep.int .u8) 2).K (fun _ => True) w xs cs.toList) :
    Calls Try.prog 12 #[.int .i64 t, .int .i64 b, .agg cs] w fun e w' => e = .returned (.bool true) ∧ Below w.heap.size w w' := by
  obtain ⟨hl, hcl, _, hx⟩ := hk
  match xs, hl with
  | [p0, q0], _ =>
    obtain ⟨e0, hw0⟩ := hx 0 p0 rfl
    obtain ⟨e1, hw1⟩ := hx 1 q0 rfl
    obtain rfl : cs = #[.int .u8 p0, .int .u8 q0] := by
      match cs, hcl, e0, e1 with
      | ⟨[c0, c1]⟩, _, e0, e1 =>
        have f0 : c0 = .int .u8 p0 := by simpa [B.Rep.int] using e0
        have f1 : c1 = .int .u8 q0 := by simpa [B.Rep.int] using e1
        rw [f0, f1]
    have hp := u8_bounds hw0
    have hq := u8_bounds hw1
    obtain ⟨vt, hv, hs⟩ := valid_spec t
    have n1 := next_spec t (p0 % 9) vt hv hs (by omega)
    have n2 := next_spec t (q0 % 9) vt hv hs (by omega)
    obtain ⟨c, g, ha, hg⟩ := above_spec b (p0 % 9) (int_bounds hb).1 (by omega)
    have hcb : 0 ≤ cnt t vt ∧ cnt t vt < 65536 := by
      unfold cnt; cases vt with
      | false => simp
      | true => have := hs.1 rfl; rw [if_pos rfl]; omega
    have hg' : (g == 0) = false ∨ ((g == 0) = true ∧ decide (c ≤ b) = false ∧ decide (c < 2) = false ∧ Aside0 (stamp_Owner.f c 9 = some (p0 % 9))) := by
      by_cases h : g = 0
      · obtain ⟨h1, h2, h3⟩ := hg h
        exact .inr ⟨by simp [h], by simp; omega, by simp; omega, ⟨h3⟩⟩
      · exact .inl (by simp [h])
    by_cases hge : cnt t vt + 1 ≥ 65536
    · rw [if_pos hge] at n1 n2
      exact walk t b p0 q0 0 8 0 c g vt w hp hq ⟨n1⟩ ⟨n2⟩ ⟨ha⟩ ⟨hv⟩ (.inl (by decide)) hg'
    · rw [if_neg hge] at n1 n2
      have hvx : ∀ p, 0 ≤ p → p < 9 → stamp_Valid.f (16 * (cnt t vt + 1) + p) = some true := by
        intro p h0 h9
        obtain ⟨b, hb, hs⟩ := valid_spec (16 * (cnt t vt + 1) + p)
        rw [hb, hs.2 (by omega)]
      have hvx1 := hvx (p0 % 9) (by omega) (by omega)
      refine walk t b p0 q0 _ 0 _ c g vt w hp hq ⟨n1⟩ ⟨n2⟩ ⟨ha⟩ ⟨hv⟩ (.inr ⟨by decide, ⟨rfl⟩, ?_, ⟨?_⟩, ⟨hvx1⟩, ?_⟩) hg'
      · cases vt with
        | false => exact .inl rfl
        | true =>
          have := hs.1 rfl
          refine .inr ⟨rfl, ?_⟩
          simp only [cnt, if_true, decide_eq_false_iff_not]; omega
      · unfold stamp_Node.f
        rw [hvx1]
        have e : Int.tmod (16 * (cnt t vt + 1) + p0 % 9) 16 = (16 * (cnt t vt + 1) + p0 % 9) % 16 := Int.tmod_eq_emod_of_nonneg (by omega)
        simp only [Option.bind_some, if_true, e]; congr 1; omega
      · rw [Bool.eq_iff_iff, beq_iff_eq, beq_iff_eq]; omega
end Go.Proofs.Ytgeeicpjphdolaa.StampNewAid
