/- The row of OrderTimes out of its walk: for every input the law returns true and each argument reads as it did; no condition. -/
import Derived.Test.YtebhclgnpnlekaaRows
import Derived.Test.YtebhclgnpnlekaaTimT
namespace Go.Proofs.Ytebhclgnpnlekaa.orderTimes
open Go.ChangeShapes Go.WideShapes Go.ChangeAt Go.RowKit
open Go.Proofs.Ytebhclgnpnlekaa.B
set_option linter.unusedVariables false
theorem own : ownKnob Try.prog.godebug = none := by kernel_rfl
theorem laidOut : laidOutB Try.prog = true := by kernel_rfl
set_option maxRecDepth 100000 in
theorem lifted (os : Os) (started : os.Started) (H : Type) (enc : TypeId × Value → H) :
    ReturnsInHanded {} Try.checked os 11 .any (Rows.orderTimesSpec.pre6 enc Try.prog Try.f11 Rows.orderTimesRow.domain false) (Rows.orderTimesSpec.post enc Try.prog Try.f11 false true false false) := by
  refine returnsInHanded_of_change_sized (C := Try.checked) own started (by kernel_rfl) Try.func11
    (ChangeSpec.witness6 (enc := enc) (C := Try.checked) false ⟨#[], #[.slice none 0 0, .int .u64 0, .int .u32 0], []⟩ 8 (by kernel_rfl) (by kernel_rfl) (by kernel_rfl) (by kernel_rfl)) ?_
  intro W base args ds gs before hval0 hW hcnd hsz0 _
  have hval : ∀ (j : Nat) t v, Try.f11.params[j]? = some t → args[j]? = some v → Value.okWide Try.prog W .any base t v := hval0
  have hW' := hW
  obtain ⟨p, q, hA0, hV, rfl, hfz, hnd⟩ := hW
  have hA : DataW.TrodAll enc Try.prog W 0 (fun _ => true) true Try.f11.params.toList args.toList ds p := hA0
  rw [Try.params11] at hA hval
  have hAll := hA
  obtain ⟨v0, vs0, d0, ds0, p0, q0, hargs, rfl, rfl, h0, r0⟩ := trodAll_cons hA
  obtain ⟨v1, vs1, d1, ds1, p1, q1, rfl, rfl, rfl, h1, r1⟩ := trodAll_cons r0
  obtain ⟨v2, vs2, d2, ds2, p2, q2, rfl, rfl, rfl, h2, r2⟩ := trodAll_cons r1
  obtain ⟨rfl, rfl, rfl⟩ := trodAll_nil r2
  obtain rfl : args = #[v0, v1, v2] := by cases args; simp_all
  obtain ⟨rfl, rfl⟩ := trodVars_none hV
  obtain ⟨fu0, hf0⟩ := h0
  obtain ⟨a0, ha0⟩ := (Rep.opens_slice Try.underlying101 (by kernel_rfl) (by decide) Ord.opens_item : Rep.Opens Try.prog (Rep.slice Ord.itemRep) 101).2 H enc W fu0 _ _ hf0
  obtain ⟨A0, c0, rfl, hl0, hn0, hr0⟩ := arg_slice Try.underlying101 (hval 0 101 v0 rfl rfl) ha0
  obtain ⟨fu1, hf1⟩ := h1
  obtain ⟨a1, ha1⟩ := (Rep.opens_int Try.underlying102 (by kernel_rfl) : Rep.Opens Try.prog (Rep.int .u64) 102).2 H enc W fu1 _ _ hf1
  obtain ⟨rfl, hw1⟩ := arg_int Try.underlying102 (hval 1 102 v1 rfl rfl) ha1
  obtain ⟨fu2, hf2⟩ := h2
  obtain ⟨a2, ha2⟩ := (Rep.opens_int Try.underlying103 (by kernel_rfl) : Rep.Opens Try.prog (Rep.int .u32) 103).2 H enc W fu2 _ _ hf2
  obtain ⟨rfl, hw2⟩ := arg_int Try.underlying103 (hval 2 103 v2 rfl rfl) ha2
  refine (Ord.timesL_calls A0 c0 a0 a1 a2 W hl0 hn0 hr0 hw1 hw2).mono fun e W' ⟨he, bel⟩ => ?_
  subst he
  have back := trodAll_below laidOut bel (ts := [101, 102, 103]) (by
    intro t ht; simp only [List.mem_cons, List.not_mem_nil, or_false] at ht
    rcases ht with rfl | rfl | rfl
    · exact ⟨by kernel_rfl, of_decide_eq_true (by kernel_rfl)⟩
    · exact ⟨by kernel_rfl, of_decide_eq_true (by kernel_rfl)⟩
    · exact ⟨by kernel_rfl, of_decide_eq_true (by kernel_rfl)⟩) (by
    intro x hx; first | exact hW'.lt x hx | exact hW'.lt x (by simpa using hx) | exact hW'.lt x (by rw [List.append_nil]; exact hx)) hAll
  exact ⟨_, rfl, _, _, _, [], _, [], hW', trodAll_mk1 (shut_bool Try.underlying4 _), back, rfl, bel.frame _, fun h => by cases h⟩
theorem over : Rows.orderTimesRow.holds Try.pinned (OpenSpec.ofChange Rows.orderTimesSpec) :=
  OpenClaim.holds_of_wide 11 Try.f11 rfl rfl rfl rfl rfl rfl rfl ⟨rfl, rfl, rfl, rfl, rfl⟩ rfl rfl rfl rfl rfl (by kernel_rfl) Try.func11 (by kernel_rfl)
    (of_decide_eq_true (by kernel_rfl)) (by unfold Func.isWrapper; first | (rw [if_pos (by decide +kernel)]; kernel_rfl) | (rw [if_neg (by decide +kernel)]; exact ⟨rfl, rfl⟩))
    (fun os started H enc _ => lifted os started H enc)
end Go.Proofs.Ytebhclgnpnlekaa.orderTimes
namespace Go.Proofs.Ytebhclgnpnlekaa
/-- The row, under a short name, for the claim. -/
theorem orderTimes_holds : Rows.OrderTimesSaid := orderTimes.over
end Go.Proofs.Ytebhclgnpnlekaa
