/- The row of PredsTells out of its walk: for every input the law returns true and each argument reads as it did; no condition. -/
import Derived.Test.YtebhclgnpnlekaaRows
import Derived.Test.YtebhclgnpnlekaaPrTeL
namespace Go.Proofs.Ytebhclgnpnlekaa.predsTells
open Go.ChangeShapes Go.WideShapes Go.ChangeAt Go.RowKit
open Go.Proofs.Ytebhclgnpnlekaa.B
set_option linter.unusedVariables false
theorem own : ownKnob Try.prog.godebug = none := by kernel_rfl
theorem laidOut : laidOutB Try.prog = true := by kernel_rfl
set_option maxRecDepth 100000 in
theorem lifted (os : Os) (started : os.Started) (H : Type) (enc : TypeId × Value → H) :
    ReturnsInHanded {} Try.checked os 7 .any (Rows.predsTellsSpec.pre6 enc Try.prog Try.f7 Rows.predsTellsRow.domain false) (Rows.predsTellsSpec.post enc Try.prog Try.f7 false true false false) := by
  refine returnsInHanded_of_change_sized (C := Try.checked) own started (by kernel_rfl) Try.func7
    (ChangeSpec.witness6 (enc := enc) (C := Try.checked) false ⟨#[], #[.slice none 0 0, .slice none 0 0, .int .i64 0], []⟩ 8 (by kernel_rfl) (by kernel_rfl) (by kernel_rfl) (by kernel_rfl)) ?_
  intro W base args ds gs before hval0 hW hcnd hsz0 _
  have hval : ∀ (j : Nat) t v, Try.f7.params[j]? = some t → args[j]? = some v → Value.okWide Try.prog W .any base t v := hval0
  have hW' := hW
  obtain ⟨p, q, hA0, hV, rfl, hfz, hnd⟩ := hW
  have hA : DataW.TrodAll enc Try.prog W 0 (fun _ => true) true Try.f7.params.toList args.toList ds p := hA0
  rw [Try.params7] at hA hval
  have hAll := hA
  obtain ⟨v0, vs0, d0, ds0, p0, q0, hargs, rfl, rfl, h0, r0⟩ := trodAll_cons hA
  obtain ⟨v1, vs1, d1, ds1, p1, q1, rfl, rfl, rfl, h1, r1⟩ := trodAll_cons r0
  obtain ⟨v2, vs2, d2, ds2, p2, q2, rfl, rfl, rfl, h2, r2⟩ := trodAll_cons r1
  obtain ⟨rfl, rfl, rfl⟩ := trodAll_nil r2
  obtain rfl : args = #[v0, v1, v2] := by cases args; simp_all
  obtain ⟨rfl, rfl⟩ := trodVars_none hV
  obtain ⟨fu0, hf0⟩ := h0
  obtain ⟨a0, ha0⟩ := (Rep.opens_slice Try.underlying23 (by kernel_rfl) (by decide) Cmd.opens_cmd : Rep.Opens Try.prog (Rep.slice Cmd.cmdRep) 23).2 H enc W fu0 _ _ hf0
  obtain ⟨A0, c0, rfl, hl0, hn0, hr0⟩ := arg_slice Try.underlying23 (hval 0 23 v0 rfl rfl) ha0
  obtain ⟨fu1, hf1⟩ := h1
  obtain ⟨a1, ha1⟩ := (Rep.opens_slice Try.underlying23 (by kernel_rfl) (by decide) Cmd.opens_cmd : Rep.Opens Try.prog (Rep.slice Cmd.cmdRep) 23).2 H enc W fu1 _ _ hf1
  obtain ⟨A1, c1, rfl, hl1, hn1, hr1⟩ := arg_slice Try.underlying23 (hval 1 23 v1 rfl rfl) ha1
  obtain ⟨fu2, hf2⟩ := h2
  obtain ⟨a2, ha2⟩ := (Rep.opens_int Try.underlying3 (by kernel_rfl) : Rep.Opens Try.prog (Rep.int .i64) 3).2 H enc W fu2 _ _ hf2
  obtain ⟨rfl, hw2⟩ := arg_int Try.underlying3 (hval 2 3 v2 rfl rfl) ha2
  refine (Pr.tellsL_calls A0 c0 a0 A1 c1 a1 a2 W hl0 hn0 hr0 hl1 hn1 hr1 hw2).mono fun e W' ⟨he, bel⟩ => ?_
  subst he
  have back := trodAll_below laidOut bel (ts := [23, 23, 3]) (by
    intro t ht; simp only [List.mem_cons, List.not_mem_nil, or_false] at ht
    rcases ht with rfl | rfl | rfl
    · exact ⟨by kernel_rfl, of_decide_eq_true (by kernel_rfl)⟩
    · exact ⟨by kernel_rfl, of_decide_eq_true (by kernel_rfl)⟩
    · exact ⟨by kernel_rfl, of_decide_eq_true (by kernel_rfl)⟩) (by
    intro x hx; first | exact hW'.lt x hx | exact hW'.lt x (by simpa using hx) | exact hW'.lt x (by rw [List.append_nil]; exact hx)) hAll
  exact ⟨_, rfl, _, _, _, [], _, [], hW', trodAll_mk1 (shut_bool Try.underlying4 _), back, rfl, bel.frame _, fun h => by cases h⟩
theorem over : Rows.predsTellsRow.holds Try.pinned (OpenSpec.ofChange Rows.predsTellsSpec) :=
  OpenClaim.holds_of_wide 7 Try.f7 rfl rfl rfl rfl rfl rfl rfl ⟨rfl, rfl, rfl, rfl, rfl⟩ rfl rfl rfl rfl rfl (by kernel_rfl) Try.func7 (by kernel_rfl)
    (of_decide_eq_true (by kernel_rfl)) (by unfold Func.isWrapper; first | (rw [if_pos (by decide +kernel)]; kernel_rfl) | (rw [if_neg (by decide +kernel)]; exact ⟨rfl, rfl⟩))
    (fun os started H enc _ => lifted os started H enc)
end Go.Proofs.Ytebhclgnpnlekaa.predsTells
namespace Go.Proofs.Ytebhclgnpnlekaa
/-- The row, under a short name, for the claim. -/
theorem predsTells_holds : Rows.PredsTellsSaid := predsTells.over
end Go.Proofs.Ytebhclgnpnlekaa
