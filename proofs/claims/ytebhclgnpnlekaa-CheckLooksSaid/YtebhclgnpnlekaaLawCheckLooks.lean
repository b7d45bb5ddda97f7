/- The row of CheckLooks out of its walk: for every input the law returns true and each argument reads as it did; no condition. -/
import Derived.Test.YtebhclgnpnlekaaRows
import Derived.Test.YtebhclgnpnlekaaChkX
namespace Go.Proofs.Ytebhclgnpnlekaa.checkLooks
open Go.ChangeShapes Go.WideShapes Go.ChangeAt Go.RowKit
open Go.Proofs.Ytebhclgnpnlekaa.B
set_option linter.unusedVariables false
theorem own : ownKnob Try.prog.godebug = none := by kernel_rfl
theorem laidOut : laidOutB Try.prog = true := by kernel_rfl
set_option maxRecDepth 100000 in
theorem lifted (os : Os) (started : os.Started) (H : Type) (enc : TypeId × Value → H) :
    ReturnsInHanded {} Try.checked os 12 .any (Rows.checkLooksSpec.pre6 enc Try.prog Try.f12 Rows.checkLooksRow.domain false) (Rows.checkLooksSpec.post enc Try.prog Try.f12 false true false false) := by
  refine returnsInHanded_of_change_sized (C := Try.checked) own started (by kernel_rfl) Try.func12
    (ChangeSpec.witness6 (enc := enc) (C := Try.checked) false ⟨#[], #[.slice none 0 0, .int .i64 0], []⟩ 8 (by kernel_rfl) (by kernel_rfl) (by kernel_rfl) (by kernel_rfl)) ?_
  intro W base args ds gs before hval0 hW hcnd hsz0 _
  have hval : ∀ (j : Nat) t v, Try.f12.params[j]? = some t → args[j]? = some v → Value.okWide Try.prog W .any base t v := hval0
  have hW' := hW
  obtain ⟨p, q, hA0, hV, rfl, hfz, hnd⟩ := hW
  have hA : DataW.TrodAll enc Try.prog W 0 (fun _ => true) true Try.f12.params.toList args.toList ds p := hA0
  rw [Try.params12] at hA hval
  have hAll := hA
  obtain ⟨v0, vs0, d0, ds0, p0, q0, hargs, rfl, rfl, h0, r0⟩ := trodAll_cons hA
  obtain ⟨v1, vs1, d1, ds1, p1, q1, rfl, rfl, rfl, h1, r1⟩ := trodAll_cons r0
  obtain ⟨rfl, rfl, rfl⟩ := trodAll_nil r1
  obtain rfl : args = #[v0, v1] := by cases args; simp_all
  obtain ⟨rfl, rfl⟩ := trodVars_none hV
  obtain ⟨fu0, hf0⟩ := h0
  obtain ⟨a0, ha0⟩ := (Rep.opens_slice Try.underlying111 (by kernel_rfl) (by decide) Chk.opens_view : Rep.Opens Try.prog (Rep.slice Chk.viewRep) 111).2 H enc W fu0 _ _ hf0
  obtain ⟨A0, c0, rfl, hl0, hn0, hr0⟩ := arg_slice Try.underlying111 (hval 0 111 v0 rfl rfl) ha0
  obtain ⟨fu1, hf1⟩ := h1
  obtain ⟨a1, ha1⟩ := (Rep.opens_int Try.underlying112 (by kernel_rfl) : Rep.Opens Try.prog (Rep.int .i64) 112).2 H enc W fu1 _ _ hf1
  obtain ⟨rfl, hw1⟩ := arg_int Try.underlying112 (hval 1 112 v1 rfl rfl) ha1
  refine (Chk.looksL_calls A0 c0 a0 a1 W hl0 hn0 hr0 hw1).mono fun e W' ⟨he, bel⟩ => ?_
  subst he
  have back := trodAll_below laidOut bel (ts := [111, 112]) (by
    intro t ht; simp only [List.mem_cons, List.not_mem_nil, or_false] at ht
    rcases ht with rfl | rfl
    · exact ⟨by kernel_rfl, of_decide_eq_true (by kernel_rfl)⟩
    · exact ⟨by kernel_rfl, of_decide_eq_true (by kernel_rfl)⟩) (by
    intro x hx; first | exact hW'.lt x hx | exact hW'.lt x (by simpa using hx) | exact hW'.lt x (by rw [List.append_nil]; exact hx)) hAll
  exact ⟨_, rfl, _, _, _, [], _, [], hW', trodAll_mk1 (shut_bool Try.underlying4 _), back, rfl, bel.frame _, fun h => by cases h⟩
theorem over : Rows.checkLooksRow.holds Try.pinned (OpenSpec.ofChange Rows.checkLooksSpec) :=
  OpenClaim.holds_of_wide 12 Try.f12 rfl rfl rfl rfl rfl rfl rfl ⟨rfl, rfl, rfl, rfl, rfl⟩ rfl rfl rfl rfl rfl (by kernel_rfl) Try.func12 (by kernel_rfl)
    (of_decide_eq_true (by kernel_rfl)) (by unfold Func.isWrapper; first | (rw [if_pos (by decide +kernel)]; kernel_rfl) | (rw [if_neg (by decide +kernel)]; exact ⟨rfl, rfl⟩))
    (fun os started H enc _ => lifted os started H enc)
end Go.Proofs.Ytebhclgnpnlekaa.checkLooks
namespace Go.Proofs.Ytebhclgnpnlekaa
/-- The row, under a short name, for the claim. -/
theorem checkLooks_holds : Rows.CheckLooksSaid := checkLooks.over
end Go.Proofs.Ytebhclgnpnlekaa
