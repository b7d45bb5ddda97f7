/- The row of EntryBytes out of its walk: for every input the law returns true and each argument reads as it did; no condition. -/
import Derived.Test.YtebhclgnpnlekaaRows
import Derived.Test.YtebhclgnpnlekaaEntBytes
namespace Go.Proofs.Ytebhclgnpnlekaa.entryBytes
open Go.ChangeShapes Go.WideShapes Go.ChangeAt Go.RowKit
open Go.Proofs.Ytebhclgnpnlekaa.B
set_option linter.unusedVariables false
theorem own : ownKnob Try.prog.godebug = none := by kernel_rfl
theorem laidOut : laidOutB Try.prog = true := by kernel_rfl
set_option maxRecDepth 100000 in
theorem lifted (os : Os) (started : os.Started) (H : Type) (enc : TypeId × Value → H) :
    ReturnsInHanded {} Try.checked os 9 .any (Rows.entryBytesSpec.pre6 enc Try.prog Try.f9 Rows.entryBytesRow.domain false) (Rows.entryBytesSpec.post enc Try.prog Try.f9 false true false false) := by
  refine returnsInHanded_of_change_sized (C := Try.checked) own started (by kernel_rfl) Try.func9
    (ChangeSpec.witness6 (enc := enc) (C := Try.checked) false ⟨#[], #[.agg #[.int .i64 0, .int .i64 0, .int .i64 0, .int .i64 0, .int .i64 0, .int .i64 0, .int .i64 0, .int .i64 0, .int .i64 0, .int .i64 0, .int .i64 0, .slice none 0 0, .int .i64 0, .int .i64 0, .slice none 0 0, .bool false, .bool false, .int .i64 0, .slice none 0 0], .slice none 0 0], []⟩ 8 (by kernel_rfl) (by kernel_rfl) (by kernel_rfl) (by kernel_rfl)) ?_
  intro W base args ds gs before hval0 hW hcnd hsz0 _
  have hval : ∀ (j : Nat) t v, Try.f9.params[j]? = some t → args[j]? = some v → Value.okWide Try.prog W .any base t v := hval0
  have hW' := hW
  obtain ⟨p, q, hA0, hV, rfl, hfz, hnd⟩ := hW
  have hA : DataW.TrodAll enc Try.prog W 0 (fun _ => true) true Try.f9.params.toList args.toList ds p := hA0
  rw [Try.params9] at hA hval
  have hAll := hA
  obtain ⟨v0, vs0, d0, ds0, p0, q0, hargs, rfl, rfl, h0, r0⟩ := trodAll_cons hA
  obtain ⟨v1, vs1, d1, ds1, p1, q1, rfl, rfl, rfl, h1, r1⟩ := trodAll_cons r0
  obtain ⟨rfl, rfl, rfl⟩ := trodAll_nil r1
  obtain rfl : args = #[v0, v1] := by cases args; simp_all
  obtain ⟨rfl, rfl⟩ := trodVars_none hV
  obtain ⟨fu0, hf0⟩ := h0
  obtain ⟨a0, ha0⟩ := (EntRd.opens_ent : Rep.Opens Try.prog (EntRd.entRep) 70).2 H enc W fu0 _ _ hf0
  obtain ⟨cs0, rfl, hk0⟩ := arg_struct Try.underlying70 (hval 0 70 v0 rfl rfl) ha0
  obtain ⟨fu1, hf1⟩ := h1
  obtain ⟨a1, ha1⟩ := (Rep.opens_slice Try.underlying25 (by kernel_rfl) (by decide) (Rep.opens_int Try.underlying5 (by kernel_rfl)) : Rep.Opens Try.prog (Rep.slice (Rep.int .u8)) 25).2 H enc W fu1 _ _ hf1
  obtain ⟨A1, c1, rfl, hl1, hn1, hr1⟩ := arg_slice Try.underlying25 (hval 1 25 v1 rfl rfl) ha1
  refine (Ent.bytes_law cs0 a0 A1 c1 a1 W hk0 hl1 hn1 hr1).mono fun e W' ⟨he, bel⟩ => ?_
  subst he
  have back := trodAll_below laidOut bel (ts := [70, 25]) (by
    intro t ht; simp only [List.mem_cons, List.not_mem_nil, or_false] at ht
    rcases ht with rfl | rfl
    · exact ⟨by kernel_rfl, of_decide_eq_true (by kernel_rfl)⟩
    · exact ⟨by kernel_rfl, of_decide_eq_true (by kernel_rfl)⟩) (by
    intro x hx; first | exact hW'.lt x hx | exact hW'.lt x (by simpa using hx) | exact hW'.lt x (by rw [List.append_nil]; exact hx)) hAll
  exact ⟨_, rfl, _, _, _, [], _, [], hW', trodAll_mk1 (shut_bool Try.underlying4 _), back, rfl, bel.frame _, fun h => by cases h⟩
theorem over : Rows.entryBytesRow.holds Try.pinned (OpenSpec.ofChange Rows.entryBytesSpec) :=
  OpenClaim.holds_of_wide 9 Try.f9 rfl rfl rfl rfl rfl rfl rfl ⟨rfl, rfl, rfl, rfl, rfl⟩ rfl rfl rfl rfl rfl (by kernel_rfl) Try.func9 (by kernel_rfl)
    (of_decide_eq_true (by kernel_rfl)) (by unfold Func.isWrapper; first | (rw [if_pos (by decide +kernel)]; kernel_rfl) | (rw [if_neg (by decide +kernel)]; exact ⟨rfl, rfl⟩))
    (fun os started H enc _ => lifted os started H enc)
end Go.Proofs.Ytebhclgnpnlekaa.entryBytes
namespace Go.Proofs.Ytebhclgnpnlekaa
/-- The row, under a short name, for the claim. -/
theorem entryBytes_holds : Rows.EntryBytesSaid := entryBytes.over
end Go.Proofs.Ytebhclgnpnlekaa
