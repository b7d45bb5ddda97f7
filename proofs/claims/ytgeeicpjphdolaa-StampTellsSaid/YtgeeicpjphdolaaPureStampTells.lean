/- For all integers t, count and node the timestamp functions of package stamp (Make, Next, Valid, Count, Node) answer as the document's reference does; no condition. -/
import Derived.Test.YtgeeicpjphdolaaPStampTellsx2
namespace Go.Proofs.Ytgeeicpjphdolaa.Pure
open Go.RowKit Go.Proofs.Ytgeeicpjphdolaa.PStampTells Go.Proofs.YtgeeicpjphdolaaW.PrintWords Go.Proofs.YtgeeicpjphdolaaW.PrintLast
namespace StampTellsAid

theorem alive_ok : lictorlaw01_alive.f 20 = some true := by decide +kernel

theorem int_bounds {a : Int} (h : (Lit.int .i64 a).wf = true) : -9223372036854775808 ≤ a ∧ a ≤ 9223372036854775807 := by
  have hmin : IntKind.i64.min = -9223372036854775808 := rfl
  have hmax : IntKind.i64.max = 9223372036854775807 := rfl
  simp only [Lit.wf, Bool.and_eq_true, decide_eq_true_eq] at h; omega

/-- What Make comes to. -/
def makeR (a0 a1 : Int) : Int × Int := if a1 < 0 ∨ a1 ≥ 9 ∨ a0 < 1 then (0, 1) else if a0 ≥ 65536 then (0, 8) else (wrap64 (wrap64 (16 * a0) + a1), 0)

theorem make_eq (a0 a1 : Int) : stamp_Make.f 20 a0 a1 = some (makeR a0 a1) := by
  unfold stamp_Make.f makeR
  by_cases h : a1 < 0
  · simp [h, stamp_Make.j0]
  · by_cases h2 : a1 ≥ 9
    · simp [h, h2, stamp_Make.j0]
    · by_cases h3 : a0 < 1
      · simp [h, h2, h3, stamp_Make.j0]
      · by_cases h4 : a0 ≥ 65536
        · simp [h, h2, h3, h4, stamp_Make.j0]
        · simp [h, h2, h3, h4, stamp_Make.j0]

theorem ref_make_eq (a0 a1 : Int) : lictorref01_Make.f 20 a0 a1 = some (makeR a0 a1) := by
  unfold lictorref01_Make.f makeR
  by_cases h : a1 < 0
  · simp [h, lictorref01_Make.j0]
  · by_cases h2 : a1 ≥ 9
    · have h2' : a1 > 8 := by omega
      simp [h, h2, h2', lictorref01_Make.j0]
    · have h2' : ¬ a1 > 8 := by omega
      by_cases h3 : a0 < 1
      · simp [h, h2, h2', h3, lictorref01_Make.j0]
      · by_cases h4 : a0 ≥ 65536
        · have h4' : a0 > 65535 := by omega
          simp [h, h2, h2', h3, h4, h4', lictorref01_Make.j0]
        · have h4' : ¬ a0 > 65535 := by omega
          simp [h, h2, h2', h3, h4, h4', lictorref01_Make.j0]

theorem valid_eq (t : Int) : stamp_Valid.f t = lictorref01_Valid.f t := by
  unfold stamp_Valid.f lictorref01_Valid.f
  have : (Int.tmod t 16 < 9) ↔ (Int.tmod t 16 ≤ 8) := by omega
  simp [this]

theorem valid_some (t : Int) : ∃ b, stamp_Valid.f t = some b := by
  unfold stamp_Valid.f
  split
  · split <;> exact ⟨_, rfl⟩
  · exact ⟨_, rfl⟩

end StampTellsAid
open StampTellsAid

theorem StampTells : lictorlaw01_StampTells.Pure := by
  intro t c n _ _ _
  refine ⟨20, ?_⟩
  obtain ⟨b, hb⟩ := valid_some t
  have hb' : lictorref01_Valid.f t = some b := by rw [← valid_eq, hb]
  have hcount : stamp_Count.f t = lictorref01_Count.f t := by simp only [stamp_Count.f, lictorref01_Count.f, hb, hb']
  have hnode : stamp_Node.f t = lictorref01_Node.f t := by simp only [stamp_Node.f, lictorref01_Node.f, hb, hb']
  have hcs : ∃ x, lictorref01_Count.f t = some x := by
    simp only [lictorref01_Count.f, hb', Option.bind_some]; split <;> exact ⟨_, rfl⟩
  have hns : ∃ x, lictorref01_Node.f t = some x := by
    simp only [lictorref01_Node.f, hb', Option.bind_some]; split <;> exact ⟨_, rfl⟩
  obtain ⟨x, hx⟩ := hcs
  obtain ⟨y, hy⟩ := hns
  simp [lictorlaw01_StampTells.f, alive_ok, make_eq, ref_make_eq, stamp_Next.f, lictorref01_Next.f, hcount, hnode, hx, hy, hb, hb']

end Go.Proofs.Ytgeeicpjphdolaa.Pure
