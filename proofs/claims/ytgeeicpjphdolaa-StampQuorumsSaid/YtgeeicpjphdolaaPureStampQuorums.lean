/- For all integers n and q the quorum functions of package stamp (Right, Classic, Fast, Need) answer as the document's reference does; no condition. -/
import Derived.Test.YtgeeicpjphdolaaPStampQuorumsx2
namespace Go.Proofs.Ytgeeicpjphdolaa.Pure
open Go.RowKit Go.Proofs.Ytgeeicpjphdolaa.PStampQuorums Go.Proofs.YtgeeicpjphdolaaW.PrintWords Go.Proofs.YtgeeicpjphdolaaW.PrintLast
namespace StampQuorumsAid

theorem alive_ok : lictorlaw01_alive.f 20 = some true := by decide +kernel

theorem right_eq (n : Int) : stamp_Right.f n = lictorref01_Right.f n := rfl

theorem right_cases (n : Int) : (stamp_Right.f n = some false) ∨ (stamp_Right.f n = some true ∧ (n = 3 ∨ n = 4 ∨ n = 5 ∨ n = 6 ∨ n = 7 ∨ n = 8 ∨ n = 9)) := by
  unfold stamp_Right.f
  by_cases h : n ≥ 3
  · by_cases h2 : n ≤ 9
    · right; simp only [if_pos h, decide_eq_true h2]; exact ⟨trivial, by omega⟩
    · left; simp [h2]
  · left; simp [h]

end StampQuorumsAid
open StampQuorumsAid

theorem StampQuorums : lictorlaw01_StampQuorums.Pure := by
  intro n q hn hq
  refine ⟨20, ?_⟩
  have hbq : -9223372036854775808 ≤ q ∧ q ≤ 9223372036854775807 := by
    have hmin : IntKind.i64.min = -9223372036854775808 := rfl
    have hmax : IntKind.i64.max = 9223372036854775807 := rfl
    simp only [Lit.wf, Bool.and_eq_true, decide_eq_true_eq] at hq; omega
  rcases right_cases n with h | ⟨h, h3⟩
  · have h' : lictorref01_Right.f n = some false := h
    simp [lictorlaw01_StampQuorums.f, alive_ok, stamp_Classic.f, lictorref01_Classic.f, stamp_Fast.f, lictorref01_Fast.f, stamp_Need.f, lictorref01_Need.f, h, h']
  · have hc : (stamp_Classic.f n = lictorref01_Classic.f 20 n) ∧ stamp_Fast.f n = lictorref01_Fast.f 20 n ∧ ∃ c f, stamp_Classic.f n = some c ∧ stamp_Fast.f n = some f ∧ 0 ≤ f ∧ f ≤ 9 := by
      rcases h3 with rfl | rfl | rfl | rfl | rfl | rfl | rfl
      · exact ⟨by decide +kernel, by decide +kernel, 2, 3, by decide +kernel, by decide +kernel, by decide, by decide⟩
      · exact ⟨by decide +kernel, by decide +kernel, 3, 3, by decide +kernel, by decide +kernel, by decide, by decide⟩
      · exact ⟨by decide +kernel, by decide +kernel, 3, 4, by decide +kernel, by decide +kernel, by decide, by decide⟩
      · exact ⟨by decide +kernel, by decide +kernel, 4, 5, by decide +kernel, by decide +kernel, by decide, by decide⟩
      · exact ⟨by decide +kernel, by decide +kernel, 4, 6, by decide +kernel, by decide +kernel, by decide, by decide⟩
      · exact ⟨by decide +kernel, by decide +kernel, 5, 6, by decide +kernel, by decide +kernel, by decide, by decide⟩
      · exact ⟨by decide +kernel, by decide +kernel, 5, 7, by decide +kernel, by decide +kernel, by decide, by decide⟩
    obtain ⟨hc1, hf1, c, f, hc, hf, f0, f9⟩ := hc
    have h' : lictorref01_Right.f n = some true := h
    have hneed : stamp_Need.f n q = lictorref01_Need.f 20 n q := by
      simp only [stamp_Need.f, lictorref01_Need.f, h, h', Option.bind_some, if_true, ← hf1, hf]
      split
      · rfl
      · split
        · rfl
        · congr 1; unfold wrap64; omega
    have hneed2 : ∃ v, stamp_Need.f n q = some v := by
      simp only [stamp_Need.f, h, Option.bind_some, if_true, hf]
      split
      · exact ⟨_, rfl⟩
      · split <;> exact ⟨_, rfl⟩
    obtain ⟨v, hv⟩ := hneed2
    simp [lictorlaw01_StampQuorums.f, alive_ok, h, h', ← hc1, ← hf1, hc, hf, ← hneed, hv]

end Go.Proofs.Ytgeeicpjphdolaa.Pure
