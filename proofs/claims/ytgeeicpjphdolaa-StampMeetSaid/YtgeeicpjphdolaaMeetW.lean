/- Any two quorums meet as the document says: the walk of StampMeet; no condition. -/
import Derived.Test.YtgeeicpjphdolaaPStampMeetx1
import Derived.Test.YtgeeicpjphdolaaPStampMeetx2
import Derived.Test.YtgeeicpjphdolaaB
namespace Go.Proofs.Ytgeeicpjphdolaa.StampMeetAid
open Go.RowKit Go.Proofs.Ytgeeicpjphdolaa.PStampMeet Go.Proofs.YtgeeicpjphdolaaW.PrintWords Go.Proofs.YtgeeicpjphdolaaW.PrintLast Go.Proofs.YtgeeicpjphdolaaW.PrintMore

theorem alive_ok : lictorlaw01_alive.f 20 = some true := by decide +kernel
theorem drawn_below {w w' : World} {o : Obj} (h : Drawn0 (w.alloc o) w') : Below w.heap.size w w' :=
  ((Below.refl _ _).alloc (Nat.le_refl _) o).trans (h.below.mono (by simp))

/-- The tests of the two first lines, decided. -/
inductive Two (oa ob cl D : Int) : Prop
  | no (h : decide (cl ≤ oa) = false)
  | half (h : decide (cl ≤ oa) = true) (h2 : decide (cl ≤ ob) = false)
  | yes (h : decide (cl ≤ oa) = true) (h2 : decide (cl ≤ ob) = true) (hD : (D == 0) = false)
inductive Three (oa ob oc cl fa E og nd : Int) : Prop
  | no (h : decide (fa ≤ oa) = false)
  | one (h : decide (fa ≤ oa) = true) (h2 : decide (fa ≤ ob) = false) (hg : decide (og < nd) = false)
  | two (h : decide (fa ≤ oa) = true) (h2 : decide (fa ≤ ob) = true) (h3 : decide (cl ≤ oc) = false) (hg : decide (og < nd) = false)
  | yes (h : decide (fa ≤ oa) = true) (h2 : decide (fa ≤ ob) = true) (h3 : decide (cl ≤ oc) = true) (hE : (E == 0) = false) (hg : decide (og < nd) = false)

set_option maxHeartbeats 8000000 in
set_option maxRecDepth 100000 in
theorem walk (s x0 x1 x2 n M A B C D E G oa ob oc og cl fa nd nc : Int) (w : World) (hs : 0 ≤ s) (hs2 : s ≤ 255) (hn : 3 ≤ n) (hn9 : n ≤ 9) (e1 : s % 7 + 3 = n)
    (hM : IntKind.u16.wrap (IntKind.u16.wrap (2 ^ n.toNat) - 1) = M) (hA : bits .and .u16 x0 M = A) (hB : bits .and .u16 x1 M = B) (hC : bits .and .u16 x2 M = C)
    (hD : bits .and .u16 A B = D) (hE : bits .and .u16 D C = E) (hG : bits .and .u16 A C = G)
    (HA : Aside0 (lictorlaw01_ones.f 20 A n = some oa)) (HB : Aside0 (lictorlaw01_ones.f 20 B n = some ob)) (HC : Aside0 (lictorlaw01_ones.f 20 C n = some oc)) (HG : Aside0 (lictorlaw01_ones.f 20 G n = some og))
    (HCl : Aside0 (stamp_Classic.f n = some cl)) (HFa : Aside0 (stamp_Fast.f n = some fa)) (HN : Aside0 (stamp_Need.f n oc = some nd)) (HNc : Aside0 (stamp_Need.f n cl = some nc))
    (hnc : 0 ≤ nc) (hnc9 : nc ≤ 9) (hlast : decide (cl < 2 * nc) = true) (h2 : Two oa ob cl D) (h3 : Three oa ob oc cl fa E og nd) :
    Calls Try.prog 11 #[.int .u8 s, .agg #[.int .u16 x0, .int .u16 x1, .int .u16 x2]] w fun e w' => e = .returned (.bool true) ∧ Below w.heap.size w w' := by
  have HAl : Aside0 (lictorlaw01_alive.f 20 = some true) := ⟨alive_ok⟩
  rcases h2 with h2a | ⟨h2a, h2b⟩ | ⟨h2a, h2b, h2d⟩
  all_goals
    rcases h3 with h3a | ⟨h3a, h3b, h3g⟩ | ⟨h3a, h3b, h3c, h3g⟩ | ⟨h3a, h3b, h3c, h3e, h3g⟩
    all_goals
      go_enter Try.func11, Try.ntmps11
      go_wp2_with (first | (go_at_call 59; (with_reducible refine (lictorlaw01_ones.calls 20 A n oa _ HA.out).mono ?_); rintro e w' ⟨rfl, ⟨nd, rfl⟩⟩) | (go_at_call 59; (with_reducible refine (lictorlaw01_ones.calls 20 B n ob _ HB.out).mono ?_); rintro e w' ⟨rfl, ⟨nd, rfl⟩⟩) | (go_at_call 59; (with_reducible refine (lictorlaw01_ones.calls 20 C n oc _ HC.out).mono ?_); rintro e w' ⟨rfl, ⟨nd, rfl⟩⟩) | (go_at_call 59; (with_reducible refine (lictorlaw01_ones.calls 20 G n og _ HG.out).mono ?_); rintro e w' ⟨rfl, ⟨nd, rfl⟩⟩) | (go_at_call 39; (with_reducible refine (stamp_Classic.calls n cl _ HCl.out).mono ?_); rintro e w' ⟨rfl, ⟨nd, rfl⟩⟩) | (go_at_call 41; (with_reducible refine (stamp_Fast.calls n fa _ HFa.out).mono ?_); rintro e w' ⟨rfl, ⟨nd, rfl⟩⟩) | (go_at_call 43; (with_reducible refine (stamp_Need.calls n oc _ _ HN.out).mono ?_); rintro e w' ⟨rfl, ⟨nd, rfl⟩⟩) | (go_at_call 43; (with_reducible refine (stamp_Need.calls n cl _ _ HNc.out).mono ?_); rintro e w' ⟨rfl, ⟨nd, rfl⟩⟩) | (go_at_call 36; (with_reducible refine (lictorlaw01_alive.calls 20 true _ HAl.out).mono ?_); rintro e w' ⟨rfl, ⟨nd, rfl⟩⟩))
      go_ret
      exact ⟨by simp, drawn_below (by repeat (first | exact Drawn0.refl _ | apply Drawn0.step))⟩
end Go.Proofs.Ytgeeicpjphdolaa.StampMeetAid
