/- Law 06: alive, and step, by their walks. -/
import Derived.Test.YtebhclgnpnlekaaEnt3
namespace Go.Proofs.Ytebhclgnpnlekaa.Ent
open Go.RowKit Go.Proofs.Ytebhclgnpnlekaa.B Go.Proofs.Ytebhclgnpnlekaa.Cmd Go.Proofs.Ytebhclgnpnlekaa.Agg
open Go.Proofs.Ytebhclgnpnlekaa.Preds (okSet)
def aC : CmdD := ⟨16, 1, 0, 17, 0, 0, 0⟩
def aE0 : ER := { noER with c := aC }
def aV1 : VR := ⟨33, none, 0, 0⟩
def aE1 : ER := { aE0 with lo := 33, hi := 33, f := aV1 }
def aV2 : VR := ⟨48, none, 0, 0⟩
def aE2 : ER := { aE1 with pr := 5, hi := 48, ab := 5, a := aV2 }
theorem vat_nil (w : World) (t : Int) (ht : (Lit.int .i64 t).wf = true) : VAt w ⟨t, none, 0, 0⟩ [] := ⟨rfl, Rep.Row.nil _ _ _ _, ht⟩
theorem aC_wf : aC.wf := by unfold CmdD.wf aC; decide
theorem aNew : (if okCmd aC = true then { noER with c := aC } else noER) = aE0 := by rw [if_pos (by decide)]; rfl
theorem aNew2 : (if okCmd aC = true then (0 : Int) else 1) = 0 := by rw [if_pos (by decide)]
theorem aVote : voteS aE0 aV1 true false = (aE1, 0) := by rfl
theorem aAcc : accS aE1 5 aV2 true = (aE2, 0) := by rfl
theorem aProm : promS aE2 4 = (aE2, 11) := by rfl
theorem new_alive (w : World) : Calls Try.prog 99 #[.agg #[.int .i64 16, .int .i64 1, .int .i64 0, .int .i64 17, .int .i64 0, .int .i64 0, .int .i64 0]] w fun r w' => r = .returned (.tuple #[.agg aE0.cells, .int .i64 0]) ∧ Below w.heap.size w w' :=
  (new_calls aC w aC_wf).mono (by rintro r w' ⟨rfl, hb⟩; rw [aNew, aNew2]; exact ⟨rfl, hb⟩)
theorem vote_alive (w : World) : Calls Try.prog 100 #[.agg aE0.cells, .agg #[.int .i64 33, .slice none 0 0]] w fun r w' => r = .returned (.tuple #[.agg aE1.cells, .int .i64 0]) ∧ Below w.heap.size w w' :=
  (vote_calls aE0 aV1 [] [] true false w (vat_nil w 0 (by decide)) (vat_nil w 33 (by decide)) (by decide) (by decide)).mono (by rintro r w' ⟨rfl, hb⟩; rw [aVote]; exact ⟨rfl, hb⟩)
theorem acc_alive (w : World) : Calls Try.prog 101 #[.agg aE1.cells, .int .i64 5, .agg #[.int .i64 48, .slice none 0 0]] w fun r w' => r = .returned (.tuple #[.agg aE2.cells, .int .i64 0]) ∧ Below w.heap.size w w' :=
  (accept_calls aE1 5 aV2 [] true w (vat_nil w 48 (by decide)) (by decide)).mono (by rintro r w' ⟨rfl, hb⟩; rw [aAcc]; exact ⟨rfl, hb⟩)
theorem prom_alive (w : World) : Calls Try.prog 102 #[.agg aE2.cells, .int .i64 4] w fun r w' => r = .returned (.tuple #[.agg aE2.cells, .int .i64 11]) ∧ Below w.heap.size w w' :=
  (promise_calls aE2 4 w).mono (by rintro r w' ⟨rfl, hb⟩; rw [aProm]; exact ⟨rfl, hb⟩)
theorem ahead_alive (w : World) : Calls Try.prog 103 #[.agg aE1.cells, .int .i64 34] w fun r w' => r = .returned (.bool true) ∧ Below w.heap.size w w' := ahead_calls aE1 34 w true (by decide)
theorem holds_alive (w : World) : Calls Try.prog 104 #[.agg aE1.cells, .int .i64 32] w fun r w' => r = .returned (.bool true) ∧ Below w.heap.size w w' := holds_calls aE1 32 w true (by decide)
theorem aE1_all : aE1.cells[16]? = some (.bool false) ∧ aE1.cells[12]? = some (.int .i64 0) := ⟨rfl, rfl⟩
theorem aE2_all : aE2.cells[8]? = some (.int .i64 33) ∧ aE2.cells[9]? = some (.int .i64 48) ∧ aE2.cells[7]? = some (.int .i64 5) := ⟨rfl, rfl, rfl⟩
set_option maxHeartbeats 8000000 in
set_option maxRecDepth 100000 in
theorem alive_calls (w : World) : Calls Try.prog 51 #[] w fun r w' => r = .returned (.bool true) ∧ Below w.heap.size w w' := by
  have k1 := aE1_all
  have k2 := aE2_all
  obtain ⟨g, hg⟩ : ∃ g, w.heap.size = g := ⟨_, rfl⟩
  have hB := Bs.nil w
  go_enter Try.func51, Try.ntmps51
  go_wp2_with (first
    | (go_at_call 99; with_reducible refine (new_alive _).mono ?_; rintro r w1 ⟨rfl, hb1⟩; replace hB := hB.step hb1)
    | (go_at_call 100; with_reducible refine (vote_alive _).mono ?_; rintro r w1 ⟨rfl, hb1⟩; replace hB := hB.step hb1)
    | (go_at_call 101; with_reducible refine (acc_alive _).mono ?_; rintro r w1 ⟨rfl, hb1⟩; replace hB := hB.step hb1)
    | (go_at_call 102; with_reducible refine (prom_alive _).mono ?_; rintro r w1 ⟨rfl, hb1⟩; replace hB := hB.step hb1; have q1 := hB.cell 1 rfl; have q2 := hB.cell 2 rfl)
    | (go_at_call 103; with_reducible refine (ahead_alive _).mono ?_; rintro r w1 ⟨rfl, hb1⟩; replace hB := hB.step hb1; have q1 := hB.cell 1 rfl; have q2 := hB.cell 2 rfl)
    | (go_at_call 104; with_reducible refine (holds_alive _).mono ?_; rintro r w1 ⟨rfl, hb1⟩; replace hB := hB.step hb1; have q1 := hB.cell 1 rfl; have q2 := hB.cell 2 rfl)
    | (refine wpl_alloc zeroE hB rfl ?_; intro W2 g3 hB; simp only [List.cons_append, List.nil_append] at hB)
    | (refine wpl_store isE rfl rfl hB 0 rfl (ER.size _) (ER.size _) (ER.one _) rfl ?_; intro W2 hB; simp only [List.set] at hB)
    | (refine wpl_store isE rfl rfl hB 1 rfl (ER.size _) (ER.size _) (ER.one _) rfl ?_; intro W2 hB; simp only [List.set] at hB)
    | (refine wpl_store isE rfl rfl hB 2 rfl (ER.size _) (ER.size _) (ER.one _) rfl ?_; intro W2 hB; simp only [List.set] at hB)
    | (refine wpl_store isE rfl rfl hB 3 rfl (ER.size _) (ER.size _) (ER.one _) rfl ?_; intro W2 hB; simp only [List.set] at hB; have q1 := hB.cell 1 rfl; have q2 := hB.cell 2 rfl)
    | (refine wpl_load isE rfl hB 0 rfl (ER.size _) rfl ?_)
    | (refine wpl_load isE rfl hB 1 rfl (ER.size _) rfl ?_)
    | (refine wpl_load isE rfl hB 2 rfl (ER.size _) rfl ?_))
  go_ret
  exact ⟨rfl, by first | exact hB.below | (rw [← hg]; exact hB.below)⟩
end Go.Proofs.Ytebhclgnpnlekaa.Ent
