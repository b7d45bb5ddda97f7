/- bytes.Clone by its walk: new bytes with what was there, and nil of nil; no condition but that the bytes are read. -/
import Derived.Test.YtgeeicpjphdolaaO
import Derived.Lib.SliceRun
namespace Go.Proofs.Ytgeeicpjphdolaa.Clone
open Go.RowKit Go.Proofs.Ytgeeicpjphdolaa.B

theorem info_u8 : (Try.prog.info? 5).map (fun i => (i.zero, i.size, i.bytes)) = some (some (.int .u8 0), 1, 1) := by kernel_rfl

set_option maxHeartbeats 1000000 in
theorem clone_calls (A : Option Addr) (c : Nat) (bs : List Int) (I : Nat → Prop) (w : World) (hr : Rep.Row (Rep.int .u8) I w A bs) (hn : A = none → c = 0) (hl : bs.length ≤ 140737488355328) :
    Calls Try.prog 80 #[.slice A bs.length c] w fun e w' => ∃ A1 c1, e = .returned (.slice A1 bs.length c1) ∧ (A1 = none ↔ A = none) ∧
      Rep.Own (Rep.int .u8) 5 w.heap.size nob w' (.slice A1 bs.length c1) bs ∧ Below w.heap.size w w' := by
  have qT : ∀ (w : World) (a : Option Addr) (n c n' c' : Nat), (binOp .eql 22 (.slice a n c) (.slice none n' c')).run Try.prog w = .ok (.bool a.isNone) w := fun w a n c n' c' => Lib.run_eql_slice_nil w _ _ a n c n' c' Try.underlying22
  cases A with
  | none =>
    obtain rfl := hn rfl
    have h0 : bs = [] := by
      rcases bs with _ | ⟨b, bs⟩
      · rfl
      · obtain ⟨ad, h, _⟩ := hr.2 (by simp)
        cases h
    subst h0
    clear hr hn hl
    go_enter Try.func80, Try.ntmps80
    go_wp2
    go_ret
    exact ⟨none, 0, rfl, by simp, Rep.Own.nil _ _ _ _ _, Below.refl _ _⟩
  | some ad =>
    have HR := Hold.mk hr
    clear hr hn
    have HL := Hold.mk hl
    clear hl
    go_enter Try.func80, Try.ntmps80
    go_wp2_with (at_builtin; refine Rep.wp_append (Rep.int .u8) rfl _ _ 22 5 (.int .u8 0) 1 rfl Try.underlying22 info_u8 rfl (by decide) (by decide) w.heap.size _ [] bs (some ad) bs.length c rfl rfl rfl (Rep.Own.lit _ _ _ nob _ (Nat.le_refl _)) ((HR.out).move (J := fun k => k < w.heap.size) fun k _ hlt => ⟨hlt, Below.heap_alloc _ _ _ hlt⟩) ?c1 (by simp) (by simp) ?c2 ?_)
    case c1 =>
      intro k hk _ he
      injection he with he
      simp at he; omega
    case c2 => have := HL.out; simp; omega
    intro v1 w1 hown hg hat
    obtain ⟨A1, c1, hv, _⟩ := hown.form
    have hbel : Below w.heap.size w w1 := ((Below.refl _ _).alloc (Nat.le_refl _) _).grown hg (by simp) (fun k h => by injection h with h; simp at h; omega)
    have hA1 : A1 ≠ none := by
      rintro rfl
      rw [hv] at hat
      rcases hat with h | h <;> cases h
    rw [hv] at hown
    have HV := Hold.mk hv
    have HO := Hold.mk (hown.flat nob (Rep.flat_int _))
    have HB := Hold.mk hbel
    have HA := Hold.mk hA1
    clear hown hg hbel hv hat hA1
    go_wp2
    go_ret
    refine ⟨A1, c1, ?_, ?_, HO.out, HB.out⟩
    · show Ending.returned v1 = _
      rw [HV.out]
    · have := HA.out; constructor <;> intro h <;> simp_all
end Go.Proofs.Ytgeeicpjphdolaa.Clone
