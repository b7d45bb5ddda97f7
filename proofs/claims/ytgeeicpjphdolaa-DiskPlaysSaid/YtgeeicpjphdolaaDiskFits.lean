/- lictorlaw08.Act read, and lictorlaw08.Fits by its walk. -/
import Derived.Test.YtgeeicpjphdolaaRefDisk
namespace Go.Proofs.Ytgeeicpjphdolaa.DiskLaw
open Go.RowKit Go.Proofs.Ytgeeicpjphdolaa.B

/-- An act: its kind, its bytes, its number. -/
abbrev ActD := Int × List Int × Int × Unit
abbrev actRep : Rep ActD := Rep.prod (Rep.int .u8) (Rep.prod (Rep.slice (Rep.int .u8)) (Rep.prod (Rep.int .i64) Rep.unit))
theorem actRep_sz : actRep.sz = 3 := rfl
theorem opens_act : Rep.Opens Try.prog actRep 46 := by
  refine Rep.opens_struct Try.underlying46 (by kernel_rfl) ?_
  exact Rep.opensF_cons rfl (Rep.opens_int Try.underlying5 (by kernel_rfl)) (Rep.opensF_cons rfl (Rep.opens_slice Try.underlying22 (by kernel_rfl) (by decide) (Rep.opens_int Try.underlying5 (by kernel_rfl))) (Rep.opensF_cons rfl (Rep.opens_int Try.underlying3 (by kernel_rfl)) (Rep.opensF_nil _)))

theorem add_fld (a : Addr) (k j : Nat) (hj : 0 < j) : a.add (k + j) = ⟨(a.add k).block, (a.add k).off + j, none⟩ := by
  rw [← Rep.add_add]
  generalize a.add k = b
  unfold Addr.add
  rw [if_neg (by omega)]
theorem row_act {I : Nat → Prop} {w : World} {A : Option Addr} {xs : List ActD} (h : Rep.Row actRep I w A xs) (i : Nat) (hi : i < xs.length) :
    ∃ ad p A1 c1, A = some ad ∧ ad.add (i * 3) = p ∧ w.cell? p = some (.int .u8 xs[i].1) ∧ w.cell? ⟨p.block, p.off + 1, none⟩ = some (.slice A1 xs[i].2.1.length c1) ∧ w.cell? ⟨p.block, p.off + 2, none⟩ = some (.int .i64 xs[i].2.2.1) ∧ p.block < w.heap.size ∧
      (A1 = none → c1 = 0) ∧ Rep.Row (Rep.int .u8) I w A1 xs[i].2.1 ∧ (Lit.int .u8 xs[i].1).wf = true ∧ (Lit.int .i64 xs[i].2.2.1).wf = true := by
  obtain ⟨ad, cs, e, _, hlt, hk, hc⟩ := h.at i hi
  obtain ⟨x1, x2, rfl, ⟨rfl, hw⟩, x3, x4, rfl, ⟨A1, c1, rfl, _, hn, hr⟩, x5, x6, rfl, ⟨rfl, hw2⟩, rfl⟩ := hk
  exact ⟨ad, _, A1, c1, e, rfl, by have := hc 0 _ rfl; simpa [actRep_sz] using this, by have := hc 1 _ rfl; rw [actRep_sz, add_fld _ _ _ (by decide)] at this; exact this, by have := hc 2 _ rfl; rw [actRep_sz, add_fld _ _ _ (by decide)] at this; exact this, by rw [Rep.add_block]; exact hlt, hn, hr, hw, hw2⟩

/-- Some answer, and the world as it was. -/
def SomeBool (w : World) (e : Ending) (w' : World) : Prop := ∃ b : Bool, e = .returned (.bool b) ∧ w = w'

set_option maxHeartbeats 2000000 in
theorem fits_calls (A : Option Addr) (c : Nat) (l : List ActD) (I : Nat → Prop) (w : World) (h : Rep.Row actRep I w A l) :
    Calls Try.prog 23 #[.slice A l.length c] w (SomeBool w) := by
  have H := Hold.mk h
  have hm := h.len_le
  clear h
  go_enter Try.func23, Try.ntmps23
  go_wp2
  go_loopw [3, 4] (fun u v wr => ∃ i n : Nat, i ≤ l.length ∧ n ≤ 3000 ∧ u = .int .i64 (n : Int) ∧ v = .int .i64 (i : Int) ∧ w = wr) (fun _ v _ => l.length - (intOf v).toNat)
  case atStart => exact ⟨0, 0, by omega, by omega, rfl, rfl, rfl⟩
  case round =>
    obtain ⟨i, n, hi, hn, rfl, rfl, rfl⟩ := hrel
    by_cases hlt : i < l.length
    · obtain ⟨ad, p, A1, c1, rfl, hp, _, hc1, _, _, _, hr1, _, _⟩ := row_act H.out i hlt
      obtain ⟨x, hx⟩ : ∃ x, l[i].2.1.length = x := ⟨_, rfl⟩
      rw [hx] at hc1
      have hxm : x ≤ 9223372036854775807 := by rw [← hx]; exact hr1.len_le
      clear hx hr1
      have l1 : (i : Int) < (l.length : Int) := by omega
      by_cases b1 : 3000 < x
      · go_wp2
        go_ret
        exact ⟨_, rfl, rfl⟩
      · by_cases b2 : 3000 < n + x
        · go_wp2
          go_ret
          exact ⟨_, rfl, rfl⟩
        · go_wp2
          refine ⟨⟨i + 1, n + x, by omega, by omega, by go_num, by go_num, trivial⟩, by simp [intOf]; omega⟩
    · obtain rfl : i = l.length := by omega
      go_wp2
      go_ret
      exact ⟨_, rfl, rfl⟩
end Go.Proofs.Ytgeeicpjphdolaa.DiskLaw
