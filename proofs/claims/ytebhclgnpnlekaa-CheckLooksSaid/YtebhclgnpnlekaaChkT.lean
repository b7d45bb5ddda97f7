/- package check's finder: twice, by its walk. No condition. -/
import Derived.Test.YtebhclgnpnlekaaChkP
namespace Go.Proofs.Ytebhclgnpnlekaa.Chk
open Go.RowKit Go.Proofs.Ytebhclgnpnlekaa.B Go.Proofs.Ytebhclgnpnlekaa.Cmd Go.Proofs.Ytebhclgnpnlekaa.Agg Go.Proofs.Ytebhclgnpnlekaa.Ent Go.Proofs.Ytebhclgnpnlekaa.Ord
/-- What a finder's look leaves. -/
def Found (g : Nat) (o' : Option Pair) (w : World) (r : Ending) (w' : World) : Prop := r = .returned (.tuple #[]) ∧ Hold (w'.heap[g]? = some (.cells (fcells o') 175 (0, 0)) ∧ Fr (fun k => k = g) w w')
set_option maxHeartbeats 4000000 in
set_option maxRecDepth 100000 in
theorem twice_calls (a b : QE) (o o' : Option Pair) (g : Nat) (w : World) (hg : w.heap[g]? = some (.cells (fcells o) 175 (0, 0))) (ho : put o (twice a b) = o') :
    Calls Try.prog 128 #[.pointer (some ⟨g, 0, none⟩), .agg (mk a.er), .agg (mk b.er)] w (Found g o' w) := by
  have hlt : g < w.heap.size := (Array.getElem?_eq_some_iff.1 hg).1
  obtain ⟨h1, hh1⟩ : ∃ b, w.heap.size = b := ⟨_, rfl⟩
  obtain ⟨h2, hh2⟩ : ∃ b, h1 + 1 = b := ⟨_, rfl⟩
  obtain ⟨W, hW⟩ : ∃ W, (w.alloc (.cells (mk a.er) 177)).alloc (.cells (mk b.er) 177) = W := ⟨_, rfl⟩
  have hB : Bs w W [(h1, 177, mk a.er), (h2, 177, mk b.er)] := by
    have h1 := ((Bs.nil w).alloc (mk a.er) 177).alloc (mk b.er) 177
    rw [hW] at h1
    simpa [hh1, hh2] using h1
  have hg2 := (hB.below.block g hlt).trans hg
  have HG := Hold.mk hg2
  have HBl := Hold.mk hB.below
  have a0 : W.cell? ⟨h1, 0, none⟩ = some (.int .i64 a.er.c.id) := hB.cell 0 rfl 0
  have a7 : W.cell? ⟨h1, 7, none⟩ = some (.int .i64 a.er.v.t) := hB.cell 0 rfl 7
  have b0 : W.cell? ⟨h2, 0, none⟩ = some (.int .i64 b.er.c.id) := hB.cell 1 rfl 0
  have b7 : W.cell? ⟨h2, 7, none⟩ = some (.int .i64 b.er.v.t) := hB.cell 1 rfl 7
  obtain ⟨ia, hia⟩ : ∃ i, a.er.c.id = i := ⟨_, rfl⟩
  obtain ⟨ib, hib⟩ : ∃ i, b.er.c.id = i := ⟨_, rfl⟩
  obtain ⟨ta, hta⟩ : ∃ i, a.er.v.t = i := ⟨_, rfl⟩
  obtain ⟨tb, htb⟩ : ∃ i, b.er.v.t = i := ⟨_, rfl⟩
  have ht : twice a b = if ia ≠ ib ∧ ta = tb then some (min ia ib, max ia ib) else none := by unfold twice; simp only [QE.id, QE.t, hia, hib, hta, htb]
  rw [hia] at a0
  rw [hib] at b0
  rw [hta] at a7
  rw [htb] at b7
  rw [ht] at ho
  have HO := Hold.mk ho
  clear hg hg2 hB ht ho hia hib hta htb
  by_cases e1 : ia = ib
  · have k1 : (ia != ib) = false := by simpa using e1
    have HOe : Hold (o = o') := ⟨by rw [← HO.out, if_neg (by simp [e1])]; rfl⟩
    clear e1
    go_enter Try.func128, Try.ntmps128
    go_wp2
    exact Great.bodyPost_end0 rfl rfl ⟨rfl, ⟨by rw [← HOe.out]; exact HG.out, Fr.of_below _ HBl.out⟩⟩
  · have k1 : (ia != ib) = true := by simpa using e1
    by_cases e2 : ta = tb
    · have k2 : (ta == tb) = true := by simpa using e2
      have HOe : Hold (put o (some (min ia ib, max ia ib)) = o') := ⟨by rw [← HO.out, if_pos ⟨e1, e2⟩]⟩
      have HP := Hold.mk (put_calls o o' (min ia ib) (max ia ib) g W HG.out HOe.out)
      clear e1 e2
      go_enter Try.func128, Try.ntmps128
      go_wp2_with (go_at_call 148; refine HP.out.mono ?_; rintro r w1 ⟨rfl, H1⟩)
      exact Great.bodyPost_end0 rfl rfl ⟨rfl, ⟨H1.out.1, (Fr.of_below _ HBl.out).trans H1.out.2 (fun _ _ h => h)⟩⟩
    · have k2 : (ta == tb) = false := by simpa using e2
      have HOe : Hold (o = o') := ⟨by rw [← HO.out, if_neg (by simp [e2])]; rfl⟩
      clear e1 e2
      go_enter Try.func128, Try.ntmps128
      go_wp2
      exact Great.bodyPost_end0 rfl rfl ⟨rfl, ⟨by rw [← HOe.out]; exact HG.out, Fr.of_below _ HBl.out⟩⟩
end Go.Proofs.Ytebhclgnpnlekaa.Chk
