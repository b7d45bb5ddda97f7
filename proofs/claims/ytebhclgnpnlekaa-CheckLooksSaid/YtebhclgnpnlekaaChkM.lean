/- package check's finder: missed, by its walk. No condition. -/
import Derived.Test.YtebhclgnpnlekaaChkT
namespace Go.Proofs.Ytebhclgnpnlekaa.Chk
open Go.RowKit Go.Proofs.Ytebhclgnpnlekaa.B Go.Proofs.Ytebhclgnpnlekaa.Cmd Go.Proofs.Ytebhclgnpnlekaa.Agg Go.Proofs.Ytebhclgnpnlekaa.Ent Go.Proofs.Ytebhclgnpnlekaa.Ord
open Go.Proofs.Ytebhclgnpnlekaa.Pr (arr arr_size arr_one isC zeroC findS)
theorem find_any (l : List CmdD) (id : Int) : (findS l id).2 = l.any fun c => c.id == id := by
  unfold findS
  cases h : l.find? (Pr.byId id) with
  | none =>
    rw [List.find?_eq_none] at h
    symm
    rw [List.any_eq_false]
    intro x hx
    have := h x hx
    simpa [Pr.byId] using this
  | some c =>
    symm
    rw [List.any_eq_true]
    exact ⟨c, List.mem_of_find?_eq_some h, by have := List.find?_some h; simpa [Pr.byId] using this⟩
set_option maxHeartbeats 4000000 in
set_option maxRecDepth 100000 in
theorem missed_calls (a b : QE) (I : Nat → Prop) (o o' : Option Pair) (g : Nat) (w : World) (hg : w.heap[g]? = some (.cells (fcells o) 175 (0, 0))) (hb : QF I w b) (ho : put o (missed a b) = o') :
    Calls Try.prog 129 #[.pointer (some ⟨g, 0, none⟩), .agg (mk a.er), .agg (mk b.er)] w (Found g o' w) := by
  have hlt : g < w.heap.size := (Array.getElem?_eq_some_iff.1 hg).1
  obtain ⟨h1, hh1⟩ : ∃ b, w.heap.size = b := ⟨_, rfl⟩
  obtain ⟨h2, hh2⟩ : ∃ b, h1 + 1 = b := ⟨_, rfl⟩
  obtain ⟨W, hW⟩ : ∃ W, (w.alloc (.cells (mk a.er) 177)).alloc (.cells (mk b.er) 177) = W := ⟨_, rfl⟩
  have hB : Bs w W [(h1, 177, mk a.er), (h2, 177, mk b.er)] := by
    have h1 := ((Bs.nil w).alloc (mk a.er) 177).alloc (mk b.er) 177
    rw [hW] at h1
    simpa [hh1, hh2] using h1
  have hg2 := (hB.below.block g hlt).trans hg
  have HG := Hold.mk hg2
  have HBl := Hold.mk hB.below
  have a0 : W.cell? ⟨h1, 0, none⟩ = some (.int .i64 a.er.c.id) := hB.cell 0 rfl 0
  have a2 : W.cell? ⟨h1, 2, none⟩ = some (.int .i64 a.er.c.sym) := hB.cell 0 rfl 2
  have a7 : W.cell? ⟨h1, 7, none⟩ = some (.int .i64 a.er.v.t) := hB.cell 0 rfl 7
  have b0 : W.cell? ⟨h2, 0, none⟩ = some (.int .i64 b.er.c.id) := hB.cell 1 rfl 0
  have b2 : W.cell? ⟨h2, 2, none⟩ = some (.int .i64 b.er.c.sym) := hB.cell 1 rfl 2
  have b7 : W.cell? ⟨h2, 7, none⟩ = some (.int .i64 b.er.v.t) := hB.cell 1 rfl 7
  have b8 : W.cell? ⟨h2, 8, none⟩ = some (.slice b.er.v.A b.er.v.n b.er.v.c) := hB.cell 1 rfl 8
  rw [hb.len] at b8
  have HRw := Hold.mk (hb.row.below hB.below)
  obtain ⟨PA, hPA⟩ : ∃ PA, b.er.v.A = PA := ⟨_, rfl⟩
  obtain ⟨pc, hpc⟩ : ∃ pc, b.er.v.c = pc := ⟨_, rfl⟩
  rw [hPA] at HRw
  rw [hPA, hpc] at b8
  obtain ⟨ia, hia⟩ : ∃ i, a.er.c.id = i := ⟨_, rfl⟩
  obtain ⟨ib, hib⟩ : ∃ i, b.er.c.id = i := ⟨_, rfl⟩
  obtain ⟨sa, hsa⟩ : ∃ i, a.er.c.sym = i := ⟨_, rfl⟩
  obtain ⟨sb, hsb⟩ : ∃ i, b.er.c.sym = i := ⟨_, rfl⟩
  obtain ⟨ta, hta⟩ : ∃ i, a.er.v.t = i := ⟨_, rfl⟩
  obtain ⟨tb, htb⟩ : ∃ i, b.er.v.t = i := ⟨_, rfl⟩
  obtain ⟨fi, hfi⟩ : ∃ i, (b.ps.any fun c => c.id == ia) = i := ⟨_, rfl⟩
  have ht : missed a b = if ia ≠ ib ∧ sa = sb ∧ ta < tb ∧ fi = false then some (ia, ib) else none := by unfold missed; simp only [QE.id, QE.t, hia, hib, hta, htb, hsa, hsb, hfi]
  rw [hia] at a0
  rw [hib] at b0
  rw [hsa] at a2
  rw [hsb] at b2
  rw [hta] at a7
  rw [htb] at b7
  rw [ht] at ho
  have HO := Hold.mk ho
  have HFn : Hold ((findS b.ps ia).2 = fi) := ⟨by rw [find_any]; exact hfi⟩
  have HFi := Hold.mk (Pr.find_calls PA pc b.ps ia _ W HRw.out)
  rw [HFn.out] at HFi
  have hm := HRw.out.len_le
  clear hg hg2 hB ht ho hia hib hta htb hsa hsb hfi hb hPA hpc
  by_cases e1 : ia = ib
  · have k1 : (ia == ib) = true := by simpa using e1
    have HOe : Hold (o = o') := ⟨by rw [← HO.out, if_neg (by simp [e1])]; rfl⟩
    clear e1
    go_enter Try.func129, Try.ntmps129
    go_wp2
    exact Great.bodyPost_end0 rfl rfl ⟨rfl, ⟨by rw [← HOe.out]; exact HG.out, Fr.of_below _ HBl.out⟩⟩
  · have k1 : (ia == ib) = false := by simpa using e1
    by_cases e2 : sa = sb
    · have k2 : (sa != sb) = false := by simpa using e2
      by_cases e3 : ta < tb
      · have k3 : ¬ tb ≤ ta := by omega
        have k4 := decide_eq_false k3
        cases fi
        · have HOe : Hold (put o (some (ia, ib)) = o') := ⟨by rw [← HO.out, if_pos ⟨e1, e2, e3, rfl⟩]⟩
          clear e1 e2 e3 k3
          go_enter Try.func129, Try.ntmps129
          go_wp2_with (first
            | (go_at_call 42; with_reducible refine HFi.out.mono ?_; rintro r w1 ⟨rfl, HB1⟩; have hD := (Bs.nil W).step HB1.out)
            | (with_reducible refine gateA 45 ?_; refine wpl_alloc zeroC hD rfl ?_; intro W2 g2 hD; simp only [List.nil_append] at hD)
            | (with_reducible refine gateS 45 ?_; refine wpl_store (C' := arr (findS b.ps ia).1) isC rfl rfl hD 0 rfl (arr_size _) (arr_size _) (arr_one _) rfl ?_; intro W3 hD; simp only [List.set] at hD; have q0 := (below_cell hD.below (p := ⟨h1, 0, none⟩) (World.block_lt_of_cell? W _ a0)).trans a0; have q1 := (below_cell hD.below (p := ⟨h2, 0, none⟩) (World.block_lt_of_cell? W _ b0)).trans b0)
            | (go_at_call 148; refine (put_calls o o' ia ib g _ ((hD.below.block g (Array.getElem?_eq_some_iff.1 HG.out).1).trans HG.out) HOe.out).mono ?_; rintro r w4 ⟨rfl, H4⟩))
          exact Great.bodyPost_end0 rfl rfl ⟨rfl, ⟨H4.out.1, ((Fr.of_below _ HBl.out).trans (Fr.of_below (fun k => k = g) hD.below) (fun _ _ h => h)).trans H4.out.2 (fun _ _ h => h)⟩⟩
        · have HOe : Hold (o = o') := ⟨by rw [← HO.out, if_neg (by simp)]; rfl⟩
          clear e1 e2 e3 k3
          go_enter Try.func129, Try.ntmps129
          go_wp2_with (first
            | (go_at_call 42; with_reducible refine HFi.out.mono ?_; rintro r w1 ⟨rfl, HB1⟩; have hD := (Bs.nil W).step HB1.out)
            | (with_reducible refine gateA 45 ?_; refine wpl_alloc zeroC hD rfl ?_; intro W2 g2 hD; simp only [List.nil_append] at hD)
            | (with_reducible refine gateS 45 ?_; refine wpl_store (C' := arr (findS b.ps ia).1) isC rfl rfl hD 0 rfl (arr_size _) (arr_size _) (arr_one _) rfl ?_; intro W3 hD; simp only [List.set] at hD))
          exact Great.bodyPost_end0 rfl rfl ⟨rfl, ⟨by rw [← HOe.out]; exact (hD.below.block g (Array.getElem?_eq_some_iff.1 HG.out).1).trans HG.out, (Fr.of_below _ HBl.out).trans (Fr.of_below (fun k => k = g) hD.below) (fun _ _ h => h)⟩⟩
      · have k3 : tb ≤ ta := by omega
        have k4 := decide_eq_true k3
        have HOe : Hold (o = o') := ⟨by rw [← HO.out, if_neg (by simp [e3])]; rfl⟩
        clear e1 e2 e3
        go_enter Try.func129, Try.ntmps129
        go_wp2
        exact Great.bodyPost_end0 rfl rfl ⟨rfl, ⟨by rw [← HOe.out]; exact HG.out, Fr.of_below _ HBl.out⟩⟩
    · have k2 : (sa != sb) = true := by simpa using e2
      have HOe : Hold (o = o') := ⟨by rw [← HO.out, if_neg (by simp [e2])]; rfl⟩
      clear e1 e2
      go_enter Try.func129, Try.ntmps129
      go_wp2
      exact Great.bodyPost_end0 rfl rfl ⟨rfl, ⟨by rw [← HOe.out]; exact HG.out, Fr.of_below _ HBl.out⟩⟩
end Go.Proofs.Ytebhclgnpnlekaa.Chk
