/- package check's finder: apart, by its walk. No condition. -/
import Derived.Test.YtebhclgnpnlekaaChkM
namespace Go.Proofs.Ytebhclgnpnlekaa.Chk
open Go.RowKit Go.Proofs.Ytebhclgnpnlekaa.B Go.Proofs.Ytebhclgnpnlekaa.Cmd Go.Proofs.Ytebhclgnpnlekaa.Agg Go.Proofs.Ytebhclgnpnlekaa.Ent Go.Proofs.Ytebhclgnpnlekaa.Ord
open Go.Proofs.Ytebhclgnpnlekaa.Rd (CmdD.first)
theorem psame_calls (A B : Option Addr) (c c' n n' : Nat) (xs ys : List CmdD) (I J : Nat → Prop) (w : World) (hn : n = xs.length) (hn' : n' = ys.length) (h : Rep.Row cmdRep I w A xs) (h' : Rep.Row cmdRep J w B ys) :
    Calls Try.prog 35 #[.slice A n c, .slice B n' c'] w fun e w' => e = .returned (.bool (decide (xs = ys))) ∧ Hold (Below w.heap.size w w') := by
  have HE := Hold.mk (Ent.equal_calls A B c c' n n' xs ys I J w hn hn' h h')
  clear h h' hn hn'
  go_enter Try.func35, Try.ntmps35
  go_wp2_with fail
  refine HE.out.mono ?_
  rintro e w1 ⟨rfl, k, rfl⟩
  go_wp2
  go_ret
  exact ⟨rfl, ⟨below_drewN _ _⟩⟩
set_option maxHeartbeats 4000000 in
set_option maxRecDepth 100000 in
theorem apart_calls (a b : QE) (I J : Nat → Prop) (o o' : Option Pair) (g : Nat) (w : World) (hg : w.heap[g]? = some (.cells (fcells o) 175 (0, 0))) (ha : QF J w a) (hb : QF I w b) (ho : put o (apart a b) = o') :
    Calls Try.prog 127 #[.pointer (some ⟨g, 0, none⟩), .agg (mk a.er), .agg (mk b.er)] w (Found g o' w) := by
  have hlt : g < w.heap.size := (Array.getElem?_eq_some_iff.1 hg).1
  obtain ⟨h1, hh1⟩ : ∃ b, w.heap.size = b := ⟨_, rfl⟩
  obtain ⟨h2, hh2⟩ : ∃ b, h1 + 1 = b := ⟨_, rfl⟩
  obtain ⟨W, hW⟩ : ∃ W, (w.alloc (.cells (mk a.er) 177)).alloc (.cells (mk b.er) 177) = W := ⟨_, rfl⟩
  have hB : Bs w W [(h1, 177, mk a.er), (h2, 177, mk b.er)] := by
    have h1 := ((Bs.nil w).alloc (mk a.er) 177).alloc (mk b.er) 177
    rw [hW] at h1
    simpa [hh1, hh2] using h1
  have hg2 := (hB.below.block g hlt).trans hg
  have HG := Hold.mk hg2
  have HBl := Hold.mk hB.below
  have a0 : W.cell? ⟨h1, 0, none⟩ = some (.int .i64 a.er.c.id) := hB.cell 0 rfl 0
  have a1 : W.cell? ⟨h1, 1, none⟩ = some (.int .i64 a.er.c.kind) := hB.cell 0 rfl 1
  have a2 : W.cell? ⟨h1, 2, none⟩ = some (.int .i64 a.er.c.sym) := hB.cell 0 rfl 2
  have a3 : W.cell? ⟨h1, 3, none⟩ = some (.int .i64 a.er.c.tgt) := hB.cell 0 rfl 3
  have a4 : W.cell? ⟨h1, 4, none⟩ = some (.int .i64 a.er.c.side) := hB.cell 0 rfl 4
  have a5 : W.cell? ⟨h1, 5, none⟩ = some (.int .i64 a.er.c.price) := hB.cell 0 rfl 5
  have a6 : W.cell? ⟨h1, 6, none⟩ = some (.int .i64 a.er.c.qty) := hB.cell 0 rfl 6
  have a7 : W.cell? ⟨h1, 7, none⟩ = some (.int .i64 a.er.v.t) := hB.cell 0 rfl 7
  have a8 : W.cell? ⟨h1, 8, none⟩ = some (.slice a.er.v.A a.er.v.n a.er.v.c) := hB.cell 0 rfl 8
  have b0 : W.cell? ⟨h2, 0, none⟩ = some (.int .i64 b.er.c.id) := hB.cell 1 rfl 0
  have b1 : W.cell? ⟨h2, 1, none⟩ = some (.int .i64 b.er.c.kind) := hB.cell 1 rfl 1
  have b2 : W.cell? ⟨h2, 2, none⟩ = some (.int .i64 b.er.c.sym) := hB.cell 1 rfl 2
  have b3 : W.cell? ⟨h2, 3, none⟩ = some (.int .i64 b.er.c.tgt) := hB.cell 1 rfl 3
  have b4 : W.cell? ⟨h2, 4, none⟩ = some (.int .i64 b.er.c.side) := hB.cell 1 rfl 4
  have b5 : W.cell? ⟨h2, 5, none⟩ = some (.int .i64 b.er.c.price) := hB.cell 1 rfl 5
  have b6 : W.cell? ⟨h2, 6, none⟩ = some (.int .i64 b.er.c.qty) := hB.cell 1 rfl 6
  have b7 : W.cell? ⟨h2, 7, none⟩ = some (.int .i64 b.er.v.t) := hB.cell 1 rfl 7
  have b8 : W.cell? ⟨h2, 8, none⟩ = some (.slice b.er.v.A b.er.v.n b.er.v.c) := hB.cell 1 rfl 8
  have HS := Hold.mk (psame_calls a.er.v.A b.er.v.A a.er.v.c b.er.v.c _ _ a.ps b.ps _ _ W ha.len hb.len (ha.row.below hB.below) (hb.row.below hB.below))
  obtain ⟨ta, hta⟩ : ∃ i, a.er.v.t = i := ⟨_, rfl⟩
  obtain ⟨tb, htb⟩ : ∃ i, b.er.v.t = i := ⟨_, rfl⟩
  obtain ⟨fp, hfp⟩ : ∃ i, decide (a.ps = b.ps) = i := ⟨_, rfl⟩
  obtain ⟨x, hx⟩ : ∃ x, a.er.c = x := ⟨_, rfl⟩
  obtain ⟨y, hy⟩ : ∃ x, b.er.c = x := ⟨_, rfl⟩
  have ht : apart a b = if x.id = y.id ∧ (x ≠ y ∨ (decide (ta = tb) && fp) = false) then some (x.id, 0) else none := by unfold apart sameV; simp only [QE.id, QE.t, hx, hy, hta, htb, hfp]
  rw [hx] at a0 a1 a2 a3 a4 a5 a6
  rw [hy] at b0 b1 b2 b3 b4 b5 b6
  rw [hta] at a7
  rw [htb] at b7
  rw [hfp] at HS
  rw [ht] at ho
  have HO := Hold.mk ho
  clear hg hg2 hB ht ho hta htb hfp hx hy ha hb
  by_cases e1 : x.id = y.id
  · have k1 : (x.id == y.id) = true := by simpa using e1
    have HPut : Hold (∀ W', Below W.heap.size W W' → put o (some (x.id, 0)) = o' → Calls Try.prog 148 #[.pointer (some ⟨g, 0, none⟩), .int .i64 x.id, .int .i64 0] W' fun r w' => r = .returned (.tuple #[]) ∧ Hold (w'.heap[g]? = some (.cells (fcells o') 175 (0, 0)) ∧ Fr (fun k => k = g) W' w')) := ⟨fun W' hW' h => put_calls o o' x.id 0 g W' ((hW'.block g (Array.getElem?_eq_some_iff.1 HG.out).1).trans HG.out) h⟩
    have HRefl : Hold (Below W.heap.size W W) := ⟨Below.refl _ _⟩
    by_cases e2 : x = y
    · subst e2
      clear e1 k1
      by_cases e3 : ta = tb
      · have k3 : (ta != tb) = false := by simpa using e3
        cases fp
        · have HOe : Hold (put o (some (x.id, 0)) = o') := ⟨by rw [← HO.out, if_pos (by simp)]⟩
          clear e3
          go_enter Try.func127, Try.ntmps127
          go_wp2_with (first
            | (go_at_call 35; with_reducible refine HS.out.mono ?_; rintro r w1 ⟨rfl, HB1⟩; have q0 := (below_cell HB1.out (p := ⟨h1, 0, none⟩) (World.block_lt_of_cell? W _ a0)).trans a0)
            | (go_at_call 148; refine (HPut.out _ HB1.out HOe.out).mono ?_; rintro r w4 ⟨rfl, H4⟩))
          exact Great.bodyPost_end0 rfl rfl ⟨rfl, ⟨H4.out.1, ((Fr.of_below _ HBl.out).trans (Fr.of_below (fun k => k = g) HB1.out) (fun _ _ h => h)).trans H4.out.2 (fun _ _ h => h)⟩⟩
        · have HOe : Hold (o = o') := ⟨by rw [← HO.out, if_neg (by simp [e3])]; rfl⟩
          clear e3
          go_enter Try.func127, Try.ntmps127
          go_wp2_with (go_at_call 35; with_reducible refine HS.out.mono ?_; rintro r w1 ⟨rfl, HB1⟩)
          exact Great.bodyPost_end0 rfl rfl ⟨rfl, ⟨by rw [← HOe.out]; exact (HB1.out.block g (Array.getElem?_eq_some_iff.1 HG.out).1).trans HG.out, (Fr.of_below _ HBl.out).trans (Fr.of_below (fun k => k = g) HB1.out) (fun _ _ h => h)⟩⟩
      · have k3 : (ta != tb) = true := by simpa using e3
        have HOe : Hold (put o (some (x.id, 0)) = o') := ⟨by rw [← HO.out, if_pos (by simp [e3])]⟩
        clear e3
        go_enter Try.func127, Try.ntmps127
        go_wp2_with (go_at_call 148; refine (HPut.out _ HRefl.out HOe.out).mono ?_; rintro r w4 ⟨rfl, H4⟩)
        exact Great.bodyPost_end0 rfl rfl ⟨rfl, ⟨H4.out.1, (Fr.of_below _ HBl.out).trans H4.out.2 (fun _ _ h => h)⟩⟩
    · have HOe : Hold (put o (some (x.id, 0)) = o') := ⟨by rw [← HO.out, if_pos ⟨e1, .inl e2⟩]⟩
      have hf := CmdD.first e2
      clear e1 e2
      rcases hf with q | ⟨_, q⟩ | ⟨_, k2, q⟩ | ⟨_, k2, k3, q⟩ | ⟨_, k2, k3, k4, q⟩ | ⟨_, k2, k3, k4, k5, q⟩ | ⟨_, k2, k3, k4, k5, k6, q⟩
      · rw [k1] at q; cases q
      all_goals
        go_enter Try.func127, Try.ntmps127
        go_wp2_with (go_at_call 148; refine (HPut.out _ HRefl.out HOe.out).mono ?_; rintro r w4 ⟨rfl, H4⟩)
        exact Great.bodyPost_end0 rfl rfl ⟨rfl, ⟨H4.out.1, (Fr.of_below _ HBl.out).trans H4.out.2 (fun _ _ h => h)⟩⟩
  · have k1 : (x.id == y.id) = false := by simpa using e1
    have HOe : Hold (o = o') := ⟨by rw [← HO.out, if_neg (by simp [e1])]; rfl⟩
    clear e1
    go_enter Try.func127, Try.ntmps127
    go_wp2
    exact Great.bodyPost_end0 rfl rfl ⟨rfl, ⟨by rw [← HOe.out]; exact HG.out, Fr.of_below _ HBl.out⟩⟩
end Go.Proofs.Ytebhclgnpnlekaa.Chk
