/- Law 21's Of, by its walk. No condition. -/
import Derived.Test.YtebhclgnpnlekaaChkF
import Derived.Test.YtebhclgnpnlekaaChkR
namespace Go.Proofs.Ytebhclgnpnlekaa.Chk
open Go.RowKit Go.Proofs.Ytebhclgnpnlekaa.B Go.Proofs.Ytebhclgnpnlekaa.Cmd Go.Proofs.Ytebhclgnpnlekaa.Agg Go.Proofs.Ytebhclgnpnlekaa.Ent Go.Proofs.Ytebhclgnpnlekaa.Ord
/-- A call, inside a region, whatever it returns. -/
theorem wp_callx {P : Program} {o : Oper} {a : Act} {w : World} {K : Act → World → Prop} {Q : Exit → Act → World → Prop} {R : Value → World → Prop} {f : FuncId} {args : Array Value} (hr : (execOp a.eval o).run P w = .ok (.enter f args) w) (hc : Calls P f args w fun e w' => ∃ v, e = .returned v ∧ R v w') (h : ∀ v w', R v w' → K (a.put o.dst v) w') : Oper.wp P o a w K Q := by
  unfold Oper.wp
  rw [hr]
  refine hc.mono ?_
  rintro r w' ⟨v, rfl, hb⟩
  exact h v w' hb
theorem built_v (A B : Option Addr) (n c m d : Nat) : Try.prog.builtSlice 184 1 [(0, .agg #[.slice A n c, .slice B m d])] = some #[.slice A n c, .slice B m d] := by kernel_rfl
theorem info_v : (Try.prog.info? 184).map (fun i => (i.zero, i.size, i.bytes)) = some (some (.agg #[.slice none 0 0, .slice none 0 0]), 2, 48) := by kernel_rfl
/-- The same cells, with what is known of the entries anew. -/
theorem row_swap {I J : Nat → Prop} {w : World} {A : Option Addr} {xs : List QE} (h : Rep.Row qeRep I w A xs) (hA : 0 < xs.length → ∀ ad, A = some ad → J ad.block) (hq : ∀ x ∈ xs, QF J w x) : Rep.Row qeRep J w A xs :=
  ⟨h.1, fun h0 => by
    obtain ⟨ad, e, _, hlt, hc⟩ := h.2 h0
    exact ⟨ad, e, hA h0 ad e, hlt, fun i x hx => by
      obtain ⟨cs, ⟨rfl, _⟩, hcs⟩ := hc i x hx
      exact ⟨_, ⟨rfl, hq x (List.mem_of_getElem? hx)⟩, hcs⟩⟩⟩
theorem row_all {I : Nat → Prop} {w : World} {A : Option Addr} {xs : List QE} (h : Rep.Row qeRep I w A xs) : ∀ x ∈ xs, QF I w x := by
  intro x hx
  obtain ⟨i, hi, rfl⟩ := List.getElem_of_mem hx
  obtain ⟨_, _, _, _, _, _, hF⟩ := row_qe h i hi
  exact hF
set_option maxHeartbeats 8000000 in
set_option maxRecDepth 100000 in
/-- Views, as the document has them. -/
theorem of21_calls (A : Option Addr) (c : Nat) (l : List ViewD) (w : World) (h0 : Rep.Row viewRep (fun _ => True) w A l) (hl : l.length ≤ 1000) (hb : ∀ v ∈ l, v.1.length ≤ 1000) :
    Calls Try.prog 75 #[.slice A l.length c] w fun r w' => ∃ v, r = .returned v ∧ Hold (RO viewRep 184 (fun _ => True) w w' v l) := by
  have h : Rep.Row viewRep (fun k => k < w.heap.size) w A l := h0.move fun k _ hlt => ⟨hlt, rfl⟩
  have hm := h.len_le
  have H := Hold.mk h
  have HL := Hold.mk hl
  have HBd := Hold.mk hb
  clear h h0 hl hb
  go_enter Try.func75, Try.ntmps75
  go_wp2
  go_loopw [3, 4] (fun v s wr => ∃ i : Nat, i ≤ l.length ∧ s = .int .i64 (i : Int) ∧ Hold (RO viewRep 184 (fun _ => True) w wr v (l.take i))) (fun _ s _ => l.length - (intOf s).toNat)
  case atStart => exact ⟨0, by omega, rfl, ⟨RO.nil⟩⟩
  case round =>
    obtain ⟨i, hi, rfl, HO⟩ := hrel
    by_cases hlt : i < l.length
    · have l1 : (i : Int) < (l.length : Int) := by omega
      have hT : l.take (i + 1) = l.take i ++ [l[i]] := List.take_succ_eq_append_getElem hlt
      have hbd := HBd.out l[i] (List.getElem_mem hlt)
      obtain ⟨ad, pt, A1, c1, B1, d1, rfl, hp, hpl, k0, k1, _, _, hd1, hn1, hr, hr'⟩ := row_view (H.out.below HO.out.bel) i hlt
      have hpw : pt.block < w.heap.size := by
        obtain ⟨ad', _, e, hIb, _, _, _⟩ := H.out.at i hlt
        cases e
        rw [← hp, Rep.add_block]
        exact hIb
      obtain ⟨v, hv⟩ : ∃ v, l[i] = v := ⟨_, rfl⟩
      rw [hv] at k0 k1 hd1 hr hr' hbd hT
      obtain ⟨L, had⟩ := v
      have add1 : pt.add 1 = ⟨pt.block, pt.off + 1, none⟩ := by unfold Addr.add; rw [if_neg (by omega)]
      rw [add1] at k1
      have HPt : Hold (pt.block < wr.drew.heap.size) := ⟨hpl⟩
      have HOwn : Hold (Rep.Own viewRep 184 w.heap.size (fun _ => True) wr u3 (l.take i)) := ⟨HO.out.own⟩
      have HSz : Hold (w.heap.size ≤ wr.drew.heap.size) := ⟨HO.out.bel.size⟩
      have HNe : Hold (¬ u3.ownBlock = some pt.block) := ⟨fun e => by have := (HO.out.own.block_lt _ e).1; omega⟩
      have HC : Hold (Calls Try.prog 63 #[.slice A1 L.length c1] wr.drew fun r w' => ∃ v, r = .returned v ∧ Hold (QO 75 wr.drew w' v L)) := ⟨of09_calls A1 c1 _ L _ wr.drew rfl (Rep.Row.drew hr) (by have : L.length ≤ 1000 := hbd; omega)⟩
      have HK : Hold (∀ W3 : World, ∀ {v2 : Value}, QO 75 wr.drew W3 v2 L → ∀ A2 c2, (∃ A c, v2 = .slice A L.length c ∧ L.length ≤ c ∧ (A = none → c = 0)) → L.length ≤ c2 ∧ (A2 = none → c2 = 0) → v2 = .slice A2 L.length c2 → viewRep.K (fun k => some k ≠ u3.ownBlock) W3 (L, had) [.slice A2 L.length c2, .slice B1 had.length d1]) := ⟨fun W3 v2 hQ A2 c2 _ hc e => by
        subst e
        have hbw : Below wr.heap.size wr W3 := ⟨hQ.bel.os, hQ.bel.tape, hQ.bel.output, hQ.bel.size, hQ.bel.block⟩
        refine ⟨A2, c2, B1, d1, rfl, hc.1, hc.2, hd1, hn1, ?_, (Rep.Row.below hr' hbw).move fun k hk hlt => ⟨fun e => by have := (HO.out.own.block_lt _ e.symm).1; omega, rfl⟩⟩
        refine row_swap hQ.own.row (fun h0 ad2 e => ?_) (fun x hx => ((row_all hr x hx).below hbw).move fun k hk _ => ⟨fun e => by have := (HO.out.own.block_lt _ e.symm).1; omega, rfl⟩)
        obtain ⟨gq, cq, e2, _⟩ := hQ.own.form_pos h0
        cases e2
        cases e
        intro e3
        have h1 := (hQ.own.block_lt gq rfl).1
        have h2 := (HO.out.own.block_lt _ e3.symm).2
        have h3 : wr.drew.heap.size = wr.heap.size := rfl
        have h4 : gq < wr.heap.size := h2
        omega⟩
      obtain ⟨P, hP⟩ : ∃ P, l.take i = P := ⟨_, rfl⟩
      have hPl : P.length ≤ 1000 := by rw [← hP, List.length_take]; have := HL.out; omega
      rw [hP] at HOwn hT
      have HT := Hold.mk hT
      have HLn : Hold ((P.length + 1) * 48 ≤ 140737488355328) := ⟨by omega⟩
      have hS : wr.drew.cell? pt = some (.slice A1 L.length c1) ∧ wr.drew.cell? ⟨pt.block, pt.off + 1, none⟩ = some (.slice B1 had.length d1) := ⟨k0, k1⟩
      have HBe := Hold.mk HO.out.bel
      have hbl := HO.out.own.block_lt
      have HOb : Hold (∀ k, u3.ownBlock = some k → w.heap.size ≤ k) := ⟨fun k hk => (hbl k hk).1⟩
      clear hT hbd k0 k1 hd1 hn1 hr hr' hpw hv add1 hP hPl hpl HO hbl
      go_upto_region 5 with (fail)
      try simp only [Act.put, List.setIfInBounds_toArray, List.set_cons_zero, List.set_cons_succ]
      refine rg_start (S := fun w' => w'.cell? pt = some (.slice A1 L.length c1) ∧ w'.cell? ⟨pt.block, pt.off + 1, none⟩ = some (.slice B1 had.length d1)) 16 #[false, false, false, false, false, false, false, false, false, false, false, false, false, false, false, false] (by kernel_rfl) (by kernel_rfl) (by kernel_rfl) hS ?_
      refine rg_take 0 11 (.move (.tmp 3)) u3 #[true, false, false, false, false, false, false, false, false, false, false, false, false, false, false, false] (by kernel_rfl) (by rfl) (by kernel_rfl) (by kernel_rfl) (by kernel_rfl) (fun _ _ _ h => h) (.inl ⟨by kernel_rfl, fun _ _ => by kernel_rfl⟩) hS ?_
      simp only [List.setIfInBounds_toArray, List.set_cons_zero, List.set_cons_succ]
      refine rg_take 1 12 (.move (.tmp 0)) (.slice (some ad) l.length c) #[true, true, false, false, false, false, false, false, false, false, false, false, false, false, false, false] (by kernel_rfl) (by rfl) (by kernel_rfl) (by kernel_rfl) (by kernel_rfl) (fun _ _ _ h => h) (.inl ⟨by kernel_rfl, fun _ _ => by kernel_rfl⟩) hS ?_
      simp only [List.setIfInBounds_toArray, List.set_cons_zero, List.set_cons_succ]
      refine rg_take 2 13 (.move (.tmp 4)) (.int .i64 (i : Int)) #[true, true, true, false, false, false, false, false, false, false, false, false, false, false, false, false] (by kernel_rfl) (by rfl) (by kernel_rfl) (by kernel_rfl) (by kernel_rfl) (fun _ _ _ h => h) (.inl ⟨by kernel_rfl, fun _ _ => by kernel_rfl⟩) hS ?_
      simp only [List.setIfInBounds_toArray, List.set_cons_zero, List.set_cons_succ]
      refine rg_take 3 14 (.indexAddr 111 (.tmp 12) (.tmp 13)) (.pointer (some pt)) #[true, true, true, true, false, false, false, false, false, false, false, false, false, false, false, false] (by kernel_rfl) (by rfl) (by kernel_rfl) (by kernel_rfl) (by kernel_rfl) (fun _ _ _ h => h) (.inl ⟨by kernel_rfl, fun _ _ => by go_simp⟩) hS ?_
      simp only [List.setIfInBounds_toArray, List.set_cons_zero, List.set_cons_succ]
      refine rg_take 4 15 (.fieldAddr 114 (.tmp 14) 0) (.pointer (some pt)) #[true, true, true, true, true, false, false, false, false, false, false, false, false, false, false, false] (by kernel_rfl) (by rfl) (by kernel_rfl) (by kernel_rfl) (by kernel_rfl) (fun _ _ _ h => h) (.inl ⟨by kernel_rfl, fun _ _ => by go_simp⟩) hS ?_
      simp only [List.setIfInBounds_toArray, List.set_cons_zero, List.set_cons_succ]
      refine rg_take 5 16 (.load 90 (.tmp 15)) (.slice A1 L.length c1) #[true, true, true, true, true, true, false, false, false, false, false, false, false, false, false, false] (by kernel_rfl) (by rfl) (by kernel_rfl) (by kernel_rfl) (by kernel_rfl) (fun _ _ _ h => h) (.inl ⟨by kernel_rfl, fun w hSw => by have hcell := hSw.1; go_simp⟩) hS ?_
      simp only [List.setIfInBounds_toArray, List.set_cons_zero, List.set_cons_succ]
      refine rg_take 7 18 (.move (.tmp 0)) (.slice (some ad) l.length c) #[true, true, true, true, true, true, false, true, false, false, false, false, false, false, false, false] (by kernel_rfl) (by rfl) (by kernel_rfl) (by kernel_rfl) (by kernel_rfl) (fun _ _ _ h => h) (.inl ⟨by kernel_rfl, fun _ _ => by kernel_rfl⟩) hS ?_
      simp only [List.setIfInBounds_toArray, List.set_cons_zero, List.set_cons_succ]
      refine rg_take 8 19 (.move (.tmp 4)) (.int .i64 (i : Int)) #[true, true, true, true, true, true, false, true, true, false, false, false, false, false, false, false] (by kernel_rfl) (by rfl) (by kernel_rfl) (by kernel_rfl) (by kernel_rfl) (fun _ _ _ h => h) (.inl ⟨by kernel_rfl, fun _ _ => by kernel_rfl⟩) hS ?_
      simp only [List.setIfInBounds_toArray, List.set_cons_zero, List.set_cons_succ]
      refine rg_take 9 20 (.indexAddr 111 (.tmp 18) (.tmp 19)) (.pointer (some pt)) #[true, true, true, true, true, true, false, true, true, true, false, false, false, false, false, false] (by kernel_rfl) (by rfl) (by kernel_rfl) (by kernel_rfl) (by kernel_rfl) (fun _ _ _ h => h) (.inl ⟨by kernel_rfl, fun _ _ => by go_simp⟩) hS ?_
      simp only [List.setIfInBounds_toArray, List.set_cons_zero, List.set_cons_succ]
      refine rg_take 10 21 (.fieldAddr 114 (.tmp 20) 1) (.pointer (some ⟨pt.block, pt.off + 1, none⟩)) #[true, true, true, true, true, true, false, true, true, true, true, false, false, false, false, false] (by kernel_rfl) (by rfl) (by kernel_rfl) (by kernel_rfl) (by kernel_rfl) (fun _ _ _ h => h) (.inl ⟨by kernel_rfl, fun _ _ => by go_simp⟩) hS ?_
      simp only [List.setIfInBounds_toArray, List.set_cons_zero, List.set_cons_succ]
      refine rg_take 11 22 (.load 22 (.tmp 21)) (.slice B1 had.length d1) #[true, true, true, true, true, true, false, true, true, true, true, true, false, false, false, false] (by kernel_rfl) (by rfl) (by kernel_rfl) (by kernel_rfl) (by kernel_rfl) (fun _ _ _ h => h) (.inl ⟨by kernel_rfl, fun w hSw => by have hcell := hSw.2; go_simp⟩) hS ?_
      simp only [List.setIfInBounds_toArray, List.set_cons_zero, List.set_cons_succ]
      refine rg_one 6 (some 17) (.call { callee := .value (.func 63), args := #[(.tmp 16)], argTypes := #[90] }) #[true, true, true, true, true, true, true, true, true, true, true, true, false, false, false, false] (by kernel_rfl) (by kernel_rfl) (by rfl) (by kernel_rfl) (fun K hK => ?_)
      refine wp_callx (by go_simp) HC.out (fun v2 W3 hR => ?_)
      obtain ⟨A2, c2, rfl, hc2, hn2⟩ := hR.out.form
      have HR := Hold.mk hR.out
      have hS : (W3).cell? pt = some (.slice A1 L.length c1) ∧ (W3).cell? ⟨pt.block, pt.off + 1, none⟩ = some (.slice B1 had.length d1) := ⟨(below_cell HR.out.bel (p := pt) HPt.out).trans hS.1, (below_cell HR.out.bel (p := ⟨pt.block, pt.off + 1, none⟩) HPt.out).trans hS.2⟩
      have HS3 := Hold.mk hS
      have HN2 : Hold (L.length ≤ c2 ∧ (A2 = none → c2 = 0)) := ⟨hc2, hn2⟩
      clear hc2 hn2 hR
      obtain ⟨g3, hg3⟩ : ∃ g, W3.heap.size = g := ⟨_, rfl⟩
      have HG3 := Hold.mk hg3
      clear hg3
      simp only [Act.put, List.setIfInBounds_toArray, List.set_cons_zero, List.set_cons_succ]
      refine hK.out _ _ hS ?_
      clear hK K
      refine rg_take 12 23 (.build 184 #[(0, (.tmp 17)), (1, (.tmp 22))]) (.agg #[.slice A2 L.length c2, .slice B1 had.length d1]) #[true, true, true, true, true, true, true, true, true, true, true, true, true, false, false, false] (by kernel_rfl) (by rfl) (by kernel_rfl) (by kernel_rfl) (by kernel_rfl) (fun _ _ _ h => h) (.inl ⟨by kernel_rfl, fun _ _ => by go_simp⟩) hS ?_
      simp only [List.setIfInBounds_toArray, List.set_cons_zero, List.set_cons_succ]
      refine rg_one 13 (some 24) (.buildSlice 119 1 #[(0, (.tmp 23))]) #[true, true, true, true, true, true, true, true, true, true, true, true, true, true, false, false] (by kernel_rfl) (by kernel_rfl) (by rfl) (by kernel_rfl) (fun K hK => ?_)
      refine Ord.wp_box1 (C := #[.slice A2 L.length c2, .slice B1 had.length d1]) Try.underlying119 (by kernel_rfl) (built_v A2 B1 L.length c2 had.length d1) g3 HG3.out ?_
      have hal := Below.heap_alloc W3 (.cells #[.slice A2 L.length c2, .slice B1 had.length d1] 184)
      have hpt3 : pt.block < W3.heap.size := Nat.lt_of_lt_of_le HPt.out HR.out.bel.size
      have hS : (W3.alloc (.cells #[.slice A2 L.length c2, .slice B1 had.length d1] 184)).cell? pt = some (.slice A1 L.length c1) ∧ (W3.alloc (.cells #[.slice A2 L.length c2, .slice B1 had.length d1] 184)).cell? ⟨pt.block, pt.off + 1, none⟩ = some (.slice B1 had.length d1) := ⟨(World.cell?_of_block (hal _ hpt3)).trans hS.1, (World.cell?_of_block (w := W3) (a := ⟨pt.block, pt.off + 1, none⟩) (hal _ hpt3)).trans hS.2⟩
      clear hal
      simp only [Act.put, List.setIfInBounds_toArray, List.set_cons_zero, List.set_cons_succ]
      refine hK.out _ _ hS ?_
      clear hK K
      refine rg_one 14 (some 25) (.call { callee := .builtin .append, args := #[(.tmp 11), (.tmp 24)], argTypes := #[119, 119] }) #[true, true, true, true, true, true, true, true, true, true, true, true, true, true, true, false] (by kernel_rfl) (by kernel_rfl) (by rfl) (by kernel_rfl) (fun K hK => ?_)
      refine Ord.wp_push1 viewRep 119 184 (.agg #[.slice none 0 0, .slice none 0 0]) 48 Try.underlying119 info_v rfl (by decide) (by decide) w.heap.size (fun _ => True) (fun k => some k ≠ u3.ownBlock) u3 P ⟨L, had⟩ [.slice A2 L.length c2, .slice B1 had.length d1] g3 HG3.out (by kernel_rfl) (by kernel_rfl) (HOwn.out.drew.below HR.out.bel) (HK.out W3 HR.out A2 c2 HR.out.form HN2.out rfl) (fun k hk _ => ⟨trivial, hk⟩) (Nat.le_trans HSz.out HR.out.bel.size) HLn.out rfl (fun A4 c4 W4 hG => ?_)
      have HG4 := Hold.mk hG
      have hS : (W4).cell? pt = some (.slice A1 L.length c1) ∧ (W4).cell? ⟨pt.block, pt.off + 1, none⟩ = some (.slice B1 had.length d1) := ⟨(World.cell?_of_block (hG.fr.block _ hpt3 HNe.out)).trans HS3.out.1, (World.cell?_of_block (w := W3) (a := ⟨pt.block, pt.off + 1, none⟩) (hG.fr.block _ hpt3 HNe.out)).trans HS3.out.2⟩
      clear hG
      simp only [Act.put, List.setIfInBounds_toArray, List.set_cons_zero, List.set_cons_succ]
      refine hK.out _ _ hS ?_
      clear hK K
      refine rg_take 15 3 (.assign (.tmp 25)) (.slice A4 (P.length + 1) c4) #[true, true, true, true, true, true, true, true, true, true, true, true, true, true, true, true] (by kernel_rfl) (by rfl) (by kernel_rfl) (by kernel_rfl) (by kernel_rfl) (fun _ _ _ h => h) (.inl ⟨by kernel_rfl, fun _ _ => by kernel_rfl⟩) hS ?_
      simp only [List.setIfInBounds_toArray, List.set_cons_zero, List.set_cons_succ]
      refine wpAnyH_done (by kernel_rfl) ?_ _
      have hbR : Below wr.heap.size wr W3 := ⟨HR.out.bel.os, HR.out.bel.tape, HR.out.bel.output, HR.out.bel.size, HR.out.bel.block⟩
      have ho : RO viewRep 184 (fun _ => True) w W4 (.slice A4 (P ++ [((L, had) : ViewD)]).length c4) (P ++ [(L, had)]) := ⟨HG4.out.own, (HBe.out.trans (hbR.mono HBe.out.size)).trans (HG4.out.below HOb.out (Nat.le_trans HSz.out HR.out.bel.size))⟩
      rw [List.length_append, List.length_singleton] at ho
      clear hS
      go_wp2
      refine ⟨⟨i + 1, ?_, ?_, ?_⟩, ?_⟩
      · omega
      · go_num
      · rw [HT.out]; exact ⟨ho⟩
      · simp only [intOf]; omega
    · obtain rfl : i = l.length := by omega
      rw [List.take_length] at HO
      go_wp2
      go_ret
      exact ⟨_, rfl, HO⟩
end Go.Proofs.Ytebhclgnpnlekaa.Chk
