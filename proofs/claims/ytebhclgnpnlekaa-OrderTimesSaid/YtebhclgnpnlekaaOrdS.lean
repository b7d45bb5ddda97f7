/- package order's ready and next, by their walks. No condition. -/
import Derived.Test.YtebhclgnpnlekaaOrdR
namespace Go.Proofs.Ytebhclgnpnlekaa.Ord
open Go.RowKit Go.Proofs.Ytebhclgnpnlekaa.B Go.Proofs.Ytebhclgnpnlekaa.Cmd Go.Proofs.Ytebhclgnpnlekaa.Agg Go.Proofs.Ytebhclgnpnlekaa.Ent
section
variable {w0 : World} {B mb db : Nat} {v : Value} {X l : List QE} {had : List Int}
set_option maxHeartbeats 4000000 in
set_option maxRecDepth 100000 in
theorem ready_calls (e : QE) (w : World) (hQ : QU w0 w B mb db v X l had) (I : Nat → Prop) (hF : QF I w e) (b : Bool) (hb : rdy l had e = b) :
    Calls Try.prog 147 #[.pointer (some ⟨B, 0, none⟩), .agg e.er.cells] w fun r w' => r = .returned (.bool b) ∧ Below w.heap.size w w' := by
  obtain ⟨g, hg⟩ : ∃ g, w.heap.size = g := ⟨_, rfl⟩
  obtain ⟨W, hW⟩ : ∃ W, (w.alloc (.cells #[.pointer (some ⟨B, 0, none⟩)] 156)).alloc (.cells e.er.cells 70) = W := ⟨_, rfl⟩
  have hB : Bs w W [(g, 156, #[.pointer (some ⟨B, 0, none⟩)]), (g + 1, 70, e.er.cells)] := by
    have h1 := ((Bs.nil w).alloc #[.pointer (some ⟨B, 0, none⟩)] 156).alloc e.er.cells 70
    rw [hW] at h1
    simpa [hg] using h1
  have HQ := Hold.mk hQ
  obtain ⟨m, hm⟩ : ∃ m, ((had.count e.er.c.id : Nat) : Int) = m := ⟨_, rfl⟩
  have hz : decide ((0 : Int) < m) = had.contains e.er.c.id := by rw [← hm]; exact count_pos had _
  have hbel := hB.below
  have fl : ∀ n, (Instr.lookup 161 (.map (some db)) (.int .i64 e.er.c.id) false).run Try.prog (W.drewN n) = .ok (.int .i64 m) (W.drewN n) := fun n => by
    have := (hQ.below (hbel.trans ((below_drewN _ n).mono hbel.size))).count e.er.c.id hF.c.1
    rwa [hm] at this
  have hc := hB.cell 1 rfl
  have ka := e.er.all
  have f0 := (hc 0).trans ka.1
  have f16 := (hc 16).trans ka.2.2.2.2.2.2.2.2.2.2.2.2.2.2.2.2.1
  have f18 := (hc 18).trans ka.2.2.2.2.2.2.2.2.2.2.2.2.2.2.2.2.2.2
  have fq : W.cell? ⟨g, 0, none⟩ = some (.pointer (some ⟨B, 0, none⟩)) := hB.cell 0 rfl 0
  have fd := (HQ.out.below hbel).cells.2.2
  rw [hF.len] at f18
  have HBel := Hold.mk hbel
  obtain ⟨PA, hPA⟩ : ∃ PA, e.er.v.A = PA := ⟨_, rfl⟩
  obtain ⟨pc, hpc⟩ : ∃ pc, e.er.v.c = pc := ⟨_, rfl⟩
  rw [hPA, hpc] at f18
  obtain ⟨D, hD⟩ : ∃ D, e.er.dn = D := ⟨_, rfl⟩
  obtain ⟨id, hid⟩ : ∃ id, e.er.c.id = id := ⟨_, rfl⟩
  rw [hid] at f0 fl
  have hb' : (D && !(decide ((0 : Int) < m)) && !(e.ps.any (bad l had e))) = b := by rw [← hb, ← hD, hz]; rfl
  have HCn : Hold (∀ n d, e.ps.any (bad l had e) = d → Calls Try.prog 134 #[.slice PA e.ps.length pc, .func (.func 163) #[] #[.pointer (some ⟨g, 0, none⟩), .pointer (some ⟨g + 1, 0, none⟩)]] (W.drewN n) fun r w' => r = .returned (.bool d) ∧ Hold (Below (W.drewN n).heap.size (W.drewN n) w')) := ⟨fun n d hd =>
    contains_bad PA pc e e.ps g (g + 1) I (W.drewN n) (hQ.below (hbel.trans ((below_drewN _ n).mono hbel.size))) ((hB.drewN n).at_ 0 _ _ _ rfl).1 ((hB.drewN n).at_ 1 _ _ _ rfl).1 (hPA ▸ hF.row.below (hbel.trans ((below_drewN _ n).mono hbel.size))) d hd⟩
  rw [hD] at f16
  have HW := Hold.mk hW
  clear hb hz hF hQ hB hc ka hD hid hbel hm hPA hpc
  cases D
  · have hb1 : b = false := by rw [← hb']; rfl
    subst hb1
    clear hb'
    go_enter Try.func147, Try.ntmps147
    go_upto_region 1 with (fail)
    go_quiet (fail)
    go_wp2
    go_ret
    exact ⟨rfl, HBel.out.trans ((below_drewN _ _).mono HBel.out.size)⟩
  · by_cases h0 : 0 < m
    · have hd0 := decide_eq_true h0
      have hb1 : b = false := by rw [← hb', hd0]; rfl
      subst hb1
      clear hb'
      go_enter Try.func147, Try.ntmps147
      go_upto_region 1 with (fail)
      go_quiet (fail)
      go_wp2
      go_ret
      exact ⟨rfl, HBel.out.trans ((below_drewN _ _).mono HBel.out.size)⟩
    · have hd0 := decide_eq_false h0
      obtain ⟨d, hd⟩ : ∃ d, e.ps.any (bad l had e) = d := ⟨_, rfl⟩
      rw [hd0, hd] at hb'
      have HB := Hold.mk hb'
      have HD := Hold.mk hd
      clear hb' hd
      go_enter Try.func147, Try.ntmps147
      go_upto_region 1 with (fail)
      go_quiet (fail)
      go_wp2_with (go_at_call 134; refine (HCn.out _ d HD.out).mono ?_; rintro r w1 ⟨rfl, HB1⟩)
      go_ret
      exact ⟨by rw [← HB.out]; simp, HBel.out.trans (((below_drewN _ _).trans HB1.out).mono HBel.out.size)⟩
/-- What stands in the variable of the best one. -/
def bestOf (o : Option QE) : ER := match o with
  | some q => q.er
  | none => noER
theorem up_take (l : List QE) (had : List Int) (X : List QE) (i : Nat) (hi : i < X.length) : upS l had (X.take (i + 1)) = stepB l had (upS l had (X.take i)) X[i] := by
  rw [List.take_succ_eq_append_getElem hi, up_snoc]
set_option maxHeartbeats 8000000 in
set_option maxRecDepth 100000 in
theorem next_calls (w : World) (hQ : QU w0 w B mb db v X l had) :
    Calls Try.prog 121 #[.pointer (some ⟨B, 0, none⟩)] w fun r w' => r = .returned (.tuple #[.agg (bestOf (upS l had X)).cells, .bool (upS l had X).isSome]) ∧ Below w.heap.size w w' := by
  obtain ⟨A, vc, rfl, hcap, hnil⟩ := hQ.own.form
  obtain ⟨g, hg⟩ : ∃ g, w.heap.size = g := ⟨_, rfl⟩
  obtain ⟨W, hW⟩ : ∃ W, (w.alloc (.cells noER.cells 70)).alloc (.cells noER.cells 70) = W := ⟨_, rfl⟩
  have hB := two_new w noER.cells noER.cells 70
  rw [hW, hg] at hB
  have HQ := Hold.mk hQ
  have hrow := hQ.own.own.row
  have hm := hrow.len_le
  have HRow := Hold.mk hrow
  have HR : Hold (∀ W, Below w.heap.size w W → ∀ x b ps, ⟨x, ps⟩ ∈ X → rdy l had ⟨x, ps⟩ = b → Calls Try.prog 147 #[.pointer (some ⟨B, 0, none⟩), .agg x.cells] W fun r w' => r = .returned (.bool b) ∧ Below W.heap.size W w') := ⟨fun W hW x b ps hx hb => by
    obtain ⟨i, hi, hxi⟩ := List.getElem_of_mem hx
    obtain ⟨_, _, _, _, _, _, hF⟩ := row_qe hrow i hi
    rw [hxi] at hF
    exact ready_calls ⟨x, ps⟩ W (hQ.below hW) _ (hF.below hW) b hb⟩
  have fv := (hQ.below hB.below).cells.1
  have HB := Hold.mk hB
  clear hQ hrow hB
  simp only [noER_cells] at hW
  go_enter Try.func121, Try.ntmps121
  go_wp2
  go_loopw [5, 13] (fun ok s wr => ∃ i : Nat, i ≤ X.length ∧ s = .int .i64 (i : Int) ∧ ∃ o, Hold (upS l had (X.take i) = o) ∧ ok = .bool o.isSome ∧ Hold (Bs w wr [(g, 70, noER.cells), (g + 1, 70, (bestOf o).cells)])) (fun _ s _ => X.length - (intOf s).toNat)
  case atStart => exact ⟨0, by omega, rfl, none, ⟨rfl⟩, rfl, HB⟩
  case round =>
    obtain ⟨i, hi, rfl, o, HOi, rfl, HBr⟩ := hrel
    have hB := HBr.out
    by_cases hlt : i < X.length
    · have l1 : (i : Int) < (X.length : Int) := by omega
      obtain ⟨ad, p, rfl, hp, _, hQx', _⟩ := row_qe (HRow.out.below hB.below) i hlt
      obtain ⟨xx, hx⟩ : ∃ x, X[i] = x := ⟨_, rfl⟩
      rw [hx] at hQx'
      have hup := up_take l had X i hlt
      rw [hx, HOi.out] at hup
      have hmem : xx ∈ X := hx ▸ List.getElem_mem hlt
      obtain ⟨x, ps⟩ := xx
      have hQx : ∀ (j : Nat) (u : Value), x.cells[j]? = some u → wr.cell? (p.add j) = some u := hQx'
      have ka := x.all
      replace HR := Hold.mk (fun W hW b hb => HR.out W hW x b ps hmem hb)
      clear hQx' hx hmem HBr
      obtain ⟨b, hb⟩ : ∃ b, rdy l had ⟨x, ps⟩ = b := ⟨_, rfl⟩
      have HRd := Hold.mk hb
      unfold stepB at hup
      rw [hb] at hup
      clear hb
      cases b
      · have HU := Hold.mk hup
        clear hup
        go_wp2_with (first
          | (with_reducible refine gateA 70 ?_; refine wpl_alloc zeroE hB rfl ?_; intro W2 g2 hB; simp only [List.cons_append, List.nil_append] at hB)
          | (with_reducible refine gateS 70 ?_; refine wpl_store (C' := x.cells) isE rfl rfl hB 2 rfl (ER.size _) (ER.size _) (ER.one _) rfl ?_; intro W3 hB; simp only [List.set] at hB; have hc := hB.cell 2 rfl; have hd := hB.cell 1 rfl)
          | (with_reducible refine gateL 70 ?_; refine wpl_load isE rfl hB 2 rfl (ER.size _) rfl ?_)
          | (with_reducible refine gateL 70 ?_; refine wpl_loadO isE rfl (ER.size x) hQx rfl ?_)
          | (go_at_call 147; with_reducible refine (HR.out _ hB.below false HRd.out).mono ?_; rintro r w4 ⟨rfl, hb4⟩; replace hB := hB.step hb4; have hc := hB.cell 2 rfl; have hd := hB.cell 1 rfl))
        exact ⟨⟨i + 1, by omega, by go_num, o, HU, rfl, ⟨hB.sub (fun i => i) (fun i x h => by rcases i with _ | _ | i <;> first | exact h | (simp at h)) (fun i j _ _ h => h)⟩⟩, by simp [intOf]; omega⟩
      · cases o with
        | none =>
          have HU : Hold (upS l had (X.take (i + 1)) = some ⟨x, ps⟩) := ⟨hup⟩
          clear hup
          go_wp2_with (first
            | (with_reducible refine gateA 70 ?_; refine wpl_alloc zeroE hB rfl ?_; intro W2 g2 hB; simp only [List.cons_append, List.nil_append] at hB)
            | (with_reducible refine gateS 70 ?_; refine wpl_store (C' := x.cells) isE rfl rfl hB 2 rfl (ER.size _) (ER.size _) (ER.one _) rfl ?_; intro W3 hB; simp only [List.set] at hB; have hc := hB.cell 2 rfl; have hd := hB.cell 1 rfl)
            | (with_reducible refine gateS 70 ?_; refine wpl_store (C' := x.cells) isE rfl rfl hB 1 rfl (ER.size _) (ER.size _) (ER.one _) rfl ?_; intro W5 hB; simp only [List.set] at hB)
            | (with_reducible refine gateL 70 ?_; refine wpl_load isE rfl hB 2 rfl (ER.size _) rfl ?_)
            | (with_reducible refine gateL 70 ?_; refine wpl_loadO isE rfl (ER.size x) hQx rfl ?_)
            | (go_at_call 147; with_reducible refine (HR.out _ hB.below true HRd.out).mono ?_; rintro r w4 ⟨rfl, hb4⟩; replace hB := hB.step hb4; have hc := hB.cell 2 rfl; have hd := hB.cell 1 rfl))
          exact ⟨⟨i + 1, by omega, by go_num, some ⟨x, ps⟩, HU, rfl, ⟨hB.sub (fun i => i) (fun i x h => by rcases i with _ | _ | i <;> first | exact h | (simp at h)) (fun i j _ _ h => h)⟩⟩, by simp [intOf]; omega⟩
        | some q =>
          replace hB : Bs w wr [(g, 70, noER.cells), (g + 1, 70, q.er.cells)] := hB
          have kq := q.er.all
          by_cases hle : x.v.t < q.er.v.t
          · have HU : Hold (upS l had (X.take (i + 1)) = some ⟨x, ps⟩) := ⟨by rw [hup]; simp [less, QE.t, hle]⟩
            have hd0 := decide_eq_true hle
            clear hup
            go_wp2_with (first
              | (with_reducible refine gateA 70 ?_; refine wpl_alloc zeroE hB rfl ?_; intro W2 g2 hB; simp only [List.cons_append, List.nil_append] at hB)
              | (with_reducible refine gateS 70 ?_; refine wpl_store (C' := x.cells) isE rfl rfl hB 2 rfl (ER.size _) (ER.size _) (ER.one _) rfl ?_; intro W3 hB; simp only [List.set] at hB; have hc := hB.cell 2 rfl; have hd := hB.cell 1 rfl)
              | (with_reducible refine gateS 70 ?_; refine wpl_store (C' := x.cells) isE rfl rfl hB 1 rfl (ER.size _) (ER.size _) (ER.one _) rfl ?_; intro W5 hB; simp only [List.set] at hB)
              | (with_reducible refine gateL 70 ?_; refine wpl_load isE rfl hB 2 rfl (ER.size _) rfl ?_)
              | (with_reducible refine gateL 70 ?_; refine wpl_loadO isE rfl (ER.size x) hQx rfl ?_)
              | (go_at_call 147; with_reducible refine (HR.out _ hB.below true HRd.out).mono ?_; rintro r w4 ⟨rfl, hb4⟩; replace hB := hB.step hb4; have hc := hB.cell 2 rfl; have hd := hB.cell 1 rfl))
            exact ⟨⟨i + 1, by omega, by go_num, some ⟨x, ps⟩, HU, rfl, ⟨hB.sub (fun i => i) (fun i x h => by rcases i with _ | _ | i <;> first | exact h | (simp at h)) (fun i j _ _ h => h)⟩⟩, by simp [intOf]; omega⟩
          · have HU : Hold (upS l had (X.take (i + 1)) = some q) := ⟨by rw [hup]; simp [less, QE.t, hle]⟩
            have hd0 := decide_eq_false hle
            clear hup
            go_wp2_with (first
              | (with_reducible refine gateA 70 ?_; refine wpl_alloc zeroE hB rfl ?_; intro W2 g2 hB; simp only [List.cons_append, List.nil_append] at hB)
              | (with_reducible refine gateS 70 ?_; refine wpl_store (C' := x.cells) isE rfl rfl hB 2 rfl (ER.size _) (ER.size _) (ER.one _) rfl ?_; intro W3 hB; simp only [List.set] at hB; have hc := hB.cell 2 rfl; have hd := hB.cell 1 rfl)
              | (with_reducible refine gateL 70 ?_; refine wpl_load isE rfl hB 2 rfl (ER.size _) rfl ?_)
              | (with_reducible refine gateL 70 ?_; refine wpl_loadO isE rfl (ER.size x) hQx rfl ?_)
              | (go_at_call 147; with_reducible refine (HR.out _ hB.below true HRd.out).mono ?_; rintro r w4 ⟨rfl, hb4⟩; replace hB := hB.step hb4; have hc := hB.cell 2 rfl; have hd := hB.cell 1 rfl))
            exact ⟨⟨i + 1, by omega, by go_num, some q, HU, rfl, ⟨hB.sub (fun i => i) (fun i x h => by rcases i with _ | _ | i <;> first | exact h | (simp at h)) (fun i j _ _ h => h)⟩⟩, by simp [intOf]; omega⟩
    · obtain rfl : i = X.length := by omega
      have HO := HOi.out
      rw [List.take_length] at HO
      subst HO
      go_wp2_with (first
        | (with_reducible refine gateL 70 ?_; refine wpl_load isE rfl hB 1 rfl (ER.size _) rfl ?_)
        | (with_reducible refine gateS 70 ?_; refine wpl_store (C' := (bestOf (upS l had X)).cells) isE rfl rfl hB 0 rfl (ER.size _) (ER.size _) (ER.one _) rfl ?_; intro W3 hB; simp only [List.set] at hB))
      exact bodyPost_ret (res_two rfl rfl rfl isE hB 0 rfl (ER.size _)) rfl ⟨rfl, hB.below⟩
end
end Go.Proofs.Ytebhclgnpnlekaa.Ord
